/- Texts joined by a program: Jc,Soa,Sra,Sn,Je,Ca,Cb. -/
import Derived.Sort.Grow
import Derived.Shelf.Sort.Plain
import Derived.Shelf.Slices.In.SortNone
import Derived.Test.YtpadinblmjlggaaGreatDoorProg
import Derived.KernelRfl
import Derived.Test.YtpadinblmjlggaaGreatDoorW12
import Derived.Test.YtpadinblmjlggaaGreatDoorW10
set_option linter.unusedSimpArgs false
set_option linter.unusedVariables false
set_option maxHeartbeats 16000000
set_option maxRecDepth 100000
namespace Go.Proofs.YtpadinblmjlggaaGreatDoor
theorem gate_fn0 (n:Int):CallFn Tryz.prog 270 [aI n] (.fn 300 [] [.rptr [.int .i64 n]]):=by
 refine callFz_of Tryz.func270 rfl Tryz.ntmps270 (rs:=[.tmp 2]) rfl (by kernel_rfl) (by simp) (by kernel_rfl) ?_
 simp
theorem gateV_fn0 (n:Int):CallFn Tryz.prog 271 [aI n] (.fn 301 [] [.rptr [.int .i64 n]]):=by
 refine callFz_of Tryz.func271 rfl Tryz.ntmps271 (rs:=[.tmp 2]) rfl (by kernel_rfl) (by simp) (by kernel_rfl) ?_
 simp
theorem merge_fn0 (b:Bool):CallFn Tryz.prog 272 [aB b] (.fn 302 [] [.rptr [.bool b]]):=by
 refine callFz_of Tryz.func272 rfl Tryz.ntmps272 (rs:=[.tmp 2]) rfl (by kernel_rfl) (by simp) (by kernel_rfl) ?_
 simp
def catR:List (List A):=[
 [.dat (.str [115,117,112,112,108,121]),.dat (.str [90]),.dat (.sl []),.dat (.sl [[.str [49]]]),.dat (.sl []),.dat (.sl []),.dat (.sl []),.dat (.str []),.dat (.str []),aI 1,.fn 266 [] [],.fn 267 [] []],
 [.dat (.str [99,121,108,105,110,100,101,114]),.dat (.str [65]),.dat (.sl []),.dat (.sl []),.dat (.sl []),.dat (.sl []),.dat (.sl [[.str [50]],[.str [52]]]),.dat (.str []),.dat (.str []),aI 1,.fn 266 [] [],.fn 267 [] []],
 [.dat (.str [118,97,108,118,101,53,50]),.dat (.str [86]),.dat (.sl [[.str [49]]]),.dat (.sl [[.str [50]],[.str [52]]]),.dat (.sl [[.str [51]],[.str [53]]]),.dat (.sl [[.str [49,50]],[.str [49,52]]]),.dat (.sl []),.dat (.str [49,52]),.dat (.str [49,50]),aI 2,.fn 268 [] [],.fn 269 [] []],
 [.dat (.str [118,97,108,118,101,53,50,115]),.dat (.str [86]),.dat (.sl [[.str [49]]]),.dat (.sl [[.str [50]],[.str [52]]]),.dat (.sl [[.str [51]],[.str [53]]]),.dat (.sl [[.str [49,52]]]),.dat (.sl []),.dat (.str [49,52]),.dat (.str []),aI 2,.fn 268 [] [],.fn 269 [] []],
 [.dat (.str [118,97,108,118,101,51,50]),.dat (.str [86]),.dat (.sl [[.str [49]]]),.dat (.sl [[.str [50]]]),.dat (.sl [[.str [51]]]),.dat (.sl [[.str [49,50]]]),.dat (.sl []),.dat (.str [49,50]),.dat (.str []),aI 2,.fn 300 [] [.rptr [.int .i64 1]],.fn 301 [] [.rptr [.int .i64 1]]],
 [.dat (.str [118,97,108,118,101,51,50,111]),.dat (.str [86]),.dat (.sl [[.str [49]]]),.dat (.sl [[.str [50]]]),.dat (.sl [[.str [51]]]),.dat (.sl [[.str [49,48]]]),.dat (.sl []),.dat (.str [49,48]),.dat (.str []),aI 2,.fn 300 [] [.rptr [.int .i64 0]],.fn 301 [] [.rptr [.int .i64 0]]],
 [.dat (.str [108,105,109,105,116]),.dat (.str [83]),.dat (.sl [[.str [49]]]),.dat (.sl [[.str [50]]]),.dat (.sl [[.str [51]]]),.dat (.sl []),.dat (.sl []),.dat (.str []),.dat (.str []),aI 2,.fn 300 [] [.rptr [.int .i64 1]],.fn 301 [] [.rptr [.int .i64 1]]],
 [.dat (.str [98,117,116,116,111,110]),.dat (.str [83]),.dat (.sl [[.str [49]]]),.dat (.sl [[.str [50]]]),.dat (.sl [[.str [51]]]),.dat (.sl []),.dat (.sl []),.dat (.str []),.dat (.str []),aI 2,.fn 300 [] [.rptr [.int .i64 1]],.fn 301 [] [.rptr [.int .i64 1]]],
 [.dat (.str [115,104,117,116,116,108,101]),.dat (.str [86]),.dat (.sl [[.str [49]],[.str [49,49]]]),.dat (.sl [[.str [50]]]),.dat (.sl []),.dat (.sl []),.dat (.sl []),.dat (.str []),.dat (.str []),aI 1,.fn 302 [] [.rptr [.bool false]],.fn 267 [] []],
 [.dat (.str [116,119,105,110]),.dat (.str [86]),.dat (.sl [[.str [49]],[.str [49,49]]]),.dat (.sl [[.str [50]]]),.dat (.sl []),.dat (.sl []),.dat (.sl []),.dat (.str []),.dat (.str []),aI 1,.fn 302 [] [.rptr [.bool true]],.fn 267 [] []],
 [.dat (.str [113,117,105,99,107]),.dat (.str [86]),.dat (.sl [[.str [49]]]),.dat (.sl [[.str [50]]]),.dat (.sl [[.str [51]]]),.dat (.sl []),.dat (.sl []),.dat (.str []),.dat (.str []),aI 1,.fn 273 [] [],.fn 267 [] []],
 [.dat (.str [116,104,114,111,116,116,108,101]),.dat (.str [86]),.dat (.sl [[.str [49]]]),.dat (.sl [[.str [50]]]),.dat (.sl []),.dat (.sl []),.dat (.sl []),.dat (.str []),.dat (.str []),aI 1,.fn 273 [] [],.fn 267 [] []],
 [.dat (.str [100,101,108,97,121]),.dat (.str [86]),.dat (.sl [[.str [49]]]),.dat (.sl [[.str [50]]]),.dat (.sl [[.str [51]]]),.dat (.sl [[.str [49,50]]]),.dat (.sl []),.dat (.str [49,50]),.dat (.str []),aI 2,.fn 300 [] [.rptr [.int .i64 1]],.fn 301 [] [.rptr [.int .i64 1]]],
 [.dat (.str [99,111,117,110,116,101,114]),.dat (.str [86]),.dat (.sl [[.str [49]]]),.dat (.sl [[.str [50]]]),.dat (.sl [[.str [51]]]),.dat (.sl [[.str [49,50]]]),.dat (.sl []),.dat (.str [49,50]),.dat (.str []),aI 2,.fn 300 [] [.rptr [.int .i64 1]],.fn 301 [] [.rptr [.int .i64 1]]]]
theorem catalogue_fn:CallFn Tryz.prog 219 [] (.agg catR.flatten):=by
 have g0:=gate_fn0 0
 have g1:=gate_fn0 1
 have v0:=gateV_fn0 0
 have v1:=gateV_fn0 1
 have m0:=merge_fn0 false
 have m1:=merge_fn0 true
 refine callFz_cut 3 Tryz.func219 rfl Tryz.ntmps219 (rs:=[.cell 0 284]) rfl (by kernel_rfl) (by simp) (by kernel_rfl) ?_
 simp
 intro b
 refine V.cutV [(0,.ptr 0 b 0),(1,.dat (.sl [[.str [49]]])),(2,.dat (.sl [[.str [50]]])),(3,.dat (.sl [[.str [51]]])),(4,.dat (.sl [[.str [49]],[.str [49,49]]]))] (Hs:=[(0,.box b _)]) (by simp) (by simp;rfl) ?_
 refine V.seq (V.regF (fun t=>if t=32∨t=47∨t=54∨t=81∨t=89 then some (.fn (.fn 300 [] [.rptr [.int .i64 1]])) else if t=33∨t=48∨t=55∨t=82∨t=90 then some (.fn (.fn 301 [] [.rptr [.int .i64 1]]))
  else if t=40 then some (.fn (.fn 300 [] [.rptr [.int .i64 0]])) else if t=41 then some (.fn (.fn 301 [] [.rptr [.int .i64 0]])) else if t=60 then some (.fn (.fn 302 [] [.rptr [.bool false]])) else if t=65 then some (.fn (.fn 302 [] [.rptr [.bool true]])) else none) [] ?_)
 dsimp only[List.append,List.toList_toArray]
 simp
 exact⟨g1,v1,g0,v0,g1,v1,g1,v1,m0,m1,g1,v1,g1,v1,rfl⟩
theorem cat_nil:hasNil catR.flatten=false:=rfl
theorem cat_len:catR.flatten.length=168:=rfl
theorem cat_cases {Q:Nat->Prop}(h:Q 0∧Q 1∧Q 2∧Q 3∧Q 4∧Q 5∧Q 6∧Q 7∧Q 8∧Q 9∧Q 10∧Q 11∧Q 12∧Q 13):∀k,k<14->Q k:=by
 obtain⟨h0,h1,h2,h3,h4,h5,h6,h7,h8,h9,h10,h11,h12,h13⟩:=h
 intro k hk
 have:k=0∨k=1∨k=2∨k=3∨k=4∨k=5∨k=6∨k=7∨k=8∨k=9∨k=10∨k=11∨k=12∨k=13:=by omega
 rcases this with rfl | rfl | rfl | rfl | rfl | rfl | rfl | rfl | rfl | rfl | rfl | rfl | rfl | rfl<;>assumption
abbrev rowOf (k:Nat):List A:=catR.getD k []
theorem cat_row:∀k,k<14->List.take 12 (List.drop (k*12) catR.flatten)=rowOf k:=cat_cases ⟨rfl,rfl,rfl,rfl,rfl,rfl,rfl,rfl,rfl,rfl,rfl,rfl,rfl,rfl⟩
def cellB:A->Bool
 | .any=>false
 | .undef=>false
 | .record _=>false
 | .agg _=>false
 | .tuple _=>false
 | .cond _ _=>false
 | .nn _=>false
 | .clip _=>false
 | _=>true
theorem row_len:∀k,k<14->(rowOf k).length=12:=cat_cases ⟨rfl,rfl,rfl,rfl,rfl,rfl,rfl,rfl,rfl,rfl,rfl,rfl,rfl,rfl⟩
theorem row_ls:∀k,k<14->toLs (rowOf k)=none:=cat_cases ⟨rfl,rfl,rfl,rfl,rfl,rfl,rfl,rfl,rfl,rfl,rfl,rfl,rfl,rfl⟩
theorem row_nil:∀k,k<14->hasNil (rowOf k)=false:=cat_cases ⟨rfl,rfl,rfl,rfl,rfl,rfl,rfl,rfl,rfl,rfl,rfl,rfl,rfl,rfl⟩
theorem row_cell:∀k,k<14->(rowOf k).all cellB=true:=cat_cases ⟨rfl,rfl,rfl,rfl,rfl,rfl,rfl,rfl,rfl,rfl,rfl,rfl,rfl,rfl⟩
theorem row_frz:∀k,k<14->∀H,(frz H (.agg (rowOf k))).1∧(frz H (.agg (rowOf k))).2=.agg (rowOf k):=by
 refine cat_cases ⟨?_,?_,?_,?_,?_,?_,?_,?_,?_,?_,?_,?_,?_,?_⟩
 all_goals
  intro H
  exact⟨by simp[rowOf,catR],by simp[rowOf,catR]⟩
theorem cat_sum:(List.map List.length catR).sum=168:=rfl
theorem find_fn (k:Nat) (hk:k<14):CallFn Tryz.prog 148 [aI k] (.tuple [.agg (rowOf k),aI 0]):=by
 have hc:=catalogue_fn
 have h1:=cat_row k hk
 have h2:=row_len k hk
 have h3:=row_ls k hk
 have h4:=row_nil k hk
 refine callFz_of Tryz.func148 rfl Tryz.ntmps148 (rs:=[.cell 2 226,.tmp 3]) rfl (by kernel_rfl) (by simp) (by kernel_rfl) ?_
 simp
 intro b2
 refine⟨by omega,fun h=>?_⟩
 refine hc.s ?_
 have h5:=row_cell k hk
 have h6:=row_frz k hk
 simp only[cat_nil]
 generalize hR:rowOf k=R at *
 simp[cat_nil,cat_len,h1,h2,h3,h4,cat_sum]
 refine⟨⟨by omega,by omega⟩,fun x hx=>?_,?_⟩
 ·have hx2:=List.all_eq_true.1 h5 x hx
  cases x<;>exact hx2
 ·have h7:List.take 12 R=R:=List.take_of_length_le (by omega)
  rw[h7,h3]
  exact h6 _
def cellL:A->L
 | .dat l=>l
 | _=>.int .i64 0
section
open Go.Sort
variable {P:Program}
theorem rI_vals {x:X}:∀ {zs:List Int}{vs:List Value},Ds x (zs.map rI).flatten vs->vs=zs.map (Value.int .i64)
 | [],[],_=>rfl
 | z::zs,v::vs,h=>by
  simp only[List.map_cons,List.flatten_cons,List.cons_append,List.nil_append,rI,Ds,D,RdL]at h
  rw[h.1,rI_vals h.2,List.map_cons]
 | [],_::_,h=>by simp[Ds]at h
 | _::_,[],h=>by simp[Ds,rI]at h
theorem rI_Ds {x:X}:∀(zs:List Int),Ds x (zs.map rI).flatten (zs.map (Value.int .i64))
 | []=>by simp[Ds]
 | z::zs=>by
  simp only[List.map_cons,List.flatten_cons,List.cons_append,List.nil_append,rI,Ds,D,RdL]
  exact⟨trivial,rI_Ds zs⟩
theorem rI_len {zs:List Int}:∀r∈zs.map rI,r.length=1:=by
 intro r hr
 obtain⟨z,_,rfl⟩:=List.mem_map.1 hr
 rfl
theorem ints_own {x:X}{h:Value}{e:TypeId}{zs:List Int}(hs:Ent.sat x (.seq h e 1 (zs.map rI))) :
  (h=.slice none 0 0∧zs=[])∨∃g cap cur,h=.slice (some ⟨g,0,none⟩) zs.length cap∧x.w.heap[g]?=some (.cells cur e (0,0))∧zs.length<=cap∧cap<=maxLen∧cur.size=cap∧cur.toList.take zs.length=zs.map (Value.int .i64):=by
 obtain⟨xs,⟨h1,h2⟩,h3,h4⟩:=hs
 have hx:=rI_vals h4
 subst hx
 rcases h2 with⟨rfl,h0⟩|⟨g,cap,cur,rfl,_,h5,h6,h7,h8,h9⟩
 ·exact .inl ⟨rfl,by simpa using h0⟩
 ·refine .inr ⟨g,cap,cur,by simp,h5,by simpa using h6,h7,by simpa using h8,by simpa using h9⟩
theorem ints_holds {x:X}{g:Nat}{cur:Array Value}{e:TypeId}{zs:List Int}(h5:x.w.heap[g]?=some (.cells cur e (0,0))) (h9:cur.toList.take zs.length=zs.map (Value.int .i64)) :
  Holds (Value.int .i64) x.w g 0 zs.toArray:=by
 intro j hj
 have hj':j<zs.length:=by simpa using hj
 have hc:cur[j]?=some (.int .i64 zs[j]):=by
  have:(cur.toList.take zs.length)[j]?=some (.int .i64 zs[j]):=by rw[h9];simp[hj']
  rw[List.getElem?_take]at this
  simpa [hj']using this
 constructor
 ·have hz:zs.toArray[j]! = zs[j]:=by simp[hj']
  rw[hz]
  simp[World.cell?,h5,hc]
 ·simp[World.frozen?,h5]
theorem putRow_block {w:World}{g n:Nat}{cur:Array Value}{e:TypeId}(h5:w.heap[g]?=some (.cells cur e (0,0))) (d:Array Int) (os:Array Obj) :
  (grow (putRow (Value.int .i64) (Sort.ahead w n) g 0 d) os).heap[g]?=some (.cells (putCells (Value.int .i64) 0 d cur) e (0,0))∧∀k,k<w.heap.size->k≠g->(grow (putRow (Value.int .i64) (Sort.ahead w n) g 0 d) os).heap[k]?=w.heap[k]?:=by
 have hlt:=(Array.getElem?_eq_some_iff.1 h5).1
 have hsz:(putRow (Value.int .i64) (Sort.ahead w n) g 0 d).heap.size=w.heap.size:=by simp[putRow,mapBlock,Sort.ahead]
 have hgr:∀k,k<w.heap.size->(grow (putRow (Value.int .i64) (Sort.ahead w n) g 0 d) os).heap[k]?=(putRow (Value.int .i64) (Sort.ahead w n) g 0 d).heap[k]?:=by
  intro k hk
  simp only[grow]
  rw[Array.getElem?_append_left (by rw[hsz];exact hk)]
 constructor
 ·rw[hgr g hlt]
  simp[putRow,mapBlock,Sort.ahead,Array.getElem?_modify,h5,onCells]
 ·intro k hk hne
  rw[hgr k hk]
  simp[putRow,mapBlock,Sort.ahead,Array.getElem?_modify,Ne.symm hne]
theorem putCells_take (d:Array Int) (cur:Array Value) (m:Nat) (hm:m<=d.size) (hd:d.size<=cur.size):(putCells (Value.int .i64) 0 d cur).toList.take m=(d.toList.take m).map (Value.int .i64):=by
 apply List.ext_getElem?
 intro k
 rw[List.getElem?_take,List.getElem?_map,List.getElem?_take]
 split
 ·rename_i hk
  have h1:k<cur.size:=by omega
  have h2:k<d.size:=by omega
  simp[putCells,h1,h2]
 ·simp
theorem seq_putRow {x:X}{H:Heap}{t g cap q:Nat}{e:TypeId}{zs:List Int}(hi:Inv x ((t,.seq (.slice (some ⟨g,0,none⟩) zs.length cap) e 1 (zs.map rI))::H)) (d:List Int) (hd:d.length=zs.length) (m:Nat) (hm:m<=d.length) (os:Array Obj) :
  ∃y:X,y.w=grow (putRow (Value.int .i64) (Sort.ahead x.w q) g 0 d.toArray) os∧x.le y∧Inv y ((t,.seq (.slice (some ⟨g,0,none⟩) m cap) e 1 ((d.take m).map rI))::H):=by
 have hs:=hi.sat _ (List.mem_cons_self)
 rcases ints_own hs with⟨h,_⟩|⟨g',cap',cur,h,h5,h6,h7,h8,h9⟩
 ·cases h
 ·cases h
  obtain⟨b1,b2⟩:=putRow_block (n:=q) h5 d.toArray os
  have hlt:=(Array.getElem?_eq_some_iff.1 h5).1
  have hsz:x.w.heap.size<=(grow (putRow (Value.int .i64) (Sort.ahead x.w q) g 0 d.toArray) os).heap.size:=by simp[grow,putRow,mapBlock,Sort.ahead]
  let y:X:=⟨grow (putRow (Value.int .i64) (Sort.ahead x.w q) g 0 d.toArray) os,x.ok⟩
  have hfin:x.le y∧Inv y ((t,.seq (.slice (some ⟨g,0,none⟩) m cap) e 1 ((d.take m).map rI))::H):=by
   refine hi.ofOwn (y:=y) (g':=t) (h':=.slice (some ⟨g,0,none⟩) m cap) (rows':=(d.take m).map rI) rfl ?_ ?_ ?_ ?_
   ·have hrl:((d.take m).map rI).length=m:=by rw[List.length_map,List.length_take];omega
    have hrv:((d.take m).map (Value.int .i64)).length=m*1:=by rw[List.length_map,List.length_take];omega
    have hpt:=putCells_take d.toArray cur m (by simpa using hm) (by rw[List.size_toArray];omega)
    have hps:(putCells (Value.int .i64) 0 d.toArray cur).size=cap*1:=by simp[putCells,h8]
    refine⟨(d.take m).map (Value.int .i64),⟨by rw[hrl];exact hrv,.inr ⟨g,cap,_,by rw[hrl],Nat.zero_le _,b1,by rw[hrl];omega,h7,hps,?_⟩⟩,rI_len,rI_Ds _⟩
    rw[hrl,Nat.mul_one]
    exact hpt
   ·refine⟨rfl,rfl,rfl,hsz,?_⟩
    intro k hk hne
    exact b2 k hk fun e=>hne (by simp[Value.ownBlock,e])
   ·show x.w.drawn<=(grow (putRow (Value.int .i64) (Sort.ahead x.w q) g 0 d.toArray) os).drawn
    simp[grow,putRow,mapBlock,Sort.ahead]
   ·intro k hk
    simp only[Value.ownBlock,Option.some.injEq]at hk
    subst hk
    exact⟨.inl rfl,Nat.lt_of_lt_of_le hlt hsz⟩
  exact⟨y,rfl,hfin⟩
theorem Ds_one {x:X}{t:Nat}{h:Value}{args:Array Value}(hd:Ds x [.own t h] args.toList):args=#[h]:=by
 rcases args with⟨l⟩
 rcases l with _ | ⟨a,_ | ⟨b,l⟩⟩<;>simp[Ds,D]at hd
 rw[hd.1]
theorem unit_D (y:X):D y (.tuple []) (.tuple #[]):=by simp[D,Ds]
end
section
open Go.Sort
variable {P:Program}{ρ:Go.Shelf.Ren}
theorem rT_vals {x:X}:∀ {zs:List (List UInt8)}{vs:List Value},Ds x (zs.map rT).flatten vs->vs=zs.map (encStr)
 | [],[],_=>rfl
 | z::zs,v::vs,h=>by
  simp only[List.map_cons,List.flatten_cons,List.cons_append,List.nil_append,rT,Ds,D,RdL]at h
  rw[h.1,rT_vals h.2,List.map_cons]
 | [],_::_,h=>by simp[Ds]at h
 | _::_,[],h=>by simp[Ds,rT]at h
theorem rT_Ds {x:X}:∀(zs:List (List UInt8)),Ds x (zs.map rT).flatten (zs.map (encStr))
 | []=>by simp[Ds]
 | z::zs=>by
  simp only[List.map_cons,List.flatten_cons,List.cons_append,List.nil_append,rT,Ds,D,RdL]
  exact⟨trivial,rT_Ds zs⟩
theorem rT_len {zs:List (List UInt8)}:∀r∈zs.map rT,r.length=1:=by
 intro r hr
 obtain⟨z,_,rfl⟩:=List.mem_map.1 hr
 rfl
theorem strs_own {x:X}{h:Value}{e:TypeId}{zs:List (List UInt8)}(hs:Ent.sat x (.seq h e 1 (zs.map rT))) :
  (h=.slice none 0 0∧zs=[])∨∃g cap cur,h=.slice (some ⟨g,0,none⟩) zs.length cap∧x.w.heap[g]?=some (.cells cur e (0,0))∧zs.length<=cap∧cap<=maxLen∧cur.size=cap∧cur.toList.take zs.length=zs.map (encStr):=by
 obtain⟨xs,⟨h1,h2⟩,h3,h4⟩:=hs
 have hx:=rT_vals h4
 subst hx
 rcases h2 with⟨rfl,h0⟩|⟨g,cap,cur,rfl,_,h5,h6,h7,h8,h9⟩
 ·exact .inl ⟨rfl,by simpa using h0⟩
 ·refine .inr ⟨g,cap,cur,by simp,h5,by simpa using h6,h7,by simpa using h8,by simpa using h9⟩
theorem strs_holds {x:X}{g:Nat}{cur:Array Value}{e:TypeId}{zs:List (List UInt8)}(h5:x.w.heap[g]?=some (.cells cur e (0,0))) (h9:cur.toList.take zs.length=zs.map (encStr)) :
  Holds (encStr) x.w g 0 zs.toArray:=by
 intro j hj
 have hj':j<zs.length:=by simpa using hj
 have hc:cur[j]?=some (encStr zs[j]):=by
  have:(cur.toList.take zs.length)[j]?=some (encStr zs[j]):=by rw[h9];simp[hj']
  rw[List.getElem?_take]at this
  simpa [hj']using this
 constructor
 ·have hz:zs.toArray[j]! = zs[j]:=by simp[hj']
  rw[hz]
  simp[World.cell?,h5,hc]
 ·simp[World.frozen?,h5]
theorem putRowT_block {w:World}{g n:Nat}{cur:Array Value}{e:TypeId}(h5:w.heap[g]?=some (.cells cur e (0,0))) (d:Array (List UInt8)) (os:Array Obj) :
  (grow (putRow (encStr) (Sort.ahead w n) g 0 d) os).heap[g]?=some (.cells (putCells (encStr) 0 d cur) e (0,0))∧∀k,k<w.heap.size->k≠g->(grow (putRow (encStr) (Sort.ahead w n) g 0 d) os).heap[k]?=w.heap[k]?:=by
 have hlt:=(Array.getElem?_eq_some_iff.1 h5).1
 have hsz:(putRow (encStr) (Sort.ahead w n) g 0 d).heap.size=w.heap.size:=by simp[putRow,mapBlock,Sort.ahead]
 have hgr:∀k,k<w.heap.size->(grow (putRow (encStr) (Sort.ahead w n) g 0 d) os).heap[k]?=(putRow (encStr) (Sort.ahead w n) g 0 d).heap[k]?:=by
  intro k hk
  simp only[grow]
  rw[Array.getElem?_append_left (by rw[hsz];exact hk)]
 constructor
 ·rw[hgr g hlt]
  simp[putRow,mapBlock,Sort.ahead,Array.getElem?_modify,h5,onCells]
 ·intro k hk hne
  rw[hgr k hk]
  simp[putRow,mapBlock,Sort.ahead,Array.getElem?_modify,Ne.symm hne]
theorem putCellsT_take (d:Array (List UInt8)) (cur:Array Value) (m:Nat) (hm:m<=d.size) (hd:d.size<=cur.size):(putCells (encStr) 0 d cur).toList.take m=(d.toList.take m).map (encStr):=by
 apply List.ext_getElem?
 intro k
 rw[List.getElem?_take,List.getElem?_map,List.getElem?_take]
 split
 ·rename_i hk
  have h1:k<cur.size:=by omega
  have h2:k<d.size:=by omega
  simp[putCells,h1,h2]
 ·simp
theorem seq_putRowT {x:X}{H:Heap}{t g cap q:Nat}{e:TypeId}{zs:List (List UInt8)}(hi:Inv x ((t,.seq (.slice (some ⟨g,0,none⟩) zs.length cap) e 1 (zs.map rT))::H)) (d:List (List UInt8)) (hd:d.length=zs.length) (m:Nat) (hm:m<=d.length) (os:Array Obj) :
  ∃y:X,y.w=grow (putRow (encStr) (Sort.ahead x.w q) g 0 d.toArray) os∧x.le y∧Inv y ((t,.seq (.slice (some ⟨g,0,none⟩) m cap) e 1 ((d.take m).map rT))::H):=by
 have hs:=hi.sat _ (List.mem_cons_self)
 rcases strs_own hs with⟨h,_⟩|⟨g',cap',cur,h,h5,h6,h7,h8,h9⟩
 ·cases h
 ·cases h
  obtain⟨b1,b2⟩:=putRowT_block (n:=q) h5 d.toArray os
  have hlt:=(Array.getElem?_eq_some_iff.1 h5).1
  have hsz:x.w.heap.size<=(grow (putRow (encStr) (Sort.ahead x.w q) g 0 d.toArray) os).heap.size:=by simp[grow,putRow,mapBlock,Sort.ahead]
  let y:X:=⟨grow (putRow (encStr) (Sort.ahead x.w q) g 0 d.toArray) os,x.ok⟩
  have hfin:x.le y∧Inv y ((t,.seq (.slice (some ⟨g,0,none⟩) m cap) e 1 ((d.take m).map rT))::H):=by
   refine hi.ofOwn (y:=y) (g':=t) (h':=.slice (some ⟨g,0,none⟩) m cap) (rows':=(d.take m).map rT) rfl ?_ ?_ ?_ ?_
   ·have hrl:((d.take m).map rT).length=m:=by rw[List.length_map,List.length_take];omega
    have hrv:((d.take m).map (encStr)).length=m*1:=by rw[List.length_map,List.length_take];omega
    have hpt:=putCellsT_take d.toArray cur m (by simpa using hm) (by rw[List.size_toArray];omega)
    have hps:(putCells (encStr) 0 d.toArray cur).size=cap*1:=by simp[putCells,h8]
    refine⟨(d.take m).map (encStr),⟨by rw[hrl];exact hrv,.inr ⟨g,cap,_,by rw[hrl],Nat.zero_le _,b1,by rw[hrl];omega,h7,hps,?_⟩⟩,rT_len,rT_Ds _⟩
    rw[hrl,Nat.mul_one]
    exact hpt
   ·refine⟨rfl,rfl,rfl,hsz,?_⟩
    intro k hk hne
    exact b2 k hk fun e=>hne (by simp[Value.ownBlock,e])
   ·show x.w.drawn<=(grow (putRow (encStr) (Sort.ahead x.w q) g 0 d.toArray) os).drawn
    simp[grow,putRow,mapBlock,Sort.ahead]
   ·intro k hk
    simp only[Value.ownBlock,Option.some.injEq]at hk
    subst hk
    exact⟨.inl rfl,Nat.lt_of_lt_of_le hlt hsz⟩
  exact⟨y,rfl,hfin⟩
def sortT (zs:List (List UInt8)):List (List UInt8):=zs.mergeSort fun x y=>decide (x<=y)
theorem sortT_len (zs:List (List UInt8)):(sortT zs).length=zs.length:=by simp[sortT]
theorem sortT_s (Ly:Go.Proofs.Lays.n190 P ρ) (hc:Callable P (ρ.f 190)) {e t:Nat}{h:Value}{zs:List (List UInt8)}(hz:zs.length<4611686018427387904) :
  CallS P (ρ.f 190) [.own t h] [(t,.seq h e 1 (zs.map rT))] fun r H'=>r=.tuple []∧H'=[(t,.seq h e 1 ((sortT zs).map rT))]:=by
 refine⟨hc,fun x args H0 hi hd=>?_⟩
 obtain rfl:=Ds_one hd
 have hs:=hi.sat _ (List.mem_cons_self)
 rcases strs_own hs with⟨rfl,rfl⟩|⟨g,cap,cur,rfl,h5,h6,h7,h8,h9⟩
 ·refine (Any.slices_Sort_string_none Ly none 0 x.w).mono ?_
  rintro _ _ ⟨rfl,rfl⟩
  exact⟨x,_,.tuple [],_,rfl,rfl,.refl x,by simpa [sortT]using hi,unit_D x,rfl,rfl⟩
 ·refine (Any.slices_Sort_string Ly g 0 cap zs x.w (strs_holds h5 h9) (Array.getElem?_eq_some_iff.1 h5).1 hz).mono ?_
  rintro _ _ ⟨rfl,n,os,rfl⟩
  obtain⟨y,k1,k2,k3⟩:=seq_putRowT hi (q:=n) (sortT zs) (sortT_len zs) (sortT zs).length (Nat.le_refl _) os
  rw[List.take_length,sortT_len]at k3
  exact⟨y,_,.tuple [],_,rfl,k1,k2,k3,unit_D y,rfl,rfl⟩
end
def sortTRen:Go.Shelf.Ren:=⟨fun | 125=>287 | 128=>317 | 129=>318 | 190=>241 | 258=>286 | 302=>308 | 303=>309 | 304=>310 | 305=>311 | 306=>312 | 307=>313 | 308=>314 | 309=>315 | 310=>316 | 329=>327 | 330=>328 | 333=>326 | 334=>329 | 335=>330 | 336=>331 | 344=>334 | n=>n,fun | 0=>0 | 3=>3 | 4=>4 | 5=>5 | 9=>9 | 31=>41 | 46=>350 | 51=>374 | 53=>356 | 131=>113 | 182=>367 | 183=>368 | 218=>379 | 222=>383 | 228=>385 | 229=>55 | n=>n,fun n=>n⟩
theorem sortTLays:Go.Proofs.Lays.n190 Tryz.prog sortTRen:={ 
 mixed:=by kernel_rfl,
 f125:=by kernel_rfl,
 f128:=by kernel_rfl,
 f129:=by kernel_rfl,
 f190:=by kernel_rfl,
 f258:=by kernel_rfl,
 f302:=by kernel_rfl,
 f303:=by kernel_rfl,
 f304:=by kernel_rfl,
 f305:=by kernel_rfl,
 f306:=by kernel_rfl,
 f307:=by kernel_rfl,
 f308:=by kernel_rfl,
 f309:=by kernel_rfl,
 f310:=by kernel_rfl,
 f329:=by kernel_rfl,
 f330:=by kernel_rfl,
 f333:=by kernel_rfl,
 f334:=by kernel_rfl,
 f335:=by kernel_rfl,
 f336:=by kernel_rfl,
 f344:=by kernel_rfl,
 t0:=Tryz.underlying0,
 a0:=Tryz.isAgg0,
 z0:=Tryz.sizeOf0,
 v0:=Tryz.zeroValue0,
 t3:=Tryz.underlying3,
 a3:=Tryz.isAgg3,
 z3:=Tryz.sizeOf3,
 v3:=Tryz.zeroValue3,
 t4:=Tryz.underlying4,
 a4:=Tryz.isAgg4,
 z4:=Tryz.sizeOf4,
 v4:=Tryz.zeroValue4,
 t5:=Tryz.underlying5,
 a5:=Tryz.isAgg5,
 z5:=Tryz.sizeOf5,
 v5:=Tryz.zeroValue5,
 t9:=Tryz.underlying9,
 a9:=Tryz.isAgg9,
 z9:=Tryz.sizeOf9,
 v9:=Tryz.zeroValue9,
 t31:=Tryz.underlying41,
 a31:=Tryz.isAgg41,
 z31:=Tryz.sizeOf41,
 v31:=Tryz.zeroValue41,
 t46:=Tryz.underlying350,
 a46:=Tryz.isAgg350,
 z46:=Tryz.sizeOf350,
 v46:=Tryz.zeroValue350,
 t51:=Tryz.underlying374,
 a51:=Tryz.isAgg374,
 z51:=Tryz.sizeOf374,
 v51:=Tryz.zeroValue374,
 t53:=Tryz.underlying356,
 a53:=Tryz.isAgg356,
 z53:=Tryz.sizeOf356,
 v53:=Tryz.zeroValue356,
 t131:=Tryz.underlying113,
 a131:=Tryz.isAgg113,
 z131:=Tryz.sizeOf113,
 v131:=Tryz.zeroValue113,
 t182:=Tryz.underlying367,
 a182:=Tryz.isAgg367,
 z182:=Tryz.sizeOf367,
 v182:=Tryz.zeroValue367,
 t183:=Tryz.underlying368,
 a183:=Tryz.isAgg368,
 z183:=Tryz.sizeOf368,
 v183:=Tryz.zeroValue368,
 t218:=Tryz.underlying379,
 a218:=Tryz.isAgg379,
 z218:=Tryz.sizeOf379,
 v218:=Tryz.zeroValue379,
 t222:=Tryz.underlying383,
 a222:=Tryz.isAgg383,
 z222:=Tryz.sizeOf383,
 v222:=Tryz.zeroValue383,
 t228:=Tryz.underlying385,
 a228:=Tryz.isAgg385,
 z228:=Tryz.sizeOf385,
 v228:=Tryz.zeroValue385,
 t229:=Tryz.underlying55,
 a229:=Tryz.isAgg55,
 z229:=Tryz.sizeOf55,
 v229:=Tryz.zeroValue55 }
theorem growT_o (n:Int) (h0:0<=n) (h1:n<=4294967296):CallOwn Tryz.prog 285 [.nils,aI n] 9 1 []:=by
 refine callO_of Tryz.func285 rfl Tryz.ntmps285 (rs:=[.tmp 4]) rfl (by kernel_rfl) (by simp) (by kernel_rfl) ?_
 by_cases hn:0<n
 ·simp[hn,Int.not_lt.2 h0]
  omega
 ·have e:n=0:=by omega
  subst e
  simp
def sumT (xss:List (List (List UInt8))):Nat:=(xss.map List.length).sum
theorem concatT_o (xss:List (List (List UInt8))) (h:sumT xss<=4294967296) (h1:xss.length<=4294967296):CallOwn Tryz.prog 240 [.dat (.sl (xss.map fun xs=>[.sl (xs.map encT)]))] 9 1 (xss.flatten.map rT):=by
 refine callO_of Tryz.func240 rfl Tryz.ntmps240 (rs:=[.tmp 2]) rfl (by kernel_rfl) (by simp) (by kernel_rfl) ?_
 have hle:∀i,(xss.take i).flatten.length<=sumT xss:=by
  intro i
  have e:xss=xss.take i++xss.drop i:=(List.take_append_drop i xss).symm
  have:sumT xss=sumT (xss.take i)+sumT (xss.drop i):=by
   unfold sumT
   conv=>lhs;rw[e]
   rw[List.map_append,List.sum_append]
  rw[List.length_flatten]
  unfold sumT at this ⊢
  omega
 have hst:∀i y,xss[i]?=some y->(xss.take (i+1)).flatten=(xss.take i).flatten++y:=by
  intro i y hy
  rw[List.take_add_one,hy]
  simp
 obtain⟨L,hL⟩:∃L:Nat->Nat,∀i,L i=(xss.take i).flatten.length:=⟨_,fun _=>rfl⟩
 have hL0:L 0=0:=by simp[hL]
 have hLs:∀i y,xss[i]?=some y->L (i+1)=L i+y.length:=by
  intro i y hy
  rw[hL,hL,hst i y hy,List.length_append]
 have hLm:∀i,L i<=sumT xss:=fun i=>by rw[hL];exact hle i
 simp
 refine V.forI (σ:=Unit) xss.length [0,2,9,10] (by simp;exact rfl) (fun i _=>[(11,aI i),(3,aI (L i))]) (fun _ _=>[]) (fun _ _=>True) () (by simp) (by simp[hL0]) ⟨by simp;exact rfl,by simp⟩ ?_ ?_
 ·rintro i-hi -
  have hy:=List.getElem?_eq_getElem hi
  have hs:=hLs i _ hy
  have hl:=hLm (i+1)
  simp[hi,hs]
  omega
 ·rintro - -
  have hl:=hLm xss.length
  simp
  refine (growT_o _ (by omega) (by omega)).s 50 ?_
  intro hd
  simp
  refine V.forL (γ:=Value) xss [2,25,26] (by simp;exact rfl) (fun i _ g=>[(27,aI i),(6,.own 50 g)]) (fun i _ g=>[(50,.seq g 9 1 ((xss.take i).flatten.map rT))]) (fun (_:Unit) (_:List (List UInt8))=>(Except.ok ():Except Unit Unit)) (fun _ _=>True) () hd trivial (by simp) ⟨by simp;exact rfl,by simp⟩ ?_ ?_
  ·rintro i-g y hi hy - -
   have hy':xss[i]?=some y:=by rw[List.getElem?_eq_getElem hi,hy]
   have hs:=hst i _ hy'
   have hl2:=hle (i+1)
   rw[hs,List.length_append]at hl2
   rw[hs]
   generalize (xss.take i).flatten=zs at hl2
   simp[hi,hy]
   omega
  ·rintro-g - -
   simp
theorem Values_fn (xs:List (List UInt8)):CallFn Tryz.prog 249 [aTs xs] (.fn 290 [] [.rptr [.sl (xs.map encT)]]):=by
 refine callFz_of Tryz.func249 rfl Tryz.ntmps249 (rs:=[.tmp 2]) rfl (by kernel_rfl) (by simp) (by kernel_rfl) ?_
 simp
theorem values_iter {I:Nat->Heap->Prop}{l:Nat}(xs:List (List UInt8)) (hx:xs.length<=1000) (hy:∀i v H,xs[i]?=some v->I i H->CallY Tryz.prog l [aT v] H fun r H'=>r=.dat (.bool true)∧I (i+1) H') (H:Heap) (h0:I 0 H) :
  CallS Tryz.prog 290 [.yld l,.rptr [.sl (xs.map encT)]] H fun _ H'=>I xs.length H':=by
 have h:CallS Tryz.prog 290 [.yld l,.rptr [.sl (xs.map encT)]] (rt 1000 H) fun _ H'=>∃H1,I xs.length H1∧subP (rt 1000 H1) H':=by
  refine callS_of Tryz.func290 rfl Tryz.ntmps290 (rs:=[]) rfl (by kernel_rfl) (by simp) (by kernel_rfl) ?_
  simp
  refine V.for' [0,5,6] (fun p=>[(7,.dat (.int .i64 (p.1:Nat)))]) (fun p=>rt 1000 p.2)
   (fun p:Nat×Heap=>p.1<=xs.length∧I p.1 p.2) (fun p=>xs.length-p.1) (0,H) ⟨by simp[h0],by simp,subP.refl _⟩ ?_
  rintro⟨i,H2⟩ ⟨hi,hinv⟩
  simp only at hi hinv
  by_cases hlt:i<xs.length
  ·obtain⟨y,hy1⟩:∃y,xs[i]'hlt=y:=⟨_,rfl⟩
   have hy0:xs[i]?=some y:=by rw[List.getElem?_eq_getElem hlt,hy1]
   simp[hlt,hy1]
   refine (hy i y H2 hy0 hinv).rt.mono ?_
   rintro r H' ⟨H1,rfl,rfl,hk⟩
   simp
   exact⟨by omega,i+1,H1,⟨hlt,hk⟩,by omega,by simp,subP.refl _⟩
  ·have hie:i=xs.length:=by omega
   subst hie
   simp
   exact⟨H2,hinv,subP.refl _⟩
 exact CallS.rt (k:=1000) (CallS.dropP h fun r H' ⟨H1,h1,h2⟩=>⟨_,h2,_,rfl,h1⟩)
theorem values_apd (xs:List (List UInt8)) (hx:xs≠[]) (hl:xs.length<=1000) {l b2:Nat}{e0:Ent}{K:A->Heap->Prop}
  (h1:∀v,CallY Tryz.prog l [aT v] [(99,e0),(2,.box b2 [.nils])] fun r H'=>r=.dat (.bool true)∧∃g,H'=[(99,e0),(11,.seq g 9 1 [rT v]),(2,.box b2 [.own 11 g])])
  (h2:∀(zs:List (List UInt8)) (g:Value) (v:List UInt8),zs.length<1000->CallY Tryz.prog l [aT v] [(99,e0),(11,.seq g 9 1 (zs.map rT)),(2,.box b2 [.own 11 g])] fun r H'=>r=.dat (.bool true)∧∃g,H'=[(99,e0),(11,.seq g 9 1 ((zs++[v]).map rT)),(2,.box b2 [.own 11 g])])
  (hk:∀r g,K r [(99,e0),(11,.seq g 9 1 (xs.map rT)),(2,.box b2 [.own 11 g])]) :
  CallS Tryz.prog 290 [.yld l,.rptr [.sl (xs.map encT)]] [(99,e0),(2,.box b2 [.nils])] K:=by
 refine (values_iter (I:=fun i H=>(i=0∧H=[(99,e0),(2,.box b2 [.nils])])∨(0<i∧∃g,H=[(99,e0),(11,.seq g 9 1 ((xs.take i).map rT)),(2,.box b2 [.own 11 g])])) xs hl ?_ _ (.inl ⟨rfl,rfl⟩)).mono ?_
 ·rintro i v H hv (⟨rfl,rfl⟩|⟨hi,g,rfl⟩)
  ·have htk:xs.take (0+1)=[v]:=by rw[List.take_add_one,hv];rfl
   rw[htk]
   exact (h1 v).mono fun r H' ⟨a,g,b⟩=>⟨a,.inr ⟨by omega,g,b⟩⟩
  ·have hil:i<xs.length:=(List.getElem?_eq_some_iff.1 hv).1
   have htk:xs.take (i+1)=xs.take i++[v]:=by rw[List.take_add_one,hv];rfl
   have htl:(xs.take i).length=i:=by rw[List.length_take];omega
   rw[htk]
   exact (h2 (xs.take i) g v (by omega)).mono fun r H' ⟨a,g,b⟩=>⟨a,.inr ⟨by omega,g,b⟩⟩
 ·rintro r H' (⟨h0,_⟩|⟨_,g,rfl⟩)
  ·exact absurd (List.length_eq_zero_iff.1 h0) hx
  ·rw[List.take_length]
   exact hk r g
theorem appseq_s (xs:List (List UInt8)) (hx:xs≠[]) (hl:xs.length<=1000):CallOwn Tryz.prog 319 [.nils,.fn 290 [] [.rptr [.sl (xs.map encT)]]] 9 1 (xs.map rT):=by
 refine callO_of Tryz.func319 rfl Tryz.ntmps319 (rs:=[.tmp 4]) rfl (by kernel_rfl) (by simp) (by kernel_rfl) ?_
 simp
 intro b2
 refine V.rangeFunc 99 (p:=True) (first:=[]) (caps:=[.rptr [.sl (xs.map encT)]]) (f:=290) (by simp) trivial fun l=>?_
 refine values_apd xs hx hl (fun v=>callY_of rfl (by kernel_rfl) ?_) (fun zs g v hz=>callY_of rfl (by kernel_rfl) ?_) (fun r g=>.inl ⟨_,rfl,?_⟩)
 ·simp
 ·simp
  omega
 ·simp
theorem collect_o (xs:List (List UInt8)) (hx:xs≠[]) (hl:xs.length<=1000):CallOwn Tryz.prog 289 [.fn 290 [] [.rptr [.sl (xs.map encT)]]] 9 1 (xs.map rT):=by
 refine callO_of Tryz.func289 rfl Tryz.ntmps289 (rs:=[.tmp 2]) rfl (by kernel_rfl) (by simp) (by kernel_rfl) ?_
 simp
 refine (appseq_s xs hx hl).s 50 ?_
 intro hd
 simp
theorem sortT_call:Callable Tryz.prog 241:=⟨_,Tryz.func241,by kernel_rfl,by kernel_rfl⟩
theorem sortT_c {t:Nat}{h:Value}{zs:List (List UInt8)}(hz:zs.length<4611686018427387904):CallS Tryz.prog 241 [.own t h] [(t,.seq h 9 1 (zs.map rT))] fun r H'=>r=.tuple []∧H'=[(t,.seq h 9 1 ((sortT zs).map rT))]:=
 sortT_s sortTLays sortT_call hz
theorem sorted_o (xs:List (List UInt8)) (hx:xs≠[]) (hl:xs.length<=1000):CallOwn Tryz.prog 248 [.fn 290 [] [.rptr [.sl (xs.map encT)]]] 9 1 ((sortT xs).map rT):=by
 refine callO_of Tryz.func248 rfl Tryz.ntmps248 (rs:=[.tmp 2]) rfl (by kernel_rfl) (by simp) (by kernel_rfl) ?_
 simp
 refine (collect_o xs hx hl).s 50 ?_
 intro hd
 simp
 refine (sortT_c (by omega)).mono ?_
 rintro _ _ ⟨rfl,rfl⟩
 simp
def rowLs (k:Nat):List L:=((rowOf k).take 10).map cellL
theorem rowLs_split:∀k,k<14->∃rest,rowOf k=(rowLs k).map A.dat++rest:=cat_cases ⟨⟨_,rfl⟩,⟨_,rfl⟩,⟨_,rfl⟩,⟨_,rfl⟩,⟨_,rfl⟩,⟨_,rfl⟩,⟨_,rfl⟩,⟨_,rfl⟩,⟨_,rfl⟩,⟨_,rfl⟩,⟨_,rfl⟩,⟨_,rfl⟩,⟨_,rfl⟩,⟨_,rfl⟩⟩
theorem rowLs_len:∀k,k<14->(rowLs k).length=10:=cat_cases ⟨rfl,rfl,rfl,rfl,rfl,rfl,rfl,rfl,rfl,rfl,rfl,rfl,rfl,rfl⟩
def cellT:L->List UInt8
 | .str s=>s
 | _=>[]
def cellTs:L->List (List UInt8)
 | .sl r=>r.map fun x=>cellT (x.headD (.int .i64 0))
 | _=>[]
def rowTs (k:Nat):List (List (List UInt8)):=(((rowLs k).drop 2).take 5).map cellTs
theorem rowTs_eq:∀k,k<14->(((rowLs k).drop 2).take 5).map (fun l=>[l])=(rowTs k).map fun xs=>[.sl (xs.map encT)]:=cat_cases ⟨rfl,rfl,rfl,rfl,rfl,rfl,rfl,rfl,rfl,rfl,rfl,rfl,rfl,rfl⟩
theorem rowTs_sum:∀k,k<14->sumT (rowTs k)<=7∧(rowTs k).length=5∧1<=(rowTs k).flatten.length∧(rowTs k).flatten.length<=7:=by
 refine cat_cases ⟨?_,?_,?_,?_,?_,?_,?_,?_,?_,?_,?_,?_,?_,?_⟩
 all_goals decide
def portT (k:Nat):List (List UInt8):=sortT (rowTs k).flatten
theorem Ports_fn (k:Nat) (hk:k<14):CallFn Tryz.prog 179 [aI k] (.tuple [aTs (portT k),aI 0]):=by
 have hf:=find_fn k hk
 have hl:=row_len k hk
 have hcell:=row_cell k hk
 obtain⟨rest,hsp⟩:=rowLs_split k hk
 have hll:=rowLs_len k hk
 have hts:=rowTs_eq k hk
 obtain⟨hs1,hs2,hs3,hs4⟩:=rowTs_sum k hk
 have hcon:=concatT_o (rowTs k) (by omega) (by omega)
 unfold portT
 generalize rowTs k=T at *
 obtain⟨F,hF⟩:∃F,T.flatten=F:=⟨_,rfl⟩
 rw[hF]at hcon hs3 hs4 ⊢
 generalize rowLs k=ls at *
 refine callFz_cut 3 Tryz.func179 rfl Tryz.ntmps179 (rs:=[.tmp 2,.tmp 3]) rfl (by kernel_rfl) (by simp) (by kernel_rfl) ?_
 simp
 refine hf.s ?_
 generalize rowOf k=R at *
 simp
 intro b4
 refine⟨⟨hl,by omega,fun x hx=>?_⟩,?_⟩
 ·have hx2:=List.all_eq_true.1 hcell x hx
  cases x<;>exact hx2
 ·rw[hl]
  simp only[List.drop_succ_cons,List.drop_zero,List.append_nil]
  rw[hsp]
  refine V.cutV [(4,.ptr 4 b4 0),(3,aI 0)] (Hs:=[(4,.box b4 (ls.map A.dat++rest))]) (by simp) (by simp) ?_
  refine V.ofG (Gh.frzPre 4 (τ:=4) (b:=b4) (ls:=ls) (rest:=rest) rfl rfl (Gh.here ?_))
  refine V.seq (V.regD (fun t=>if t=17 then some (.own 9 1 (F.map rT)) else none) [] (fun t=>if t=16 then some (.dat (.sl (((ls.drop 2).take 5).map fun l=>[l]))) else none) ?_)
  dsimp only[List.append,List.toList_toArray]
  have hts2:List.take 5 (List.drop 2 (List.map (fun l=>[l]) ls))=T.map fun xs=>[.sl (xs.map encT)]:=by rw[<- hts,List.map_take,List.map_drop]
  have har:arT Tryz.prog 222=some (5,41):=by kernel_rfl
  have htk0:tk Tryz.prog 41=1:=by kernel_rfl
  have htk:tk Tryz.prog 41≠0:=by rw[htk0];decide
  simp
  refine⟨?_,?_⟩
  ·have e:List.take 5 (List.drop 2 (List.map (fun l=>[l]) ls))=((ls.drop 2).take 5).map fun l=>[l]:=by simp
   rw[e]
   exact sliceArr_ok (t:=222) (x:=.tmp 15) (ls:=ls.drop 2) (n:=5) rfl har htk rfl (by simp;omega)
  rw[hts2]
  refine fun h=>⟨hcon,(sortT_c (by omega)).mono ?_⟩
  rintro _ _ ⟨rfl,rfl⟩
  simp
theorem ports_fn (k:Nat) (hk:k<14) (name:List UInt8) (d:Int):CallFn Tryz.prog 185 [.record [.int .i64 k,.str name,.int .i64 d]] (aTs (sortT (portT k))):=by
 have hp:=Ports_fn k hk
 obtain⟨hs1,hs2,hs3,hs4⟩:=rowTs_sum k hk
 have hl:(portT k).length=(rowTs k).flatten.length:=sortT_len _
 generalize rowTs k=T at *
 refine callFz_of Tryz.func185 rfl Tryz.ntmps185 (rs:=[.tmp 2]) rfl (by kernel_rfl) (by simp) (by kernel_rfl) ?_
 generalize portT k=F at *
 simp
 refine hp.s ?_
 simp
 refine (Values_fn F).s ?_
 simp
 refine (sorted_o F (by rintro rfl;rw[<- hl]at hs3;simp at hs3) (by omega)).s 50 ?_
 intro hd
 simp
theorem visit_call {σ δ:Type}{l:Nat}{Hc:σ->Heap}{Hd:δ->Heap}{step:σ->Int×Expr->Except δ σ}{b2 b3:Nat}:∀(N:Nat) (x:Expr),SizeOf.sizeOf x<N->OkE x->∀(d:Int),1<=d->d<=17->∀(s:σ),
  (∀s p,p∈preE x d->CallY Tryz.prog l [.dat (.int .i64 p.1),aE p.2] (Hc s) (yK Hc Hd (step s p))) ->
  CallS Tryz.prog 282 [aE x,.dat (.int .i64 d),.ptr 2 b2 0,.ptr 3 b3 0] ((3,.box b3 [.fn 282 [] [.ptr 2 b2 0,.ptr 3 b3 0]])::(2,.box b2 [.yld l])::rt 1000 (Hc s))
   fun r H'=>match (preE x d).foldlM step s with
    | .ok s'=>r=.dat (.bool true)∧H'=(3,.box b3 [.fn 282 [] [.ptr 2 b2 0,.ptr 3 b3 0]])::(2,.box b2 [.yld l])::rt 1000 (Hc s')
    | .error e=>r=.dat (.bool false)∧H'=(3,.box b3 [.fn 282 [] [.ptr 2 b2 0,.ptr 3 b3 0]])::(2,.box b2 [.yld l])::rt 1000 (Hd e)
 | 0,_,h,_,_,_,_,_,_=>absurd h (Nat.not_lt_zero _)
 | N+1,x,hN,hx,d,hd1,hd2,s,hy=>by
  refine CallS.dropP (callS_of Tryz.func282 rfl Tryz.ntmps282 (rs:=[.tmp 6]) rfl (by kernel_rfl) (by simp) (by kernel_rfl) (K:=fun r H'=>match (preE x d).foldlM step s with
    | .ok s'=>r=.dat (.bool true)∧subP ((3,.box b3 [.fn 282 [] [.ptr 2 b2 0,.ptr 3 b3 0]])::(2,.box b2 [.yld l])::rt 1000 (Hc s')) H'
    | .error e=>r=.dat (.bool false)∧subP ((3,.box b3 [.fn 282 [] [.ptr 2 b2 0,.ptr 3 b3 0]])::(2,.box b2 [.yld l])::rt 1000 (Hd e)) H') ?_) ?_
  ·simp
   refine ((hy s (d,x) (by rw[preE_eq];simp)).rt.c1.c1).mono ?_
   rintro r H' ⟨_,⟨_,⟨H1,rfl,hk⟩,rfl⟩,rfl⟩
   simp only[yK]at hk
   rw[preE_eq,List.foldlM_cons]
   cases hst:step s (d,x) with
   | error e=>
    rw[hst]at hk
    obtain⟨rfl,rfl⟩:=hk
    simp[bind,Except.bind,subP.refl]
   | ok s1=>
    rw[hst]at hk
    obtain⟨rfl,rfl⟩:=hk
    simp only[bind,Except.bind]
    simp
    refine V.for' [1,3,15,16] (fun p=>[(17,.dat (.int .i64 (p.1:Nat)))]) (fun p=>(3,.box b3 [.fn 282 [] [.ptr 2 b2 0,.ptr 3 b3 0]])::(2,.box b2 [.yld l])::rt 1000 (Hc p.2))
     (fun p:Nat×σ=>p.1<=x.args.length∧(if d<=16 then preL (x.args.drop p.1) (d+1) else []).foldlM step p.2=(if d<=16 then preL x.args (d+1) else []).foldlM step s1) (fun p=>x.args.length-p.1) (0,s1) ⟨by simp,by simp,subP.refl _⟩ ?_
    rintro⟨i,s2⟩ ⟨hi,hinv⟩
    simp only at hi hinv
    have hlen:=hx.len
    have hadv:∀ {y:Expr}{rest:List Expr},x.args.drop i=y::rest->d<=16->(preE y (d+1)++preL rest (d+1)).foldlM step s2=(preL x.args (d+1)).foldlM step s1:=by
     intro y rest h hd
     rw[h]at hinv
     simpa [hd,preL]using hinv
    by_cases hlt:i<x.args.length
    ·obtain⟨y,hy1⟩:∃y,x.args[i]'hlt=y:=⟨_,rfl⟩
     have hy0:x.args[i]?=some y:=by rw[List.getElem?_eq_getElem hlt,hy1]
     have hmem:y∈x.args:=List.mem_of_getElem? hy0
     have hdrop:x.args.drop i=y::x.args.drop (i+1):=by
      rw[List.drop_eq_getElem_cons hlt]
      rw[hy1]
     simp[hlt,hy1,encE_eq,reads,Nat.not_le.2 hlt]
     intro b
     refine⟨by omega,?_⟩
     refine GCall.ways (fun hd=>⟨hd,?_⟩) (fun hd=>⟨.dat (.bool true),?_⟩)
     ·have hsub:∀p∈preE y (d+1),p∈preE x d:=by
       intro p hp
       rw[preE_eq,if_pos hd]
       refine List.mem_cons_of_mem _ ?_
       have:∀(l:List Expr),y∈l->p∈preL l (d+1):=by
        intro l
        induction l with
        | nil=>simp
        | cons z l ih=>
         intro hz
         simp only[preL,List.mem_append]
         rcases List.mem_cons.1 hz with rfl | hz
         ·exact .inl hp
         ·exact .inr (ih hz)
       exact this _ hmem
      have ih:=visit_call (Hc:=Hc) (Hd:=Hd) (step:=step) (b2:=b2) (b3:=b3) (l:=l) N y (by have:=Expr.lt_of_mem hmem;omega) (hx.args y hmem) (d+1) (by omega) (by omega) s2 (fun s p hp=>hy s p (hsub p hp))
      refine ih.c1.mono ?_
      rintro r H' ⟨H2,hk,rfl⟩
      have hA:=hadv hdrop hd
      rw[List.foldlM_append]at hA
      cases hf:(preE y (d+1)).foldlM step s2 with
      | error e=>
       rw[hf]at hk hA
       obtain⟨rfl,rfl⟩:=hk
       simp only[bind,Except.bind]at hA
       simp[hd,<- hA]
       exact (subP.refl _).c _
      | ok s3=>
       rw[hf]at hk hA
       obtain⟨rfl,rfl⟩:=hk
       simp only[bind,Except.bind]at hA
       simp[hd]
       exact⟨by omega,i+1,s3,⟨hlt,hA⟩,by omega,by simp,(subP.refl _).c _⟩
     ·simp[hd]
      refine⟨by omega,i+1,s2,⟨hlt,?_⟩,by omega,by simp,(subP.refl _).c _⟩
      simpa [hd]using hinv
    ·have hie:i=x.args.length:=by omega
     subst hie
     simp
     have hinv':Except.ok s2=(if d<=16 then preL x.args (d+1) else []).foldlM step s1:=by
      rw[<- hinv]
      split<;>simp[preL,pure,Except.pure]
     rw[<- hinv']
     exact subP.refl _
  ·intro r H' hk
   cases hf:(preE x d).foldlM step s with
   | error e=>
    rw[hf]at hk
    exact⟨_,hk.2,hk.1,rfl⟩
   | ok s3=>
    rw[hf]at hk
    exact⟨_,hk.2,hk.1,rfl⟩
theorem preorder_call {σ δ:Type}{l:Nat}{Hc:σ->Heap}{Hd:δ->Heap}{step:σ->Int×Expr->Except δ σ}{x:Expr}(hx:OkE x) (s:σ)
  (hy:∀s p,p∈preE x 1->CallY Tryz.prog l [.dat (.int .i64 p.1),aE p.2] (Hc s) (yK Hc Hd (step s p))) :
  CallS Tryz.prog 281 [.yld l,.rptr [.int .i64 x.op,.int .i64 x.index,.sl (x.args.map encE)]] (Hc s) fun _ H'=>match (preE x 1).foldlM step s with
    | .ok s'=>H'=Hc s'
    | .error e=>H'=Hd e:=by
 refine CallS.rt (k:=1000) (CallS.dropP (callS_of Tryz.func281 rfl Tryz.ntmps281 (rs:=[]) rfl (by kernel_rfl) (by simp) (by kernel_rfl) (K:=fun _ H'=>match (preE x 1).foldlM step s with
    | .ok s'=>subP (rt 1000 (Hc s')) H'
    | .error e=>subP (rt 1000 (Hd e)) H') ?_) ?_)
 ·simp
  intro b2 b3
  refine (visit_call (SizeOf.sizeOf x+1) x (by omega) hx 1 (by omega) (by omega) s hy).mono ?_
  intro r H' hk
  cases hf:(preE x 1).foldlM step s with
  | error e=>
   rw[hf]at hk
   obtain⟨_,rfl⟩:=hk
   simp
   exact ((subP.refl _).c _).c _
  | ok s3=>
   rw[hf]at hk
   obtain⟨_,rfl⟩:=hk
   simp
   exact ((subP.refl _).c _).c _
 ·intro r H' hk
  cases hf:(preE x 1).foldlM step s with
  | error e=>
   rw[hf]at hk
   exact⟨_,hk,_,rfl,rfl⟩
  | ok s3=>
   rw[hf]at hk
   exact⟨_,hk,_,rfl,rfl⟩
theorem preorder_fn (x:Expr):CallFn Tryz.prog 235 [aE x] (.fn 281 [] [.rptr [.int .i64 x.op,.int .i64 x.index,.sl (x.args.map encE)]]):=by
 refine callFn_of Tryz.func235 rfl Tryz.ntmps235 (rs:=[.tmp 2]) rfl (by kernel_rfl) (by simp) (by kernel_rfl) ?_
 simp
theorem preorder_iter (x:Expr) (hx:OkE x):IterS Tryz.prog 281 [] [.rptr [.int .i64 x.op,.int .i64 x.index,.sl (x.args.map encE)]] (preE x 1) fun p=>[.dat (.int .i64 p.1),aE p.2]:=
 fun _ _ _ _ s hy=>preorder_call hx s hy
def measS (s:Int×Int) (p:Int×Expr):Except Unit (Int×Int):=if s.1+1>256∨p.1>16 then .error () else .ok (s.1+1,max s.2 p.1)
def meas (x:Expr):Except Unit (Int×Int):=(preE x 1).foldlM measS (0,0)
theorem measure_fn (x:Expr) (hx:OkE x):CallFn Tryz.prog 234 [aE x] (.tuple (match meas x with
  | .ok (n,d)=>[.dat (.int .i64 n),.dat (.int .i64 d),.dat (.bool true)]
  | .error _=>[.dat (.int .i64 0),.dat (.int .i64 0),.dat (.bool false)])):=by
 refine callFn_of Tryz.func234 rfl Tryz.ntmps234 (rs:=[.cell 2 3,.cell 3 3,.cell 4 4]) rfl (by kernel_rfl) (by simp) (by kernel_rfl) ?_
 simp
 intro b1 b2 b3 b4 b5
 refine (preorder_fn x).s ?_
 refine V.rangeFold (items:=preE x 1) (enc:=fun p=>[.dat (.int .i64 p.1),aE p.2]) 100 (by simp) trivial (preorder_iter x hx)
  (fun s:Int×Int=>[(6,.box b5 [.dat (.int .i64 s.2)]),(5,.box b4 [.dat (.int .i64 s.1)]),(4,.box b3 [.dat (.bool false)]),(3,.box b2 [.dat (.int .i64 0)]),(2,.box b1 [.dat (.int .i64 0)])])
  (fun _:Unit=>[(4,.box b3 [.dat (.bool false)]),(3,.box b2 [.dat (.int .i64 0)]),(2,.box b1 [.dat (.int .i64 0)])])
  (fun _=>none) measS (fun s=>0<=s.1∧s.1<=256) (0,0) (by simp) ?_ (subP.refl _) (by simp) ?_ ?_
 ·rintro⟨n,m⟩ p s' ⟨h1,h2⟩ h
  simp only[measS]at h
  split at h
  ·cases h
  ·simp only[Except.ok.injEq]at h
   subst h
   simp only at *
   omega
 ·rintro l ⟨n,m⟩ ⟨d,y⟩ ⟨h1,h2⟩ hp
  simp only at h1 h2
  have hmax:(if m<d then d else m)=max m d:=by split<;>omega
  simp[hmax]
  refine⟨by omega,?_,?_⟩
  ·intro h
   simp only[measS]
   rw[if_pos (by simp only[gt_iff_lt];exact h)]
   exact⟨rfl,((subP.refl _).c _).c _⟩
  ·intro h h'
   simp only[measS]
   rw[if_neg (by simp only[gt_iff_lt];omega)]
   exact subP.refl _
 ·intro o ho
  cases o with
  | error e=>simp[meas,ho,jX]
  | ok s=>
   obtain⟨n,m⟩:=s
   simp[meas,ho]
   refine V.draw (fun _=>none) (by kernel_rfl) (by kernel_rfl) (by simp) ?_
   simp[meas,ho]
theorem every_fn (b:Bool):CallFn Tryz.prog 283 [.dat (.bool b)] (.fn 307 [] [.rptr [.bool b]]):=by
 refine callFn_of Tryz.func283 rfl Tryz.ntmps283 (rs:=[.tmp 2]) rfl (by kernel_rfl) (by simp) (by kernel_rfl) ?_
 simp
abbrev shapesA:List A:=[.dat (.int .i64 0),.dat (.int .i64 0),.nilf,.dat (.int .i64 0),.dat (.int .i64 0),.nilf,.dat (.int .i64 1),.dat (.int .i64 1),.fn 307 [] [.rptr [.bool false]],
 .dat (.int .i64 2),.dat (.int .i64 256),.fn 307 [] [.rptr [.bool true]],.dat (.int .i64 2),.dat (.int .i64 256),.fn 284 [] []]
theorem shapes_fn:CallFn Tryz.prog 237 [] (.agg shapesA):=by
 refine callFn_of Tryz.func237 rfl Tryz.ntmps237 (rs:=[.cell 0 308]) rfl (by kernel_rfl) (by simp) (by kernel_rfl) ?_
 simp
 intro b
 refine (every_fn false).s ?_
 simp
 refine (every_fn true).s ?_
 simp
def nodeR (x:Expr) (n:Int):Int:=
 if x.op<0∨x.op>=5 then 1
 else
  let k:Int:=x.args.length
  let lm:Int×Int:=if x.op<=1 then (0,0) else if x.op=2 then (1,1) else (2,256)
  if k<lm.1∨k>lm.2 then 3
  else
   let most:=if x.op=0 then 1 else if x.op=1 then n-1 else 0
   if x.index<0∨x.index>most then 2 else 0
theorem node_fn (x:Expr) (hx:OkE x) (n:Int) (hn:0<=n∧n<=256):CallFn Tryz.prog 236 [aE x,.dat (.int .i64 n)] (.dat (.int .i64 (nodeR x n))):=by
 refine callFn_of Tryz.func236 rfl Tryz.ntmps236 (rs:=[.tmp 4]) rfl (by kernel_rfl) (by simp) (by kernel_rfl) ?_
 simp
 refine⟨fun h=>by simp[nodeR,h],fun h0 h5=>?_⟩
 have h:=hx.len
 obtain ho | ho | ho | ho | ho:x.op=0∨x.op=1∨x.op=2∨x.op=3∨x.op=4:=by omega
 all_goals
  refine V.draw (fun s=>if s=15 then some (.fn (.agg shapesA)) else none) (by kernel_rfl) (by kernel_rfl) (by simp) ?_
  simp[ho,reads,Region.binds]
  refine⟨shapes_fn,?_⟩
  and_intros<;>intros<;>simp only[nodeR,ho]<;>(cases hk:x.args<;>simp_all<;>omega)
def nodeS (n:Int) (_:Unit) (p:Int×Expr):Except Int Unit:=if nodeR p.2 n≠0 then .error (nodeR p.2 n) else .ok ()
def checkE (x:Expr) (n:Int):Int:=
 if n<0∨n>256 then 2
 else match meas x with
  | .error _=>5
  | .ok _=>match (preE x 1).foldlM (nodeS n) () with
   | .ok _=>0
   | .error e=>e
theorem preE_ok:∀(N:Nat) (x:Expr),SizeOf.sizeOf x<N->OkE x->∀(d:Int),∀p∈preE x d,OkE p.2
 | 0,_,h,_,_,_,_=>absurd h (Nat.not_lt_zero _)
 | N+1,x,hN,hx,d,p,hp=>by
  rw[preE_eq]at hp
  rcases List.mem_cons.1 hp with rfl | hp
  ·exact hx
  ·split at hp
   ·have:∀l:List Expr,(∀y∈l,y∈x.args)->p∈preL l (d+1)->OkE p.2:=by
     intro l
     induction l with
     | nil=>intro _ h;simp[preL]at h
     | cons y l ih=>
      intro hl h
      simp only[preL,List.mem_append]at h
      rcases h with h | h
      ·have hm:=hl y (by simp)
       exact preE_ok N y (by have:=Expr.lt_of_mem hm;omega) (hx.args y hm) (d+1) p h
      ·exact ih (fun y hy=>hl y (by simp[hy])) h
    exact this x.args (fun _ h=>h) hp
   ·simp at hp
theorem check_fn (x:Expr) (hx:OkE x) (n:Int):CallFn Tryz.prog 171 [aE x,.dat (.int .i64 n)] (.dat (.int .i64 (checkE x n))):=by
 refine callFn_of Tryz.func171 rfl Tryz.ntmps171 (rs:=[.cell 4 32]) rfl (by kernel_rfl) (by simp) (by kernel_rfl) ?_
 simp
 intro b
 refine⟨fun h=>by simp[checkE,h],fun h0 h1=>?_⟩
 refine (measure_fn x hx).s ?_
 cases hm:meas x with
 | error e=>simp[checkE,hm,Int.not_lt.2 h0,Int.not_lt.2 h1]
 | ok s=>
  obtain⟨k,d⟩:=s
  simp
  refine (preorder_fn x).s ?_
  refine V.rangeFold (items:=preE x 1) (enc:=fun p=>[.dat (.int .i64 p.1),aE p.2]) 100 (by simp) trivial (preorder_iter x hx)
   (fun _:Unit=>[(4,.box b [.dat (.int .i64 0)])]) (fun e:Int=>[(4,.box b [.dat (.int .i64 e)])]) (fun _=>none) (nodeS n) (fun _=>True) () trivial (fun _ _ _ _ _=>trivial) (subP.refl _) (by simp) ?_ ?_
  ·rintro l ⟨⟩ ⟨d,y⟩ _ hp
   simp
   intro b1
   refine (node_fn y (preE_ok (SizeOf.sizeOf x+1) x (by omega) hx 1 _ hp) n ⟨h0,h1⟩).s ?_
   simp
   by_cases hz:nodeR y n=0
   ·simp[nodeS,hz]
    exact (subP.refl _).c _
   ·simp[nodeS,hz,jX]
    exact (subP.refl _).c _
  ·intro o ho
   cases o with
   | error e=>simp[checkE,hm,ho,jX,Int.not_lt.2 h0,Int.not_lt.2 h1]
   | ok s=>simp[checkE,hm,ho,jX,Int.not_lt.2 h0,Int.not_lt.2 h1]
end Go.Proofs.YtpadinblmjlggaaGreatDoor
