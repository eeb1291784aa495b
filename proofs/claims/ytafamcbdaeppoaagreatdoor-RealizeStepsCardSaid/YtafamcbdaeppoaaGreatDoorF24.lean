/- Texts joined by a program: Sra,Sn,Je,Jea,Sib,Kd,Kk. -/
import Derived.Shelf.Sort.Plain
import Derived.Shelf.Slices.In.SortNone
import Derived.Test.YtafamcbdaeppoaaGreatDoorProg
import Derived.KernelRfl
import Derived.Shelf.Small.Strs
import Derived.Test.YtafamcbdaeppoaaGreatDoorF16
import Derived.Test.YtafamcbdaeppoaaGreatDoorF23
import Derived.Test.YtafamcbdaeppoaaGreatDoorF21
import Derived.Test.YtafamcbdaeppoaaGreatDoorF17
import Derived.Test.YtafamcbdaeppoaaGreatDoorF11
import Derived.Test.YtafamcbdaeppoaaGreatDoorF20
set_option linter.unusedSimpArgs false
set_option linter.unusedVariables false
set_option maxHeartbeats 8000000
set_option maxRecDepth 100000
namespace Go.Proofs.YtafamcbdaeppoaaGreatDoor
section
open Go.Sort
variable {P:Program}{ρ:Go.Shelf.Ren}
theorem rT_vals {x:X}:∀ {zs:List (List UInt8)}{vs:List Value},Ds x (zs.map rT).flatten vs->vs=zs.map (encStr)
 | [],[],_=>rfl
 | z::zs,v::vs,h=>by
  simp only[List.map_cons,List.flatten_cons,List.cons_append,List.nil_append,rT,Ds,D,RdL]at h
  rw[h.1,rT_vals h.2,List.map_cons]
 | [],_::_,h=>by simp[Ds]at h
 | _::_,[],h=>by simp[Ds,rT]at h
theorem rT_Ds {x:X}:∀(zs:List (List UInt8)),Ds x (zs.map rT).flatten (zs.map (encStr))
 | []=>by simp[Ds]
 | z::zs=>by
  simp only[List.map_cons,List.flatten_cons,List.cons_append,List.nil_append,rT,Ds,D,RdL]
  exact⟨trivial,rT_Ds zs⟩
theorem rT_len {zs:List (List UInt8)}:∀r∈zs.map rT,r.length=1:=by
 intro r hr
 obtain⟨z,_,rfl⟩:=List.mem_map.1 hr
 rfl
theorem strs_own {x:X}{h:Value}{e:TypeId}{zs:List (List UInt8)}(hs:Ent.sat x (.seq h e 1 (zs.map rT))) :
  (h=.slice none 0 0∧zs=[])∨∃g cap cur,h=.slice (some ⟨g,0,none⟩) zs.length cap∧x.w.heap[g]?=some (.cells cur e (0,0))∧zs.length<=cap∧cap<=maxLen∧cur.size=cap∧cur.toList.take zs.length=zs.map (encStr):=by
 obtain⟨xs,⟨h1,h2⟩,h3,h4⟩:=hs
 have hx:=rT_vals h4
 subst hx
 rcases h2 with⟨rfl,h0⟩|⟨g,cap,cur,rfl,_,h5,h6,h7,h8,h9⟩
 ·exact .inl ⟨rfl,by simpa using h0⟩
 ·refine .inr ⟨g,cap,cur,by simp,h5,by simpa using h6,h7,by simpa using h8,by simpa using h9⟩
theorem strs_holds {x:X}{g:Nat}{cur:Array Value}{e:TypeId}{zs:List (List UInt8)}(h5:x.w.heap[g]?=some (.cells cur e (0,0))) (h9:cur.toList.take zs.length=zs.map (encStr)) :
  Holds (encStr) x.w g 0 zs.toArray:=by
 intro j hj
 have hj':j<zs.length:=by simpa using hj
 have hc:cur[j]?=some (encStr zs[j]):=by
  have:(cur.toList.take zs.length)[j]?=some (encStr zs[j]):=by rw[h9];simp[hj']
  rw[List.getElem?_take]at this
  simpa [hj']using this
 constructor
 ·have hz:zs.toArray[j]! = zs[j]:=by simp[hj']
  rw[hz]
  simp[World.cell?,h5,hc]
 ·simp[World.frozen?,h5]
theorem putRowT_block {w:World}{g n:Nat}{cur:Array Value}{e:TypeId}(h5:w.heap[g]?=some (.cells cur e (0,0))) (d:Array (List UInt8)) (os:Array Obj) :
  (grow (putRow (encStr) (Sort.ahead w n) g 0 d) os).heap[g]?=some (.cells (putCells (encStr) 0 d cur) e (0,0))∧∀k,k<w.heap.size->k≠g->(grow (putRow (encStr) (Sort.ahead w n) g 0 d) os).heap[k]?=w.heap[k]?:=by
 have hlt:=(Array.getElem?_eq_some_iff.1 h5).1
 have hsz:(putRow (encStr) (Sort.ahead w n) g 0 d).heap.size=w.heap.size:=by simp[putRow,mapBlock,Sort.ahead]
 have hgr:∀k,k<w.heap.size->(grow (putRow (encStr) (Sort.ahead w n) g 0 d) os).heap[k]?=(putRow (encStr) (Sort.ahead w n) g 0 d).heap[k]?:=by
  intro k hk
  simp only[grow]
  rw[Array.getElem?_append_left (by rw[hsz];exact hk)]
 constructor
 ·rw[hgr g hlt]
  simp[putRow,mapBlock,Sort.ahead,Array.getElem?_modify,h5,onCells]
 ·intro k hk hne
  rw[hgr k hk]
  simp[putRow,mapBlock,Sort.ahead,Array.getElem?_modify,Ne.symm hne]
theorem putCellsT_take (d:Array (List UInt8)) (cur:Array Value) (m:Nat) (hm:m<=d.size) (hd:d.size<=cur.size):(putCells (encStr) 0 d cur).toList.take m=(d.toList.take m).map (encStr):=by
 apply List.ext_getElem?
 intro k
 rw[List.getElem?_take,List.getElem?_map,List.getElem?_take]
 split
 ·rename_i hk
  have h1:k<cur.size:=by omega
  have h2:k<d.size:=by omega
  simp[putCells,h1,h2]
 ·simp
theorem seq_putRowT {x:X}{H:Heap}{t g cap q:Nat}{e:TypeId}{zs:List (List UInt8)}(hi:Inv x ((t,.seq (.slice (some ⟨g,0,none⟩) zs.length cap) e 1 (zs.map rT))::H)) (d:List (List UInt8)) (hd:d.length=zs.length) (m:Nat) (hm:m<=d.length) (os:Array Obj) :
  ∃y:X,y.w=grow (putRow (encStr) (Sort.ahead x.w q) g 0 d.toArray) os∧x.le y∧Inv y ((t,.seq (.slice (some ⟨g,0,none⟩) m cap) e 1 ((d.take m).map rT))::H):=by
 have hs:=hi.sat _ (List.mem_cons_self)
 rcases strs_own hs with⟨h,_⟩|⟨g',cap',cur,h,h5,h6,h7,h8,h9⟩
 ·cases h
 ·cases h
  obtain⟨b1,b2⟩:=putRowT_block (n:=q) h5 d.toArray os
  have hlt:=(Array.getElem?_eq_some_iff.1 h5).1
  have hsz:x.w.heap.size<=(grow (putRow (encStr) (Sort.ahead x.w q) g 0 d.toArray) os).heap.size:=by simp[grow,putRow,mapBlock,Sort.ahead]
  let y:X:=⟨grow (putRow (encStr) (Sort.ahead x.w q) g 0 d.toArray) os,x.ok⟩
  have hfin:x.le y∧Inv y ((t,.seq (.slice (some ⟨g,0,none⟩) m cap) e 1 ((d.take m).map rT))::H):=by
   refine hi.ofOwn (y:=y) (g':=t) (h':=.slice (some ⟨g,0,none⟩) m cap) (rows':=(d.take m).map rT) rfl ?_ ?_ ?_ ?_
   ·have hrl:((d.take m).map rT).length=m:=by rw[List.length_map,List.length_take];omega
    have hrv:((d.take m).map (encStr)).length=m*1:=by rw[List.length_map,List.length_take];omega
    have hpt:=putCellsT_take d.toArray cur m (by simpa using hm) (by rw[List.size_toArray];omega)
    have hps:(putCells (encStr) 0 d.toArray cur).size=cap*1:=by simp[putCells,h8]
    refine⟨(d.take m).map (encStr),⟨by rw[hrl];exact hrv,.inr ⟨g,cap,_,by rw[hrl],Nat.zero_le _,b1,by rw[hrl];omega,h7,hps,?_⟩⟩,rT_len,rT_Ds _⟩
    rw[hrl,Nat.mul_one]
    exact hpt
   ·refine⟨rfl,rfl,rfl,hsz,?_⟩
    intro k hk hne
    exact b2 k hk fun e=>hne (by simp[Value.ownBlock,e])
   ·show x.w.drawn<=(grow (putRow (encStr) (Sort.ahead x.w q) g 0 d.toArray) os).drawn
    simp[grow,putRow,mapBlock,Sort.ahead]
   ·intro k hk
    simp only[Value.ownBlock,Option.some.injEq]at hk
    subst hk
    exact⟨.inl rfl,Nat.lt_of_lt_of_le hlt hsz⟩
  exact⟨y,rfl,hfin⟩
def sortT (zs:List (List UInt8)):List (List UInt8):=zs.mergeSort fun x y=>decide (x<=y)
theorem sortT_len (zs:List (List UInt8)):(sortT zs).length=zs.length:=by simp[sortT]
theorem sortT_s (Ly:Go.Proofs.Lays.n190 P ρ) (hc:Callable P (ρ.f 190)) {e t:Nat}{h:Value}{zs:List (List UInt8)}(hz:zs.length<4611686018427387904) :
  CallS P (ρ.f 190) [.own t h] [(t,.seq h e 1 (zs.map rT))] fun r H'=>r=.tuple []∧H'=[(t,.seq h e 1 ((sortT zs).map rT))]:=by
 refine⟨hc,fun x args H0 hi hd=>?_⟩
 obtain rfl:=Ds_one hd
 have hs:=hi.sat _ (List.mem_cons_self)
 rcases strs_own hs with⟨rfl,rfl⟩|⟨g,cap,cur,rfl,h5,h6,h7,h8,h9⟩
 ·refine (Any.slices_Sort_string_none Ly none 0 x.w).mono ?_
  rintro _ _ ⟨rfl,rfl⟩
  exact⟨x,_,.tuple [],_,rfl,rfl,.refl x,by simpa [sortT]using hi,unit_D x,rfl,rfl⟩
 ·refine (Any.slices_Sort_string Ly g 0 cap zs x.w (strs_holds h5 h9) (Array.getElem?_eq_some_iff.1 h5).1 hz).mono ?_
  rintro _ _ ⟨rfl,n,os,rfl⟩
  obtain⟨y,k1,k2,k3⟩:=seq_putRowT hi (q:=n) (sortT zs) (sortT_len zs) (sortT zs).length (Nat.le_refl _) os
  rw[List.take_length,sortT_len]at k3
  exact⟨y,_,.tuple [],_,rfl,k1,k2,k3,unit_D y,rfl,rfl⟩
end
def sortTRen:Go.Shelf.Ren:=⟨fun | 125=>152 | 128=>223 | 129=>224 | 190=>269 | 258=>339 | 302=>372 | 303=>373 | 304=>374 | 305=>375 | 306=>376 | 307=>377 | 308=>378 | 309=>379 | 310=>380 | 329=>298 | 330=>299 | 333=>398 | 334=>399 | 335=>400 | 336=>401 | 344=>407 | n=>n,fun | 0=>0 | 3=>3 | 4=>4 | 5=>5 | 9=>9 | 31=>22 | 46=>220 | 51=>295 | 53=>297 | 131=>142 | 182=>287 | 183=>288 | 218=>367 | 222=>371 | 228=>414 | 229=>415 | n=>n,fun n=>n⟩
theorem sortTLays:Go.Proofs.Lays.n190 Tryz.prog sortTRen:={ 
 mixed:=by kernel_rfl,
 f125:=by kernel_rfl,
 f128:=by kernel_rfl,
 f129:=by kernel_rfl,
 f190:=by kernel_rfl,
 f258:=by kernel_rfl,
 f302:=by kernel_rfl,
 f303:=by kernel_rfl,
 f304:=by kernel_rfl,
 f305:=by kernel_rfl,
 f306:=by kernel_rfl,
 f307:=by kernel_rfl,
 f308:=by kernel_rfl,
 f309:=by kernel_rfl,
 f310:=by kernel_rfl,
 f329:=by kernel_rfl,
 f330:=by kernel_rfl,
 f333:=by kernel_rfl,
 f334:=by kernel_rfl,
 f335:=by kernel_rfl,
 f336:=by kernel_rfl,
 f344:=by kernel_rfl,
 t0:=Tryz.underlying0,
 a0:=Tryz.isAgg0,
 z0:=Tryz.sizeOf0,
 v0:=Tryz.zeroValue0,
 t3:=Tryz.underlying3,
 a3:=Tryz.isAgg3,
 z3:=Tryz.sizeOf3,
 v3:=Tryz.zeroValue3,
 t4:=Tryz.underlying4,
 a4:=Tryz.isAgg4,
 z4:=Tryz.sizeOf4,
 v4:=Tryz.zeroValue4,
 t5:=Tryz.underlying5,
 a5:=Tryz.isAgg5,
 z5:=Tryz.sizeOf5,
 v5:=Tryz.zeroValue5,
 t9:=Tryz.underlying9,
 a9:=Tryz.isAgg9,
 z9:=Tryz.sizeOf9,
 v9:=Tryz.zeroValue9,
 t31:=Tryz.underlying22,
 a31:=Tryz.isAgg22,
 z31:=Tryz.sizeOf22,
 v31:=Tryz.zeroValue22,
 t46:=Tryz.underlying220,
 a46:=Tryz.isAgg220,
 z46:=Tryz.sizeOf220,
 v46:=Tryz.zeroValue220,
 t51:=Tryz.underlying295,
 a51:=Tryz.isAgg295,
 z51:=Tryz.sizeOf295,
 v51:=Tryz.zeroValue295,
 t53:=Tryz.underlying297,
 a53:=Tryz.isAgg297,
 z53:=Tryz.sizeOf297,
 v53:=Tryz.zeroValue297,
 t131:=Tryz.underlying142,
 a131:=Tryz.isAgg142,
 z131:=Tryz.sizeOf142,
 v131:=Tryz.zeroValue142,
 t182:=Tryz.underlying287,
 a182:=Tryz.isAgg287,
 z182:=Tryz.sizeOf287,
 v182:=Tryz.zeroValue287,
 t183:=Tryz.underlying288,
 a183:=Tryz.isAgg288,
 z183:=Tryz.sizeOf288,
 v183:=Tryz.zeroValue288,
 t218:=Tryz.underlying367,
 a218:=Tryz.isAgg367,
 z218:=Tryz.sizeOf367,
 v218:=Tryz.zeroValue367,
 t222:=Tryz.underlying371,
 a222:=Tryz.isAgg371,
 z222:=Tryz.sizeOf371,
 v222:=Tryz.zeroValue371,
 t228:=Tryz.underlying414,
 a228:=Tryz.isAgg414,
 z228:=Tryz.sizeOf414,
 v228:=Tryz.zeroValue414,
 t229:=Tryz.underlying415,
 a229:=Tryz.isAgg415,
 z229:=Tryz.sizeOf415,
 v229:=Tryz.zeroValue415 }
theorem growT_o (n:Int) (h0:0<=n) (h1:n<=4294967296):CallOwn Tryz.prog 338 [.nils,aI n] 9 1 []:=by
 refine callO_of Tryz.func338 rfl Tryz.ntmps338 (rs:=[.tmp 4]) rfl (by kernel_rfl) (by simp) (by kernel_rfl) ?_
 by_cases hn:0<n
 ·simp[hn,Int.not_lt.2 h0]
  omega
 ·have e:n=0:=by omega
  subst e
  simp
def sumT (xss:List (List (List UInt8))):Nat:=(xss.map List.length).sum
theorem concatT_o (xss:List (List (List UInt8))) (h:sumT xss<=4294967296) (h1:xss.length<=4294967296):CallOwn Tryz.prog 268 [.dat (.sl (xss.map fun xs=>[.sl (xs.map encT)]))] 9 1 (xss.flatten.map rT):=by
 refine callO_of Tryz.func268 rfl Tryz.ntmps268 (rs:=[.tmp 2]) rfl (by kernel_rfl) (by simp) (by kernel_rfl) ?_
 have hle:∀i,(xss.take i).flatten.length<=sumT xss:=by
  intro i
  have e:xss=xss.take i++xss.drop i:=(List.take_append_drop i xss).symm
  have:sumT xss=sumT (xss.take i)+sumT (xss.drop i):=by
   unfold sumT
   conv=>lhs;rw[e]
   rw[List.map_append,List.sum_append]
  rw[List.length_flatten]
  unfold sumT at this ⊢
  omega
 have hst:∀i y,xss[i]?=some y->(xss.take (i+1)).flatten=(xss.take i).flatten++y:=by
  intro i y hy
  rw[List.take_add_one,hy]
  simp
 obtain⟨L,hL⟩:∃L:Nat->Nat,∀i,L i=(xss.take i).flatten.length:=⟨_,fun _=>rfl⟩
 have hL0:L 0=0:=by simp[hL]
 have hLs:∀i y,xss[i]?=some y->L (i+1)=L i+y.length:=by
  intro i y hy
  rw[hL,hL,hst i y hy,List.length_append]
 have hLm:∀i,L i<=sumT xss:=fun i=>by rw[hL];exact hle i
 simp
 refine V.forI (σ:=Unit) xss.length [0,2,9,10] (by simp;exact rfl) (fun i _=>[(11,aI i),(3,aI (L i))]) (fun _ _=>[]) (fun _ _=>True) () (by simp) (by simp[hL0]) ⟨by simp;exact rfl,by simp⟩ ?_ ?_
 ·rintro i-hi -
  have hy:=List.getElem?_eq_getElem hi
  have hs:=hLs i _ hy
  have hl:=hLm (i+1)
  simp[hi,hs]
  omega
 ·rintro - -
  have hl:=hLm xss.length
  simp
  refine (growT_o _ (by omega) (by omega)).s 50 ?_
  intro hd
  simp
  refine V.forL (γ:=Value) xss [2,25,26] (by simp;exact rfl) (fun i _ g=>[(27,aI i),(6,.own 50 g)]) (fun i _ g=>[(50,.seq g 9 1 ((xss.take i).flatten.map rT))]) (fun (_:Unit) (_:List (List UInt8))=>(Except.ok ():Except Unit Unit)) (fun _ _=>True) () hd trivial (by simp) ⟨by simp;exact rfl,by simp⟩ ?_ ?_
  ·rintro i-g y hi hy - -
   have hy':xss[i]?=some y:=by rw[List.getElem?_eq_getElem hi,hy]
   have hs:=hst i _ hy'
   have hl2:=hle (i+1)
   rw[hs,List.length_append]at hl2
   rw[hs]
   generalize (xss.take i).flatten=zs at hl2
   simp[hi,hy]
   omega
  ·rintro-g - -
   simp
theorem Values_fn (xs:List (List UInt8)):CallFn Tryz.prog 232 [aTs xs] (.fn 311 [] [.rptr [.sl (xs.map encT)]]):=by
 refine callFz_of Tryz.func232 rfl Tryz.ntmps232 (rs:=[.tmp 2]) rfl (by kernel_rfl) (by simp) (by kernel_rfl) ?_
 simp
theorem values_iter {I:Nat->Heap->Prop}{l:Nat}(xs:List (List UInt8)) (hx:xs.length<=1000) (hy:∀i v H,xs[i]?=some v->I i H->CallY Tryz.prog l [aT v] H fun r H'=>r=.dat (.bool true)∧I (i+1) H') (H:Heap) (h0:I 0 H) :
  CallS Tryz.prog 311 [.yld l,.rptr [.sl (xs.map encT)]] H fun _ H'=>I xs.length H':=by
 have h:CallS Tryz.prog 311 [.yld l,.rptr [.sl (xs.map encT)]] (rt 1000 H) fun _ H'=>∃H1,I xs.length H1∧subP (rt 1000 H1) H':=by
  refine callS_of Tryz.func311 rfl Tryz.ntmps311 (rs:=[]) rfl (by kernel_rfl) (by simp) (by kernel_rfl) ?_
  simp
  refine V.for' [0,5,6] (fun p=>[(7,.dat (.int .i64 (p.1:Nat)))]) (fun p=>rt 1000 p.2)
   (fun p:Nat×Heap=>p.1<=xs.length∧I p.1 p.2) (fun p=>xs.length-p.1) (0,H) ⟨by simp[h0],by simp,subP.refl _⟩ ?_
  rintro⟨i,H2⟩ ⟨hi,hinv⟩
  simp only at hi hinv
  by_cases hlt:i<xs.length
  ·obtain⟨y,hy1⟩:∃y,xs[i]'hlt=y:=⟨_,rfl⟩
   have hy0:xs[i]?=some y:=by rw[List.getElem?_eq_getElem hlt,hy1]
   simp[hlt,hy1]
   refine (hy i y H2 hy0 hinv).rt.mono ?_
   rintro r H' ⟨H1,rfl,rfl,hk⟩
   simp
   exact⟨by omega,i+1,H1,⟨hlt,hk⟩,by omega,by simp,subP.refl _⟩
  ·have hie:i=xs.length:=by omega
   subst hie
   simp
   exact⟨H2,hinv,subP.refl _⟩
 exact CallS.rt (k:=1000) (CallS.dropP h fun r H' ⟨H1,h1,h2⟩=>⟨_,h2,_,rfl,h1⟩)
theorem values_apd (xs:List (List UInt8)) (hx:xs≠[]) (hl:xs.length<=1000) {l b2:Nat}{e0:Ent}{K:A->Heap->Prop}
  (h1:∀v,CallY Tryz.prog l [aT v] [(99,e0),(2,.box b2 [.nils])] fun r H'=>r=.dat (.bool true)∧∃g,H'=[(99,e0),(11,.seq g 9 1 [rT v]),(2,.box b2 [.own 11 g])])
  (h2:∀(zs:List (List UInt8)) (g:Value) (v:List UInt8),zs.length<1000->CallY Tryz.prog l [aT v] [(99,e0),(11,.seq g 9 1 (zs.map rT)),(2,.box b2 [.own 11 g])] fun r H'=>r=.dat (.bool true)∧∃g,H'=[(99,e0),(11,.seq g 9 1 ((zs++[v]).map rT)),(2,.box b2 [.own 11 g])])
  (hk:∀r g,K r [(99,e0),(11,.seq g 9 1 (xs.map rT)),(2,.box b2 [.own 11 g])]) :
  CallS Tryz.prog 311 [.yld l,.rptr [.sl (xs.map encT)]] [(99,e0),(2,.box b2 [.nils])] K:=by
 refine (values_iter (I:=fun i H=>(i=0∧H=[(99,e0),(2,.box b2 [.nils])])∨(0<i∧∃g,H=[(99,e0),(11,.seq g 9 1 ((xs.take i).map rT)),(2,.box b2 [.own 11 g])])) xs hl ?_ _ (.inl ⟨rfl,rfl⟩)).mono ?_
 ·rintro i v H hv (⟨rfl,rfl⟩|⟨hi,g,rfl⟩)
  ·have htk:xs.take (0+1)=[v]:=by rw[List.take_add_one,hv];rfl
   rw[htk]
   exact (h1 v).mono fun r H' ⟨a,g,b⟩=>⟨a,.inr ⟨by omega,g,b⟩⟩
  ·have hil:i<xs.length:=(List.getElem?_eq_some_iff.1 hv).1
   have htk:xs.take (i+1)=xs.take i++[v]:=by rw[List.take_add_one,hv];rfl
   have htl:(xs.take i).length=i:=by rw[List.length_take];omega
   rw[htk]
   exact (h2 (xs.take i) g v (by omega)).mono fun r H' ⟨a,g,b⟩=>⟨a,.inr ⟨by omega,g,b⟩⟩
 ·rintro r H' (⟨h0,_⟩|⟨_,g,rfl⟩)
  ·exact absurd (List.length_eq_zero_iff.1 h0) hx
  ·rw[List.take_length]
   exact hk r g
theorem appseq_s (xs:List (List UInt8)) (hx:xs≠[]) (hl:xs.length<=1000):CallOwn Tryz.prog 362 [.nils,.fn 311 [] [.rptr [.sl (xs.map encT)]]] 9 1 (xs.map rT):=by
 refine callO_of Tryz.func362 rfl Tryz.ntmps362 (rs:=[.tmp 4]) rfl (by kernel_rfl) (by simp) (by kernel_rfl) ?_
 simp
 intro b2
 refine V.rangeFunc 99 (p:=True) (first:=[]) (caps:=[.rptr [.sl (xs.map encT)]]) (f:=311) (by simp) trivial fun l=>?_
 refine values_apd xs hx hl (fun v=>callY_of rfl (by kernel_rfl) ?_) (fun zs g v hz=>callY_of rfl (by kernel_rfl) ?_) (fun r g=>.inl ⟨_,rfl,?_⟩)
 ·simp
 ·simp
  omega
 ·simp
theorem collect_o (xs:List (List UInt8)) (hx:xs≠[]) (hl:xs.length<=1000):CallOwn Tryz.prog 310 [.fn 311 [] [.rptr [.sl (xs.map encT)]]] 9 1 (xs.map rT):=by
 refine callO_of Tryz.func310 rfl Tryz.ntmps310 (rs:=[.tmp 2]) rfl (by kernel_rfl) (by simp) (by kernel_rfl) ?_
 simp
 refine (appseq_s xs hx hl).s 50 ?_
 intro hd
 simp
theorem sortT_call:Callable Tryz.prog 269:=⟨_,Tryz.func269,by kernel_rfl,by kernel_rfl⟩
theorem sortT_c {t:Nat}{h:Value}{zs:List (List UInt8)}(hz:zs.length<4611686018427387904):CallS Tryz.prog 269 [.own t h] [(t,.seq h 9 1 (zs.map rT))] fun r H'=>r=.tuple []∧H'=[(t,.seq h 9 1 ((sortT zs).map rT))]:=
 sortT_s sortTLays sortT_call hz
theorem sorted_o (xs:List (List UInt8)) (hx:xs≠[]) (hl:xs.length<=1000):CallOwn Tryz.prog 231 [.fn 311 [] [.rptr [.sl (xs.map encT)]]] 9 1 ((sortT xs).map rT):=by
 refine callO_of Tryz.func231 rfl Tryz.ntmps231 (rs:=[.tmp 2]) rfl (by kernel_rfl) (by simp) (by kernel_rfl) ?_
 simp
 refine (collect_o xs hx hl).s 50 ?_
 intro hd
 simp
 refine (sortT_c (by omega)).mono ?_
 rintro _ _ ⟨rfl,rfl⟩
 simp
def rowLs (k:Nat):List L:=((rowOf k).take 10).map cellL
theorem rowLs_split:∀k,k<14->∃rest,rowOf k=(rowLs k).map A.dat++rest:=cat_cases ⟨⟨_,rfl⟩,⟨_,rfl⟩,⟨_,rfl⟩,⟨_,rfl⟩,⟨_,rfl⟩,⟨_,rfl⟩,⟨_,rfl⟩,⟨_,rfl⟩,⟨_,rfl⟩,⟨_,rfl⟩,⟨_,rfl⟩,⟨_,rfl⟩,⟨_,rfl⟩,⟨_,rfl⟩⟩
theorem rowLs_len:∀k,k<14->(rowLs k).length=10:=cat_cases ⟨rfl,rfl,rfl,rfl,rfl,rfl,rfl,rfl,rfl,rfl,rfl,rfl,rfl,rfl⟩
def cellT:L->List UInt8
 | .str s=>s
 | _=>[]
def cellTs:L->List (List UInt8)
 | .sl r=>r.map fun x=>cellT (x.headD (.int .i64 0))
 | _=>[]
def rowTs (k:Nat):List (List (List UInt8)):=(((rowLs k).drop 2).take 5).map cellTs
theorem rowTs_eq:∀k,k<14->(((rowLs k).drop 2).take 5).map (fun l=>[l])=(rowTs k).map fun xs=>[.sl (xs.map encT)]:=cat_cases ⟨rfl,rfl,rfl,rfl,rfl,rfl,rfl,rfl,rfl,rfl,rfl,rfl,rfl,rfl⟩
theorem rowTs_sum:∀k,k<14->sumT (rowTs k)<=7∧(rowTs k).length=5∧1<=(rowTs k).flatten.length∧(rowTs k).flatten.length<=7:=by
 refine cat_cases ⟨?_,?_,?_,?_,?_,?_,?_,?_,?_,?_,?_,?_,?_,?_⟩
 all_goals decide
def portT (k:Nat):List (List UInt8):=sortT (rowTs k).flatten
theorem Ports_fn (k:Nat) (hk:k<14):CallFn Tryz.prog 185 [aI k] (.tuple [aTs (portT k),aI 0]):=by
 have hf:=find_fn k hk
 have hl:=row_len k hk
 have hcell:=row_cell k hk
 obtain⟨rest,hsp⟩:=rowLs_split k hk
 have hll:=rowLs_len k hk
 have hts:=rowTs_eq k hk
 obtain⟨hs1,hs2,hs3,hs4⟩:=rowTs_sum k hk
 have hcon:=concatT_o (rowTs k) (by omega) (by omega)
 unfold portT
 generalize rowTs k=T at *
 obtain⟨F,hF⟩:∃F,T.flatten=F:=⟨_,rfl⟩
 rw[hF]at hcon hs3 hs4 ⊢
 generalize rowLs k=ls at *
 refine callFz_cut 3 Tryz.func185 rfl Tryz.ntmps185 (rs:=[.tmp 2,.tmp 3]) rfl (by kernel_rfl) (by simp) (by kernel_rfl) ?_
 simp
 refine hf.s ?_
 generalize rowOf k=R at *
 simp
 intro b4
 refine⟨⟨hl,by omega,fun x hx=>?_⟩,?_⟩
 ·have hx2:=List.all_eq_true.1 hcell x hx
  cases x<;>exact hx2
 ·rw[hl]
  simp only[List.drop_succ_cons,List.drop_zero,List.append_nil]
  rw[hsp]
  refine V.cutV [(4,.ptr 4 b4 0),(3,aI 0)] (Hs:=[(4,.box b4 (ls.map A.dat++rest))]) (by simp) (by simp) ?_
  refine V.ofG (Gh.frzPre 4 (τ:=4) (b:=b4) (ls:=ls) (rest:=rest) rfl rfl (Gh.here ?_))
  refine V.seq (V.regD (fun t=>if t=17 then some (.own 9 1 (F.map rT)) else none) [] (fun t=>if t=16 then some (.dat (.sl (((ls.drop 2).take 5).map fun l=>[l]))) else none) ?_)
  dsimp only[List.append,List.toList_toArray]
  have hts2:List.take 5 (List.drop 2 (List.map (fun l=>[l]) ls))=T.map fun xs=>[.sl (xs.map encT)]:=by rw[<- hts,List.map_take,List.map_drop]
  have har:arT Tryz.prog 231=some (5,22):=by kernel_rfl
  have htk0:tk Tryz.prog 22=1:=by kernel_rfl
  have htk:tk Tryz.prog 22≠0:=by rw[htk0];decide
  simp
  refine⟨?_,?_⟩
  ·have e:List.take 5 (List.drop 2 (List.map (fun l=>[l]) ls))=((ls.drop 2).take 5).map fun l=>[l]:=by simp
   rw[e]
   exact sliceArr_ok (t:=231) (x:=.tmp 15) (ls:=ls.drop 2) (n:=5) rfl har htk rfl (by simp;omega)
  rw[hts2]
  refine fun h=>⟨hcon,(sortT_c (by omega)).mono ?_⟩
  rintro _ _ ⟨rfl,rfl⟩
  simp
theorem ports_fn (k:Nat) (hk:k<14) (name:List UInt8) (d:Int):CallFn Tryz.prog 158 [.record [.int .i64 k,.str name,.int .i64 d]] (aTs (sortT (portT k))):=by
 have hp:=Ports_fn k hk
 obtain⟨hs1,hs2,hs3,hs4⟩:=rowTs_sum k hk
 have hl:(portT k).length=(rowTs k).flatten.length:=sortT_len _
 generalize rowTs k=T at *
 refine callFz_of Tryz.func158 rfl Tryz.ntmps158 (rs:=[.tmp 2]) rfl (by kernel_rfl) (by simp) (by kernel_rfl) ?_
 generalize portT k=F at *
 simp
 refine hp.s ?_
 simp
 refine (Values_fn F).s ?_
 simp
 refine (sorted_o F (by rintro rfl;rw[<- hl]at hs3;simp at hs3) (by omega)).s 50 ?_
 intro hd
 simp
theorem idxT_fn (xs:List (List UInt8)) (v:List UInt8) (hx:Sh xs):CallFn Tryz.prog 230 [aTs xs,aT v] (aI (idxI (xs.findIdx? (v==·)))):=by
 refine callFz_of Tryz.func230 rfl Tryz.ntmps230 (rs:=[.tmp 4]) rfl (by kernel_rfl) (by simp) (by kernel_rfl) ?_
 simp
 refine V.forI (σ:=Unit) xs.length [0,1,7] (by simp;exact rfl) (fun i _=>[(8,aI i)]) (fun _ _=>[]) (fun i _=>NoF (v==·) (xs.take i)) () (by simp) (by simp) ⟨by simp;exact rfl,by simp⟩ ?_ ?_
 ·rintro i-hi hI
  have h1:=List.getElem?_eq_getElem hi
  have hs:=findIdx_step (p:=(v==·)) hI h1
  simp[hi,h1]
  cases e:(v==xs[i])
  ·simp at e
   simp[e]
   exact⟨by omega,hs.1 (by simp[e])⟩
  ·have e2:=hs.2 e
   simp at e
   rw[e2]
   simp[e]
 ·rintro-hI
  rw[findIdx_none hI]
  simp
theorem containsT_fn (xs:List (List UInt8)) (v:List UInt8) (hx:Sh xs):CallFn Tryz.prog 157 [aTs xs,aT v] (aB (xs.any (v==·))):=by
 refine callFz_of Tryz.func157 rfl Tryz.ntmps157 (rs:=[.tmp 4]) rfl (by kernel_rfl) (by simp) (by kernel_rfl) ?_
 simp
 refine (idxT_fn xs v hx).s ?_
 simp
 rw[idxI_ge,List.findIdx?_isSome]
theorem hasSuf_fn (q:List UInt8) (x y:UInt8) (hq:q.length<=1000):CallFn Tryz.prog 320 [aT (q++[x]),aT [y]] (aB (x==y)):=by
 refine callFz_of Tryz.func320 rfl Tryz.ntmps320 (rs:=[.tmp 4]) rfl (by kernel_rfl) (by simp) (by kernel_rfl) ?_
 have e1:List.take (q.length+1) (q++[x])=q++[x]:=List.take_of_length_le (by simp)
 have e2:(([x]:List UInt8)==[y])=(x==y):=by simp[Bool.eq_iff_iff]
 simp[e1]
 refine⟨fun _=>by omega,fun _=>by omega⟩
theorem cutSufL_fn (q:List UInt8) (x y:UInt8) (hq:q.length<=1000):CallFn Tryz.prog 236 [aT (q++[x]),aT [y]] (.tuple [aT (if x=y then q else q++[x]),aB (x==y)]):=by
 have h:=hasSuf_fn q x y hq
 refine callFz_of Tryz.func236 rfl Tryz.ntmps236 (rs:=[.tmp 4,.tmp 5]) rfl (by kernel_rfl) (by simp) (by kernel_rfl) ?_
 simp
 refine h.s ?_
 by_cases e:x=y
 ·simp[e]
  omega
 ·simp[e]
theorem cutSuf_fn (q:List UInt8) (x y:UInt8) (hq:q.length<=1000):CallFn Tryz.prog 165 [aT (q++[x]),aT [y]] (.tuple [aT (if x=y then q else q++[x]),aB (x==y)]):=by
 have h:=cutSufL_fn q x y hq
 refine callFz_of Tryz.func165 rfl Tryz.ntmps165 (rs:=[.tmp 4,.tmp 5]) rfl (by kernel_rfl) (by simp) (by kernel_rfl) ?_
 simp
 refine h.s ?_
 simp
theorem mem_sortT {x:List UInt8}{xs:List (List UInt8)}:x∈sortT xs↔x∈xs:=List.mem_mergeSort
def ibRen:Go.Shelf.Ren:=⟨fun | 137=>205 | 217=>292 | 266=>356 | n=>n,fun | 3=>3 | 5=>5 | 9=>9 | n=>n,fun n=>n⟩
theorem ibLays:Go.Proofs.Lays.n137 Tryz.prog ibRen:={ 
 mixed:=by kernel_rfl,
 f137:=by kernel_rfl,
 f217:=by kernel_rfl,
 f266:=by kernel_rfl,
 t3:=Tryz.underlying3,
 a3:=Tryz.isAgg3,
 z3:=Tryz.sizeOf3,
 v3:=Tryz.zeroValue3,
 t5:=Tryz.underlying5,
 a5:=Tryz.isAgg5,
 z5:=Tryz.sizeOf5,
 v5:=Tryz.zeroValue5,
 t9:=Tryz.underlying9,
 a9:=Tryz.isAgg9,
 z9:=Tryz.sizeOf9,
 v9:=Tryz.zeroValue9 }
theorem IndexByte_fn (s:List UInt8) (n:Int):CallFn Tryz.prog 205 [.dat (.str s),.dat (.int .u8 n)] (aI (Go.Lib.indexByte s n.toNat.toUInt8)):=by
 refine⟨⟨_,Tryz.func205,by kernel_rfl,by kernel_rfl⟩,fun x args H0 hi hd=>?_⟩
 obtain⟨u,v,e,hu,hv⟩:=Ds.two hd
 simp only[D,RdL]at hu hv
 subst hu hv
 have ha:args=#[.string ⟨s.toArray⟩,.int .u8 n]:=by
  rcases args with⟨l⟩
  simp only at e
  rw[e]
 subst ha
 refine (Any.strings_IndexByte ibLays ⟨s.toArray⟩ n x.w).mono ?_
 rintro _ _ ⟨rfl,rfl⟩
 refine⟨x,_,_,[],rfl,rfl,.refl x,by simpa using hi,?_,rfl,rfl⟩
 simp only[D,RdL]
def signsT:List UInt8:=[43,45,42,47,40,41,91,93,123,125,60,62,61,44,59,58,124,38,33,35,46]
def clsG (n:Nat):Int:=if 65<=n∧n<=90 then 1 else if 97<=n∧n<=122 then 1 else if 48<=n∧n<=57 then 2 else if n=95 then 3 else if n=32 then 5 else if n=10 then 5 else if 0<=Go.Lib.indexByte signsT n.toUInt8 then 4 else 0
theorem clsG_one (n:Nat):clsG n=1↔letC n=true:=by
 unfold clsG letC
 simp only[Bool.or_eq_true,decide_eq_true_eq]
 (repeat' split)<;>omega
theorem clsG_inn (n:Nat):(clsG n=1∨clsG n=2∨clsG n=3)↔innC n=true:=by
 unfold clsG innC letC digQ
 simp only[Bool.or_eq_true,decide_eq_true_eq]
 (repeat' split)<;>omega
theorem rngG_tab:tabF 1=some [.int .u8 65,.int .u8 90,.int .u8 1,.int .u8 97,.int .u8 122,.int .u8 1,.int .u8 48,.int .u8 57,.int .u8 2,.int .u8 95,.int .u8 95,.int .u8 3,.int .u8 32,.int .u8 32,.int .u8 5,.int .u8 10,.int .u8 10,.int .u8 5]:=rfl
theorem classG_fn (n:Nat) (hn:n<256):CallFn Tryz.prog 234 [.dat (.int .u8 n)] (aI (clsG n)):=by
 have hib:=IndexByte_fn signsT n
 rw[Int.toNat_natCast]at hib
 refine callFz_of Tryz.func234 rfl Tryz.ntmps234 (rs:=[.tmp 2]) rfl (by kernel_rfl) (by simp) (by kernel_rfl) ?_
 simp
 refine V.forI (σ:=Unit) 6 [0] (by simp;exact rfl) (fun i _=>[(2,aI 0),(5,aI i)]) (fun _ _=>[]) (fun i _=>(1<=i->¬(65<=n∧n<=90))∧(2<=i->¬(97<=n∧n<=122))∧(3<=i->¬(48<=n∧n<=57))∧(4<=i->n≠95)∧(5<=i->n≠32)∧(6<=i->n≠10)) () (by simp) (by simp) ⟨by simp;exact rfl,by simp⟩ ?_ ?_
 ·rintro i-hi ⟨h1,h2,h3,h4,h5,h6⟩
  have:i=0∨i=1∨i=2∨i=3∨i=4∨i=5:=by omega
  rcases this with rfl | rfl | rfl | rfl | rfl | rfl
  all_goals
   simp[rngG_tab]
   unfold clsG
   simp only[Nat.zero_le,Nat.le_refl,forall_const,Nat.reduceLeDiff]at h1 h2 h3 h4 h5 h6
   refine⟨fun a b=>?_,fun a=>?_⟩
   ·(repeat' split)<;>omega
   ·omega
 ·rintro-⟨h1,h2,h3,h4,h5,h6⟩
  simp
  refine hib.s ?_
  unfold clsG
  rw[if_neg (h1 (by omega)),if_neg (h2 (by omega)),if_neg (h3 (by omega)),if_neg (h4 (by omega)),if_neg (h5 (by omega)),if_neg (h6 (by omega))]
  by_cases h:0<=Go.Lib.indexByte signsT n.toUInt8
  ·simp[h]
  ·simp[h]
def runN (s:List UInt8):Nat:=s.findIdx fun b=>!innC b.toNat
abbrev clsK3:List (List L):=[[.int .i64 1],[.int .i64 2],[.int .i64 3]]
theorem runG_fn (s:List UInt8) (hs:s.length<=1000000000):CallFn Tryz.prog 235 [aT s,.dat (.sl clsK3)] (aI (runN s)):=by
 refine callFz_of Tryz.func235 rfl Tryz.ntmps235 (rs:=[.tmp 4]) rfl (by kernel_rfl) (by simp) (by kernel_rfl) ?_
 simp
 refine V.forI (σ:=Unit) s.length [0,1,10] (by simp;exact rfl) (fun i _=>[(4,aI 0),(11,aI i)]) (fun _ _=>[]) (fun i _=>∀j (hj:j<s.length),j<i->innC s[j].toNat=true) () (by simp) (by simp) ⟨by simp;exact rfl,by simp⟩ ?_ ?_
 ·rintro i-hi hI
  obtain⟨b,hb1⟩:∃b,s[i]=b:=⟨_,rfl⟩
  have hbo:s[i]?=some b:=by rw[List.getElem?_eq_getElem hi,hb1]
  have hcf:=classG_fn b.toNat b.toNat_lt
  have hci:=clsG_inn b.toNat
  have hstop:innC b.toNat=false->runN s=i:=fun h=>by
   unfold runN
   rw[List.findIdx_eq hi]
   refine⟨by rw[hb1,h];rfl,fun j hj=>?_⟩
   rw[hI j (by omega) hj]
   rfl
  have hgo:innC b.toNat=true->∀j (hj:j<s.length),j<i+1->innC s[j].toNat=true:=fun h j hj hji=>by
   by_cases e:j=i
   ·subst e
    rw[hb1,h]
   ·exact hI j hj (by omega)
  generalize clsG b.toNat=k at *
  simp[hi]
  refine V.forI (σ:=Unit) 3 [0,1,4,5,10,11,14,15] (by simp;exact rfl) (fun j _=>[(6,aB (decide (1<=k∧k<=j))),(16,aI j)]) (fun _ _=>[]) (fun _ _=>True) () trivial (by simp;omega) ⟨by simp;exact rfl,by simp⟩ ?_ ?_
  ·rintro j-hj -
   have:j=0∨j=1∨j=2:=by omega
   rcases this with rfl | rfl | rfl
   all_goals
    simp[hbo,hb1,hi]
    refine GCall.fn (aI k) (fun h=>⟨h,hcf⟩) ?_
    try simp
    rw[Bool.eq_iff_iff]
    simp only[Bool.or_eq_true,Bool.and_eq_true,decide_eq_true_eq,beq_iff_eq]
    omega
  ·rintro - -
   simp
   by_cases hk:1<=k∧k<=3
   ·have h1:=hci.1 (by omega)
    simp[hk]
    exact⟨by omega,by omega,hgo h1⟩
   ·have h1:innC b.toNat=false:=by
     cases h:innC b.toNat with
     | false=>rfl
     | true=>have:=hci.2 h;omega
    have hk2:¬(1<=k∧k<=3):=hk
    rw[hstop h1]
    simp[hk2]
    try omega
 ·rintro-hI
  have:runN s=s.length:=by
   unfold runN
   rw[List.findIdx_eq_length]
   intro b hb
   obtain⟨j,hj,e⟩:=List.getElem_of_mem hb
   rw[<- e,hI j hj hj]
   rfl
  rw[this]
  simp
theorem runN_all (s:List UInt8):runN s=s.length↔(s.all fun b=>innC b.toNat)=true:=by
 unfold runN
 rw[List.findIdx_eq_length,List.all_eq_true]
 constructor
 ·intro h b hb
  simpa using h b hb
 ·intro h b hb
  simp[h b hb]
theorem WordG_fn (s:List UInt8) (hs:s.length<=1000000000):CallFn Tryz.prog 164 [aT s] (aI (wordE s)):=by
 refine callFz_of Tryz.func164 rfl Tryz.ntmps164 (rs:=[.tmp 2]) rfl (by kernel_rfl) (by simp) (by kernel_rfl) ?_
 have hrf:=runG_fn s hs
 have hra:=runN_all s
 cases s with
 | nil=>
  unfold wordE
  simp
  refine GCall.fn .undef (fun h=>absurd h (by simp)) ?_
  simp
  refine GCall.fn .undef (fun h=>absurd h (by simp)) ?_
  simp
 | cons b r=>
  have hcf:=classG_fn b.toNat b.toNat_lt
  have hc1:=clsG_one b.toNat
  have hw:wordE (b::r)=if letC b.toNat=false then 3 else if ((b::r).all fun b=>innC b.toNat)=false then 3 else if 24<r.length+1 then 17 else 0:=by
   simp[wordE]
  rw[hw]
  simp only[List.length_cons]at hs hra hrf
  generalize runN (b::r)=n at *
  generalize ((b::r).all fun b=>innC b.toNat)=a at *
  generalize letC b.toNat=d at *
  generalize clsG b.toNat=k at *
  simp
  refine GCall.fn (aI k) (fun _=>⟨trivial,hcf⟩) ?_
  simp
  by_cases hk:k=1
  ·have hd:d=true:=hc1.1 hk
   subst hd
   simp[hk]
   refine GCall.fn (aI n) (fun _=>⟨trivial,hrf⟩) ?_
   simp
   by_cases hn:n=r.length+1
   ·have ha:=hra.1 hn
    subst ha
    by_cases h24:24<r.length+1
    ·simp[hn,h24]
     omega
    ·simp[hn,h24]
     omega
   ·have ha:a=false:=by
     cases a with
     | false=>rfl
     | true=>exact absurd (hra.2 rfl) hn
    subst ha
    have hn2:¬((n:Int)=(r.length:Int)+1):=by omega
    simp[hn2]
    try omega
  ·have hd:d=false:=by
    cases d with
    | false=>rfl
    | true=>exact absurd (hc1.2 rfl) hk
   subst hd
   simp[hk]
   refine GCall.fn .undef (fun h=>absurd h (by simp)) ?_
   simp
   exact⟨hk,fun h=>absurd h hk⟩
theorem find_bad (k:Int) (h:¬(0<=k∧k<14)):∃R:List A,R.length=12∧R.all cellB=true∧CallFn Tryz.prog 163 [aI k] (.tuple [.agg R,aI 1]):=by
 refine⟨[.dat (.str []),.dat (.str []),.dat (.sl []),.dat (.sl []),.dat (.sl []),.dat (.sl []),.dat (.sl []),.dat (.str []),.dat (.str []),aI 0,.nilf,.nilf],rfl,rfl,?_⟩
 refine callFz_of Tryz.func163 rfl Tryz.ntmps163 (rs:=[.cell 2 235,.tmp 3]) rfl (by kernel_rfl) (by simp) (by kernel_rfl) ?_
 simp
 intro b2
 exact fun h1 h2=>absurd ⟨h1,h2⟩ h
theorem partG_fn (p:Prt) (hs:p.name.length<=1000000000):CallFn Tryz.prog 98 [.record (encPa p)] (aI (partE p)):=by
 obtain⟨k,n,d⟩:=p
 have hw:=WordG_fn n hs
 have hf:∃(R:List A) (z:Int),R.length=12∧R.all cellB=true∧CallFn Tryz.prog 163 [aI k] (.tuple [.agg R,aI z])∧z=if 0<=k∧k<14 then 0 else 1:=by
  by_cases hk:0<=k∧k<14
  ·obtain⟨n,rfl⟩:∃n:Nat,k=n:=⟨k.toNat,by omega⟩
   have h1:n<14:=by omega
   exact⟨rowOf n,0,row_len n h1,row_cell n h1,find_fn n h1,by rw[if_pos hk]⟩
  ·obtain⟨R,a,b,c⟩:=find_bad k hk
   exact⟨R,1,a,b,c,by rw[if_neg hk]⟩
 obtain⟨R,z,hl,hcell,hf,hz⟩:=hf
 refine callFz_cut 2 Tryz.func98 rfl Tryz.ntmps98 (rs:=[.tmp 2]) rfl (by kernel_rfl) (by simp) (by kernel_rfl) ?_
 unfold partE
 by_cases hk:0<=k∧k<14
 ·rw[if_pos hk]at hz
  subst hz
  simp
  refine hf.s ?_
  simp
  intro b3
  refine⟨⟨hl,by omega,fun x hx=>?_⟩,?_⟩
  ·have hx2:=List.all_eq_true.1 hcell x hx
   cases x<;>exact hx2
  ·refine V.cutV [(1,.rptr [.int .i64 k,.str n,.int .i64 d]),(2,aI 0)] (Hs:=[]) (by simp) (by simp) (V.of_vc ?_)
   simp[hk]
   refine hw.s ?_
   by_cases hwz:wordE n=0
   ·simp[hwz]
    by_cases h12:k=12
    ·subst h12
     by_cases ha:d<1
     ·simp[ha]
      omega
     ·by_cases hb:1000000<d
      ·simp[ha,hb]
      ·simp[ha,hb]
    ·by_cases ha:d=0
     ·simp[h12,ha]
      omega
     ·simp[h12,ha]
      omega
   ·simp[hwz]
    intro h
    have:=h hk.1
    omega
 ·rw[if_neg hk]at hz
  subst hz
  simp[hk]
  refine hf.s ?_
  simp
  refine⟨⟨hl,by omega,fun x hx=>?_⟩,fun h1 h2=>absurd ⟨h1,h2⟩ hk⟩
  have hx2:=List.all_eq_true.1 hcell x hx
  cases x<;>exact hx2
def cmpZ (a b:PortZ):Int:=if cmpI a.1 b.1≠0 then cmpI a.1 b.1 else Go.Lib.compareBytes a.2 b.2
def cmpZZ (a b:PipeZ):Int:=if cmpZ a.1 b.1≠0 then cmpZ a.1 b.1 else cmpZ a.2 b.2
theorem compareZ_fn (a b:PortZ):CallFn Tryz.prog 100 [.record (encPo a),.record (encPo b)] (aI (cmpZ a b)):=by
 obtain⟨a1,a2⟩:=a
 obtain⟨b1,b2⟩:=b
 have h1:=cmpI_fn a1 b1
 have h2:=Compare_fnT a2 b2
 have h3:=cmpOr_fn (cmpI a1 b1) (Go.Lib.compareBytes a2 b2)
 refine callFz_of Tryz.func100 rfl Tryz.ntmps100 (rs:=[.tmp 4]) rfl (by kernel_rfl) (by simp) (by kernel_rfl) ?_
 simp
 refine V.drawX (fun t=>if t=9 then some (.fn (aI (cmpI a1 b1))) else if t=14 then some (.fn (aI (Go.Lib.compareBytes a2 b2))) else if t=16 then some (.fn (aI (cmpZ (a1,a2) (b1,b2)))) else none) (by kernel_rfl) (by kernel_rfl) (by simp) ?_
 simp
 exact⟨h1,h2,h3⟩
theorem pipesZ_fn (a b:PipeZ):CallFn Tryz.prog 101 [.record (encPi a),.record (encPi b)] (aI (cmpZZ a b)):=by
 obtain⟨⟨a1,a2⟩,a3,a4⟩:=a
 obtain⟨⟨b1,b2⟩,b3,b4⟩:=b
 have h1:=compareZ_fn (a1,a2) (b1,b2)
 have h2:=compareZ_fn (a3,a4) (b3,b4)
 have h3:=cmpOr_fn (cmpZ (a1,a2) (b1,b2)) (cmpZ (a3,a4) (b3,b4))
 refine callFz_of Tryz.func101 rfl Tryz.ntmps101 (rs:=[.tmp 4]) rfl (by kernel_rfl) (by simp) (by kernel_rfl) ?_
 simp
 refine V.drawX (fun t=>if t=9 then some (.fn (aI (cmpZ (a1,a2) (b1,b2)))) else if t=14 then some (.fn (aI (cmpZ (a3,a4) (b3,b4)))) else if t=16 then some (.fn (aI (cmpZZ ((a1,a2),a3,a4) ((b1,b2),b3,b4)))) else none) (by kernel_rfl) (by kernel_rfl) (by simp) ?_
 simp
 exact⟨h1,h2,h3⟩
theorem cmpIZ_lt (a b:Int):cmpI a b<0↔a<b:=by
 unfold cmpI
 split
 ·omega
 ·split<;>omega
theorem cmpZ_lt (a b:PortZ):cmpZ a b<0↔beforeZ a b=true:=by
 unfold cmpZ beforeZ lexB
 by_cases h:a.1=b.1
 ·rw[if_pos h,if_neg (by rw[h];simp[cmpI]),cmpT_lt]
 ·have h0:cmpI a.1 b.1≠0:=by unfold cmpI;split<;>(try split)<;>omega
  rw[if_neg h,if_pos h0,cmpIZ_lt]
  simp
theorem cmpZ_zero (a b:PortZ):cmpZ a b=0↔a=b:=by
 unfold cmpZ
 by_cases h:a.1=b.1
 ·rw[if_neg (by rw[h];simp[cmpI]),cmpT_zero]
  exact⟨fun h2=>Prod.ext h h2,fun h2=>by rw[h2]⟩
 ·have h0:cmpI a.1 b.1≠0:=by unfold cmpI;split<;>(try split)<;>omega
  rw[if_pos h0]
  exact⟨fun h2=>absurd h2 h0,fun h2=>absurd (by rw[h2]) h⟩
theorem cmpZZ_lt (a b:PipeZ):cmpZZ a b<0↔earlierZ a b=true:=by
 unfold cmpZZ earlierZ lexB
 by_cases h:a.1=b.1
 ·rw[if_pos h,if_neg (by rw[h];simp[cmpZ_zero]),cmpZ_lt]
 ·rw[if_neg h,if_pos (by rw[ne_eq,cmpZ_zero];exact h),cmpZ_lt]
theorem cmpZ_gt (a b:PortZ):0<cmpZ a b↔beforeZ b a=true:=by
 unfold cmpZ beforeZ lexB
 by_cases h:a.1=b.1
 ·rw[if_pos h.symm,if_neg (by rw[h];simp[cmpI]),cmpT_eq]
  cases h1:ltB a.2 b.2 with
  | true=>rw[if_pos rfl,ltB_asymm h1];simp
  | false=>cases h2:ltB b.2 a.2<;>simp
 ·have h0:cmpI a.1 b.1≠0:=by unfold cmpI;split<;>(try split)<;>omega
  rw[if_pos h0,if_neg (fun e:b.1=a.1=>h e.symm)]
  simp only[decide_eq_true_eq]
  unfold cmpI
  split<;>(try split)<;>omega
theorem findZ1_fn (p:Prt) (t:List UInt8):CallFn Tryz.prog 213 [.record (encPa p),.rptr [.str t]] (aB (p.name==t)):=by
 refine callFz_of Tryz.func213 rfl Tryz.ntmps213 (rs:=[.tmp 3]) rfl (by kernel_rfl) (by simp) (by kernel_rfl) ?_
 simp
theorem idxPZ_fn (ps:List Prt) (t:List UInt8) (hx:Sh ps) :
  CallFn Tryz.prog 77 [.dat (.sl (ps.map encPa)),.fn 213 [] [.rptr [.str t]]] (aI (idxI (findN ps t))):=by
 unfold findN
 refine callFz_of Tryz.func77 rfl Tryz.ntmps77 (rs:=[.tmp 4]) rfl (by kernel_rfl) (by simp) (by kernel_rfl) ?_
 simp
 refine V.forI (σ:=Unit) ps.length [0,1,7] (by simp;exact rfl) (fun i _=>[(8,aI i)]) (fun _ _=>[]) (fun i _=>NoF (fun p:Prt=>p.name==t) (ps.take i)) () (by simp) (by simp) ⟨by simp;exact rfl,by simp⟩ ?_ ?_
 ·rintro i-hi hI
  obtain⟨y,hy⟩:∃y,ps[i]=y:=⟨_,rfl⟩
  have h1:ps[i]?=some y:=by rw[List.getElem?_eq_getElem hi,hy]
  have hs:=findIdx_step (p:=fun p:Prt=>p.name==t) hI h1
  have hc:=findZ1_fn y t
  simp[hi,hy]
  refine hc.s ?_
  cases e:(y.name==t)
  ·simp
   exact⟨by omega,hs.1 e⟩
  ·rw[hs.2 e]
   simp
 ·rintro-hI
  rw[findIdx_none hI]
  simp
theorem findZ_fn (c:Cir) (t:List UInt8) (hx:Sh c.parts):CallFn Tryz.prog 150 [aCi c,aT t] (aI (idxI (findN c.parts t))):=by
 have h:=idxPZ_fn c.parts t hx
 refine callFz_of Tryz.func150 rfl Tryz.ntmps150 (rs:=[.tmp 4]) rfl (by kernel_rfl) (by simp) (by kernel_rfl) ?_
 simp
 refine h.s ?_
 simp
def ownI (ps:List Prt) (t:List UInt8):Int:=if ownN ps t=true then idxI (findN ps t.dropLast) else -1
theorem findN_ex {ps:List Prt}{t:List UInt8}{j:Nat}(h:findN ps t=some j):∃q,ps[j]?=some q∧q.name=t:=by
 unfold findN at h
 obtain⟨hj,h1,_⟩:=List.findIdx?_eq_some_iff_getElem.1 h
 exact⟨ps[j],List.getElem?_eq_getElem hj,by simpa using h1⟩
theorem ownI_lt (ps:List Prt) (t:List UInt8):ownI ps t<0↔ownN ps t=false:=by
 unfold ownI
 by_cases h:ownN ps t=true
 ·rw[if_pos h,h]
  unfold ownN at h
  simp only[Bool.and_eq_true]at h
  cases hf:findN ps t.dropLast with
  | none=>rw[hf]at h;simp at h
  | some j=>simp[idxI]
 ·rw[if_neg h]
  simp only[Bool.not_eq_true]at h
  simp[h]
theorem ownerZ_fn (c:Cir) (p:Prt) (hx:Sh c.parts) (hq:p.name.length<=1000) (hn:p.name≠[]):CallFn Tryz.prog 99 [aCi c,.record (encPa p)] (aI (ownI c.parts p.name)):=by
 obtain⟨pk,pn,pd⟩:=p
 simp only at hq hn ⊢
 obtain⟨q,x,rfl⟩:∃q x,pn=q++[x]:=by
  rcases List.eq_nil_or_concat pn with e | ⟨q,x,e⟩
  ·exact absurd e hn
  ·exact⟨q,x,by rw[e,List.concat_eq_append]⟩
 simp at hq
 have hfi:=findZ_fn c q hx
 have c0:=cutSuf_fn q x 48 (by omega)
 have c1:=cutSuf_fn q x 49 (by omega)
 have ho:ownN c.parts (q++[x])=((x==48||x==49)&&match findN c.parts q with
  | some j=>(c.parts[j]?).any fun q=>q.kind==1
  | none=>false):=by
  simp[ownN]
  all_goals rfl
 have hex:=@findN_ex c.parts q
 unfold ownI
 rw[ho,show (q++[x]).dropLast=q by simp]
 obtain⟨ps,l⟩:=c
 simp only at hx hfi hex ⊢
 refine callFz_of Tryz.func99 rfl Tryz.ntmps99 (rs:=[.tmp 4]) rfl (by kernel_rfl) (by simp) (by kernel_rfl) ?_
 simp
 refine c0.s ?_
 by_cases h0:x=48
 ·subst h0
  simp
  refine hfi.s ?_
  cases hf:findN ps q with
  | none=>cases hps:ps[0]?<;>simp[idxI,hps]
  | some j=>
   obtain⟨y,hy,_⟩:=hex hf
   obtain⟨hj,hy1⟩:=List.getElem?_eq_some_iff.1 hy
   by_cases hk:y.kind=1
   ·simp[idxI,hy,hy1,hj,hk]
   ·simp[idxI,hy,hy1,hj,hk]
 ·by_cases h1:x=49
  ·subst h1
   simp
   refine c1.s ?_
   simp
   refine hfi.s ?_
   cases hf:findN ps q with
   | none=>cases hps:ps[0]?<;>simp[idxI,hps]
   | some j=>
    obtain⟨y,hy,_⟩:=hex hf
    obtain⟨hj,hy1⟩:=List.getElem?_eq_some_iff.1 hy
    by_cases hk:y.kind=1
    ·simp[idxI,hy,hy1,hj,hk]
    ·simp[idxI,hy,hy1,hj,hk]
  ·simp[h0]
   refine c1.s ?_
   simp[h0,h1]
theorem indexedZ_fn (c:Cir) (a b:PortZ) (hx:Sh c.parts):CallFn Tryz.prog 92 [aCi c,.dat (.sl [encPo a,encPo b])] (aI (if inPort c.parts a=true∧inPort c.parts b=true then 0 else 2)):=by
 obtain⟨ps,l⟩:=c
 simp only at hx ⊢
 unfold inPort
 simp only[decide_eq_true_eq]
 refine callFz_of Tryz.func92 rfl Tryz.ntmps92 (rs:=[.tmp 4]) rfl (by kernel_rfl) (by simp) (by kernel_rfl) ?_
 simp
 refine V.forI (σ:=Unit) 2 [2,7,8] (by simp;exact rfl) (fun i _=>[(4,aI 0),(9,aI i)]) (fun _ _=>[]) (fun i _=>(1<=i->0<=a.1∧a.1<ps.length)∧(2<=i->0<=b.1∧b.1<ps.length)) () (by simp) (by simp) ⟨by simp;exact rfl,by simp⟩ ?_ ?_
 ·rintro i-hi ⟨hI1,hI2⟩
  have hc:i=0∨i=1:=by omega
  rcases hc with rfl | rfl
  ·simp
   intros
   omega
  ·simp
   exact⟨fun h=>by omega,fun h1 h2=>⟨hI1 (by omega),h1,h2⟩⟩
 ·rintro-⟨hI1,hI2⟩
  have:=hI1 (by omega)
  have:=hI2 (by omega)
  simp[*]
theorem portsK_le:∀k,k<14->(portsK k).Pairwise fun a b=>decide (a<=b)=true:=by decide
theorem portsK_perm:∀k,k<14->(rowTs k).flatten.Perm (portsK k):=by decide
theorem ports_eq (k:Nat) (hk:k<14):sortT (portT k)=portsK k:=by
 have h1:(sortT (portT k)).Pairwise fun a b=>decide (a<=b)=true:=by
  unfold sortT
  refine List.pairwise_mergeSort ?_ ?_ _
  ·intro a b c h1 h2
   simp only[decide_eq_true_eq]at *
   exact List.le_trans h1 h2
  ·intro a b
   simp only[Bool.or_eq_true,decide_eq_true_eq]
   exact List.le_total a b
 have h2:(sortT (portT k)).Perm (portsK k):=(List.mergeSort_perm _ _).trans ((List.mergeSort_perm _ _).trans (portsK_perm k hk))
 refine sorted_same (fun a b _ _ h3 h4=>?_) h1 (portsK_le k hk) h2
 simp only[decide_eq_true_eq]at h3 h4
 exact List.le_antisymm h3 h4
theorem portsZ_fn (p:Prt) (hk:0<=p.kind∧p.kind<14):CallFn Tryz.prog 158 [.record (encPa p)] (aTs (portsK p.kind.toNat)):=by
 obtain⟨k,n,d⟩:=p
 simp only at hk ⊢
 obtain⟨m,rfl⟩:∃m:Nat,k=m:=⟨k.toNat,by omega⟩
 have h:=ports_fn m (by omega) n d
 rw[ports_eq m (by omega)]at h
 exact h
theorem containsP_fn (k:Nat) (t:List UInt8):CallFn Tryz.prog 157 [aTs (portsK k),aT t] (aB (hasK k t)):=by
 have hl:=portsK_len k
 have h:=containsT_fn (portsK k) t (by unfold Sh;omega)
 have:(portsK k).any (t==·)=hasK k t:=by
  rw[Bool.eq_iff_iff,hasK_mem,List.any_eq_true]
  constructor
  ·rintro⟨x,hx,e⟩
   rw[beq_iff_eq.1 e]
   exact hx
  ·intro h
   exact⟨t,h,by simp⟩
 rwa [this]at h
theorem existsZ_fn (c:Cir) (a b:PortZ) (hx:Sh c.parts) (hk:∀p∈c.parts,0<=p.kind∧p.kind<14) (ha:inPort c.parts a=true) (hb:inPort c.parts b=true) :
  CallFn Tryz.prog 93 [aCi c,.dat (.sl [encPo a,encPo b])] (aI (if hasPort c.parts a=true∧hasPort c.parts b=true then 0 else 6)):=by
 obtain⟨ps,l⟩:=c
 simp only at hx hk ha hb ⊢
 obtain⟨a1,a2⟩:=a
 obtain⟨b1,b2⟩:=b
 unfold inPort at ha hb
 simp only[decide_eq_true_eq]at ha hb
 obtain⟨i,rfl⟩:∃i:Nat,a1=i:=⟨a1.toNat,by omega⟩
 obtain⟨j,rfl⟩:∃j:Nat,b1=j:=⟨b1.toNat,by omega⟩
 have hi:i<ps.length:=by omega
 have hj:j<ps.length:=by omega
 obtain⟨p,hp⟩:∃p,ps[i]=p:=⟨_,rfl⟩
 have hpo:ps[i]?=some p:=by rw[List.getElem?_eq_getElem hi,hp]
 obtain⟨q,hq⟩:∃q,ps[j]=q:=⟨_,rfl⟩
 have hqo:ps[j]?=some q:=by rw[List.getElem?_eq_getElem hj,hq]
 have f1:=portsZ_fn p (hk p (List.mem_of_getElem? hpo))
 have f2:=portsZ_fn q (hk q (List.mem_of_getElem? hqo))
 have g1:=containsP_fn p.kind.toNat a2
 have g2:=containsP_fn q.kind.toNat b2
 have h1:hasPort ps ((i:Int),a2)=hasK p.kind.toNat a2:=by simp[hasPort,hpo]
 have h2:hasPort ps ((j:Int),b2)=hasK q.kind.toNat b2:=by simp[hasPort,hqo]
 rw[h1,h2]
 generalize hasK p.kind.toNat a2=z1 at *
 generalize hasK q.kind.toNat b2=z2 at *
 generalize portsK p.kind.toNat=F1 at *
 generalize portsK q.kind.toNat=F2 at *
 refine callFz_of Tryz.func93 rfl Tryz.ntmps93 (rs:=[.tmp 4]) rfl (by kernel_rfl) (by simp) (by kernel_rfl) ?_
 simp
 refine V.forI (σ:=Unit) 2 [2,7,8] (by simp;exact rfl) (fun i _=>[(4,aI 0),(9,aI i)]) (fun _ _=>[]) (fun i _=>(1<=i->z1=true)∧(2<=i->z2=true)) () (by simp) (by simp) ⟨by simp;exact rfl,by simp⟩ ?_ ?_
 ·rintro n-hn ⟨hI1,hI2⟩
  have hc:n=0∨n=1:=by omega
  rcases hc with rfl | rfl
  ·simp
   intro b6
   refine V.drawX (fun t=>if t=19 then some (.fn (aTs F1)) else if t=22 then some (.fn (aB z1)) else none) (by kernel_rfl) (by kernel_rfl) (by simp) ?_
   simp[hi,hp,hpo]
   exact⟨f1,g1,fun h=>by simp[h]⟩
  ·simp
   intro b6
   refine V.drawX (fun t=>if t=19 then some (.fn (aTs F2)) else if t=22 then some (.fn (aB z2)) else none) (by kernel_rfl) (by kernel_rfl) (by simp) ?_
   simp[hj,hq,hqo]
   exact⟨f2,g2,fun h=>by simp[h],fun h=>⟨hI1 (by omega),h⟩⟩
 ·rintro-⟨hI1,hI2⟩
  have:=hI1 (by omega)
  have:=hI2 (by omega)
  simp[*]
end Go.Proofs.YtafamcbdaeppoaaGreatDoor
