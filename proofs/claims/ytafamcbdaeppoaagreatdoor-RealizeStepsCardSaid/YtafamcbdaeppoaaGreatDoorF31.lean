/- Texts joined by a program: Lk,Lt,Ol,Oa,Oe,Od,Ej,Ek,Sp,Sa,Gaa,Sb,Sc,Vba,Om,On,Sr,Ozc,Pc,Aa,Ba,Bka. -/
import Derived.ChangeMaps5
import Derived.Lay
import Derived.Test.YtafamcbdaeppoaaGreatDoorF30
import Derived.Test.YtafamcbdaeppoaaGreatDoorF5
import Derived.Test.YtafamcbdaeppoaaGreatDoorF29
import Derived.Test.YtafamcbdaeppoaaGreatDoorF26
import Derived.Test.YtafamcbdaeppoaaGreatDoorF25
import Derived.Test.YtafamcbdaeppoaaGreatDoorF14
import Derived.Test.YtafamcbdaeppoaaGreatDoorF16
import Derived.Test.YtafamcbdaeppoaaGreatDoorF18
import Derived.Test.YtafamcbdaeppoaaGreatDoorF20
import Derived.Test.YtafamcbdaeppoaaGreatDoorF28
set_option linter.unusedSimpArgs false
set_option linter.unusedVariables false
set_option maxHeartbeats 8000000
set_option maxRecDepth 100000
namespace Go.Proofs.YtafamcbdaeppoaaGreatDoor
section
open Go.ChangeShapes Go.WideShapes Go.ChangeAt Go.RowKit
abbrev tys:List TypeId:=[9,63,3,61,4]
theorem tys_good:goodT Tryz.prog 4 tys=true:=by kernel_rfl
abbrev lfE:List Lf:=[.int .i64,.int .i64,.sl 61]
abbrev lfS:List Lf:=[.str,.int .i64,.int .i64,.int .i64,.sl 61,.int .i64,.int .i64,.sl 61,.int .i64,.bool]
abbrev lfC:List Lf:=[.int .i64,.sl 9,.sl 63,.sl 3,.sl 3]
abbrev lfSt:List Lf:=[.sl 3,.sl 4,.sl 4,.sl 4,.sl 3]
theorem leavesE:leavesT Tryz.prog 4 61=some lfE:=by kernel_rfl
theorem leavesS:leavesT Tryz.prog 4 63=some lfS:=by kernel_rfl
theorem leavesC:leavesT Tryz.prog 4 26=some lfC:=by kernel_rfl
theorem leavesSt:leavesT Tryz.prog 4 29=some lfSt:=by kernel_rfl
theorem leavesI:leavesT Tryz.prog 4 3=some [.int .i64]:=by kernel_rfl
theorem leavesB:leavesT Tryz.prog 4 4=some [.bool]:=by kernel_rfl
theorem leavesX:leavesT Tryz.prog 4 9=some [.str]:=by kernel_rfl
theorem all1 {R:Lf->L->Prop}{f:Lf}{r:List L}(h:All2 R [f] r):∃l,r=[l]∧R f l:=by
 rcases r with _ | ⟨a,_ | ⟨b,r⟩⟩<;>simp only[All2,and_true,and_false]at h
 exact⟨a,rfl,h⟩
theorem lift_sl {α:Type}{enc:α->List L}{Ok:α->Prop}{n:Nat}{e:TypeId}{l:L}(h:OkV Tryz.prog 4 n (.sl e) l) {lfs:List Lf}(he:leavesT Tryz.prog 4 e=some lfs)
  (hr:∀m r,n=m+1->All2 (OkV Tryz.prog 4 m) lfs r->∃a,r=enc a∧Ok a):∃xs:List α,l=.sl (xs.map enc)∧Sh xs∧∀a∈xs,Ok a:=by
 cases n with
 | zero=>simp[OkV]at h
 | succ m=>
  simp only[OkV]at h
  obtain⟨rows,rfl,h1,h2⟩:=h
  obtain⟨xs,rfl,hx⟩:=lift_list (enc:=enc) (Ok:=Ok) (rows:=rows) fun r hrr=>by
   obtain⟨lfs',h3,h4⟩:=h2 r hrr
   rw[he]at h3
   cases h3
   exact hr m r rfl h4
  exact⟨xs,rfl,by simpa [maxLen,Sh]using h1,hx⟩
theorem lift_I {n:Nat}{l:L}(h:OkV Tryz.prog 4 n (.sl 3) l):∃xs:List Int,l=.sl (xs.map encI)∧Sh xs∧∀a∈xs,I64 a:=by
 refine lift_sl (Ok:=I64) h leavesI ?_
 intro m r _ hr
 obtain⟨l,rfl,hl⟩:=all1 hr
 have:∃k,l=.int .i64 k∧(Lit.int .i64 k).wf=true:=by cases m<;>simpa [OkV]using hl
 obtain⟨k,rfl,hk⟩:=this
 exact⟨k,rfl,wf_i64 hk⟩
theorem lift_B {n:Nat}{l:L}(h:OkV Tryz.prog 4 n (.sl 4) l):∃xs:List Bool,l=.sl (xs.map encB)∧Sh xs:=by
 obtain⟨xs,h1,h2,_⟩:=lift_sl (enc:=encB) (Ok:=fun _=>True) h leavesB (by
  intro m r _ hr
  obtain⟨l,rfl,hl⟩:=all1 hr
  have:∃k,l=.bool k:=by cases m<;>simpa [OkV]using hl
  obtain⟨k,rfl⟩:=this
  exact⟨k,rfl,trivial⟩)
 exact⟨xs,h1,h2⟩
theorem lift_T {n:Nat}{l:L}(h:OkV Tryz.prog 4 n (.sl 9) l):∃xs:List (List UInt8),l=.sl (xs.map encT)∧Sh xs∧∀a∈xs,Sh a:=by
 refine lift_sl (Ok:=fun s:List UInt8=>Sh s) h leavesX ?_
 intro m r _ hr
 obtain⟨l,rfl,hl⟩:=all1 hr
 have:∃s,l=.str s∧s.length<=maxLen:=by cases m<;>simpa [OkV]using hl
 obtain⟨s,rfl,hs⟩:=this
 exact⟨s,rfl,by simpa [maxLen,Sh]using hs⟩
theorem ok_int {n:Nat}{l:L}(h:OkV Tryz.prog 4 n (.int .i64) l):∃k,l=.int .i64 k∧I64 k:=by
 have:∃k,l=.int .i64 k∧(Lit.int .i64 k).wf=true:=by cases n<;>simpa [OkV]using h
 obtain⟨k,rfl,hk⟩:=this
 exact⟨k,rfl,wf_i64 hk⟩
theorem ok_bool {n:Nat}{l:L}(h:OkV Tryz.prog 4 n .bool l):∃k,l=.bool k:=by cases n<;>simpa [OkV]using h
theorem ok_str {n:Nat}{l:L}(h:OkV Tryz.prog 4 n .str l):∃s,l=.str s∧Sh s:=by
 have:∃s,l=.str s∧s.length<=maxLen:=by cases n<;>simpa [OkV]using h
 obtain⟨s,rfl,hs⟩:=this
 exact⟨s,rfl,by simpa [maxLen,Sh]using hs⟩
theorem lift_E:∀(n:Nat) (r:List L),All2 (OkV Tryz.prog 4 n) lfE r->∃x:Expr,r=encE x∧OkE x
 | n,r,h=>by
  rcases r with _ | ⟨a,_ | ⟨b,_ | ⟨c,_ | ⟨d,r⟩⟩⟩⟩<;>simp only[All2,and_true,and_false]at h
  obtain⟨h1,h2,h3⟩:=h
  obtain⟨k1,rfl,i1⟩:=ok_int h1
  obtain⟨k2,rfl,i2⟩:=ok_int h2
  obtain⟨xs,rfl,s1,s2⟩:=lift_sl (enc:=encE) (Ok:=OkE) h3 leavesE (by
   intro m r e hr
   exact lift_E m r hr)
  exact⟨⟨k1,k2,xs⟩,by simp[encE],OkE.mk _ s1 ((inR_i64 _).2 i1) ((inR_i64 _).2 i2) s2⟩
termination_by n=>n
decreasing_by omega
theorem lift_El {n:Nat}{l:L}(h:OkV Tryz.prog 4 n (.sl 61) l):∃xs:List Expr,l=.sl (xs.map encE)∧Sh xs∧∀a∈xs,OkE a:=
 lift_sl h leavesE fun m r _ hr=>lift_E m r hr
theorem lift_S {n:Nat}{r:List L}(h:All2 (OkV Tryz.prog 4 n) lfS r):∃x:Signal,r=encS x∧OkS x:=by
 rcases r with _ | ⟨a0,_ | ⟨a1,_ | ⟨a2,_ | ⟨a3,_ | ⟨a4,_ | ⟨a5,_ | ⟨a6,_ | ⟨a7,_ | ⟨a8,_ | ⟨a9,_ | ⟨a10,r⟩⟩⟩⟩⟩⟩⟩⟩⟩⟩⟩<;>simp only[All2,and_true,and_false]at h
 obtain⟨h0,h1,h2,h3,h4,h5,h6,h7,h8,h9⟩:=h
 obtain⟨s,rfl,j0⟩:=ok_str h0
 obtain⟨k1,rfl,j1⟩:=ok_int h1
 obtain⟨k2,rfl,j2⟩:=ok_int h2
 obtain⟨k3,rfl,j3⟩:=ok_int h3
 obtain⟨x4,rfl,s4,e4⟩:=lift_El h4
 obtain⟨k5,rfl,j5⟩:=ok_int h5
 obtain⟨k6,rfl,j6⟩:=ok_int h6
 obtain⟨x7,rfl,s7,e7⟩:=lift_El h7
 obtain⟨k8,rfl,j8⟩:=ok_int h8
 obtain⟨b9,rfl⟩:=ok_bool h9
 exact⟨⟨s,k1,⟨k2,k3,x4⟩,⟨k5,k6,x7⟩,k8,b9⟩,rfl,⟨j0,j1,OkE.mk _ s4 ((inR_i64 _).2 j2) ((inR_i64 _).2 j3) e4,OkE.mk _ s7 ((inR_i64 _).2 j5) ((inR_i64 _).2 j6) e7,j8⟩⟩
theorem lift_C {n:Nat}{r:List L}(h:All2 (OkV Tryz.prog 4 n) lfC r):∃c:Control,r=encC c∧OkC c:=by
 rcases r with _ | ⟨a0,_ | ⟨a1,_ | ⟨a2,_ | ⟨a3,_ | ⟨a4,_ | ⟨a5,r⟩⟩⟩⟩⟩⟩<;>simp only[All2,and_true,and_false]at h
 obtain⟨h0,h1,h2,h3,h4⟩:=h
 obtain⟨k0,rfl,j0⟩:=ok_int h0
 obtain⟨x1,rfl,s1,e1⟩:=lift_T h1
 obtain⟨x2,rfl,s2,e2⟩:=lift_sl (enc:=encS) (Ok:=OkS) h2 leavesS fun m r _ hr=>lift_S hr
 obtain⟨x3,rfl,s3,e3⟩:=lift_I h3
 obtain⟨x4,rfl,s4,e4⟩:=lift_I h4
 exact⟨⟨k0,x1,x2,x3,x4⟩,rfl,⟨j0,s1,e1,s2,e2,s3,s4,e3,e4⟩⟩
theorem lift_St {n:Nat}{r:List L}(h:All2 (OkV Tryz.prog 4 n) lfSt r):∃s:State,r=encSt s∧OkSt s:=by
 rcases r with _ | ⟨a0,_ | ⟨a1,_ | ⟨a2,_ | ⟨a3,_ | ⟨a4,_ | ⟨a5,r⟩⟩⟩⟩⟩⟩<;>simp only[All2,and_true,and_false]at h
 obtain⟨h0,h1,h2,h3,h4⟩:=h
 obtain⟨x0,rfl,s0,e0⟩:=lift_I h0
 obtain⟨x1,rfl,s1⟩:=lift_B h1
 obtain⟨x2,rfl,s2⟩:=lift_B h2
 obtain⟨x3,rfl,s3⟩:=lift_B h3
 obtain⟨x4,rfl,s4,e4⟩:=lift_I h4
 exact⟨⟨x0,x1,x2,x3,x4⟩,rfl,⟨s0,s1,s2,s3,s4,e0,e4⟩⟩
theorem read_C {H:Type}{enc:TypeId×Value->H}{W:World}{base:Nat}{v:Value}{d:DataW H}{ps:List MemPlace}(hv:Value.okWide Tryz.prog W .any base 26 v) (hd:DataW.Trod enc Tryz.prog W 0 (fun _=>true) true 26 v d ps) :
  ∃c:Control,D (X0 W) (aC c) v∧OkC c:=by
 have h0:lfC.all (inT tys)=true:=by decide
 obtain⟨ls,n,h1,h2⟩:=read_arg tys_good Tryz.underlying26 leavesC h0 hv hd
 obtain⟨c,rfl,hc⟩:=lift_C h2
 exact⟨c,h1,hc⟩
theorem read_St {H:Type}{enc:TypeId×Value->H}{W:World}{base:Nat}{v:Value}{d:DataW H}{ps:List MemPlace}(hv:Value.okWide Tryz.prog W .any base 29 v) (hd:DataW.Trod enc Tryz.prog W 0 (fun _=>true) true 29 v d ps) :
  ∃s:State,D (X0 W) (aSt s) v∧OkSt s:=by
 have h0:lfSt.all (inT tys)=true:=by decide
 obtain⟨ls,n,h1,h2⟩:=read_arg tys_good Tryz.underlying29 leavesSt h0 hv hd
 obtain⟨c,rfl,hc⟩:=lift_St h2
 exact⟨c,h1,hc⟩
theorem facts:laidOutB Tryz.prog=true∧mapsRowed Tryz.prog=true∧∀t e,t<(Tryz.prog).types.size->(Tryz.prog).underlying t=some (.slice e)->0<(Tryz.prog).cellsOf e:=
 ⟨by kernel_rfl,by kernel_rfl,slices_full_of _ (by kernel_rfl)⟩
end
section
open Go.ChangeShapes Go.WideShapes Go.ChangeAt Go.RowKit
variable {P:Program}
def cellsD:Nat->DataW Unit->Option (List Value)
 | 0,_=>none
 | _+1,.lit (.int k n)=>some [.int k n]
 | m+1,.agg ds=>(ds.mapM (cellsD m)).map List.flatten
 | _,_=>none
def niceT (P:Program):Nat->TypeId->Bool
 | 0,_=>false
 | m+1,t=>match P.underlying t with
  | some (.int _)=>true
  | some (.array n e)=>n*P.cellsOf e==P.cellsOf t&&niceT P m e
  | _=>false
theorem chunks {α:Type}(sz:Nat) (cs:List α):∀n,n*sz<=cs.length->((List.range n).map fun i=>(cs.drop (i*sz)).take sz).flatten=cs.take (n*sz)
 | 0,_=>by simp
 | n+1,h=>by
  rw[List.range_succ,List.map_append,List.flatten_append,chunks sz cs n (by rw[Nat.add_mul]at h;omega)]
  simp only[List.map_cons,List.map_nil,List.flatten_cons,List.flatten_nil,List.append_nil]
  rw[Nat.add_mul,Nat.one_mul,List.take_add]
theorem mapM_some {α β:Type}{f:α->Option β}:∀ {l:List α}{r:List β},l.mapM f=some r->l.map f=r.map some
 | [],r,h=>by
  simp at h
  subst h
  rfl
 | a::l,r,h=>by
  rw[List.mapM_cons]at h
  cases ha:f a with
  | none=>rw[ha]at h;simp at h
  | some b=>
   cases hl:l.mapM f with
   | none=>rw[ha,hl]at h;simp at h
   | some s=>
    rw[ha,hl]at h
    simp at h
    subst h
    simp[ha,mapM_some hl]
theorem cells_of_trod {W:World}{base:Nat}{sp:Nat->Bool}{held:Bool}:∀(m fuel:Nat) (t:TypeId) (cs:List Value) (d:DataW Unit) (p:List MemPlace) (vs:List Value),
  DataW.trod (fun _=>()) P W base sp held fuel t cs=some (d,p)->niceT P m t=true->cellsD m d=some vs->cs=vs
 | 0,_,_,_,_,_,_,_,h,_=>by simp[niceT]at h
 | m+1,0,_,_,_,_,_,h,_,_=>by simp[DataW.trod]at h
 | m+1,fuel+1,t,cs,d,p,vs,h,hn,hc=>by
  unfold niceT at hn
  unfold DataW.trod at h
  split at hn
  ·rename_i k hk
   rw[hk]at h
   split at h<;>rename_i e1<;>try (simp at e1;done)
   all_goals first
    | (split at h
       ·simp only[Option.some.injEq,Prod.mk.injEq]at h
        obtain⟨rfl,rfl⟩:=h
        rename_i hkk
        simp only[cellsD,Option.some.injEq]at hc
        subst hc
        obtain⟨rfl,_⟩:=hkk
        simp only[Option.some.injEq,TypeDesc.int.injEq]at e1
        subst e1
        rfl
       ·cases h)
    | (cases h;done)
  ·rename_i n e hk
   simp only[Bool.and_eq_true,beq_iff_eq]at hn
   rw[hk]at h
   simp only at h
   split at h
   ·rename_i hl
    obtain⟨xs,hx,e1⟩:=Option.map_eq_some_iff.1 h
    simp only[Prod.mk.injEq]at e1
    obtain⟨rfl,-⟩:=e1
    simp only[cellsD]at hc
    obtain⟨ys,hy,rfl⟩:=Option.map_eq_some_iff.1 hc
    have h1:=mapM_some hx
    have h2:=mapM_some hy
    have hlen:xs.length=n:=by
     have:=congrArg List.length h1
     simpa using this.symm
    have hlen2:ys.length=n:=by
     have:=congrArg List.length h2
     simp at this
     omega
    have key:((List.range n).map fun i=>(cs.drop (i*P.cellsOf e)).take (P.cellsOf e))=ys:=by
     apply List.ext_getElem
     ·simp[hlen2]
     ·intro i a1 a2
      have b1:((List.range n).map fun i=>DataW.trod (fun _=>()) P W base sp held fuel e ((cs.drop (i*P.cellsOf e)).take (P.cellsOf e)))[i]?=(xs.map some)[i]?:=by rw[h1]
      have b2:((xs.map (·.1)).map (cellsD m))[i]?=(ys.map some)[i]?:=by rw[h2]
      have hi:i<n:=by omega
      rw[List.getElem?_map,List.getElem?_range hi,List.getElem?_map,List.getElem?_eq_getElem (show i<xs.length by omega)]at b1
      rw[List.getElem?_map,List.getElem?_map,List.getElem?_eq_getElem (show i<xs.length by omega),List.getElem?_map,List.getElem?_eq_getElem a2]at b2
      simp only[Option.map_some,Option.some.injEq]at b1 b2
      have:=cells_of_trod m fuel e _ xs[i].1 xs[i].2 ys[i] b1 hn.2 b2
      simpa using this
    rw[<- key,chunks _ _ _ (by omega),List.take_of_length_le (by omega)]
   ·cases h
  ·cases hn
theorem laid_at {W:World}:∀ {l:List (String×DataW Unit)}{ps:List MemPlace},DataW.LaidVars P W l ps->∀ {n:String}{d:DataW Unit},(n,d)∈l ->
  ∃g t cs fuel p,P.globalNamed n=some g∧(P.globals[g]?).map (·.type)=some t∧W.var? P n=some cs∧DataW.trod (fun _=>()) P W 0 (fun _=>true) false fuel t cs.toList=some (d,p)
 | [],_,_,_,_,h=>by cases h
 | (n',d')::r,ps,h,n,d,hm=>by
  obtain⟨g,t,cs,fuel,p,q,h1,h2,h3,h4,h5,_⟩:=h
  rcases List.mem_cons.1 hm with e | hm
  ·cases e
   exact⟨g,t,cs,fuel,p,h1,h2,h3,h4⟩
  ·exact laid_at h5 hm
def tabB (P:Program) (g:Nat):Bool:=match (P.globals[g]?).map (·.type) with
 | some t=>niceT P 4 t
 | none=>false
theorem tab_one {W:World}{laid:List (String×DataW Unit)}(hL:laidMet P laid W) {n:String}{d:DataW Unit}(hm:(n,d)∈laid) {g:Nat}{ls:List L}(hg:P.globalNamed n=some g) (hB:tabB P g=true) (hc:cellsD 4 d=some (ls.map plV)) :
  (X0 W).ok g∧∃ty fr,(X0 W).w.heap[g]?=some (.cells (ls.map plV).toArray ty fr):=by
 obtain⟨ps,hv,_,_⟩:=hL
 obtain⟨g',t',cs,fuel,p,h1,h2,h3,h4⟩:=laid_at hv hm
 obtain rfl:=Option.some.inj (hg.symm.trans h1)
 have hn:niceT P 4 t'=true:=by
  unfold tabB at hB
  rw[h2]at hB
  exact hB
 have e:=cells_of_trod 4 fuel t' cs.toList d p _ h4 hn hc
 unfold World.var? at h3
 rw[hg]at h3
 simp only[Option.bind_some]at h3
 split at h3
 ·rename_i c ty fr hh
  simp only[Option.some.injEq]at h3
  subst h3
  refine⟨(Array.getElem?_eq_some_iff.1 hh).1,ty,fr,?_⟩
  show W.heap[g]?=_
  rw[hh,<- e]
 ·cases h3
end
theorem statesD_s {s:PuS}{c:Cir}{pos:List Int}(h:s.Of c pos) :
  CallS Tryz.prog 58 [.ptr 170 s.b 0,aIs pos] s.hp fun r H'=>r=aIs (statesZ s.ps s.ns pos)∧H'=s.hp:=
 CallS.frzTop (τ:=18) (e:=3) (sz:=1) (rows:=(statesZ s.ps s.ns pos).map rI) (by simp[allD,isD]) (by simp[rowsD]) ((states_s h).mono fun r H' ⟨g,h1,h2⟩=>⟨g,h1,by rw[h2];exact subP.refl _⟩)
abbrev s1H (s:PuS) (st:List Int) (i b6 b2 b9:Nat):Heap:=[(6,.box b6 [aIs st]),(2,.box b2 [.ptr 170 s.b 0]),(170,.box s.b s.cells),(171,.mapK s.m false s.E),(9,.box b9 [aI i])]
theorem step1_b {s:PuS}(h:s.OK) {st:List Int}(hst:st.length=s.ns.length) {i:Nat}{t:List UInt8}(hp:t≠[]->((i:Int),t)∈allP s.ps) (b6 b2 b9:Nat) :
  CallS Tryz.prog 138 [aT t,.ptr 6 b6 0,.ptr 2 b2 0,.ptr 9 b9 0] (s1H s st i b6 b2 b9) fun r H'=>r=aB (t != []&&decide (st.getD (netW s.ns ((i:Int),t)) 0=2))∧H'=s1H s st i b6 b2 b9:=by
 have hnl:=h.nets
 by_cases ht:t=[]
 ·subst ht
  refine CallS.dropP (callS_of Tryz.func138 rfl Tryz.ntmps138 (rs:=[.tmp 5]) rfl (by kernel_rfl) (by simp) (by kernel_rfl) (K:=fun r H'=>r=aB false∧subP (s1H s st i b6 b2 b9) H') ?_) (fun _ _ ⟨h1,h2⟩=>⟨_,h2,by simpa using h1,rfl⟩)
  simp
  refine V.drawX (fun t=>if t=13 then some (.ro (aI 0)) else none) (by kernel_rfl) (by kernel_rfl) (by simp) ?_
  simp
  rcases st with _ | ⟨z,st⟩
  ·simp
   exact subP.refl _
  ·simp
   exact subP.refl _
 ·have hnet:=puNet_s h (hp ht)
  have hlt:=(h.of _ (hp ht)).2
  generalize netW s.ns ((i:Int),t)=w at *
  have hws:w<st.length:=by omega
  obtain⟨e1,e2⟩:=getD_at hws
  generalize st.getD w 0=z at *
  refine CallS.dropP (callS_of Tryz.func138 rfl Tryz.ntmps138 (rs:=[.tmp 5]) rfl (by kernel_rfl) (by simp) (by kernel_rfl) (K:=fun r H'=>r=aB (t != []&&decide (z=2))∧subP (s1H s st i b6 b2 b9) H') ?_) (fun _ _ ⟨h1,h2⟩=>⟨_,h2,h1,rfl⟩)
  simp
  refine V.drawX (fun t=>if t=13 then some (.ro (aI w)) else none) (by kernel_rfl) (by kernel_rfl) (by simp) ?_
  simp[ht,hws,e1,e2]
  exact⟨hnet,rfl,subP.refl _⟩
abbrev s1A (s:PuS) (st:List Int) (i b6 b2 b9:Nat):Heap:=[(6,.box b6 [aIs st]),(170,.box b2 [.ptr 171 s.b 0]),(171,.box s.b [.dat (.sl (s.ps.map encPa)),.dat (.sl (s.l.map encPi)),aI s.ns.length,.map 172 s.m]),(172,.mapK s.m false s.E),(9,.box b9 [aI i])]
theorem s1_AB {s:PuS}{st:List Int}{i b6 b2 b9:Nat}{x:X}{H0:Heap}(hi:Inv x (s1A s st i b6 b2 b9++H0)):Inv x (s1H s st i b6 b2 b9++H0):=by
 have h1:Inv x ([(6,Ent.box b6 [aIs st]),(2,.box b2 [.ptr 171 s.b 0]),(170,.box s.b [.dat (.sl (s.ps.map encPa)),.dat (.sl (s.l.map encPi)),aI s.ns.length,.map 172 s.m]),(171,.mapK s.m false s.E),(9,.box b9 [aI i])]++H0):=hi.ents (by simp)
 have h2:=Inv.swap (g:=2) (e:=.box b2 [.ptr 171 s.b 0]) (e':=.box b2 [.ptr 170 s.b 0]) rfl (box_sat (Ds_c D_tag Ds_i)) (fun _ h=>h) h1
 have h3:=Inv.swap (g:=170) (e:=.box s.b [.dat (.sl (s.ps.map encPa)),.dat (.sl (s.l.map encPi)),aI s.ns.length,.map 172 s.m]) (e':=.box s.b s.cells) rfl (box_sat (Ds_c D_i (Ds_c D_i (Ds_c D_i (Ds_c D_mtag Ds_i))))) (fun _ h=>h) h2
 exact h3
theorem s1_BA {s:PuS}{st:List Int}{i b6 b2 b9:Nat}{x:X}{H0:Heap}(hi:Inv x (s1H s st i b6 b2 b9++H0)):Inv x (s1A s st i b6 b2 b9++H0):=by
 have h1:Inv x ([(6,Ent.box b6 [aIs st]),(170,.box b2 [.ptr 170 s.b 0]),(171,.box s.b s.cells),(172,.mapK s.m false s.E),(9,.box b9 [aI i])]++H0):=hi.ents (by simp)
 have h2:=Inv.swap (g:=170) (e:=.box b2 [.ptr 170 s.b 0]) (e':=.box b2 [.ptr 171 s.b 0]) rfl (box_sat (Ds_c D_tag Ds_i)) (fun _ h=>h) h1
 have h3:=Inv.swap (g:=171) (e:=.box s.b s.cells) (e':=.box s.b [.dat (.sl (s.ps.map encPa)),.dat (.sl (s.l.map encPi)),aI s.ns.length,.map 172 s.m]) rfl (box_sat (Ds_c D_i (Ds_c D_i (Ds_c D_i (Ds_c D_mtag Ds_i))))) (fun _ h=>h) h2
 exact h3
theorem step1_s {s:PuS}(h:s.OK) {st:List Int}(hst:st.length=s.ns.length) {i:Nat}{t:List UInt8}(hp:t≠[]->((i:Int),t)∈allP s.ps) (b6 b2 b9:Nat) :
  CallS Tryz.prog 138 [aT t,.ptr 6 b6 0,.ptr 170 b2 0,.ptr 9 b9 0] (s1A s st i b6 b2 b9) fun r H'=>r=aB (t != []&&decide (st.getD (netW s.ns ((i:Int),t)) 0=2))∧H'=s1A s st i b6 b2 b9:=by
 refine CallS.res (CallS.inv (az':=[aT t,.ptr 6 b6 0,.ptr 2 b2 0,.ptr 9 b9 0]) (fun x H0 hi=>s1_AB hi) (fun x vs=>Ds_c D_i (Ds_c D_i (Ds_c D_tag (Ds_c D_i Ds_i))) vs) (step1_b h hst hp b6 b2 b9)) ?_
 rintro r H' ⟨rfl,rfl⟩
 exact⟨_,_,fun x H0 hi=>s1_BA hi,fun _ _ h=>h,rfl,rfl⟩


def nextK (k n:Nat) (p m:Bool):Nat×Bool:=
 if plusK k=[] then (n,false) else if minusK k=[] then (if p=true then 1 else 0,false) else if p=true∧m=true then (n,true) else if p=true then (1,false) else if m=true then (0,false) else (n,false)
theorem Next_k (k:Nat) (hk:k<14) (n:Nat) (hn:n<manyK k) (p m:Bool):CallFn Tryz.prog 139 [aI k,aI n,aB p,aB m] (.tuple [aI ((nextK k n p m).1:Nat),aB (nextK k n p m).2,aI 0]):=by
 have hf:=placed_k k hk n hn
 have hl:=row_len k hk
 have hc:=row_cell k hk
 obtain⟨h7,h8,-⟩:=row_dat k hk
 obtain⟨h7l,h71⟩:=List.getElem?_eq_some_iff.1 h7
 obtain⟨h8l,h81⟩:=List.getElem?_eq_some_iff.1 h8
 unfold nextK
 refine callFz_of Tryz.func139 rfl Tryz.ntmps139 (rs:=[.tmp 8,.tmp 9,.tmp 10]) rfl (by kernel_rfl) (by simp) (by kernel_rfl) ?_
 simp
 refine hf.s ?_
 generalize rowOf k=R at *
 generalize plusK k=P at *
 generalize minusK k=M at *
 simp
 intro b6
 refine⟨cells_ok hl hc,?_⟩
 simp[hl,h7,h71,h8,h81]
 cases p<;>cases m<;>by_cases hP:P=[]<;>by_cases hM:M=[]<;>simp[hP,hM,h7,h71,h8,h81]


def stepV (k:Int) (v:Bool) (t:Int) (on off:Bool):Bool×Int×Bool:=
 if k=1 then (if on != off then on else v,t,on&&off)
 else if k=2 then (if on=false then (false,0,false) else (v,if t=0 then 1 else t,false))
 else (v,t,false)
def sigStep (c:Control) (s:State) (L:List Bool) (i:Nat):Bool×Int×Bool:=match c.signals[i]?,s.values[i]?,s.timers[i]? with
 | some x,some v,some t=>stepV x.kind v t (evalE x.on L) (x.kind==1&&evalE x.off L)
 | _,_,_=>(false,0,false)





def actZ (c:Cir) (pos:List Int) (i:Nat) (t:List UInt8):Bool:=t != []&&decide ((statesZ c.parts (netsZ c) pos).getD (netW (netsZ c) ((i:Int),t)) 0=2)
def nxZ (c:Cir) (pos:List Int) (i:Nat):Nat×Bool:=nextK (kindOf c.parts i) (posN pos i) (actZ c pos i (plusK (kindOf c.parts i))) (actZ c pos i (minusK (kindOf c.parts i)))
def stepsZ (c:Cir) (pos:List Int) (n:Nat):List Int:=(List.range n).map fun i=>((nxZ c pos i).1:Int)
def badZ (c:Cir) (pos:List Int) (n:Nat):List Int:=((List.range n).filter fun i=>(nxZ c pos i).2).map fun i:Nat=>(i:Int)
theorem piloted:∀k,k<14->(plusK k≠[]->plusK k∈portsK k∧roleK k (plusK k)=some 3)∧(minusK k≠[]->minusK k∈portsK k∧roleK k (minusK k)=some 3):=by decide
theorem stepsZ_succ (c:Cir) (pos:List Int) (n:Nat):stepsZ c pos (n+1)=stepsZ c pos n++[((nxZ c pos n).1:Int)]:=by
 unfold stepsZ
 rw[List.range_succ,List.map_append]
 rfl
theorem badZ_succ (c:Cir) (pos:List Int) (n:Nat):badZ c pos (n+1)=badZ c pos n++if (nxZ c pos n).2=true then [(n:Int)] else []:=by
 unfold badZ
 rw[List.range_succ,List.filter_append,List.map_append]
 congr 1
 cases e:(nxZ c pos n).2<;>simp[e]
theorem stepsZ_len (c:Cir) (pos:List Int) (n:Nat):(stepsZ c pos n).length=n:=by simp[stepsZ]
theorem badZ_len (c:Cir) (pos:List Int) (n:Nat):(badZ c pos n).length<=n:=by
 unfold badZ
 rw[List.length_map]
 exact Nat.le_trans (List.length_filter_le _ _) (by simp)
abbrev skB (s:PuS) (st:List Int) (b6 b2:Nat):Heap:=[(6,.box b6 [aIs st]),(170,.box b2 [.ptr 171 s.b 0]),(171,.box s.b [.dat (.sl (s.ps.map encPa)),.dat (.sl (s.l.map encPi)),aI s.ns.length,.map 172 s.m]),(172,.mapK s.m false s.E)]
abbrev skE (pos:List Int) (b6 b2:Nat):List (Nat×A):=[(1,aIs pos),(2,.ptr 170 b2 0),(4,.nils),(5,.nils),(6,.ptr 6 b6 0),(7,.nils),(8,.nils)]
abbrev skM (s:PuS):Heap:=[(171,.box s.b [.dat (.sl (s.ps.map encPa)),.dat (.sl (s.l.map encPi)),aI s.ns.length,.map 172 s.m]),(172,.mapK s.m false s.E)]
abbrev skK (s:PuS) (c:Cir) (pos:List Int) (r:A) (H':Heap):Prop:=∃g g',r=.tuple [.own 71 g,.own 72 g']∧subP ([(71,.seq g 3 1 ((stepsZ c pos c.parts.length).map rI)),(72,.seq g' 3 1 ((badZ c pos c.parts.length).map rI))]++skM s) H'
theorem step_a {s:PuS}{c:Cir}{pos:List Int}(h:s.Of c pos) {st:List Int}(hse:st=statesZ s.ps s.ns pos) (hst:st.length=s.ns.length) (b6 b2:Nat) :
  V ⟨Tryz.prog,none,69⟩ (restC Tryz.f65 3) (hdE (skE pos b6 b2) []) (skB s st b6 b2) (RetV Tryz.prog [.tmp 4,.tmp 5] (skK s c pos)):=by
 have hfew:=h.ok.few
 have hpl:=h.pos.1
 have hpp:=h.pos
 have hok:=h.ok
 have hps:=h.ps
 have hns:=h.ns
 have hnx:∀i,nxZ c pos i=nextK (kindOf s.ps i) (posN pos i) (plusK (kindOf s.ps i) != []&&decide (st.getD (netW s.ns ((i:Int),plusK (kindOf s.ps i))) 0=2)) (minusK (kindOf s.ps i) != []&&decide (st.getD (netW s.ns ((i:Int),minusK (kindOf s.ps i))) 0=2)):=fun i=>by
  unfold nxZ actZ
  rw[hse,hps,hns]
 have hcl:c.parts.length=s.ps.length:=by rw[hps]
 unfold skK
 rw[hcl]
 refine V.rest rfl ?_
 refine V.of_vcN 1 ?_
 simp
 refine V.forI (σ:=Value×Value) s.ps.length [1,2,4,5,6,25,26] (by simp;exact rfl) (fun i q=>[(7,.own 71 q.1),(8,.own 72 q.2),(27,aI i)]) (fun i q=>(71,.seq q.1 3 1 ((stepsZ c pos i).map rI))::(72,.seq q.2 3 1 ((badZ c pos i).map rI))::skB s st b6 b2) (fun _ _=>True) (.slice none 0 0,.slice none 0 0) trivial (by simp) ⟨by simp;exact rfl,by simp[stepsZ,badZ]⟩ ?_ ?_
 ·rintro i ⟨g,g'⟩ hi -
  obtain⟨p,hpp2⟩:∃p,s.ps[i]=p:=⟨_,rfl⟩
  have hpo:s.ps[i]?=some p:=by rw[List.getElem?_eq_getElem hi,hpp2]
  obtain⟨q1,q2,q3⟩:=hpp.at hi
  obtain⟨hil,q4⟩:=List.getElem?_eq_some_iff.1 q1
  have hk:=kindOf_at hpo
  have hkn:=hok.kinds p (List.mem_of_getElem? hpo)
  have hk14:p.kind.toNat<14:=by omega
  obtain⟨w1,w2⟩:=piloted _ hk14
  have hpil:=Pilots_k p.kind.toNat hk14
  rw[show ((p.kind.toNat:Nat):Int)=p.kind from by omega]at hpil
  have c1:=fun b9=>step1_s hok hst (i:=i) (t:=plusK p.kind.toNat) (fun e=>port_of hi (by rw[hk];exact (w1 e).1)) b6 b2 b9
  have c2:=fun b9=>step1_s hok hst (i:=i) (t:=minusK p.kind.toNat) (fun e=>port_of hi (by rw[hk];exact (w2 e).1)) b6 b2 b9
  have hn:=hnx i
  rw[hk]at hn q2
  have hnk:=fun a b=>Next_k p.kind.toNat hk14 (posN pos i) q2 a b
  rw[show ((p.kind.toNat:Nat):Int)=p.kind from by omega]at hnk
  have hl1:=stepsZ_len c pos i
  have hl2:=badZ_len c pos i
  rw[stepsZ_succ,badZ_succ,hn]
  generalize (plusK p.kind.toNat != []&&decide (st.getD (netW s.ns ((i:Int),plusK p.kind.toNat)) 0=2))=a1 at *
  generalize (minusK p.kind.toNat != []&&decide (st.getD (netW s.ns ((i:Int),minusK p.kind.toNat)) 0=2))=a2 at *
  have hnk:=hnk a1 a2
  generalize nextK p.kind.toNat (posN pos i) a1 a2=nx at *
  obtain⟨n1,n2⟩:=nx
  simp only at hnk
  generalize plusK p.kind.toNat=pl at *
  generalize minusK p.kind.toNat=mn at *
  generalize stepsZ c pos i=S at *
  generalize badZ c pos i=B at *
  simp[hi,hpp2,hpo]
  intro b9 b10
  refine hpil.s ?_
  simp
  refine V.drawX (fun t=>if t=49 then some (.ro (aB a1)) else if t=52 then some (.ro (aB a2)) else if t=53 then some (.fn (.tuple [aI (n1:Nat),aB n2,aI 0])) else none) (by kernel_rfl) (by kernel_rfl) (by simp) ?_
  simp[hil,q1,q4]
  exact⟨c1 b9,c2 b9,hnk,fun u=>⟨by omega,fun e u1=>⟨by omega,⟨by omega,by omega⟩,u,u1,⟨rfl,rfl⟩,rfl,rfl,by rw[e];rfl⟩,fun e=>⟨⟨by omega,by omega⟩,u,g',⟨rfl,rfl⟩,rfl,rfl,e⟩⟩⟩
 ·rintro⟨g,g'⟩ -
  simp
  refine V.of_vc ?_
  simp
  exact⟨g,g',⟨rfl,rfl⟩,⟨_,List.Sublist.cons_cons _ (List.Sublist.cons_cons _ (List.Sublist.cons _ (List.Sublist.cons _ (List.Sublist.refl _)))),List.Perm.refl _⟩⟩
theorem step_s {s:PuS}{c:Cir}{pos:List Int}(h:s.Of c pos):CallS Tryz.prog 65 [.ptr 170 s.b 0,aIs pos] s.hp (skK s c pos):=by
 have hss:=statesD_s h
 have hsl:(statesZ s.ps s.ns pos).length=s.ns.length:=states_len _ _ _
 have ha:=fun b6 b2=>step_a h rfl hsl b6 b2
 generalize statesZ s.ps s.ns pos=st at *
 refine callS_cut 3 Tryz.func65 rfl Tryz.ntmps65 (rs:=[.tmp 4,.tmp 5]) rfl (by kernel_rfl) (by simp) (by kernel_rfl) ?_
 simp
 intro b2
 refine (hss.mid [(2,_)] []).mono ?_
 rintro r H' ⟨rfl,rfl⟩
 simp
 intro b6
 refine V.cutIN 0 (Hs:=skB s st b6 b2) (skE pos b6 b2) ?_ ?_ (ha b6 b2)
 ·intro p hp x v hv
  simp only[List.mem_cons,List.not_mem_nil,or_false]at hp
  rcases hp with rfl | rfl | rfl | rfl | rfl | rfl | rfl
  ·simpa using hv
  ·simpa [D]using hv
  ·simpa using hv
  ·simpa using hv
  ·simpa using hv
  ·simpa using hv
  ·simpa using hv
 ·intro x H0 hi
  have h1:Inv x ([(6,Ent.box b6 [aIs st]),(170,.box b2 [.ptr 170 s.b 0]),(171,.box s.b s.cells),(172,.mapK s.m false s.E)]++H0):=hi.ents (by simp)
  have h2:=Inv.swap (g:=170) (e:=.box b2 [.ptr 170 s.b 0]) (e':=.box b2 [.ptr 171 s.b 0]) rfl (box_sat (Ds_c D_tag Ds_i)) (fun _ h=>h) h1
  have h3:=Inv.swap (g:=171) (e:=.box s.b s.cells) (e':=.box s.b [.dat (.sl (s.ps.map encPa)),.dat (.sl (s.l.map encPi)),aI s.ns.length,.map 172 s.m]) rfl (box_sat (Ds_c D_i (Ds_c D_i (Ds_c D_i (Ds_c D_mtag Ds_i))))) (fun _ h=>h) h2
  exact h3
theorem stepD_s {s:PuS}{c:Cir}{pos:List Int}(h:s.Of c pos):CallS Tryz.prog 65 [.ptr 170 s.b 0,aIs pos] s.hp fun r H'=>r=.tuple [aIs (stepsZ c pos c.parts.length),aIs (badZ c pos c.parts.length)]∧H'=s.hp:=by
 have h1:=CallS.dropP (step_s h) (K':=fun r H'=>∃g g',r=.tuple [.own 71 g,.own 72 g']∧H'=[(71,.seq g 3 1 ((stepsZ c pos c.parts.length).map rI)),(72,.seq g' 3 1 ((badZ c pos c.parts.length).map rI))]++skM s) (fun _ _ ⟨g,g',h1,h2⟩=>⟨_,h2,g,g',h1,rfl⟩)
 refine CallS.res (CallS.frzKeep (K':=fun r H'=>r=.tuple [aIs (stepsZ c pos c.parts.length),aIs (badZ c pos c.parts.length)]∧H'=skM s) h1 ?_) ?_
 ·rintro r H' ⟨g,g',rfl,rfl⟩
  exact⟨[_,_],skM s,List.Perm.refl _,by simp[frz,frzs,hget],by simp[frz,frzs,hget],rfl⟩
 ·rintro r H' ⟨rfl,rfl⟩
  refine⟨_,s.hp,fun x H0 hi=>?_,fun _ _ h=>h,rfl,rfl⟩
  have h1:Inv x ([(170,Ent.box s.b [.dat (.sl (s.ps.map encPa)),.dat (.sl (s.l.map encPi)),aI s.ns.length,.map 172 s.m]),(171,.mapK s.m false s.E)]++H0):=hi.ents (by simp)
  exact Inv.swap (g:=170) (e:=.box s.b [.dat (.sl (s.ps.map encPa)),.dat (.sl (s.l.map encPi)),aI s.ns.length,.map 172 s.m]) (e':=.box s.b s.cells) rfl (box_sat (Ds_c D_i (Ds_c D_i (Ds_c D_i (Ds_c D_mtag Ds_i))))) (fun _ h=>h) h1
def pstepQ (c:Cir) (pos:List Int):List Int×List Int×Int:=if presE c pos=0 then (stepsZ c pos c.parts.length,badZ c pos c.parts.length,0) else ([],[],presE c pos)
theorem Step_fn (c:Cir) (hc:OkCir c) (pos:List Int) (hp:Sh pos):CallFn Tryz.prog 21 [aCi c,aIs pos] (.tuple [aIs (pstepQ c pos).1,aIs (pstepQ c pos).2.1,aI (pstepQ c pos).2.2]):=by
 have ho:=puOf_s c hc pos hp
 unfold pstepQ
 by_cases h0:presE c pos=0
 ·simp only[h0,if_true]at ho ⊢
  obtain⟨hz,hpos⟩:=presE_pos h0
  have hr:=cirR_of hz
  refine callFz_of Tryz.func21 rfl Tryz.ntmps21 (rs:=[.tmp 4,.tmp 5,.tmp 6]) rfl (by kernel_rfl) (by simp) (by kernel_rfl) ?_
  simp
  refine ho.mono ?_
  rintro r H' ⟨s,rfl,rfl,h1,h2,h3⟩
  have hs:=stepD_s (s:=s) (c:=c) (pos:=pos) ⟨h1,hr,h2,h3,by rw[h2];exact hpos⟩
  simp
  refine hs.mono ?_
  rintro r H' ⟨rfl,rfl⟩
  simp
 ·simp only[h0,if_false]at ho ⊢
  refine callFz_of Tryz.func21 rfl Tryz.ntmps21 (rs:=[.tmp 4,.tmp 5,.tmp 6]) rfl (by kernel_rfl) (by simp) (by kernel_rfl) ?_
  simp
  refine ho.mono ?_
  rintro r H' ⟨rfl,rfl⟩
  simp[h0]
def wantV (k:Int) (v:Bool) (t:Int) (on off:Bool):Bool:=
 if k=1 then (on != off)&&(v != on) else if k=2 then (if on=false then decide (t≠0) else decide (t=0)) else false
def wantAt (c:Control) (s:State) (i:Nat):Bool:=match c.signals[i]?,s.values[i]?,s.timers[i]? with
 | some x,some v,some t=>wantV x.kind v t (evalE x.on (valuesOf s)) (x.kind==1&&evalE x.off (valuesOf s))
 | _,_,_=>false
theorem act_fed {c:Control}(hc:checkC c=0) (hm:manyM (dM c)=false) {s:State}{k:Nat}{p:Made}(hp:(dM c).parts[k]?=some p) {q:Pin}{b:Bool}{t:List UInt8}(hq:TelW c s q b) (hf:Fed (wholeM c).joins q ⟨p.name,t⟩)
  (h2:p.kind=2∧(t=[49,52]∨t=[49,50])∨p.kind=5∧t=[49,48]):actZ (cirW c) (posW c s) k t=b:=by
 have hpw:=(dM_w hc).1 (List.mem_of_getElem? hp)
 obtain⟨j,hj,hpj,hkj,hpin⟩:=part_index hc hpw
 have hjk:j=k:=by
  have hn:=dM_names hc
  obtain⟨a1,a2⟩:=List.getElem?_eq_some_iff.1 hp
  obtain⟨b1,b2⟩:=List.getElem?_eq_some_iff.1 hpj
  rw[List.Nodup,List.pairwise_iff_getElem]at hn
  rcases Nat.lt_trichotomy j k with hl | e | hl
  ·exact absurd (by rw[List.getElem_map,List.getElem_map,a2,b2]) (hn j k (by simpa using b1) (by simpa using a1) hl)
  ·exact e
  ·exact absurd (by rw[List.getElem_map,List.getElem_map,a2,b2]) (hn k j (by simpa using a1) (by simpa using b1) hl)
 subst hjk
 have h:=fed_prs hc hm hpw hj hkj hpin hq (tel_prs hc hm hq) hf
  (by rcases h2 with⟨e,rfl | rfl⟩|⟨e,rfl⟩<;>rw[e]<;>decide) (by rcases h2 with⟨e,rfl | rfl⟩|⟨e,rfl⟩<;>rw[e]<;>decide) (by rcases h2 with⟨e,rfl | rfl⟩|⟨e,rfl⟩<;>rw[e]<;>decide)
 rw[<- states_prs (cirW_right hc hm) (posW_two (c:=c) (s:=s))]at h
 have ht:(t != [])=true:=by rcases h2 with⟨e,rfl | rfl⟩|⟨e,rfl⟩<;>rfl
 unfold actZ
 rw[ht,Bool.true_and]
 cases b
 ·rw[decide_eq_false_iff_not]
  exact fun e=>by have:=h.1 e;cases this
 ·rw[decide_eq_true_eq]
  exact h.2 rfl
theorem kind_W {c:Control}{k:Nat}{p:Made}(hp:(dM c).parts[k]?=some p):kindOf (cirW c).parts k=p.kind.toNat:=by
 unfold kindOf cirW cirOf
 simp only[List.getElem?_map,hp,Option.map_some,partZ]
theorem step_signal {c:Control}(hc:checkC c=0) (hm:manyM (dM c)=false) {s:State}(hR:rightC c s=0) {i k:Nat}{x:Signal}(hx:c.signals[i]?=some x) {p:Made}(hp:(dM c).parts[k]?=some p) (hsg:p.signal=i) :
  (p.kind=2->x.kind=1∧((nxZ (cirW c) (posW c s) k).1≠posN (posW c s) k↔wantAt c (gatesP c s) i=true))∧(p.kind=5∨p.kind=8∨p.kind=9->(nxZ (cirW c) (posW c s) k).1=posN (posW c s) k):=by
 have hpm:=List.mem_of_getElem? hp
 have hg:=dM_k hc hpm
 have hpw:=(dM_w hc).1 hpm
 have hkw:=kind_W hp
 have hpn:=posN_W (s:=s) hp
 have hi:=(List.getElem?_eq_some_iff.1 hx).1
 have hf:=fine_of hc
 have hact:=hf.act
 have hcn:countC c=2*c.actuators+c.inputs.length+c.signals.length:=rfl
 have hfc:firstC c=2*c.actuators+c.inputs.length:=rfl
 obtain⟨_,hsh,_⟩:=right_zero hR
 constructor
 ·intro hk
  obtain⟨n,x',hx',hk1,rfl⟩:∃(n:Nat) (x':Signal),c.signals[n]?=some x'∧x'.kind=1∧p=⟨2,ownT c n,0,n,none,-1,firstC c+n⟩:=by
   cases hg<;>simp only at hk hsg<;>first | omega | skip
   rename_i n x' hx' hk'
   exact⟨n,x',hx',hk',rfl⟩
  simp only at hsg
  obtain rfl:n=i:=by omega
  rw[hx]at hx'
  cases hx'
  refine⟨hk1,?_⟩
  obtain⟨_,w1,n1,w2,n2,f1,f2⟩:=memory_in hc hx hk1
  have hck:=on_check hc hx
  have hline:∀ {y:Expr},checkE y (countC c)=0->∀v∈varsE y,TelW c s (portM c (wholeM c).gates v) ((valuesOf (gatesP c s)).getD v.toNat false):=fun hk v hv=>lines_tel hc hR (vars_check hk v hv)
  have t1:=expr_tel (n:=countC c) (on_arg hc hR) _ _ x.on _ (right_of_check hck.1).1 (hline hck.1) w1 n1
  have t2:=expr_tel (n:=countC c) (on_arg hc hR) _ _ x.off _ (right_of_check (hck.2 hk1)).1 (hline (hck.2 hk1)) w2 n2
  have a1:=act_fed hc hm hp t1 f1 (.inl ⟨rfl,.inl rfl⟩)
  have a2:=act_fed hc hm hp t2 f2 (.inl ⟨rfl,.inr rfl⟩)
  have hon:onM c (gatesP c s) ⟨2,ownT c n,0,n,none,-1,firstC c+n⟩=valL c s (firstC c+n):=on_line hR rfl rfl rfl (by omega)
  rw[hon]at hpn
  have hvl:=preV_length hsh
  obtain⟨_,_,_,hs4,hs5⟩:=id (gates_shape hsh)
  have hv:valL c s (firstC c+n)=(gatesP c s).values.getD n false:=by
   show (preV s++(gatesP c s).values).getD _ _=_
   rw[List.getD_eq_getElem?_getD,List.getElem?_append_right (by omega),show (firstC c+(n:Int)).toNat-(preV s).length=n by omega,List.getD_eq_getElem?_getD]
  have hvn:n<(gatesP c s).values.length:=by omega
  have htn:n<(gatesP c s).timers.length:=by omega
  unfold nxZ wantAt
  rw[hx,List.getElem?_eq_getElem hvn,List.getElem?_eq_getElem htn,hkw]
  rw[hv,List.getD_eq_getElem?_getD,List.getElem?_eq_getElem hvn,Option.getD_some]at hpn
  simp only[hk1,show ((2:Int).toNat)=2 from rfl,show plusK 2=[49,52] from rfl,show minusK 2=[49,50] from rfl,a1,a2,hpn,nextK,wantV]
  generalize evalE x.on (valuesOf (gatesP c s))=A
  generalize evalE x.off (valuesOf (gatesP c s))=B
  generalize (gatesP c s).values[n]=v
  cases A<;>cases B<;>cases v<;>simp
 ·intro hk
  have ho:=(whole_own hc hR).1 p hpw hk
  unfold nxZ
  rw[hkw]
  rcases ho with⟨h5,q,y,hy,hfd,ht⟩|⟨h89,_⟩
  ·have a1:=act_fed hc hm hp ht hfd (.inr ⟨h5,rfl⟩)
   rw[on_arg hc hR p hpw y hy]at hpn
   simp only[h5,show ((5:Int).toNat)=5 from rfl,show plusK 5=[49,48] from rfl,show minusK 5=[] from rfl,a1,hpn,nextK]
   generalize evalE y (valuesOf (gatesP c s))=A
   cases A<;>rfl
  ·rcases h89 with e | e<;>rw[e]<;>rfl
theorem fits_parts {c:Control}{s:State}(h:rightC c s=0):(∀e∈s.ends,outR 4 e=false)∧(∀e∈s.timers,outR 3 e=false)∧∀(i:Nat) (x:Signal),c.signals[i]?=some x->tstE x (s.values.getD i false) (s.timers.getD i 0)=0:=by
 obtain⟨z1,z2,z3⟩:=right_zero h
 unfold fitsSt at z3
 rw[if_neg (by simpa using z2)]at z3
 split at z3
 ·cases z3
 ·rename_i hout
  rw[Bool.or_eq_true,not_or,Bool.not_eq_true,Bool.not_eq_true]at hout
  have hz:=firstErr_zero z3
  obtain⟨h4,h5⟩:s.values.length=c.signals.length∧s.timers.length=c.signals.length:=⟨z2.2.2.2.1,z2.2.2.2.2⟩
  refine⟨fun e he=>?_,fun e he=>?_,fun i x hx=>?_⟩
  ·have:=List.any_eq_false.1 hout.1 e he
   simpa using this
  ·have:=List.any_eq_false.1 hout.2 e he
   simpa using this
  ·have hi:i<c.signals.length:=(List.getElem?_eq_some_iff.1 hx).1
   have h0:=hz i (by omega)
   have hv0:s.values[i]?=some s.values[i]:=List.getElem?_eq_getElem (by omega)
   have ht0:s.timers[i]?=some s.timers[i]:=List.getElem?_eq_getElem (by omega)
   unfold tsE at h0
   rw[hx,hv0,ht0]at h0
   rw[List.getD_eq_getElem?_getD,List.getD_eq_getElem?_getD,hv0,ht0]
   exact h0
def wantsL (c:Control) (s:State):List Nat:=(List.range c.signals.length).filter (wantAt c s)
structure Calm (c:Control) (s:State):Prop where
 right:rightC c s=0
 gates:gatesP c s=s
theorem Calm.fine {c:Control}{s:State}(h:Calm c s):Fine c:=fine_of (right_zero h.right).1
theorem calm_of {c:Control}{s:State}(h:rightC c s=0):Calm c (gatesP c s):=⟨gates_right h,gates_twice (fine_of (right_zero h).1) (right_zero h).2.1⟩
theorem sigS_at {c:Control}{s:State}{L:List Bool}{i:Nat}{x:Signal}{v:Bool}{t:Int}(hx:c.signals[i]?=some x) (hv:s.values[i]?=some v) (ht:s.timers[i]?=some t) :
  sigStep c s L i=stepV x.kind v t (evalE x.on L) (x.kind==1&&evalE x.off L):=by simp only[sigStep,hx,hv,ht]
theorem sig_have {c:Control}{s:State}(h:shapeS c s) {i:Nat}(hi:i<c.signals.length):∃x v t,c.signals[i]?=some x∧s.values[i]?=some v∧s.timers[i]?=some t:=
 ⟨_,_,_,List.getElem?_eq_getElem hi,List.getElem?_eq_getElem (by rw[h.2.2.2.1];exact hi),List.getElem?_eq_getElem (by rw[h.2.2.2.2];exact hi)⟩
abbrev ChT:=Int×Int×Bool
def encCh (x:ChT):List L:=[.int .i64 x.1,.int .i64 x.2.1,.bool x.2.2]
def rCh (x:ChT):List A:=[.dat (.int .i64 x.1),.dat (.int .i64 x.2.1),.dat (.bool x.2.2)]
def chAt (c:Control) (s:State) (i:Nat):ChT:=(firstC c+i,(sigStep c s (valuesOf s) i).2.1,(sigStep c s (valuesOf s) i).1)
def chL (c:Control) (s:State) (k:Nat):List ChT:=((List.range k).filter (wantAt c s)).map (chAt c s)
theorem chL_succ (c:Control) (s:State) (k:Nat):chL c s (k+1)=if wantAt c s k=true then chL c s k++[chAt c s k] else chL c s k:=by
 unfold chL
 rw[List.range_succ,List.filter_append,List.map_append]
 by_cases h:wantAt c s k=true
 ·simp[h]
 ·simp[h]
theorem chL_len (c:Control) (s:State) (k:Nat):(chL c s k).length<=k:=by
 unfold chL
 rw[List.length_map]
 have:=List.length_filter_le (wantAt c s) (List.range k)
 rw[List.length_range]at this
 exact this
theorem rowsD_Ch (xs:List ChT):rowsD (xs.map rCh)=xs.map encCh:=by unfold rowsD;rw[List.map_map];rfl
theorem allD_Ch (xs:List ChT):allD (xs.map rCh)=true:=by simp[allD,rCh,isD]
theorem begin29_fn (c:Control) (s:State) (hc:OkC c) (hs:SmS s):CallFn Tryz.prog 66 [aC c,aSt s] (.tuple [aSt (gatesR c s).1,aI (gatesR c s).2]):=by
 have h:=Gates_fn c s hc hs
 refine callFz_of Tryz.func66 rfl Tryz.ntmps66 (rs:=[.cell 4 29,.tmp 5]) rfl (by kernel_rfl) (by simp) (by kernel_rfl) ?_
 simp
 generalize gatesR c s=p at *
 obtain⟨p1,p2⟩:=p
 intro b4
 refine h.s ?_
 simp
theorem wants1_fn (c:Control) (s:State) (x:Expr) (hc:OkC c) (hr:rightC c s=0) (hx:OkE x) (hk:checkE x (countC c)=0):CallFn Tryz.prog 140 [aE x,.rptr (encC c),.rptr (encSt s)] (aB (evalE x (valuesOf s))):=by
 have hs:=sm_of (fine_of (right_zero hr).1) (right_zero hr).2.1
 have h:=EvalC_fn c s x hc hs hx
 have e:evalP c s x=(evalE x (valuesOf s),0):=by rw[evalP,if_neg (by simp[hr]),if_neg (by simp[hk])]
 rw[e]at h
 refine callFz_of Tryz.func140 rfl Tryz.ntmps140 (rs:=[.tmp 4]) rfl (by kernel_rfl) (by simp) (by kernel_rfl) ?_
 simp
 refine h.s ?_
 simp
theorem wants_fn (c:Control) (s:State) (hc:OkC c) (hr:rightC c s=0):CallFn Tryz.prog 67 [aC c,aSt s] (.dat (.sl ((chL c s c.signals.length).map encCh))):=by
 obtain⟨z1,z2,z3⟩:=right_zero hr
 have hf:=fine_of z1
 have ha:=hf.act
 have hin:=hf.inp
 have hsg:=hf.sig
 obtain⟨f1,f2,f3⟩:=fits_parts hr
 refine callFz_of Tryz.func67 rfl Tryz.ntmps67 (rs:=[.tmp 4]) rfl (by kernel_rfl) (by simp) (by kernel_rfl) ?_
 simp
 refine⟨by omega,by omega,?_⟩
 refine V.forI (σ:=Value) c.signals.length [3,4,5,6,24,25] (by simp;exact rfl) (fun i g=>[(26,aI i),(7,.own 50 g)]) (fun i g=>[(50,.seq g 132 3 ((chL c s i).map rCh))]) (fun _ _=>True) (.slice none 0 0) trivial (by simp) ⟨by simp;exact rfl,by simp[chL]⟩ ?_ ?_
 ·rintro i g hi -
  obtain⟨x,v,t,hx,hv,ht⟩:=sig_have z2 hi
  have hx1:=(List.getElem?_eq_some_iff.1 hx).2
  obtain⟨hiv,hv1⟩:=List.getElem?_eq_some_iff.1 hv
  obtain⟨hit,ht1⟩:=List.getElem?_eq_some_iff.1 ht
  have hox:=hc.sigs x (List.mem_of_getElem? hx)
  have won:=wants1_fn c s x.on hc hr hox.on (hf.on hx).1
  have hsucc:=chL_succ c s i
  have hlen:=chL_len c s i
  have es:=sigS_at (L:=valuesOf s) hx hv ht
  have ew:wantAt c s i=wantV x.kind v t (evalE x.on (valuesOf s)) (x.kind==1&&evalE x.off (valuesOf s)):=by simp only[wantAt,hx,hv,ht]
  have hfit:=f3 i x hx
  rw[List.getD_eq_getElem?_getD,List.getD_eq_getElem?_getD,hv,ht]at hfit
  simp only[Option.getD_some]at hfit
  unfold chAt at hsucc
  rw[es,ew]at hsucc
  simp[hi,hx1]
  intro b9
  refine V.drawX (fun _=>none) (by kernel_rfl) (by kernel_rfl) (by simp) ?_
  simp[hv,ht,hv1,ht1,hiv,hit,encSt]
  refine⟨by unfold firstC at *;omega,fun b10=>⟨by kernel_rfl,fun b11=>?_⟩⟩
  by_cases k1:x.kind=1
  ·have woff:=wants1_fn c s x.off hc hr hox.off (by
    have h:=hf.sigs i x hx
    unfold signalE at h
    split at h
    ·rename_i h1;exact absurd h h1
    ·split at h
     ·cases h
     ·split at h
      ·rename_i h1;exact absurd h h1
      ·simp only[k1]at h
       simp[memE]at h
       by_cases h3:checkE x.off (countC c)=0
       ·exact h3
       ·simp[h3]at h)
   generalize evalE x.on (valuesOf s)=on at *
   generalize evalE x.off (valuesOf s)=off at *
   simp[k1]
   refine V.drawX (fun t=>if t=53 then some (.fn (aB on)) else if t=57 then some (.fn (aB off)) else none) (by kernel_rfl) (by kernel_rfl) (by simp) ?_
   simp[k1,encS,packA,hget,won,woff]
   cases on<;>cases off<;>cases v<;>simp[k1,stepV,wantV]at hsucc ⊢
   all_goals rw[hsucc]
   all_goals (refine⟨by omega,?_⟩;first | exact rfl | (refine⟨by omega,?_⟩;simp[rCh,firstC]))
  ·by_cases k2:x.kind=2
   ·generalize evalE x.on (valuesOf s)=on at *
    simp[k1,k2]
    refine won.s ?_
    simp
    cases on<;>by_cases t0:t=0<;>cases v<;>(try simp[k2,t0,stepV,wantV]at hsucc)
    all_goals (try simp[k2,t0])
    all_goals (try (simp[tstE,k2,t0]at hfit;done))
    all_goals rw[hsucc]
    all_goals (first | (refine⟨by omega,?_⟩;exact rfl) | (refine⟨by omega,by omega,?_⟩;simp[rCh,firstC];done) | (refine⟨fun _=>⟨by omega,by omega,?_⟩,fun h=>absurd h.symm t0⟩;simp[rCh,firstC]))
   ·simp[k1,k2,stepV,wantV]at hsucc ⊢
    exact⟨by omega,by rw[hsucc]⟩
 ·rintro g -
  simp[allD_Ch,rowsD_Ch]
def lineL (c:Control) (s:State):List Int:=(wantsL c s).map fun i:Nat=>firstC c+i
def wantsR29 (c:Control) (s:State):List Int×Int:=if rightC c s≠0 then ([],rightC c s) else (lineL c (gatesP c s),0)
theorem chL_lines (c:Control) (s:State):(chL c s c.signals.length).map (fun x=>x.1)=lineL c s:=by
 unfold chL lineL wantsL
 rw[List.map_map]
 rfl
theorem Wants29_fn (c:Control) (s:State) (hc:OkC c) (hs:SmS s):CallFn Tryz.prog 22 [aC c,aSt s] (.tuple [aIs (wantsR29 c s).1,aI (wantsR29 c s).2]):=by
 have hbeg:=begin29_fn c s hc hs
 unfold wantsR29
 unfold gatesR at hbeg
 by_cases hr:rightC c s=0
 ·have hcalm:=calm_of hr
  have hsg:=hcalm.fine.sig
  have hw:=wants_fn c (gatesP c s) hc hcalm.right
  rw[if_neg (by simp[hr])]at hbeg ⊢
  have hl:=chL_lines c (gatesP c s)
  have hn:=chL_len c (gatesP c s) c.signals.length
  generalize gatesP c s=G at *
  rw[<- hl]
  obtain⟨X,hX⟩:∃X,chL c G c.signals.length=X:=⟨_,rfl⟩
  rw[hX]at hw hn ⊢
  have hrl:=rl_map (f:=encCh) (n:=3) (fun _=>rfl) X
  refine CallS.agg (az:=[aC c]) (bz:=[]) ?_
  refine callFz_of Tryz.func22 rfl Tryz.ntmps22 (rs:=[.tmp 4,.tmp 5]) rfl (by kernel_rfl) (by simp) (by kernel_rfl) ?_
  simp
  intro b4
  refine hbeg.s ?_
  simp
  refine hw.s ?_
  simp
  refine V.forI (σ:=Value) X.length [4,5,21,22] (by simp;exact rfl) (fun i g=>[(7,.own 50 g),(23,aI i)]) (fun i g=>[(50,.seq g 3 1 ((X.take i).map fun x=>rI x.1))]) (fun _ _=>True) (.slice none 0 0) trivial (by simp) ⟨by simp;exact rfl,by simp⟩ ?_ ?_
  ·rintro i g hi -
   obtain⟨x,hx⟩:∃x,X[i]?=some x:=⟨_,List.getElem?_eq_getElem hi⟩
   have hx1:=(List.getElem?_eq_some_iff.1 hx).2
   simp[hi,hx,hx1,hrl,encCh,List.take_add_one]
   omega
  ·rintro g -
   simp
   rw[show (X.map fun x=>rI x.1)=(X.map fun x=>x.1).map rI by rw[List.map_map];rfl]
   have e1:=rowsD_I (X.map fun x=>x.1)
   have e2:=allD_I (X.map fun x=>x.1)
   rw[e1,e2,List.map_map]
   exact⟨rfl,rfl⟩
 ·rw[if_pos hr]at hbeg ⊢
  generalize rightC c s=e at *
  refine CallS.agg (az:=[aC c]) (bz:=[]) ?_
  refine callFz_of Tryz.func22 rfl Tryz.ntmps22 (rs:=[.tmp 4,.tmp 5]) rfl (by kernel_rfl) (by simp) (by kernel_rfl) ?_
  simp
  intro b4
  refine hbeg.s ?_
  simp[hr]
end Go.Proofs.YtafamcbdaeppoaaGreatDoor
