/- Texts joined by a program: Li,Lj,Lk,Lq,Lt,Qra,Sfa,Sf,Xk. -/
import Derived.ProofKit
import Derived.ReadAgain
import Derived.WalkKit
import Derived.OpenShut
import Derived.Deep.Frames
import Derived.ChangeMaps5
import Derived.Lay
import Derived.Test.YtafamcbdaeppoaaGreatDoorE10
import Derived.Test.YtafamcbdaeppoaaGreatDoorE5
import Derived.Test.YtafamcbdaeppoaaGreatDoorE14
import Derived.Test.YtafamcbdaeppoaaGreatDoorE25
import Derived.Test.YtafamcbdaeppoaaGreatDoorE29
set_option linter.unusedSimpArgs false
set_option linter.unusedVariables false
set_option maxHeartbeats 8000000
set_option maxRecDepth 100000
namespace Go.Proofs.YtafamcbdaeppoaaGreatDoor
section
variable {P:Program}{H:Type}{enc:TypeId×Value->H}
inductive Lf where
 | int (k:IntKind)
 | bool
 | str
 | sl (e:TypeId)
def leavesF (P:Program) (g:TypeId->Option (List Lf)):List Field->Nat->Option (List Lf)
 | [],_=>some []
 | f::fs,off=>match g f.type with
  | some a=>if f.offset=off∧P.cellsOf f.type=a.length then (leavesF P g fs (off+a.length)).map (a++·) else none
  | none=>none
def leavesT (P:Program):Nat->TypeId->Option (List Lf)
 | 0,_=>none
 | n+1,t=>match P.underlying t with
  | some .bool=>some [.bool]
  | some (.int k)=>some [.int k]
  | some .string=>some [.str]
  | some (.slice e)=>some [.sl e]
  | some (.struct fs)=>match leavesF P (leavesT P n) fs.toList 0 with
   | some a=>if a.length=P.cellsOf t then some a else none
   | none=>none
  | _=>none
def inT (T:List TypeId):Lf->Bool
 | .sl e=>T.contains e
 | _=>true
def goodT (P:Program) (K:Nat) (T:List TypeId):Bool:=T.all fun e=>match leavesT P K e with
 | some a=>a.all (inT T)&&decide (a.length=P.cellsOf e)&&decide (0<a.length)
 | none=>false
def All2 {α β:Type}(R:α->β->Prop):List α->List β->Prop
 | [],[]=>True
 | a::r,b::s=>R a b∧All2 R r s
 | _,_=>False
theorem All2.append {α β:Type}{R:α->β->Prop}:∀ {a:List α}{b:List β}{c:List α}{d:List β},All2 R a b->All2 R c d->All2 R (a++c) (b++d)
 | [],[],_,_,_,h=>h
 | _::_,_::_,_,_,h1,h2=>⟨h1.1,All2.append h1.2 h2⟩
 | [],_::_,_,_,h,_=>h.elim
 | _::_,[],_,_,h,_=>h.elim
theorem All2.len {α β:Type}{R:α->β->Prop}:∀ {a:List α}{b:List β},All2 R a b->a.length=b.length
 | [],[],_=>rfl
 | _::_,_::_,h=>by simp[All2.len h.2]
 | [],_::_,h=>h.elim
 | _::_,[],h=>h.elim
theorem All2.imp {α β:Type}{R R':α->β->Prop}(hi:∀a b,R a b->R' a b):∀ {a:List α}{b:List β},All2 R a b->All2 R' a b
 | [],[],_=>trivial
 | _::_,_::_,h=>⟨hi _ _ h.1,All2.imp hi h.2⟩
 | [],_::_,h=>h.elim
 | _::_,[],h=>h.elim
def OkV (P:Program) (K:Nat):Nat->Lf->L->Prop
 | _,.int k,l=>∃n,l=.int k n∧(Lit.int k n).wf=true
 | _,.bool,l=>∃b,l=.bool b
 | _,.str,l=>∃s,l=.str s∧s.length<=maxLen
 | 0,.sl _,_=>False
 | n+1,.sl e,l=>∃rows:List (List L),l=.sl rows∧rows.length<=maxLen∧∀r∈rows,∃lfs,leavesT P K e=some lfs∧All2 (OkV P K n) lfs r
theorem OkV.succ {K:Nat}:∀ {n:Nat}{f:Lf}{l:L},OkV P K n f l->OkV P K (n+1) f l
 | 0,.sl _,_,h=>by simp[OkV]at h
 | n+1,.sl e,l,h=>by
  simp only[OkV]at h
  obtain⟨rows,e1,h1,h2⟩:=h
  simp only[OkV]
  refine⟨rows,e1,h1,fun r hr=>?_⟩
  obtain⟨lfs,h3,h4⟩:=h2 r hr
  exact⟨lfs,h3,h4.imp fun a b=>OkV.succ⟩
 | 0,.int _,_,h=>by simpa [OkV]using h
 | 0,.bool,_,h=>by simpa [OkV]using h
 | 0,.str,_,h=>by simpa [OkV]using h
 | n+1,.int _,_,h=>by simpa [OkV]using h
 | n+1,.bool,_,h=>by simpa [OkV]using h
 | n+1,.str,_,h=>by simpa [OkV]using h
theorem RdLs.app {x:X}:∀ {a:List L}{u:List Value}{b:List L}{v:List Value},RdLs x a u->RdLs x b v->RdLs x (a++b) (u++v)
 | [],[],_,_,_,h=>h
 | _::_,_::_,_,_,h1,h2=>by simp only[RdLs]at h1;simp only[List.cons_append,RdLs];exact⟨h1.1,RdLs.app h1.2 h2⟩
 | [],_::_,_,_,h,_=>by simp[RdLs]at h
 | _::_,[],_,_,h,_=>by simp[RdLs]at h
def X0 (W:World):X:=⟨W,fun b=>b<W.heap.size⟩
theorem mapM_get {α β:Type}{f:α->Option β}:∀ {l:List α}{r:List β},l.mapM f=some r->r.length=l.length∧∀(i:Nat) (x:α),l[i]?=some x->f x=r[i]?
 | [],r,h=>by
  simp only[List.mapM_nil,Option.pure_def,Option.some.injEq]at h
  subst h
  simp
 | a::l,r,h=>by
  rw[List.mapM_cons]at h
  simp only[Option.bind_eq_bind,Option.bind_eq_some_iff,Option.pure_def,Option.some.injEq]at h
  obtain⟨b,h1,r',h2,rfl⟩:=h
  obtain⟨k1,k2⟩:=mapM_get h2
  refine⟨by simp[k1],fun i x hx=>?_⟩
  cases i with
  | zero=>simp only[List.getElem?_cons_zero,Option.some.injEq]at hx ⊢;subst hx;exact h1
  | succ i=>simpa using k2 i x (by simpa using hx)
theorem cells_get {W:World}{a:Addr}{n:Nat}{cs:List Value}(h:W.cells? 0 a n=some cs):cs.length=n∧∀j,j<n->W.cell? (a.add j)=cs[j]?:=by
 simp only[World.cells?,Nat.zero_le,if_true]at h
 obtain⟨h1,h2⟩:=mapM_get h
 exact⟨by simpa using h1,fun j hj=>h2 j j (by simp[hj])⟩
theorem cell_spot {W:World}{a:Addr}{v:Value}(h:W.cell? a=some v):a.spot=none∧a.block<W.heap.size:=by
 unfold World.cell? at h
 split at h
 ·rename_i c _ _ hb
  refine⟨?_,(Array.getElem?_eq_some_iff.1 hb).1⟩
  split at h
  ·cases h
  ·rename_i hs;simpa using hs
 ·cases h
theorem list_of {α:Type}{p:Nat->α->Prop}:∀(n:Nat),(∀i,i<n->∃a,p i a)->∃l:List α,l.length=n∧∀(i:Nat) (a:α),l[i]?=some a->p i a
 | 0,_=>⟨[],rfl,by simp⟩
 | n+1,h=>by
  obtain⟨l,h1,h2⟩:=list_of n fun i hi=>h i (by omega)
  obtain⟨a,ha⟩:=h n (by omega)
  refine⟨l++[a],by simp[h1],fun i b hb=>?_⟩
  rcases Nat.lt_trichotomy i n with hi | hi | hi
  ·exact h2 i b (by rwa [List.getElem?_append_left (by omega)]at hb)
  ·subst hi
   rw[List.getElem?_append_right (by omega)]at hb
   simp[h1]at hb
   subst hb;exact ha
  ·rw[List.getElem?_eq_none (by simp[h1];omega)]at hb
   cases hb
theorem rdRows_at {x:X}{b:Nat}(sz:Nat):∀(rows:List (List L)) (off:Nat),(∀i r,rows[i]?=some r->r.length=sz∧RdCells x r b (off+i*sz))->RdRows x rows b off
 | [],_,_=>by simp[RdRows]
 | r::rs,off,h=>by
  obtain⟨h1,h2⟩:=h 0 r (by simp)
  simp only[RdRows]
  refine⟨by simpa using h2,rdRows_at sz rs (off+r.length) fun i q hq=>?_⟩
  obtain⟨h3,h4⟩:=h (i+1) q (by simpa using hq)
  refine⟨h3,?_⟩
  rw[h1,show off+sz+i*sz=off+(i+1)*sz by rw[Nat.add_mul];omega]
  exact h4
theorem read_fields {W:World}{K n:Nat}{T:List TypeId}{k:Nat}(ih:∀t cs x,DataW.trod enc P W 0 (fun _=>true) true n t cs=some x->∀lfs,leavesT P k t=some lfs->lfs.all (inT T)=true->∃ls,RdLs (X0 W) ls cs∧All2 (OkV P K n) lfs ls) (cs:List Value) :
  ∀(fs:List Field) (off:Nat) (xs:List (DataW H×List MemPlace)),(fs.mapM fun f=>DataW.trod enc P W 0 (fun _=>true) true n f.type ((cs.drop f.offset).take (P.cellsOf f.type)))=some xs ->
   ∀lfs,leavesF P (leavesT P k) fs off=some lfs->lfs.all (inT T)=true->∃ls,RdLs (X0 W) ls ((cs.drop off).take lfs.length)∧All2 (OkV P K n) lfs ls
 | [],off,xs,h,lfs,hl,_=>by
  simp only[leavesF,Option.some.injEq]at hl
  subst hl
  exact⟨[],by simp[RdLs],trivial⟩
 | f::fs,off,xs,h,lfs,hl,hT=>by
  simp only[leavesF]at hl
  split at hl<;>try (simp at hl;done)
  rename_i a ha
  split at hl<;>try (simp at hl;done)
  rename_i ho
  simp only[Option.map_eq_some_iff]at hl
  obtain⟨b,hb,rfl⟩:=hl
  rw[List.mapM_cons]at h
  simp only[Option.bind_eq_bind,Option.bind_eq_some_iff,Option.pure_def,Option.some.injEq]at h
  obtain⟨x,h1,xs',h2,_⟩:=h
  rw[List.all_append,Bool.and_eq_true]at hT
  obtain⟨ls1,r1,o1⟩:=ih _ _ _ h1 a ha hT.1
  obtain⟨ls2,r2,o2⟩:=read_fields ih cs fs (off+a.length) xs' h2 b hb hT.2
  rw[ho.1,ho.2]at r1
  refine⟨ls1++ls2,?_,o1.append o2⟩
  have:(cs.drop off).take (a++b).length=(cs.drop off).take a.length++(cs.drop (off+a.length)).take b.length:=by
   rw[List.length_append,List.take_add,List.drop_drop]
  rw[this]
  exact r1.app r2
theorem read_ok {W:World}{K:Nat}{T:List TypeId}(hT:goodT P K T=true):∀(n:Nat) (t:TypeId) (cs:List Value) (x:DataW H×List MemPlace),DataW.trod enc P W 0 (fun _=>true) true n t cs=some x ->
  ∀(k:Nat) (lfs:List Lf),leavesT P k t=some lfs->lfs.all (inT T)=true->∃ls,RdLs (X0 W) ls cs∧All2 (OkV P K n) lfs ls
 | 0,t,cs,x,h,_,_,_,_=>by simp[DataW.trod]at h
 | n+1,t,cs,x,h,0,lfs,hl,_=>by simp[leavesT]at hl
 | n+1,t,cs,x,h,k+1,lfs,hl,hin=>by
  have ih:=read_ok (W:=W) hT n
  have h0:=h
  simp only[leavesT]at hl
  split at hl<;>try (simp at hl;done)
  ·rename_i hu
   simp only[Option.some.injEq]at hl;subst hl
   obtain⟨b,rfl,_⟩:=DataW.trod_bool hu h
   exact⟨[.bool b],by simp[RdLs,RdL],by simp[All2,OkV]⟩
  ·rename_i q hu
   simp only[Option.some.injEq]at hl;subst hl
   obtain⟨m,rfl,_,hw⟩:=DataW.trod_int hu h
   exact⟨[.int q m],by simp[RdLs,RdL],by simp[All2,OkV,hw]⟩
  ·rename_i hu
   simp only[Option.some.injEq]at hl;subst hl
   obtain⟨b,rfl,_,hw⟩:=DataW.trod_string hu h
   refine⟨[.str b.data.toList],by simp only[RdLs,RdL,and_true],?_⟩
   simp only[All2,OkV,and_true]
   exact⟨_,rfl,by rw[Array.length_toList];exact hw⟩
  ·rename_i e hu
   simp only[Option.some.injEq]at hl;subst hl
   have he:T.contains e=true:=by simpa [inT]using hin
   have hg:=List.all_eq_true.1 hT e (by simpa using he)
   split at hg<;>try (cases hg;done)
   rename_i lfe hle
   simp only[Bool.and_eq_true,decide_eq_true_eq]at hg
   obtain⟨⟨g1,g2⟩,g3⟩:=hg
   rcases DataW.trod_slice hu h0 with⟨rfl,_⟩|⟨a,len,cap,elems,rest,n',hn,rfl,_,_,hlc,hcm,hel,hrd,hsp,_⟩
   ·exact⟨[.sl []],by simp[RdLs,RdL],by simp[All2,OkV]⟩
   ·obtain rfl:n=n':=by omega
    have hidx:∀m,(W.cells? 0 (a.add (m*P.cellsOf e)) (P.cellsOf e)).bind (DataW.trod enc P W 0 (fun _=>true) true n e)=none∨∃c y,W.cells? 0 (a.add (m*P.cellsOf e)) (P.cellsOf e)=some c∧DataW.trod enc P W 0 (fun _=>true) true n e c=some y:=by
     intro m
     cases hm:(W.cells? 0 (a.add (m*P.cellsOf e)) (P.cellsOf e)).bind (DataW.trod enc P W 0 (fun _=>true) true n e) with
     | none=>exact .inl rfl
     | some y=>
      obtain⟨c,h2,h3⟩:=Option.bind_eq_some_iff.1 hm
      exact .inr ⟨c,y,h2,h3⟩
    by_cases hcap:cap=0
    ·subst hcap
     obtain rfl:len=0:=by omega
     refine⟨[.sl []],?_,by simp[All2,OkV]⟩
     simp only[RdLs,RdL]
     exact⟨.inr (.inr ⟨a,by simp⟩),trivial⟩
    ·have hspot:a.spot=none:=by
      have h0:∃c y,W.cells? 0 (a.add (0*P.cellsOf e)) (P.cellsOf e)=some c∧DataW.trod enc P W 0 (fun _=>true) true n e c=some y:=by
       rcases hidx 0 with h1 | h1
       ·exfalso
        by_cases hl0:len=0
        ·have h2:=(hsp rfl).2 0 (by omega)
         rw[hl0,Nat.zero_add]at h2
         rw[h1]at h2
         have h3:=(hsp rfl).1
         rw[List.getElem?_eq_getElem (by omega)]at h2
         cases h2
        ·have h2:=hrd 0 (by omega)
         rw[h1,List.getElem?_eq_getElem (by omega)]at h2
         cases h2
       ·exact h1
      obtain⟨c,y,h2,h3⟩:=h0
      obtain⟨c1,c2⟩:=cells_get h2
      have h00:=c2 0 (by omega)
      rw[List.getElem?_eq_getElem (by omega),Nat.zero_mul]at h00
      exact (cell_spot h00).1
     obtain⟨b,off,sp⟩:=a
     simp only at hspot
     subst hspot
     have hcell:∀i,i<len->∃ls:List L,ls.length=P.cellsOf e∧RdCells (X0 W) ls b (off+i*P.cellsOf e)∧All2 (OkV P K n) lfe ls:=by
      intro i hi
      have h1:=hrd i hi
      rw[List.getElem?_eq_getElem (by omega)]at h1
      obtain⟨c,h2,h3⟩:=Option.bind_eq_some_iff.1 h1
      obtain⟨c1,c2⟩:=cells_get h2
      obtain⟨ls,r1,r2⟩:=ih e c _ h3 K lfe hle g1
      have hlen:ls.length=P.cellsOf e:=by rw[<- r2.len,g2]
      have h00:=c2 0 (by omega)
      rw[List.getElem?_eq_getElem (by omega),add_none,add_none]at h00
      have hs:=cell_spot h00
      refine⟨ls,hlen,rdCells_vals (x:=X0 W) hs.2 ls c _ r1 fun j v hv=>?_,r2⟩
      have:=c2 j (by rw[<- c1];exact (List.getElem?_eq_some_iff.1 hv).1)
      rw[hv,add_none,add_none]at this
      exact this
     obtain⟨rows,hr1,hr2⟩:=list_of len hcell
     refine⟨[.sl rows],?_,?_,trivial⟩
     ·simp only[RdLs,RdL]
      refine⟨.inr (.inl ⟨b,off,cap,by rw[hr1],by omega,rdRows_at (P.cellsOf e) rows off fun i r hr=>⟨(hr2 i r hr).1,(hr2 i r hr).2.1⟩⟩),trivial⟩
     ·simp only[OkV]
      refine⟨rows,rfl,by omega,fun r hr=>?_⟩
      obtain⟨i,hi,rfl⟩:=List.getElem_of_mem hr
      exact⟨lfe,hle,(hr2 i _ (List.getElem?_eq_getElem hi)).2.2⟩
  ·rename_i fs hu
   split at hl<;>try (simp at hl;done)
   rename_i a ha
   split at hl<;>try (simp at hl;done)
   rename_i hal
   simp only[Option.some.injEq]at hl;subst hl
   unfold DataW.trod at h;rw[hu]at h
   simp only at h
   split at h<;>try (simp at h;done)
   rename_i hc
   obtain⟨xs,h1,_⟩:=Option.map_eq_some_iff.1 h
   obtain⟨ls,r1,r2⟩:=read_fields (fun t cs x h lfs hl hin=>ih t cs x h k lfs hl hin) cs fs.toList 0 xs h1 a ha hin
   refine⟨ls,?_,r2.imp fun _ _=>OkV.succ⟩
   rw[hal,<- hc]at r1
   simpa using r1
termination_by n=>n
theorem read_arg {W:World}{K:Nat}{T:List TypeId}(hT:goodT P K T=true) {base:Nat}{t:TypeId}{v:Value}{d:DataW H}{ps:List MemPlace}{fs:Array Field}(hu:P.underlying t=some (.struct fs)) {lfs:List Lf}
  (hl:leavesT P K t=some lfs) (hin:lfs.all (inT T)=true) (hval:Value.okWide P W .any base t v) (hd:DataW.Trod enc P W 0 (fun _=>true) true t v d ps):∃ls n,D (X0 W) (.record ls) v∧All2 (OkV P K n) lfs ls:=by
 obtain⟨n,hn⟩:=hd
 obtain⟨ls,h1,h2⟩:=read_ok hT n t _ _ hn K lfs hl hin
 unfold Value.okWide at hval
 rw[hu]at hval
 obtain⟨cs,rfl,_,_⟩:=hval
 exact⟨ls,n,by simp only[D];exact⟨cs,rfl,by simpa [Value.cells]using h1⟩,h2⟩
theorem lift_list {α:Type}{enc:α->List L}{Ok:α->Prop}:∀ {rows:List (List L)},(∀r∈rows,∃a,r=enc a∧Ok a)->∃l:List α,rows=l.map enc∧∀a∈l,Ok a
 | [],_=>⟨[],rfl,by simp⟩
 | r::rs,h=>by
  obtain⟨a,rfl,ha⟩:=h r (by simp)
  obtain⟨l,rfl,hl⟩:=lift_list (rows:=rs) fun q hq=>h q (by simp[hq])
  refine⟨a::l,rfl,fun b hb=>?_⟩
  rcases List.mem_cons.1 hb with rfl | hb
  ·exact ha
  ·exact hl b hb
theorem wf_i64 {n:Int}(h:(Lit.int .i64 n).wf=true) : -9223372036854775808<=n∧n<=9223372036854775807:=by
 simp only[Lit.wf,Bool.and_eq_true,decide_eq_true_eq]at h
 exact h
end
section
open Go.ChangeShapes Go.WideShapes Go.ChangeAt Go.RowKit
variable {P:Program}{H:Type}{enc:TypeId×Value->H}
theorem X0_inv {W:World}(ht:Tabs (X0 W)):Inv (X0 W) []:=⟨⟨fun _ h=>h,ht⟩,by simp,by simp,by simp⟩
theorem kept_le {W:World}{y:X}(h:(X0 W).le y):W.keptBut y.w (fun _=>False):=by
 refine⟨h.os,h.output,fun i hi=>?_⟩
 rw[show y.w.heap[i]?=W.heap[i]? from (h.keep i hi).2]
 cases W.heap[i]? with
 | none=>rfl
 | some o=>cases o<;>simp
theorem sameAt_le {W:World}{y:X}(h:(X0 W).le y) {p:MemPlace}(hb:p.block<W.heap.size):W.sameAt y.w p:=by
 cases p with
 | cell b o=>exact h.cell hb
 | map b=>exact (h.keep b hb).2
theorem frozen_le {W:World}{y:X}(h:(X0 W).le y) {a:Addr}(hb:a.block<W.heap.size):y.w.frozen? a=W.frozen? a:=by
 unfold World.frozen?
 rw[show y.w.heap[a.block]?=W.heap[a.block]? from (h.keep a.block hb).2]
theorem trodAll_carry {w w':World}{base:Nat}{sp:Nat->Bool}{hd:Bool}:∀ {ts:List TypeId}{vs:List Value}{ds:List (DataW H)}{ps:List MemPlace},
  DataW.TrodAll enc P w base sp hd ts vs ds ps->(∀p∈ps,w.sameAt w' p)->DataW.TrodAll enc P w' base sp hd ts vs ds ps
 | [],[],[],_,h,_=>h
 | _::_,_::_,_::_,_,⟨p,q,⟨n,h1⟩,h2,e⟩,hs=>⟨p,q,⟨n,DataW.trod_carry _ _ _ _ h1 fun x hx=>hs x (by rw[e];exact List.mem_append_left _ hx)⟩,trodAll_carry h2 (fun x hx=>hs x (by rw[e];exact List.mem_append_right _ hx)),e⟩
 | [],[],_::_,_,h,_=>h.elim
 | [],_::_,_,_,h,_=>h.elim
 | _::_,[],_,_,h,_=>h.elim
 | _::_,_::_,[],_,h,_=>h.elim
theorem post_le {f:Func}{s:ChangeSpec}{apart fresh handsOn again:Bool}{W:World}{y:X}{args:Array Value}{v:Value}{ds gs:List (DataW H)}{before:List MemPlace}
  (hl:laidOutB P=true) (hm:mapsRowed P=true) (hz:∀t e,t<P.types.size->P.underlying t=some (.slice e)->0<P.cellsOf e) (hts:∀t∈f.params.toList,t<P.types.size)
  (hW:DataW.Whole enc P f.params.toList s.vars apart W args.toList ds gs before) (hvs:s.vars=[]) (ha:(s.fn H (ds++gs)).args=ds) (hv:(s.fn H (ds++gs)).vars=[])
  (hle:(X0 W).le y) (hres:∀(b:Nat) (sp:Nat->Bool) (hd:Bool),DataW.TrodAll enc P y.w b sp hd f.resultTypes.toList (v.resultList f.resultTypes.size) (s.fn H (ds++gs)).results [])
  (hok:∀(j:Nat) (t:TypeId) (r:Value),f.resultTypes[j]?=some t->(v.resultList f.resultTypes.size)[j]?=some r->Value.okWide P y.w .any 0 t r) :
  s.post enc P f apart fresh handsOn again W args v y.w:=by
 have hlt:=hW.lt
 have hW':=hW
 obtain⟨p,q,h1,h2,e,h3,h4⟩:=hW
 have hq:q=[]∧gs=[]:=by
  rw[hvs]at h2
  cases gs with
  | nil=>exact⟨h2,rfl⟩
  | cons _ _=>exact h2.elim
 obtain⟨rfl,rfl⟩:=hq
 rw[List.append_nil]at e
 subst e
 have hA:∀sp:Nat->Bool,(∀x∈before,sp x.block=true)->DataW.TrodAll enc P y.w 0 sp true f.params.toList args.toList (s.fn H (ds++[])).args before:=fun sp hsp=>by
  rw[ha]
  exact trodAll_carry (h1.respare (kids_rows hl hm) hz hts hsp) fun x hx=>sameAt_le hle (hlt x hx)
 have hV:∀sp:Nat->Bool,DataW.TrodVars enc P y.w sp s.vars (s.fn H (ds++[])).vars []:=fun sp=>by
  rw[hvs,hv]
  rfl
 refine⟨ds,[],before,[],before,[],hW',hres _ _ _,hA _ (fun x hx=>by simpa using hlt x hx),hV _,World.keptBut_mono (fun _ h=>h.elim) (kept_le hle),fun _=>?_⟩
 refine⟨hok,_,_,([]++before)++[],⟨[]++before,[],trodAll_append (hA _ (fun _ _=>rfl)) (hres _ _ _),hV _,rfl,?_,?_⟩,?_⟩
 ·intro b off hp
  simp only[List.nil_append,List.append_nil]at hp
  rw[frozen_le hle (hlt _ hp)]
  exact h3 b off hp
 ·intro hap
  simpa using h4 hap
 ·intro x hx _
  simpa using hx
theorem law_of {g:FuncId}{f:Func}{s:ChangeSpec}{apart fresh handsOn again:Bool}{W:World}{args:Array Value}{ds gs:List (DataW H)}{before:List MemPlace}{az:List A}{tb:TypeId}
  (htab:Tabs (X0 W)) (hl:laidOutB P=true) (hm:mapsRowed P=true) (hz:∀t e,t<P.types.size->P.underlying t=some (.slice e)->0<P.cellsOf e) (hts:∀t∈f.params.toList,t<P.types.size)
  (hr:f.resultTypes=#[tb]) (hb:P.underlying tb=some .bool)
  (hW:DataW.Whole enc P f.params.toList s.vars apart W args.toList ds gs before) (hvs:s.vars=[]) (ha:(s.fn H (ds++gs)).args=ds) (hv:(s.fn H (ds++gs)).vars=[]) (hrs:(s.fn H (ds++gs)).results=[.lit (.bool true)])
  (hd:Ds (X0 W) az args.toList) (hc:CallFn P g az (.dat (.bool true))):Calls P g args W fun e W'=>∃v,e=.returned v∧s.post enc P f apart fresh handsOn again W args v W':=by
 refine (hc.2 (X0 W) args [] (X0_inv htab) hd).mono ?_
 rintro _ _ ⟨y,v,r,H',rfl,rfl,hle,_,hvv,rfl,rfl⟩
 simp only[D,RdL]at hvv
 subst hvv
 refine⟨_,rfl,post_le hl hm hz hts hW hvs ha hv hle ?_ ?_⟩
 ·intro b sp hd'
  rw[hrs,hr]
  have ht:DataW.Trod enc P y.w b sp hd' tb (.bool true) (.lit (.bool true)) []:=⟨1,by simp[DataW.trod,Value.cells,hb]⟩
  exact trodAll_cons_mk ht trodAll_mk0
 ·intro j t r h1 h2
  rw[hr]at h1 h2
  cases j with
  | zero=>
   simp only[Array.size_singleton,Value.resultList]at h1 h2
   obtain rfl:t=tb:=by simpa using h1.symm
   obtain rfl:r=.bool true:=by simpa using h2.symm
   exact okWide_bool_mk hb _
  | succ j=>simp at h1
end
section
open Go.ChangeShapes Go.WideShapes Go.ChangeAt Go.RowKit
abbrev tys:List TypeId:=[9,63,3,61,4]
theorem tys_good:goodT Tryz.prog 4 tys=true:=by kernel_rfl
abbrev lfSt:List Lf:=[.sl 3,.sl 4,.sl 4,.sl 4,.sl 3]
theorem leavesSt:leavesT Tryz.prog 4 29=some lfSt:=by kernel_rfl
theorem leavesI:leavesT Tryz.prog 4 3=some [.int .i64]:=by kernel_rfl
theorem leavesB:leavesT Tryz.prog 4 4=some [.bool]:=by kernel_rfl
theorem all1 {R:Lf->L->Prop}{f:Lf}{r:List L}(h:All2 R [f] r):∃l,r=[l]∧R f l:=by
 rcases r with _ | ⟨a,_ | ⟨b,r⟩⟩<;>simp only[All2,and_true,and_false]at h
 exact⟨a,rfl,h⟩
theorem lift_sl {α:Type}{enc:α->List L}{Ok:α->Prop}{n:Nat}{e:TypeId}{l:L}(h:OkV Tryz.prog 4 n (.sl e) l) {lfs:List Lf}(he:leavesT Tryz.prog 4 e=some lfs)
  (hr:∀m r,n=m+1->All2 (OkV Tryz.prog 4 m) lfs r->∃a,r=enc a∧Ok a):∃xs:List α,l=.sl (xs.map enc)∧Sh xs∧∀a∈xs,Ok a:=by
 cases n with
 | zero=>simp[OkV]at h
 | succ m=>
  simp only[OkV]at h
  obtain⟨rows,rfl,h1,h2⟩:=h
  obtain⟨xs,rfl,hx⟩:=lift_list (enc:=enc) (Ok:=Ok) (rows:=rows) fun r hrr=>by
   obtain⟨lfs',h3,h4⟩:=h2 r hrr
   rw[he]at h3
   cases h3
   exact hr m r rfl h4
  exact⟨xs,rfl,by simpa [maxLen,Sh]using h1,hx⟩
theorem lift_I {n:Nat}{l:L}(h:OkV Tryz.prog 4 n (.sl 3) l):∃xs:List Int,l=.sl (xs.map encI)∧Sh xs∧∀a∈xs,I64 a:=by
 refine lift_sl (Ok:=I64) h leavesI ?_
 intro m r _ hr
 obtain⟨l,rfl,hl⟩:=all1 hr
 have:∃k,l=.int .i64 k∧(Lit.int .i64 k).wf=true:=by cases m<;>simpa [OkV]using hl
 obtain⟨k,rfl,hk⟩:=this
 exact⟨k,rfl,wf_i64 hk⟩
theorem lift_B {n:Nat}{l:L}(h:OkV Tryz.prog 4 n (.sl 4) l):∃xs:List Bool,l=.sl (xs.map encB)∧Sh xs:=by
 obtain⟨xs,h1,h2,_⟩:=lift_sl (enc:=encB) (Ok:=fun _=>True) h leavesB (by
  intro m r _ hr
  obtain⟨l,rfl,hl⟩:=all1 hr
  have:∃k,l=.bool k:=by cases m<;>simpa [OkV]using hl
  obtain⟨k,rfl⟩:=this
  exact⟨k,rfl,trivial⟩)
 exact⟨xs,h1,h2⟩
theorem ok_int {n:Nat}{l:L}(h:OkV Tryz.prog 4 n (.int .i64) l):∃k,l=.int .i64 k∧I64 k:=by
 have:∃k,l=.int .i64 k∧(Lit.int .i64 k).wf=true:=by cases n<;>simpa [OkV]using h
 obtain⟨k,rfl,hk⟩:=this
 exact⟨k,rfl,wf_i64 hk⟩
theorem ok_str {n:Nat}{l:L}(h:OkV Tryz.prog 4 n .str l):∃s,l=.str s∧Sh s:=by
 have:∃s,l=.str s∧s.length<=maxLen:=by cases n<;>simpa [OkV]using h
 obtain⟨s,rfl,hs⟩:=this
 exact⟨s,rfl,by simpa [maxLen,Sh]using hs⟩
theorem lift_St {n:Nat}{r:List L}(h:All2 (OkV Tryz.prog 4 n) lfSt r):∃s:State,r=encSt s∧OkSt s:=by
 rcases r with _ | ⟨a0,_ | ⟨a1,_ | ⟨a2,_ | ⟨a3,_ | ⟨a4,_ | ⟨a5,r⟩⟩⟩⟩⟩⟩<;>simp only[All2,and_true,and_false]at h
 obtain⟨h0,h1,h2,h3,h4⟩:=h
 obtain⟨x0,rfl,s0,e0⟩:=lift_I h0
 obtain⟨x1,rfl,s1⟩:=lift_B h1
 obtain⟨x2,rfl,s2⟩:=lift_B h2
 obtain⟨x3,rfl,s3⟩:=lift_B h3
 obtain⟨x4,rfl,s4,e4⟩:=lift_I h4
 exact⟨⟨x0,x1,x2,x3,x4⟩,rfl,⟨s0,s1,s2,s3,s4,e0,e4⟩⟩
theorem read_St {H:Type}{enc:TypeId×Value->H}{W:World}{base:Nat}{v:Value}{d:DataW H}{ps:List MemPlace}(hv:Value.okWide Tryz.prog W .any base 29 v) (hd:DataW.Trod enc Tryz.prog W 0 (fun _=>true) true 29 v d ps) :
  ∃s:State,D (X0 W) (aSt s) v∧OkSt s:=by
 have h0:lfSt.all (inT tys)=true:=by decide
 obtain⟨ls,n,h1,h2⟩:=read_arg tys_good Tryz.underlying29 leavesSt h0 hv hd
 obtain⟨c,rfl,hc⟩:=lift_St h2
 exact⟨c,h1,hc⟩
theorem facts:laidOutB Tryz.prog=true∧mapsRowed Tryz.prog=true∧∀t e,t<(Tryz.prog).types.size->(Tryz.prog).underlying t=some (.slice e)->0<(Tryz.prog).cellsOf e:=
 ⟨by kernel_rfl,by kernel_rfl,slices_full_of _ (by kernel_rfl)⟩
end
section
open Go.ChangeShapes Go.WideShapes Go.ChangeAt Go.RowKit
abbrev tysZ:List TypeId:=[9,67,3,172,50]
theorem tysZ_good:goodT Tryz.prog 4 tysZ=true:=by kernel_rfl
abbrev lfPa:List Lf:=[.int .i64,.str,.int .i64]
abbrev lfPi:List Lf:=[.int .i64,.str,.int .i64,.str]
abbrev lfCi:List Lf:=[.sl 67,.sl 172]
theorem leavesPa:leavesT Tryz.prog 4 67=some lfPa:=by kernel_rfl
theorem leavesPi:leavesT Tryz.prog 4 172=some lfPi:=by kernel_rfl
theorem leavesCi:leavesT Tryz.prog 4 35=some lfCi:=by kernel_rfl
theorem lift_Pa {n:Nat}{r:List L}(h:All2 (OkV Tryz.prog 4 n) lfPa r):∃x:Prt,r=encPa x∧Sh x.name:=by
 rcases r with _ | ⟨a,_ | ⟨b,_ | ⟨c,_ | ⟨d,r⟩⟩⟩⟩<;>simp only[All2,and_true,and_false]at h
 obtain⟨h1,h2,h3⟩:=h
 obtain⟨k1,rfl,i1⟩:=ok_int h1
 obtain⟨k2,rfl,i2⟩:=ok_str h2
 obtain⟨k3,rfl,i3⟩:=ok_int h3
 exact⟨⟨k1,k2,k3⟩,rfl,i2⟩
theorem lift_Pi {n:Nat}{r:List L}(h:All2 (OkV Tryz.prog 4 n) lfPi r):∃x:PipeZ,r=encPi x∧True:=by
 rcases r with _ | ⟨a,_ | ⟨b,_ | ⟨c,_ | ⟨d,_ | ⟨e,r⟩⟩⟩⟩⟩<;>simp only[All2,and_true,and_false]at h
 obtain⟨h1,h2,h3,h4⟩:=h
 obtain⟨k1,rfl,i1⟩:=ok_int h1
 obtain⟨k2,rfl,i2⟩:=ok_str h2
 obtain⟨k3,rfl,i3⟩:=ok_int h3
 obtain⟨k4,rfl,i4⟩:=ok_str h4
 exact⟨((k1,k2),(k3,k4)),rfl,trivial⟩
theorem lift_Ci {n:Nat}{r:List L}(h:All2 (OkV Tryz.prog 4 n) lfCi r):∃c:Cir,r=encCi c∧Sh c.parts∧Sh c.pipes:=by
 rcases r with _ | ⟨a0,_ | ⟨a1,_ | ⟨a2,r⟩⟩⟩<;>simp only[All2,and_true,and_false]at h
 obtain⟨h0,h1⟩:=h
 obtain⟨x0,rfl,s0,e0⟩:=lift_sl (enc:=encPa) (Ok:=fun x:Prt=>Sh x.name) h0 leavesPa fun m r _ hr=>lift_Pa hr
 obtain⟨x1,rfl,s1,e1⟩:=lift_sl (enc:=encPi) (Ok:=fun _:PipeZ=>True) h1 leavesPi fun m r _ hr=>lift_Pi hr
 exact⟨⟨x0,x1⟩,rfl,s0,s1⟩
theorem read_Ci {H:Type}{enc:TypeId×Value->H}{W:World}{base:Nat}{v:Value}{d:DataW H}{ps:List MemPlace}(hv:Value.okWide Tryz.prog W .any base 35 v) (hd:DataW.Trod enc Tryz.prog W 0 (fun _=>true) true 35 v d ps) :
  ∃c:Cir,D (X0 W) (aCi c) v∧Sh c.parts∧Sh c.pipes:=by
 have h0:lfCi.all (inT tysZ)=true:=by decide
 obtain⟨ls,n,h1,h2⟩:=read_arg tysZ_good Tryz.underlying35 leavesCi h0 hv hd
 obtain⟨c,rfl,hc⟩:=lift_Ci h2
 exact⟨c,h1,hc⟩
end
section
open Go.ChangeShapes Go.WideShapes Go.ChangeAt Go.RowKit
variable {P:Program}
def cellsD:Nat->DataW Unit->Option (List Value)
 | 0,_=>none
 | _+1,.lit (.int k n)=>some [.int k n]
 | m+1,.agg ds=>(ds.mapM (cellsD m)).map List.flatten
 | _,_=>none
def niceT (P:Program):Nat->TypeId->Bool
 | 0,_=>false
 | m+1,t=>match P.underlying t with
  | some (.int _)=>true
  | some (.array n e)=>n*P.cellsOf e==P.cellsOf t&&niceT P m e
  | _=>false
theorem chunks {α:Type}(sz:Nat) (cs:List α):∀n,n*sz<=cs.length->((List.range n).map fun i=>(cs.drop (i*sz)).take sz).flatten=cs.take (n*sz)
 | 0,_=>by simp
 | n+1,h=>by
  rw[List.range_succ,List.map_append,List.flatten_append,chunks sz cs n (by rw[Nat.add_mul]at h;omega)]
  simp only[List.map_cons,List.map_nil,List.flatten_cons,List.flatten_nil,List.append_nil]
  rw[Nat.add_mul,Nat.one_mul,List.take_add]
theorem mapM_some {α β:Type}{f:α->Option β}:∀ {l:List α}{r:List β},l.mapM f=some r->l.map f=r.map some
 | [],r,h=>by
  simp at h
  subst h
  rfl
 | a::l,r,h=>by
  rw[List.mapM_cons]at h
  cases ha:f a with
  | none=>rw[ha]at h;simp at h
  | some b=>
   cases hl:l.mapM f with
   | none=>rw[ha,hl]at h;simp at h
   | some s=>
    rw[ha,hl]at h
    simp at h
    subst h
    simp[ha,mapM_some hl]
theorem cells_of_trod {W:World}{base:Nat}{sp:Nat->Bool}{held:Bool}:∀(m fuel:Nat) (t:TypeId) (cs:List Value) (d:DataW Unit) (p:List MemPlace) (vs:List Value),
  DataW.trod (fun _=>()) P W base sp held fuel t cs=some (d,p)->niceT P m t=true->cellsD m d=some vs->cs=vs
 | 0,_,_,_,_,_,_,_,h,_=>by simp[niceT]at h
 | m+1,0,_,_,_,_,_,h,_,_=>by simp[DataW.trod]at h
 | m+1,fuel+1,t,cs,d,p,vs,h,hn,hc=>by
  unfold niceT at hn
  unfold DataW.trod at h
  split at hn
  ·rename_i k hk
   rw[hk]at h
   split at h<;>rename_i e1<;>try (simp at e1;done)
   all_goals first
    | (split at h
       ·simp only[Option.some.injEq,Prod.mk.injEq]at h
        obtain⟨rfl,rfl⟩:=h
        rename_i hkk
        simp only[cellsD,Option.some.injEq]at hc
        subst hc
        obtain⟨rfl,_⟩:=hkk
        simp only[Option.some.injEq,TypeDesc.int.injEq]at e1
        subst e1
        rfl
       ·cases h)
    | (cases h;done)
  ·rename_i n e hk
   simp only[Bool.and_eq_true,beq_iff_eq]at hn
   rw[hk]at h
   simp only at h
   split at h
   ·rename_i hl
    obtain⟨xs,hx,e1⟩:=Option.map_eq_some_iff.1 h
    simp only[Prod.mk.injEq]at e1
    obtain⟨rfl,-⟩:=e1
    simp only[cellsD]at hc
    obtain⟨ys,hy,rfl⟩:=Option.map_eq_some_iff.1 hc
    have h1:=mapM_some hx
    have h2:=mapM_some hy
    have hlen:xs.length=n:=by
     have:=congrArg List.length h1
     simpa using this.symm
    have hlen2:ys.length=n:=by
     have:=congrArg List.length h2
     simp at this
     omega
    have key:((List.range n).map fun i=>(cs.drop (i*P.cellsOf e)).take (P.cellsOf e))=ys:=by
     apply List.ext_getElem
     ·simp[hlen2]
     ·intro i a1 a2
      have b1:((List.range n).map fun i=>DataW.trod (fun _=>()) P W base sp held fuel e ((cs.drop (i*P.cellsOf e)).take (P.cellsOf e)))[i]?=(xs.map some)[i]?:=by rw[h1]
      have b2:((xs.map (·.1)).map (cellsD m))[i]?=(ys.map some)[i]?:=by rw[h2]
      have hi:i<n:=by omega
      rw[List.getElem?_map,List.getElem?_range hi,List.getElem?_map,List.getElem?_eq_getElem (show i<xs.length by omega)]at b1
      rw[List.getElem?_map,List.getElem?_map,List.getElem?_eq_getElem (show i<xs.length by omega),List.getElem?_map,List.getElem?_eq_getElem a2]at b2
      simp only[Option.map_some,Option.some.injEq]at b1 b2
      have:=cells_of_trod m fuel e _ xs[i].1 xs[i].2 ys[i] b1 hn.2 b2
      simpa using this
    rw[<- key,chunks _ _ _ (by omega),List.take_of_length_le (by omega)]
   ·cases h
  ·cases hn
theorem laid_at {W:World}:∀ {l:List (String×DataW Unit)}{ps:List MemPlace},DataW.LaidVars P W l ps->∀ {n:String}{d:DataW Unit},(n,d)∈l ->
  ∃g t cs fuel p,P.globalNamed n=some g∧(P.globals[g]?).map (·.type)=some t∧W.var? P n=some cs∧DataW.trod (fun _=>()) P W 0 (fun _=>true) false fuel t cs.toList=some (d,p)
 | [],_,_,_,_,h=>by cases h
 | (n',d')::r,ps,h,n,d,hm=>by
  obtain⟨g,t,cs,fuel,p,q,h1,h2,h3,h4,h5,_⟩:=h
  rcases List.mem_cons.1 hm with e | hm
  ·cases e
   exact⟨g,t,cs,fuel,p,h1,h2,h3,h4⟩
  ·exact laid_at h5 hm
def tabB (P:Program) (g:Nat):Bool:=match (P.globals[g]?).map (·.type) with
 | some t=>niceT P 4 t
 | none=>false
theorem tab_one {W:World}{laid:List (String×DataW Unit)}(hL:laidMet P laid W) {n:String}{d:DataW Unit}(hm:(n,d)∈laid) {g:Nat}{ls:List L}(hg:P.globalNamed n=some g) (hB:tabB P g=true) (hc:cellsD 4 d=some (ls.map plV)) :
  (X0 W).ok g∧∃ty fr,(X0 W).w.heap[g]?=some (.cells (ls.map plV).toArray ty fr):=by
 obtain⟨ps,hv,_,_⟩:=hL
 obtain⟨g',t',cs,fuel,p,h1,h2,h3,h4⟩:=laid_at hv hm
 obtain rfl:=Option.some.inj (hg.symm.trans h1)
 have hn:niceT P 4 t'=true:=by
  unfold tabB at hB
  rw[h2]at hB
  exact hB
 have e:=cells_of_trod 4 fuel t' cs.toList d p _ h4 hn hc
 unfold World.var? at h3
 rw[hg]at h3
 simp only[Option.bind_some]at h3
 split at h3
 ·rename_i c ty fr hh
  simp only[Option.some.injEq]at h3
  subst h3
  refine⟨(Array.getElem?_eq_some_iff.1 hh).1,ty,fr,?_⟩
  show W.heap[g]?=_
  rw[hh,<- e]
 ·cases h3
end
theorem PositionsO_s (c:Cir) (hc:OkCir c) (s:State) (hs:SmS s) (h0:buildE c=0) (hz:rightC (planZ c).ctl s=0):CallS Tryz.prog 28 [aCi c,aSt s] [] fun r H'=>∃g,r=.tuple [.own 36 g,aI 0]∧H'=[(36,.seq g 3 1 (((planZ c).pos s).map rI))]:=by
 refine CallS.dropP (K:=fun r H'=>∃g,r=.tuple [.own 36 g,aI 0]∧subP [(36,.seq g 3 1 (((planZ c).pos s).map rI))] H') ?_ (fun r H' ⟨g,h1,h2⟩=>⟨_,h2,g,h1,rfl⟩)
 have hp:=build_s c hc.names hc.parts hc.pipes
 simp only[h0,if_true]at hp
 obtain⟨hr,hd,hch,_,_⟩:=build_zero h0
 have hok:=build_okC h0
 have hrt:=Right_fn (planZ c).ctl s hok hs
 have hval:=fun n:Nat=>Value_fn (planZ c).ctl s n hok hs
 have hln:=fun i n=>line_lt hr hd (i:=i) (n:=n)
 have hps:(planZ c).ps=c.parts:=rfl
 have hpl:c.parts.length<=64:=hr.few
 have hact:(planZ c).ctl.actuators=(planZ c).drives.length:=rfl
 generalize (planZ c).ctl=ct at *
 refine callS_of Tryz.func28 rfl Tryz.ntmps28 (rs:=[.tmp 4,.tmp 5]) rfl (by kernel_rfl) (by simp) (by kernel_rfl) ?_
 simp
 refine hp.mono ?_
 rintro r H' ⟨ss,rfl,rfl,hA⟩
 simp
 intro b7
 refine hrt.s ?_
 simp
 have hcnt:∀n:Nat,(n:Int)<countC ct->valueP ct s n=((valuesOf s)[n]?.getD false,0):=fun n hn=>by
  unfold valueP
  rw[if_neg (by simp[hz]),if_neg (by omega),Int.toNat_natCast]
 have hvl:(planZ c).drives.length<=s.valves.length:=by
  have:=(right_zero hz).2.1.2.1
  omega
 simp[hz]
 intro g
 refine⟨by omega,?_⟩
 refine V.forI (σ:=Value) c.parts.length [3,4,5,6,7,39] (by simp;exact rfl) (fun i g=>[(10,.own 36 g),(40,aI i)]) (fun i g=>(36,.seq g 3 1 (((planZ c).posO s i).map rI))::(7,.box b7 ((encC ct).map A.dat))::ss.hp) (fun _ _=>True) g trivial (by simp) ⟨by simp;exact rfl,by rw[posO_zero];simp[hps]⟩ ?_ ?_
 ·rintro i g hi -
  have hdr:=driven_s hA.ok hA.dr (by have:=hA.dl;omega) i
  have hol:((planZ c).posO s i).length=c.parts.length:=posO_len _ _ _
  have hst:=posO_set (planZ c) s (i:=i)
  have hkp:=posO_keep (planZ c) s (i:=i)
  have hpb:(planZ c).posB s i=match drivenZ (planZ c).drives i with
   | some k=>s.valves.getD k false
   | none=>match (planZ c).line i with
    | some n=>(valuesOf s)[n]?.getD false
    | none=>false:=rfl
  generalize (planZ c).posO s i=O at *
  have hOi:i<O.length:=by omega
  obtain⟨z,hz4⟩:∃z,O[i]=z:=⟨_,rfl⟩
  have hOz:O[i]?=some z:=by rw[List.getElem?_eq_getElem hOi,hz4]
  simp[hi]
  refine (hdr.mid [(36,_),(7,_)] []).mono ?_
  rintro r H' ⟨rfl,rfl⟩
  cases hz2:drivenZ (planZ c).drives i with
  | some k=>
   rw[hz2]at hpb
   have hkl:=drivenZ_lt hz2
   obtain⟨v,hv⟩:∃v,s.valves[k]=v:=⟨_,rfl⟩
   have hvo:s.valves[k]?=some v:=by rw[List.getElem?_eq_getElem (by omega),hv]
   have hvk:k<s.valves.length:=by omega
   have hpb:(planZ c).posB s i=v:=by rw[hpb];simp only[List.getD_eq_getElem?_getD,hvo,Option.getD_some]
   rw[hpb]at hst hkp
   cases v
   ·rw[hkp rfl]
    simp[idxI,hv,hvo,hvk]
    exact⟨by omega,by omega⟩
   ·rw[hst]
    simp[idxI,hv,hvo,hvk,numB,hOi,hOz]
    exact⟨by omega,by omega⟩
  | none=>
   rw[hz2]at hpb
   have hl:=hA.line i
   cases hn:(planZ c).line i with
   | none=>
    rw[hn]at hl hpb
    simp[idxI,hl]
    exact⟨⟨by omega,by omega⟩,by rw[hkp hpb]⟩
   | some n=>
    rw[hn]at hl hpb
    have hvn:=hval n
    rw[hcnt n (hln i n hn)]at hvn
    simp only at hpb
    generalize (valuesOf s)[n]?.getD false=v at *
    rw[hpb]at hst hkp
    cases v
    ·rw[hkp rfl]
     simp[idxI,hl]
     refine hvn.s ?_
     simp
     exact⟨by omega,by omega⟩
    ·rw[hst]
     simp[idxI,hl]
     refine hvn.s ?_
     simp[hOi,hOz,numB]
     exact⟨by omega,by omega⟩
 ·rintro g -
  rw[<- hps,posO_all]
  simp
  exact subP_of (by simp)

def courseR (c:Control) (s:State):State×List Int×Int×Int:=match courseP c 65 0 s []with
 | some (x,bad,n)=>(x,compI (sortI bad),n,0)
 | none=>(noSt,[],0,21)
def settleR (c:Control) (s:State):State×List Int×Int:=if rightC c s≠0 then (noSt,[],rightC c s) else ((courseR c s).1,(courseR c s).2.1,(courseR c s).2.2.2)
theorem Settle_fn (c:Control) (s:State) (hc:OkC c) (hs:SmS s):CallFn Tryz.prog 35 [aC c,aSt s] (.tuple [aSt (settleR c s).1,aIs (settleR c s).2.1,aI (settleR c s).2.2]):=by
 refine callFz_of Tryz.func35 rfl Tryz.ntmps35 (rs:=[.cell 4 29,.tmp 5,.tmp 6]) rfl (by kernel_rfl) (by simp) (by kernel_rfl) ?_
 simp
 intro b4
 refine (CallS.frame (of_s c s hc hs)).mono ?_
 rintro r H' ⟨H2,⟨k1,k2⟩,rfl⟩
 by_cases hz:rightC c s=0
 ·obtain⟨z1,z2,z3⟩:=right_zero hz
  obtain⟨bm,g,rfl,rfl⟩:=k1 hz
  simp
  refine (CallS.frame (settle_s (bm:=bm) (g:=g) hc (fine_of z1) z2)).mono ?_
  rintro r H' ⟨H2,⟨s',rfl,⟨h1,rfl⟩|⟨bad,n,h1,rfl⟩⟩,rfl⟩
  ·simp[mcH,settleR,courseR,hz,h1,noSt,packA,encSt]
  ·simp[mcH,settleR,courseR,hz,h1,packA,encSt]
 ·obtain⟨rfl,rfl⟩:=k2 hz
  simp[hz,settleR,noSt,packA,encSt]
theorem rests1_fn (p:Prt):CallFn Tryz.prog 33 [.record (encPa p)] (aB (p.kind==12)):=by
 refine callFz_of Tryz.func33 rfl Tryz.ntmps33 (rs:=[.tmp 2]) rfl (by kernel_rfl) (by simp) (by kernel_rfl) ?_
 simp
theorem contPa_fn (xs:List Prt) (p:Prt->Bool) (f:FuncId) (first caps:List A) (hx:Sh xs) (hp:∀n∈xs,CallFn Tryz.prog f (first++[.record (encPa n)]++caps) (aB (p n))) :
  CallFn Tryz.prog 32 [.dat (.sl (xs.map encPa)),.fn f first caps] (aB (xs.any p)):=by
 have h:CallFn Tryz.prog 77 [.dat (.sl (xs.map encPa)),.fn f first caps] (aI (idxI (xs.findIdx? p))):=by
  refine callFz_of Tryz.func77 rfl Tryz.ntmps77 (rs:=[.tmp 4]) rfl (by kernel_rfl) (by simp) (by kernel_rfl) ?_
  simp
  refine V.forI (σ:=Unit) xs.length [0,1,7] (by simp;exact rfl) (fun i _=>[(8,aI i)]) (fun _ _=>[]) (fun i _=>NoF p (xs.take i)) () (by simp) (by simp) ⟨by simp;exact rfl,by simp⟩ ?_ ?_
  ·rintro i-hi hI
   obtain⟨y,hy⟩:∃y,xs[i]=y:=⟨_,rfl⟩
   have h1:xs[i]?=some y:=by rw[List.getElem?_eq_getElem hi,hy]
   have hs:=findIdx_step (p:=p) hI h1
   have hc:=hp y (List.mem_of_getElem? h1)
   simp only[List.append_assoc,List.singleton_append]at hc
   simp[hi,hy]
   refine hc.s ?_
   cases e:p y
   ·simp
    exact⟨by omega,hs.1 e⟩
   ·rw[hs.2 e]
    simp
  ·rintro-hI
   rw[findIdx_none hI]
   simp
 refine callFz_of Tryz.func32 rfl Tryz.ntmps32 (rs:=[.tmp 4]) rfl (by kernel_rfl) (by simp) (by kernel_rfl) ?_
 simp
 refine h.s ?_
 simp
 rw[idxI_ge,List.findIdx?_isSome]
abbrev fO (P:List Int) (ds:List Drv) (O:List Int):List Int:=ds.foldl (fun a d=>a.set d.2 (P.getD d.2 0)) O
theorem fO_len (P:List Int):∀(ds:List Drv) (O:List Int),(fO P ds O).length=O.length
 | [],O=>rfl
 | d::ds,O=>by
  show (fO P ds (O.set d.2 (P.getD d.2 0))).length=_
  rw[fO_len P ds,List.length_set]
structure RestD (ct:Control) (t:State) (P:List Int) (k:Nat) (d:Drv):Prop where
 lt:d.2<P.length
 row:∃(a b:Int) (v w:Bool),ct.plus[k]?=some a∧ct.minus[k]?=some b∧CallFn Tryz.prog 36 [aC ct,aSt t,aI a] (.tuple [aB v,aI 0])∧CallFn Tryz.prog 36 [aC ct,aSt t,aI b] (.tuple [aB w,aI 0]) ∧
  (v=true->w=false->P.getD d.2 0=1)∧(w=true->v=false->P.getD d.2 0=0)
theorem rests_a {c:Cir}{ct:Control}{t:State}{P O:List Int}{ds:List Drv}{b5 b12:Nat}{g:Value}(htp:CallFn Tryz.prog 27 [] (aB true)) (hO:O.length=P.length) (hP:P.length<=64) (hdl:ds.length<=64) (hrow:∀k d,ds[k]?=some d->RestD ct t P k d) (hall:fO P ds O=P) :
  V ⟨Tryz.prog,none,207⟩ (restC Tryz.f6 10) (hdE [(4,aB false),(5,.ptr 5 b5 0),(9,aIs P),(12,.ptr 12 b12 0),(15,.own 36 g),(17,.dat (.sl (ds.map encDr)))] []) [(36,.seq g 3 1 (O.map rI)),(12,.box b12 ((encSt t).map A.dat)),(5,.box b5 ((encC ct).map A.dat))] (RetV Tryz.prog [.tmp 4] fun r' H'=>(frz H' r').1∧(frz H' r').2=aB true):=by
 refine V.rest rfl ?_
 refine V.of_vcN 1 ?_
 simp
 refine V.forI (σ:=Unit) ds.length [5,9,12,15,126,127] (by simp;exact rfl) (fun i _=>[(4,aB false),(128,aI i)]) (fun i _=>[(36,.seq g 3 1 ((fO P (ds.take i) O).map rI)),(12,.box b12 ((encSt t).map A.dat)),(5,.box b5 ((encC ct).map A.dat))]) (fun _ _=>True) () trivial (by simp) ⟨by simp;exact rfl,by simp⟩ ?_ ?_
 ·rintro i-hi -
  obtain⟨d,hd⟩:∃d,ds[i]=d:=⟨_,rfl⟩
  have hdo:ds[i]?=some d:=by rw[List.getElem?_eq_getElem hi,hd]
  obtain⟨hlt,a,b,v,w,hpa,hmb,hva,hvb,r1,r2⟩:=hrow i d hdo
  have hnx:fO P (ds.take (i+1)) O=(fO P (ds.take i) O).set d.2 (P.getD d.2 0):=by
   show (ds.take (i+1)).foldl _ _=_
   rw[List.take_add_one,hdo,List.foldl_append]
   rfl
  have hol:=fO_len P (ds.take i) O
  rw[hnx]
  generalize fO P (ds.take i) O=U at *
  obtain⟨d0,d9⟩:=d
  simp only at hlt r1 r2 hd
  obtain⟨w1,w2⟩:=getD_at hlt
  obtain⟨u1,u2⟩:=getD_at (st:=U) (n:=d9) (by omega)
  generalize P.getD d9 0=z at *
  generalize U.getD d9 0=y at *
  obtain⟨p1,p2⟩:=List.getElem?_eq_some_iff.1 hpa
  obtain⟨m1,m2⟩:=List.getElem?_eq_some_iff.1 hmb
  have hU9:d9<U.length:=by omega
  simp[hi,hd,hdo]
  intro b20
  simp[hU9]
  refine V.drawX (fun t=>if t=151 then some (.fn (.tuple [aB v,aI 0])) else none) (by kernel_rfl) (by kernel_rfl) (by simp) ?_
  simp[p1,p2,hpa]
  refine⟨hva,?_⟩
  refine V.drawX (fun t=>if t=162 then some (.fn (.tuple [aB w,aI 0])) else none) (by kernel_rfl) (by kernel_rfl) (by simp) ?_
  simp[m1,m2,hmb]
  refine⟨hvb,?_⟩
  cases v<;>cases w
  ·simp
   refine V.drawX (fun _=>none) (by kernel_rfl) (by kernel_rfl) (by simp) ?_
   simp[hlt,w1,w2,hU9,u1,u2]
   exact⟨by kernel_rfl,by omega,by omega⟩
  ·rw[r2 rfl rfl]
   simp[hU9,u1,u2]
   exact⟨by omega,by omega⟩
  ·rw[r1 rfl rfl]
   simp[hU9,u1,u2]
   exact⟨by omega,by omega⟩
  ·simp
   refine V.drawX (fun _=>none) (by kernel_rfl) (by kernel_rfl) (by simp) ?_
   simp[hlt,w1,w2,hU9,u1,u2]
   exact⟨by kernel_rfl,by omega,by omega⟩
 ·rintro - -
  rw[List.take_length,hall]
  simp
  refine V.of_vc ?_
  simp
  have heq:=eqI_fn P P (by unfold Sh;omega) (by unfold Sh;omega)
  rw[decide_eq_true rfl]at heq
  refine heq.lend (by simp[frzs,frz,hget,hdel]) rfl ?_
  simp
  refine GCall.fn (aB true) (fun h=>⟨h,htp⟩) ?_
  simp
abbrev rbE (c:Cir) (P:List Int) (b5 b12:Nat):List (Nat×A):=[(2,.rptr (encCi c)),(4,aB false),(5,.ptr 5 b5 0),(8,aI 0),(9,aIs P),(12,.ptr 12 b12 0)]
theorem rests_b {c:Cir}{ct:Control}{t:State}{P O:List Int}{ds:List Drv}{b5 b12:Nat}(hact:(ds.length:Int)=ct.actuators) (hO:O.length=c.parts.length) (hP:P.length=c.parts.length)
  (hpo:CallS Tryz.prog 28 [aCi c,aSt t] [] fun r H'=>∃g,r=.tuple [.own 36 g,aI 0]∧H'=[(36,.seq g 3 1 (O.map rI))]) (hdv:CallFn Tryz.prog 29 [aCi c] (.tuple [.dat (.sl (ds.map encDr)),aI 0]))
  (hr:∀g,V ⟨Tryz.prog,none,207⟩ (restC Tryz.f6 10) (hdE [(4,aB false),(5,.ptr 5 b5 0),(9,aIs P),(12,.ptr 12 b12 0),(15,.own 36 g),(17,.dat (.sl (ds.map encDr)))] []) [(36,.seq g 3 1 (O.map rI)),(12,.box b12 ((encSt t).map A.dat)),(5,.box b5 ((encC ct).map A.dat))] (RetV Tryz.prog [.tmp 4] fun r' H'=>(frz H' r').1∧(frz H' r').2=aB true)) :
  V ⟨Tryz.prog,none,207⟩ (restC Tryz.f6 7) (hdE (rbE c P b5 b12) []) [(12,.box b12 ((encSt t).map A.dat)),(5,.box b5 ((encC ct).map A.dat))] (RetV Tryz.prog [.tmp 4] fun r' H'=>(frz H' r').1∧(frz H' r').2=aB true):=by
 refine V.rest rfl ?_
 refine V.of_vcN 3 ?_
 simp
 refine (hpo.frame (H1:=[(12,.box b12 ((encSt t).map A.dat)),(5,.box b5 ((encC ct).map A.dat))])).mono ?_
 rintro r H' ⟨_,⟨g,rfl,rfl⟩,rfl⟩
 simp
 refine hdv.s ?_
 simp[hO,hP,hact]
 exact V.cutV (Hs:=[(36,.seq g 3 1 (O.map rI)),(12,.box b12 ((encSt t).map A.dat)),(5,.box b5 ((encC ct).map A.dat))]) [(4,aB false),(5,.ptr 5 b5 0),(9,aIs P),(12,.ptr 12 b12 0),(15,.own 36 g),(17,.dat (.sl (ds.map encDr)))] (by simp) (by simp) (V.of_rest rfl (hr g))
theorem settle_spec {ct:Control}{s:State}(hz:rightC ct s=0) (h:(settleR ct s).2.2=0):∃M,(settleR ct s).1=rndN ct s M∧roundS ct (settleR ct s).1=(settleR ct s).1:=by
 unfold settleR courseR at h ⊢
 rw[if_neg (by simp[hz])]at h ⊢
 cases hc:courseP ct 65 0 s []with
 | none=>rw[hc]at h;simp at h
 | some x=>
  obtain⟨x,bad,n⟩:=x
  exact courseP_rnd 65 0 s [] x bad n hc
theorem TopExtractRests_fn (c:Cir) (s:State) (hl:Sh c.parts) (hl2:Sh c.pipes) (hs:OkSt s):CallFn Tryz.prog 6 [aCi c,aSt s] (aB true):=by
 have htp:=tryPress_fn
 have htc:=tryCircuit_fn c s hl hl2 hs
 have hcf:=contPa_fn c.parts (fun p=>p.kind==12) 33 [] [] hl fun p _=>rests1_fn p
 by_cases hB:tcB c s=true
 ·obtain⟨e1,hok,hf,hf2,hb,hz⟩:=tcQ_ok hB
  rw[hB,e1]at htc
  cases h12:c.parts.any fun p=>p.kind==12 with
  | true=>
   rw[h12]at hcf
   generalize (planZ c).ctl=ct at *
   refine callFz_of Tryz.func6 rfl Tryz.ntmps6 (rs:=[.tmp 4]) rfl (by kernel_rfl) (by simp) (by kernel_rfl) ?_
   simp
   refine htc.s ?_
   simp
   intro b5
   refine GCall.fn (aB true) (fun h=>⟨h,hcf⟩) ?_
   simp
   refine htp.s ?_
   simp
  | false=>
   rw[h12]at hcf
   have hk12:∀i,i<c.parts.length->kindOf c.parts i≠12:=fun i hi e=>by
    have hq:=List.getElem?_eq_getElem hi
    have hk:=kindOf_at hq
    rw[List.any_eq_false]at h12
    exact h12 c.parts[i] (List.getElem_mem hi) (by rw[beq_iff_eq];omega)
   have hsm:=few_sm hf2
   obtain⟨hr,hd,hch,hpl,hc0⟩:=build_zero hb
   obtain⟨hpp,hpm,hoc⟩:=ctl_sizes (plR_of hpl)
   have hp1:=positions_ok hok hsm hb hz
   have hdv:=drives_okF hok hb
   have hpe:=pres_pos hb hz
   have hplen:=pos_len c s
   have hfew:=hr.few
   have hpsh:Sh ((planZ c).pos s):=by unfold Sh;omega
   have hdl:=(planZ_B hr).dl
   have hre:=Rest_fn c hok _ hpsh hpe
   have hse:=Settle_fn (planZ c).ctl s hoc hsm
   have f1:=restQ_err c ((planZ c).pos s)
   have g1:(settleR (planZ c).ctl s).2.2=0∨(settleR (planZ c).ctl s).2.2=21:=by
    unfold settleR courseR
    rw[if_neg (by simp[hz])]
    split
    ·exact .inl rfl
    ·exact .inr rfl
   by_cases hfg:(restQ c ((planZ c).pos s)).2.2=0∧(settleR (planZ c).ctl s).2.2=0
   ·obtain⟨hf0,hg0⟩:=hfg
    obtain⟨N,hN1,hN2⟩:=restQ_spec hf0
    obtain⟨M,hM1,hM2⟩:=settle_spec hz hg0
    rw[hN1]at hN2
    rw[hM1]at hM2
    have hRt:=rnd_right hz M
    have hsmt:SmS (rndN (planZ c).ctl s M):=sm_of (fine_of hch) (right_zero hRt).2.1
    have hpo:=PositionsO_s c hok _ hsmt hb hRt
    have hall:=rest_all hb hz hk12 hN2 hM2
    have hPl:=stp_len hplen N
    have hOl:=pos_len c (rndN (planZ c).ctl s M)
    have hPL:=stp_l (c:=c) (pos_l (planZ c) s) N
    have hrow:∀k d,(planZ c).drives[k]?=some d->RestD (planZ c).ctl (rndN (planZ c).ctl s M) (stpN c ((planZ c).pos s) N) k d:=fun k d hkd=>by
     obtain⟨a,b,h1,h2,h3,h4,h5,h6,h7,h8⟩:=rest_drive hb hz hk12 hN2 hM2 hkd
     obtain⟨_,_,_,q2,_⟩:=mem_drvN hd (List.mem_of_getElem? hkd)
     have hv:∀l:Int,0<=l->l<countC (planZ c).ctl->CallFn Tryz.prog 36 [aC (planZ c).ctl,aSt (rndN (planZ c).ctl s M),aI l] (.tuple [aB ((valuesOf (rndN (planZ c).ctl s M)).getD l.toNat false),aI 0]):=fun l l0 l1=>by
      have:=Value_fn (planZ c).ctl (rndN (planZ c).ctl s M) l hoc hsmt
      unfold valueP at this
      rw[if_neg (by simp[hRt]),if_neg (by omega),<- List.getD_eq_getElem?_getD]at this
      exact this
     exact⟨by rw[hPl];exact q2,a,b,_,_,h1,h2,hv a h3 h4,hv b h5 h6,fun p q=>by rw[hPL,h7 p q];rfl,fun p q=>by rw[hPL,h8 p q];rfl⟩
    have hact:((planZ c).drives.length:Int)=(planZ c).ctl.actuators:=rfl
    rw[hN1,hf0]at hre
    rw[hM1,hg0]at hse
    have hra:=fun b5 b12 g=>rests_a (c:=c) (ct:=(planZ c).ctl) (b5:=b5) (b12:=b12) (g:=g) htp (hOl.trans hPl.symm) (by omega) hdl hrow hall
    have hrb:=fun b5 b12=>rests_b (b5:=b5) (b12:=b12) hact hOl hPl hpo hdv (fun g=>hra b5 b12 g)
    clear hra hrow hall hpo hact hN1 hN2 hM1 hM2
    generalize (restQ c ((planZ c).pos s)).2.1=q1 at *
    generalize (settleR (planZ c).ctl s).2.1=x1 at *
    generalize stpN c ((planZ c).pos s) N=P at *
    generalize rndN (planZ c).ctl s M=t at *
    generalize (planZ c).pos s=P0 at *
    generalize (planZ c).pos t=O at *
    generalize (planZ c).drives=ds at *
    generalize (planZ c).ctl=ct at *
    refine callFz_cut 7 Tryz.func6 rfl Tryz.ntmps6 (rs:=[.tmp 4]) rfl (by kernel_rfl) (by simp) (by kernel_rfl) ?_
    simp
    refine htc.s ?_
    simp
    intro b5
    refine GCall.fn (aB false) (fun h=>⟨h,hcf⟩) ?_
    simp
    refine hp1.s ?_
    simp
    refine hre.s ?_
    simp
    refine hse.s ?_
    simp
    intro b12
    exact V.cutV (Hs:=[(12,.box b12 ((encSt t).map A.dat)),(5,.box b5 ((encC ct).map A.dat))]) (rbE c P b5 b12) (by simp) (by simp) (V.of_rest rfl (hrb b5 b12))
   ·generalize restQ c ((planZ c).pos s)=RQ at *
    generalize settleR (planZ c).ctl s=SQ at *
    generalize (planZ c).pos s=P at *
    generalize (planZ c).ctl=ct at *
    obtain⟨q1,q2,q3⟩:=RQ
    obtain⟨x1,x2,x3⟩:=SQ
    simp only at f1 g1 hfg hre hse
    refine callFz_cut 7 Tryz.func6 rfl Tryz.ntmps6 (rs:=[.tmp 4]) rfl (by kernel_rfl) (by simp) (by kernel_rfl) ?_
    simp
    refine htc.s ?_
    simp
    intro b5
    refine GCall.fn (aB false) (fun h=>⟨h,hcf⟩) ?_
    simp
    refine hp1.s ?_
    simp
    refine hre.s ?_
    simp
    refine hse.s ?_
    simp
    intro b12
    rcases f1 with rfl | rfl<;>rcases g1 with rfl | rfl
    ·exact absurd ⟨rfl,rfl⟩ hfg
    all_goals
     simp
     refine GCall.fn (aB true) (fun h=>⟨h,htp⟩) ?_
     simp
 ·rw[Bool.not_eq_true]at hB
  rw[hB]at htc
  generalize tcQ c s=ct at *
  refine callFz_of Tryz.func6 rfl Tryz.ntmps6 (rs:=[.tmp 4]) rfl (by kernel_rfl) (by simp) (by kernel_rfl) ?_
  simp
  refine htc.s ?_
  simp
  intro b5
  refine GCall.never (fun h=>h) (aB false) ?_
  simp
  refine htp.s ?_
  simp
end Go.Proofs.YtafamcbdaeppoaaGreatDoor
