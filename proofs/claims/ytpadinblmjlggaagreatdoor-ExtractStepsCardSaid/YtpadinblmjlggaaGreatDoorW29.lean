/- Texts joined by a program: Li,Lj,Lk,Lq,Lt,Ol,Od,Ej,Ek,So,Sp,Sa,Gaa. -/
import Derived.ProofKit
import Derived.ReadAgain
import Derived.WalkKit
import Derived.OpenShut
import Derived.Deep.Frames
import Derived.ChangeMaps5
import Derived.Lay
import Derived.Shelf.Sort.Plain
import Derived.Shelf.Slices.CompactI
import Derived.Shelf.Slices.In.SortNone
import Derived.Test.YtpadinblmjlggaaGreatDoorW10
import Derived.Test.YtpadinblmjlggaaGreatDoorW5
import Derived.Test.YtpadinblmjlggaaGreatDoorW11
import Derived.Test.YtpadinblmjlggaaGreatDoorW28
import Derived.Test.YtpadinblmjlggaaGreatDoorW15
import Derived.Test.YtpadinblmjlggaaGreatDoorW26
import Derived.Test.YtpadinblmjlggaaGreatDoorW17
import Derived.Test.YtpadinblmjlggaaGreatDoorW13
set_option linter.unusedSimpArgs false
set_option linter.unusedVariables false
set_option maxHeartbeats 8000000
set_option maxRecDepth 100000
namespace Go.Proofs.YtpadinblmjlggaaGreatDoor
section
variable {P:Program}{H:Type}{enc:TypeId×Value->H}
inductive Lf where
 | int (k:IntKind)
 | bool
 | str
 | sl (e:TypeId)
def leavesF (P:Program) (g:TypeId->Option (List Lf)):List Field->Nat->Option (List Lf)
 | [],_=>some []
 | f::fs,off=>match g f.type with
  | some a=>if f.offset=off∧P.cellsOf f.type=a.length then (leavesF P g fs (off+a.length)).map (a++·) else none
  | none=>none
def leavesT (P:Program):Nat->TypeId->Option (List Lf)
 | 0,_=>none
 | n+1,t=>match P.underlying t with
  | some .bool=>some [.bool]
  | some (.int k)=>some [.int k]
  | some .string=>some [.str]
  | some (.slice e)=>some [.sl e]
  | some (.struct fs)=>match leavesF P (leavesT P n) fs.toList 0 with
   | some a=>if a.length=P.cellsOf t then some a else none
   | none=>none
  | _=>none
def inT (T:List TypeId):Lf->Bool
 | .sl e=>T.contains e
 | _=>true
def goodT (P:Program) (K:Nat) (T:List TypeId):Bool:=T.all fun e=>match leavesT P K e with
 | some a=>a.all (inT T)&&decide (a.length=P.cellsOf e)&&decide (0<a.length)
 | none=>false
def All2 {α β:Type}(R:α->β->Prop):List α->List β->Prop
 | [],[]=>True
 | a::r,b::s=>R a b∧All2 R r s
 | _,_=>False
theorem All2.append {α β:Type}{R:α->β->Prop}:∀ {a:List α}{b:List β}{c:List α}{d:List β},All2 R a b->All2 R c d->All2 R (a++c) (b++d)
 | [],[],_,_,_,h=>h
 | _::_,_::_,_,_,h1,h2=>⟨h1.1,All2.append h1.2 h2⟩
 | [],_::_,_,_,h,_=>h.elim
 | _::_,[],_,_,h,_=>h.elim
theorem All2.len {α β:Type}{R:α->β->Prop}:∀ {a:List α}{b:List β},All2 R a b->a.length=b.length
 | [],[],_=>rfl
 | _::_,_::_,h=>by simp[All2.len h.2]
 | [],_::_,h=>h.elim
 | _::_,[],h=>h.elim
theorem All2.imp {α β:Type}{R R':α->β->Prop}(hi:∀a b,R a b->R' a b):∀ {a:List α}{b:List β},All2 R a b->All2 R' a b
 | [],[],_=>trivial
 | _::_,_::_,h=>⟨hi _ _ h.1,All2.imp hi h.2⟩
 | [],_::_,h=>h.elim
 | _::_,[],h=>h.elim
def OkV (P:Program) (K:Nat):Nat->Lf->L->Prop
 | _,.int k,l=>∃n,l=.int k n∧(Lit.int k n).wf=true
 | _,.bool,l=>∃b,l=.bool b
 | _,.str,l=>∃s,l=.str s∧s.length<=maxLen
 | 0,.sl _,_=>False
 | n+1,.sl e,l=>∃rows:List (List L),l=.sl rows∧rows.length<=maxLen∧∀r∈rows,∃lfs,leavesT P K e=some lfs∧All2 (OkV P K n) lfs r
theorem OkV.succ {K:Nat}:∀ {n:Nat}{f:Lf}{l:L},OkV P K n f l->OkV P K (n+1) f l
 | 0,.sl _,_,h=>by simp[OkV]at h
 | n+1,.sl e,l,h=>by
  simp only[OkV]at h
  obtain⟨rows,e1,h1,h2⟩:=h
  simp only[OkV]
  refine⟨rows,e1,h1,fun r hr=>?_⟩
  obtain⟨lfs,h3,h4⟩:=h2 r hr
  exact⟨lfs,h3,h4.imp fun a b=>OkV.succ⟩
 | 0,.int _,_,h=>by simpa [OkV]using h
 | 0,.bool,_,h=>by simpa [OkV]using h
 | 0,.str,_,h=>by simpa [OkV]using h
 | n+1,.int _,_,h=>by simpa [OkV]using h
 | n+1,.bool,_,h=>by simpa [OkV]using h
 | n+1,.str,_,h=>by simpa [OkV]using h
theorem RdLs.app {x:X}:∀ {a:List L}{u:List Value}{b:List L}{v:List Value},RdLs x a u->RdLs x b v->RdLs x (a++b) (u++v)
 | [],[],_,_,_,h=>h
 | _::_,_::_,_,_,h1,h2=>by simp only[RdLs]at h1;simp only[List.cons_append,RdLs];exact⟨h1.1,RdLs.app h1.2 h2⟩
 | [],_::_,_,_,h,_=>by simp[RdLs]at h
 | _::_,[],_,_,h,_=>by simp[RdLs]at h
def X0 (W:World):X:=⟨W,fun b=>b<W.heap.size⟩
theorem mapM_get {α β:Type}{f:α->Option β}:∀ {l:List α}{r:List β},l.mapM f=some r->r.length=l.length∧∀(i:Nat) (x:α),l[i]?=some x->f x=r[i]?
 | [],r,h=>by
  simp only[List.mapM_nil,Option.pure_def,Option.some.injEq]at h
  subst h
  simp
 | a::l,r,h=>by
  rw[List.mapM_cons]at h
  simp only[Option.bind_eq_bind,Option.bind_eq_some_iff,Option.pure_def,Option.some.injEq]at h
  obtain⟨b,h1,r',h2,rfl⟩:=h
  obtain⟨k1,k2⟩:=mapM_get h2
  refine⟨by simp[k1],fun i x hx=>?_⟩
  cases i with
  | zero=>simp only[List.getElem?_cons_zero,Option.some.injEq]at hx ⊢;subst hx;exact h1
  | succ i=>simpa using k2 i x (by simpa using hx)
theorem cells_get {W:World}{a:Addr}{n:Nat}{cs:List Value}(h:W.cells? 0 a n=some cs):cs.length=n∧∀j,j<n->W.cell? (a.add j)=cs[j]?:=by
 simp only[World.cells?,Nat.zero_le,if_true]at h
 obtain⟨h1,h2⟩:=mapM_get h
 exact⟨by simpa using h1,fun j hj=>h2 j j (by simp[hj])⟩
theorem cell_spot {W:World}{a:Addr}{v:Value}(h:W.cell? a=some v):a.spot=none∧a.block<W.heap.size:=by
 unfold World.cell? at h
 split at h
 ·rename_i c _ _ hb
  refine⟨?_,(Array.getElem?_eq_some_iff.1 hb).1⟩
  split at h
  ·cases h
  ·rename_i hs;simpa using hs
 ·cases h
theorem list_of {α:Type}{p:Nat->α->Prop}:∀(n:Nat),(∀i,i<n->∃a,p i a)->∃l:List α,l.length=n∧∀(i:Nat) (a:α),l[i]?=some a->p i a
 | 0,_=>⟨[],rfl,by simp⟩
 | n+1,h=>by
  obtain⟨l,h1,h2⟩:=list_of n fun i hi=>h i (by omega)
  obtain⟨a,ha⟩:=h n (by omega)
  refine⟨l++[a],by simp[h1],fun i b hb=>?_⟩
  rcases Nat.lt_trichotomy i n with hi | hi | hi
  ·exact h2 i b (by rwa [List.getElem?_append_left (by omega)]at hb)
  ·subst hi
   rw[List.getElem?_append_right (by omega)]at hb
   simp[h1]at hb
   subst hb;exact ha
  ·rw[List.getElem?_eq_none (by simp[h1];omega)]at hb
   cases hb
theorem rdRows_at {x:X}{b:Nat}(sz:Nat):∀(rows:List (List L)) (off:Nat),(∀i r,rows[i]?=some r->r.length=sz∧RdCells x r b (off+i*sz))->RdRows x rows b off
 | [],_,_=>by simp[RdRows]
 | r::rs,off,h=>by
  obtain⟨h1,h2⟩:=h 0 r (by simp)
  simp only[RdRows]
  refine⟨by simpa using h2,rdRows_at sz rs (off+r.length) fun i q hq=>?_⟩
  obtain⟨h3,h4⟩:=h (i+1) q (by simpa using hq)
  refine⟨h3,?_⟩
  rw[h1,show off+sz+i*sz=off+(i+1)*sz by rw[Nat.add_mul];omega]
  exact h4
theorem read_fields {W:World}{K n:Nat}{T:List TypeId}{k:Nat}(ih:∀t cs x,DataW.trod enc P W 0 (fun _=>true) true n t cs=some x->∀lfs,leavesT P k t=some lfs->lfs.all (inT T)=true->∃ls,RdLs (X0 W) ls cs∧All2 (OkV P K n) lfs ls) (cs:List Value) :
  ∀(fs:List Field) (off:Nat) (xs:List (DataW H×List MemPlace)),(fs.mapM fun f=>DataW.trod enc P W 0 (fun _=>true) true n f.type ((cs.drop f.offset).take (P.cellsOf f.type)))=some xs ->
   ∀lfs,leavesF P (leavesT P k) fs off=some lfs->lfs.all (inT T)=true->∃ls,RdLs (X0 W) ls ((cs.drop off).take lfs.length)∧All2 (OkV P K n) lfs ls
 | [],off,xs,h,lfs,hl,_=>by
  simp only[leavesF,Option.some.injEq]at hl
  subst hl
  exact⟨[],by simp[RdLs],trivial⟩
 | f::fs,off,xs,h,lfs,hl,hT=>by
  simp only[leavesF]at hl
  split at hl<;>try (simp at hl;done)
  rename_i a ha
  split at hl<;>try (simp at hl;done)
  rename_i ho
  simp only[Option.map_eq_some_iff]at hl
  obtain⟨b,hb,rfl⟩:=hl
  rw[List.mapM_cons]at h
  simp only[Option.bind_eq_bind,Option.bind_eq_some_iff,Option.pure_def,Option.some.injEq]at h
  obtain⟨x,h1,xs',h2,_⟩:=h
  rw[List.all_append,Bool.and_eq_true]at hT
  obtain⟨ls1,r1,o1⟩:=ih _ _ _ h1 a ha hT.1
  obtain⟨ls2,r2,o2⟩:=read_fields ih cs fs (off+a.length) xs' h2 b hb hT.2
  rw[ho.1,ho.2]at r1
  refine⟨ls1++ls2,?_,o1.append o2⟩
  have:(cs.drop off).take (a++b).length=(cs.drop off).take a.length++(cs.drop (off+a.length)).take b.length:=by
   rw[List.length_append,List.take_add,List.drop_drop]
  rw[this]
  exact r1.app r2
theorem read_ok {W:World}{K:Nat}{T:List TypeId}(hT:goodT P K T=true):∀(n:Nat) (t:TypeId) (cs:List Value) (x:DataW H×List MemPlace),DataW.trod enc P W 0 (fun _=>true) true n t cs=some x ->
  ∀(k:Nat) (lfs:List Lf),leavesT P k t=some lfs->lfs.all (inT T)=true->∃ls,RdLs (X0 W) ls cs∧All2 (OkV P K n) lfs ls
 | 0,t,cs,x,h,_,_,_,_=>by simp[DataW.trod]at h
 | n+1,t,cs,x,h,0,lfs,hl,_=>by simp[leavesT]at hl
 | n+1,t,cs,x,h,k+1,lfs,hl,hin=>by
  have ih:=read_ok (W:=W) hT n
  have h0:=h
  simp only[leavesT]at hl
  split at hl<;>try (simp at hl;done)
  ·rename_i hu
   simp only[Option.some.injEq]at hl;subst hl
   obtain⟨b,rfl,_⟩:=DataW.trod_bool hu h
   exact⟨[.bool b],by simp[RdLs,RdL],by simp[All2,OkV]⟩
  ·rename_i q hu
   simp only[Option.some.injEq]at hl;subst hl
   obtain⟨m,rfl,_,hw⟩:=DataW.trod_int hu h
   exact⟨[.int q m],by simp[RdLs,RdL],by simp[All2,OkV,hw]⟩
  ·rename_i hu
   simp only[Option.some.injEq]at hl;subst hl
   obtain⟨b,rfl,_,hw⟩:=DataW.trod_string hu h
   refine⟨[.str b.data.toList],by simp only[RdLs,RdL,and_true],?_⟩
   simp only[All2,OkV,and_true]
   exact⟨_,rfl,by rw[Array.length_toList];exact hw⟩
  ·rename_i e hu
   simp only[Option.some.injEq]at hl;subst hl
   have he:T.contains e=true:=by simpa [inT]using hin
   have hg:=List.all_eq_true.1 hT e (by simpa using he)
   split at hg<;>try (cases hg;done)
   rename_i lfe hle
   simp only[Bool.and_eq_true,decide_eq_true_eq]at hg
   obtain⟨⟨g1,g2⟩,g3⟩:=hg
   rcases DataW.trod_slice hu h0 with⟨rfl,_⟩|⟨a,len,cap,elems,rest,n',hn,rfl,_,_,hlc,hcm,hel,hrd,hsp,_⟩
   ·exact⟨[.sl []],by simp[RdLs,RdL],by simp[All2,OkV]⟩
   ·obtain rfl:n=n':=by omega
    have hidx:∀m,(W.cells? 0 (a.add (m*P.cellsOf e)) (P.cellsOf e)).bind (DataW.trod enc P W 0 (fun _=>true) true n e)=none∨∃c y,W.cells? 0 (a.add (m*P.cellsOf e)) (P.cellsOf e)=some c∧DataW.trod enc P W 0 (fun _=>true) true n e c=some y:=by
     intro m
     cases hm:(W.cells? 0 (a.add (m*P.cellsOf e)) (P.cellsOf e)).bind (DataW.trod enc P W 0 (fun _=>true) true n e) with
     | none=>exact .inl rfl
     | some y=>
      obtain⟨c,h2,h3⟩:=Option.bind_eq_some_iff.1 hm
      exact .inr ⟨c,y,h2,h3⟩
    by_cases hcap:cap=0
    ·subst hcap
     obtain rfl:len=0:=by omega
     refine⟨[.sl []],?_,by simp[All2,OkV]⟩
     simp only[RdLs,RdL]
     exact⟨.inr (.inr ⟨a,by simp⟩),trivial⟩
    ·have hspot:a.spot=none:=by
      have h0:∃c y,W.cells? 0 (a.add (0*P.cellsOf e)) (P.cellsOf e)=some c∧DataW.trod enc P W 0 (fun _=>true) true n e c=some y:=by
       rcases hidx 0 with h1 | h1
       ·exfalso
        by_cases hl0:len=0
        ·have h2:=(hsp rfl).2 0 (by omega)
         rw[hl0,Nat.zero_add]at h2
         rw[h1]at h2
         have h3:=(hsp rfl).1
         rw[List.getElem?_eq_getElem (by omega)]at h2
         cases h2
        ·have h2:=hrd 0 (by omega)
         rw[h1,List.getElem?_eq_getElem (by omega)]at h2
         cases h2
       ·exact h1
      obtain⟨c,y,h2,h3⟩:=h0
      obtain⟨c1,c2⟩:=cells_get h2
      have h00:=c2 0 (by omega)
      rw[List.getElem?_eq_getElem (by omega),Nat.zero_mul]at h00
      exact (cell_spot h00).1
     obtain⟨b,off,sp⟩:=a
     simp only at hspot
     subst hspot
     have hcell:∀i,i<len->∃ls:List L,ls.length=P.cellsOf e∧RdCells (X0 W) ls b (off+i*P.cellsOf e)∧All2 (OkV P K n) lfe ls:=by
      intro i hi
      have h1:=hrd i hi
      rw[List.getElem?_eq_getElem (by omega)]at h1
      obtain⟨c,h2,h3⟩:=Option.bind_eq_some_iff.1 h1
      obtain⟨c1,c2⟩:=cells_get h2
      obtain⟨ls,r1,r2⟩:=ih e c _ h3 K lfe hle g1
      have hlen:ls.length=P.cellsOf e:=by rw[<- r2.len,g2]
      have h00:=c2 0 (by omega)
      rw[List.getElem?_eq_getElem (by omega),add_none,add_none]at h00
      have hs:=cell_spot h00
      refine⟨ls,hlen,rdCells_vals (x:=X0 W) hs.2 ls c _ r1 fun j v hv=>?_,r2⟩
      have:=c2 j (by rw[<- c1];exact (List.getElem?_eq_some_iff.1 hv).1)
      rw[hv,add_none,add_none]at this
      exact this
     obtain⟨rows,hr1,hr2⟩:=list_of len hcell
     refine⟨[.sl rows],?_,?_,trivial⟩
     ·simp only[RdLs,RdL]
      refine⟨.inr (.inl ⟨b,off,cap,by rw[hr1],by omega,rdRows_at (P.cellsOf e) rows off fun i r hr=>⟨(hr2 i r hr).1,(hr2 i r hr).2.1⟩⟩),trivial⟩
     ·simp only[OkV]
      refine⟨rows,rfl,by omega,fun r hr=>?_⟩
      obtain⟨i,hi,rfl⟩:=List.getElem_of_mem hr
      exact⟨lfe,hle,(hr2 i _ (List.getElem?_eq_getElem hi)).2.2⟩
  ·rename_i fs hu
   split at hl<;>try (simp at hl;done)
   rename_i a ha
   split at hl<;>try (simp at hl;done)
   rename_i hal
   simp only[Option.some.injEq]at hl;subst hl
   unfold DataW.trod at h;rw[hu]at h
   simp only at h
   split at h<;>try (simp at h;done)
   rename_i hc
   obtain⟨xs,h1,_⟩:=Option.map_eq_some_iff.1 h
   obtain⟨ls,r1,r2⟩:=read_fields (fun t cs x h lfs hl hin=>ih t cs x h k lfs hl hin) cs fs.toList 0 xs h1 a ha hin
   refine⟨ls,?_,r2.imp fun _ _=>OkV.succ⟩
   rw[hal,<- hc]at r1
   simpa using r1
termination_by n=>n
theorem read_arg {W:World}{K:Nat}{T:List TypeId}(hT:goodT P K T=true) {base:Nat}{t:TypeId}{v:Value}{d:DataW H}{ps:List MemPlace}{fs:Array Field}(hu:P.underlying t=some (.struct fs)) {lfs:List Lf}
  (hl:leavesT P K t=some lfs) (hin:lfs.all (inT T)=true) (hval:Value.okWide P W .any base t v) (hd:DataW.Trod enc P W 0 (fun _=>true) true t v d ps):∃ls n,D (X0 W) (.record ls) v∧All2 (OkV P K n) lfs ls:=by
 obtain⟨n,hn⟩:=hd
 obtain⟨ls,h1,h2⟩:=read_ok hT n t _ _ hn K lfs hl hin
 unfold Value.okWide at hval
 rw[hu]at hval
 obtain⟨cs,rfl,_,_⟩:=hval
 exact⟨ls,n,by simp only[D];exact⟨cs,rfl,by simpa [Value.cells]using h1⟩,h2⟩
theorem lift_list {α:Type}{enc:α->List L}{Ok:α->Prop}:∀ {rows:List (List L)},(∀r∈rows,∃a,r=enc a∧Ok a)->∃l:List α,rows=l.map enc∧∀a∈l,Ok a
 | [],_=>⟨[],rfl,by simp⟩
 | r::rs,h=>by
  obtain⟨a,rfl,ha⟩:=h r (by simp)
  obtain⟨l,rfl,hl⟩:=lift_list (rows:=rs) fun q hq=>h q (by simp[hq])
  refine⟨a::l,rfl,fun b hb=>?_⟩
  rcases List.mem_cons.1 hb with rfl | hb
  ·exact ha
  ·exact hl b hb
theorem wf_i64 {n:Int}(h:(Lit.int .i64 n).wf=true) : -9223372036854775808<=n∧n<=9223372036854775807:=by
 simp only[Lit.wf,Bool.and_eq_true,decide_eq_true_eq]at h
 exact h
end
section
open Go.ChangeShapes Go.WideShapes Go.ChangeAt Go.RowKit
variable {P:Program}{H:Type}{enc:TypeId×Value->H}
theorem X0_inv {W:World}(ht:Tabs (X0 W)):Inv (X0 W) []:=⟨⟨fun _ h=>h,ht⟩,by simp,by simp,by simp⟩
theorem kept_le {W:World}{y:X}(h:(X0 W).le y):W.keptBut y.w (fun _=>False):=by
 refine⟨h.os,h.output,fun i hi=>?_⟩
 rw[show y.w.heap[i]?=W.heap[i]? from (h.keep i hi).2]
 cases W.heap[i]? with
 | none=>rfl
 | some o=>cases o<;>simp
theorem sameAt_le {W:World}{y:X}(h:(X0 W).le y) {p:MemPlace}(hb:p.block<W.heap.size):W.sameAt y.w p:=by
 cases p with
 | cell b o=>exact h.cell hb
 | map b=>exact (h.keep b hb).2
theorem frozen_le {W:World}{y:X}(h:(X0 W).le y) {a:Addr}(hb:a.block<W.heap.size):y.w.frozen? a=W.frozen? a:=by
 unfold World.frozen?
 rw[show y.w.heap[a.block]?=W.heap[a.block]? from (h.keep a.block hb).2]
theorem trodAll_carry {w w':World}{base:Nat}{sp:Nat->Bool}{hd:Bool}:∀ {ts:List TypeId}{vs:List Value}{ds:List (DataW H)}{ps:List MemPlace},
  DataW.TrodAll enc P w base sp hd ts vs ds ps->(∀p∈ps,w.sameAt w' p)->DataW.TrodAll enc P w' base sp hd ts vs ds ps
 | [],[],[],_,h,_=>h
 | _::_,_::_,_::_,_,⟨p,q,⟨n,h1⟩,h2,e⟩,hs=>⟨p,q,⟨n,DataW.trod_carry _ _ _ _ h1 fun x hx=>hs x (by rw[e];exact List.mem_append_left _ hx)⟩,trodAll_carry h2 (fun x hx=>hs x (by rw[e];exact List.mem_append_right _ hx)),e⟩
 | [],[],_::_,_,h,_=>h.elim
 | [],_::_,_,_,h,_=>h.elim
 | _::_,[],_,_,h,_=>h.elim
 | _::_,_::_,[],_,h,_=>h.elim
theorem post_le {f:Func}{s:ChangeSpec}{apart fresh handsOn again:Bool}{W:World}{y:X}{args:Array Value}{v:Value}{ds gs:List (DataW H)}{before:List MemPlace}
  (hl:laidOutB P=true) (hm:mapsRowed P=true) (hz:∀t e,t<P.types.size->P.underlying t=some (.slice e)->0<P.cellsOf e) (hts:∀t∈f.params.toList,t<P.types.size)
  (hW:DataW.Whole enc P f.params.toList s.vars apart W args.toList ds gs before) (hvs:s.vars=[]) (ha:(s.fn H (ds++gs)).args=ds) (hv:(s.fn H (ds++gs)).vars=[])
  (hle:(X0 W).le y) (hres:∀(b:Nat) (sp:Nat->Bool) (hd:Bool),DataW.TrodAll enc P y.w b sp hd f.resultTypes.toList (v.resultList f.resultTypes.size) (s.fn H (ds++gs)).results [])
  (hok:∀(j:Nat) (t:TypeId) (r:Value),f.resultTypes[j]?=some t->(v.resultList f.resultTypes.size)[j]?=some r->Value.okWide P y.w .any 0 t r) :
  s.post enc P f apart fresh handsOn again W args v y.w:=by
 have hlt:=hW.lt
 have hW':=hW
 obtain⟨p,q,h1,h2,e,h3,h4⟩:=hW
 have hq:q=[]∧gs=[]:=by
  rw[hvs]at h2
  cases gs with
  | nil=>exact⟨h2,rfl⟩
  | cons _ _=>exact h2.elim
 obtain⟨rfl,rfl⟩:=hq
 rw[List.append_nil]at e
 subst e
 have hA:∀sp:Nat->Bool,(∀x∈before,sp x.block=true)->DataW.TrodAll enc P y.w 0 sp true f.params.toList args.toList (s.fn H (ds++[])).args before:=fun sp hsp=>by
  rw[ha]
  exact trodAll_carry (h1.respare (kids_rows hl hm) hz hts hsp) fun x hx=>sameAt_le hle (hlt x hx)
 have hV:∀sp:Nat->Bool,DataW.TrodVars enc P y.w sp s.vars (s.fn H (ds++[])).vars []:=fun sp=>by
  rw[hvs,hv]
  rfl
 refine⟨ds,[],before,[],before,[],hW',hres _ _ _,hA _ (fun x hx=>by simpa using hlt x hx),hV _,World.keptBut_mono (fun _ h=>h.elim) (kept_le hle),fun _=>?_⟩
 refine⟨hok,_,_,([]++before)++[],⟨[]++before,[],trodAll_append (hA _ (fun _ _=>rfl)) (hres _ _ _),hV _,rfl,?_,?_⟩,?_⟩
 ·intro b off hp
  simp only[List.nil_append,List.append_nil]at hp
  rw[frozen_le hle (hlt _ hp)]
  exact h3 b off hp
 ·intro hap
  simpa using h4 hap
 ·intro x hx _
  simpa using hx
theorem law_of {g:FuncId}{f:Func}{s:ChangeSpec}{apart fresh handsOn again:Bool}{W:World}{args:Array Value}{ds gs:List (DataW H)}{before:List MemPlace}{az:List A}{tb:TypeId}
  (htab:Tabs (X0 W)) (hl:laidOutB P=true) (hm:mapsRowed P=true) (hz:∀t e,t<P.types.size->P.underlying t=some (.slice e)->0<P.cellsOf e) (hts:∀t∈f.params.toList,t<P.types.size)
  (hr:f.resultTypes=#[tb]) (hb:P.underlying tb=some .bool)
  (hW:DataW.Whole enc P f.params.toList s.vars apart W args.toList ds gs before) (hvs:s.vars=[]) (ha:(s.fn H (ds++gs)).args=ds) (hv:(s.fn H (ds++gs)).vars=[]) (hrs:(s.fn H (ds++gs)).results=[.lit (.bool true)])
  (hd:Ds (X0 W) az args.toList) (hc:CallFn P g az (.dat (.bool true))):Calls P g args W fun e W'=>∃v,e=.returned v∧s.post enc P f apart fresh handsOn again W args v W':=by
 refine (hc.2 (X0 W) args [] (X0_inv htab) hd).mono ?_
 rintro _ _ ⟨y,v,r,H',rfl,rfl,hle,_,hvv,rfl,rfl⟩
 simp only[D,RdL]at hvv
 subst hvv
 refine⟨_,rfl,post_le hl hm hz hts hW hvs ha hv hle ?_ ?_⟩
 ·intro b sp hd'
  rw[hrs,hr]
  have ht:DataW.Trod enc P y.w b sp hd' tb (.bool true) (.lit (.bool true)) []:=⟨1,by simp[DataW.trod,Value.cells,hb]⟩
  exact trodAll_cons_mk ht trodAll_mk0
 ·intro j t r h1 h2
  rw[hr]at h1 h2
  cases j with
  | zero=>
   simp only[Array.size_singleton,Value.resultList]at h1 h2
   obtain rfl:t=tb:=by simpa using h1.symm
   obtain rfl:r=.bool true:=by simpa using h2.symm
   exact okWide_bool_mk hb _
  | succ j=>simp at h1
end
section
open Go.ChangeShapes Go.WideShapes Go.ChangeAt Go.RowKit
abbrev tys:List TypeId:=[9,100,3,98,4]
theorem tys_good:goodT Tryz.prog 4 tys=true:=by kernel_rfl
abbrev lfSt:List Lf:=[.sl 3,.sl 4,.sl 4,.sl 4,.sl 3]
theorem leavesSt:leavesT Tryz.prog 4 31=some lfSt:=by kernel_rfl
theorem leavesI:leavesT Tryz.prog 4 3=some [.int .i64]:=by kernel_rfl
theorem leavesB:leavesT Tryz.prog 4 4=some [.bool]:=by kernel_rfl
theorem all1 {R:Lf->L->Prop}{f:Lf}{r:List L}(h:All2 R [f] r):∃l,r=[l]∧R f l:=by
 rcases r with _ | ⟨a,_ | ⟨b,r⟩⟩<;>simp only[All2,and_true,and_false]at h
 exact⟨a,rfl,h⟩
theorem lift_sl {α:Type}{enc:α->List L}{Ok:α->Prop}{n:Nat}{e:TypeId}{l:L}(h:OkV Tryz.prog 4 n (.sl e) l) {lfs:List Lf}(he:leavesT Tryz.prog 4 e=some lfs)
  (hr:∀m r,n=m+1->All2 (OkV Tryz.prog 4 m) lfs r->∃a,r=enc a∧Ok a):∃xs:List α,l=.sl (xs.map enc)∧Sh xs∧∀a∈xs,Ok a:=by
 cases n with
 | zero=>simp[OkV]at h
 | succ m=>
  simp only[OkV]at h
  obtain⟨rows,rfl,h1,h2⟩:=h
  obtain⟨xs,rfl,hx⟩:=lift_list (enc:=enc) (Ok:=Ok) (rows:=rows) fun r hrr=>by
   obtain⟨lfs',h3,h4⟩:=h2 r hrr
   rw[he]at h3
   cases h3
   exact hr m r rfl h4
  exact⟨xs,rfl,by simpa [maxLen,Sh]using h1,hx⟩
theorem lift_I {n:Nat}{l:L}(h:OkV Tryz.prog 4 n (.sl 3) l):∃xs:List Int,l=.sl (xs.map encI)∧Sh xs∧∀a∈xs,I64 a:=by
 refine lift_sl (Ok:=I64) h leavesI ?_
 intro m r _ hr
 obtain⟨l,rfl,hl⟩:=all1 hr
 have:∃k,l=.int .i64 k∧(Lit.int .i64 k).wf=true:=by cases m<;>simpa [OkV]using hl
 obtain⟨k,rfl,hk⟩:=this
 exact⟨k,rfl,wf_i64 hk⟩
theorem lift_B {n:Nat}{l:L}(h:OkV Tryz.prog 4 n (.sl 4) l):∃xs:List Bool,l=.sl (xs.map encB)∧Sh xs:=by
 obtain⟨xs,h1,h2,_⟩:=lift_sl (enc:=encB) (Ok:=fun _=>True) h leavesB (by
  intro m r _ hr
  obtain⟨l,rfl,hl⟩:=all1 hr
  have:∃k,l=.bool k:=by cases m<;>simpa [OkV]using hl
  obtain⟨k,rfl⟩:=this
  exact⟨k,rfl,trivial⟩)
 exact⟨xs,h1,h2⟩
theorem ok_int {n:Nat}{l:L}(h:OkV Tryz.prog 4 n (.int .i64) l):∃k,l=.int .i64 k∧I64 k:=by
 have:∃k,l=.int .i64 k∧(Lit.int .i64 k).wf=true:=by cases n<;>simpa [OkV]using h
 obtain⟨k,rfl,hk⟩:=this
 exact⟨k,rfl,wf_i64 hk⟩
theorem ok_str {n:Nat}{l:L}(h:OkV Tryz.prog 4 n .str l):∃s,l=.str s∧Sh s:=by
 have:∃s,l=.str s∧s.length<=maxLen:=by cases n<;>simpa [OkV]using h
 obtain⟨s,rfl,hs⟩:=this
 exact⟨s,rfl,by simpa [maxLen,Sh]using hs⟩
theorem lift_St {n:Nat}{r:List L}(h:All2 (OkV Tryz.prog 4 n) lfSt r):∃s:State,r=encSt s∧OkSt s:=by
 rcases r with _ | ⟨a0,_ | ⟨a1,_ | ⟨a2,_ | ⟨a3,_ | ⟨a4,_ | ⟨a5,r⟩⟩⟩⟩⟩⟩<;>simp only[All2,and_true,and_false]at h
 obtain⟨h0,h1,h2,h3,h4⟩:=h
 obtain⟨x0,rfl,s0,e0⟩:=lift_I h0
 obtain⟨x1,rfl,s1⟩:=lift_B h1
 obtain⟨x2,rfl,s2⟩:=lift_B h2
 obtain⟨x3,rfl,s3⟩:=lift_B h3
 obtain⟨x4,rfl,s4,e4⟩:=lift_I h4
 exact⟨⟨x0,x1,x2,x3,x4⟩,rfl,⟨s0,s1,s2,s3,s4,e0,e4⟩⟩
theorem read_St {H:Type}{enc:TypeId×Value->H}{W:World}{base:Nat}{v:Value}{d:DataW H}{ps:List MemPlace}(hv:Value.okWide Tryz.prog W .any base 31 v) (hd:DataW.Trod enc Tryz.prog W 0 (fun _=>true) true 31 v d ps) :
  ∃s:State,D (X0 W) (aSt s) v∧OkSt s:=by
 have h0:lfSt.all (inT tys)=true:=by decide
 obtain⟨ls,n,h1,h2⟩:=read_arg tys_good Tryz.underlying31 leavesSt h0 hv hd
 obtain⟨c,rfl,hc⟩:=lift_St h2
 exact⟨c,h1,hc⟩
theorem facts:laidOutB Tryz.prog=true∧mapsRowed Tryz.prog=true∧∀t e,t<(Tryz.prog).types.size->(Tryz.prog).underlying t=some (.slice e)->0<(Tryz.prog).cellsOf e:=
 ⟨by kernel_rfl,by kernel_rfl,slices_full_of _ (by kernel_rfl)⟩
end
section
open Go.ChangeShapes Go.WideShapes Go.ChangeAt Go.RowKit
abbrev tysZ:List TypeId:=[9,82,3,93,73]
theorem tysZ_good:goodT Tryz.prog 4 tysZ=true:=by kernel_rfl
abbrev lfPa:List Lf:=[.int .i64,.str,.int .i64]
abbrev lfPi:List Lf:=[.int .i64,.str,.int .i64,.str]
abbrev lfCi:List Lf:=[.sl 82,.sl 93]
theorem leavesPa:leavesT Tryz.prog 4 82=some lfPa:=by kernel_rfl
theorem leavesPi:leavesT Tryz.prog 4 93=some lfPi:=by kernel_rfl
theorem leavesCi:leavesT Tryz.prog 4 25=some lfCi:=by kernel_rfl
theorem lift_Pa {n:Nat}{r:List L}(h:All2 (OkV Tryz.prog 4 n) lfPa r):∃x:Prt,r=encPa x∧Sh x.name:=by
 rcases r with _ | ⟨a,_ | ⟨b,_ | ⟨c,_ | ⟨d,r⟩⟩⟩⟩<;>simp only[All2,and_true,and_false]at h
 obtain⟨h1,h2,h3⟩:=h
 obtain⟨k1,rfl,i1⟩:=ok_int h1
 obtain⟨k2,rfl,i2⟩:=ok_str h2
 obtain⟨k3,rfl,i3⟩:=ok_int h3
 exact⟨⟨k1,k2,k3⟩,rfl,i2⟩
theorem lift_Pi {n:Nat}{r:List L}(h:All2 (OkV Tryz.prog 4 n) lfPi r):∃x:PipeZ,r=encPi x∧True:=by
 rcases r with _ | ⟨a,_ | ⟨b,_ | ⟨c,_ | ⟨d,_ | ⟨e,r⟩⟩⟩⟩⟩<;>simp only[All2,and_true,and_false]at h
 obtain⟨h1,h2,h3,h4⟩:=h
 obtain⟨k1,rfl,i1⟩:=ok_int h1
 obtain⟨k2,rfl,i2⟩:=ok_str h2
 obtain⟨k3,rfl,i3⟩:=ok_int h3
 obtain⟨k4,rfl,i4⟩:=ok_str h4
 exact⟨((k1,k2),(k3,k4)),rfl,trivial⟩
theorem lift_Ci {n:Nat}{r:List L}(h:All2 (OkV Tryz.prog 4 n) lfCi r):∃c:Cir,r=encCi c∧Sh c.parts∧Sh c.pipes:=by
 rcases r with _ | ⟨a0,_ | ⟨a1,_ | ⟨a2,r⟩⟩⟩<;>simp only[All2,and_true,and_false]at h
 obtain⟨h0,h1⟩:=h
 obtain⟨x0,rfl,s0,e0⟩:=lift_sl (enc:=encPa) (Ok:=fun x:Prt=>Sh x.name) h0 leavesPa fun m r _ hr=>lift_Pa hr
 obtain⟨x1,rfl,s1,e1⟩:=lift_sl (enc:=encPi) (Ok:=fun _:PipeZ=>True) h1 leavesPi fun m r _ hr=>lift_Pi hr
 exact⟨⟨x0,x1⟩,rfl,s0,s1⟩
theorem read_Ci {H:Type}{enc:TypeId×Value->H}{W:World}{base:Nat}{v:Value}{d:DataW H}{ps:List MemPlace}(hv:Value.okWide Tryz.prog W .any base 25 v) (hd:DataW.Trod enc Tryz.prog W 0 (fun _=>true) true 25 v d ps) :
  ∃c:Cir,D (X0 W) (aCi c) v∧Sh c.parts∧Sh c.pipes:=by
 have h0:lfCi.all (inT tysZ)=true:=by decide
 obtain⟨ls,n,h1,h2⟩:=read_arg tysZ_good Tryz.underlying25 leavesCi h0 hv hd
 obtain⟨c,rfl,hc⟩:=lift_Ci h2
 exact⟨c,h1,hc⟩
end
section
open Go.ChangeShapes Go.WideShapes Go.ChangeAt Go.RowKit
variable {P:Program}
def cellsD:Nat->DataW Unit->Option (List Value)
 | 0,_=>none
 | _+1,.lit (.int k n)=>some [.int k n]
 | m+1,.agg ds=>(ds.mapM (cellsD m)).map List.flatten
 | _,_=>none
def niceT (P:Program):Nat->TypeId->Bool
 | 0,_=>false
 | m+1,t=>match P.underlying t with
  | some (.int _)=>true
  | some (.array n e)=>n*P.cellsOf e==P.cellsOf t&&niceT P m e
  | _=>false
theorem chunks {α:Type}(sz:Nat) (cs:List α):∀n,n*sz<=cs.length->((List.range n).map fun i=>(cs.drop (i*sz)).take sz).flatten=cs.take (n*sz)
 | 0,_=>by simp
 | n+1,h=>by
  rw[List.range_succ,List.map_append,List.flatten_append,chunks sz cs n (by rw[Nat.add_mul]at h;omega)]
  simp only[List.map_cons,List.map_nil,List.flatten_cons,List.flatten_nil,List.append_nil]
  rw[Nat.add_mul,Nat.one_mul,List.take_add]
theorem mapM_some {α β:Type}{f:α->Option β}:∀ {l:List α}{r:List β},l.mapM f=some r->l.map f=r.map some
 | [],r,h=>by
  simp at h
  subst h
  rfl
 | a::l,r,h=>by
  rw[List.mapM_cons]at h
  cases ha:f a with
  | none=>rw[ha]at h;simp at h
  | some b=>
   cases hl:l.mapM f with
   | none=>rw[ha,hl]at h;simp at h
   | some s=>
    rw[ha,hl]at h
    simp at h
    subst h
    simp[ha,mapM_some hl]
theorem cells_of_trod {W:World}{base:Nat}{sp:Nat->Bool}{held:Bool}:∀(m fuel:Nat) (t:TypeId) (cs:List Value) (d:DataW Unit) (p:List MemPlace) (vs:List Value),
  DataW.trod (fun _=>()) P W base sp held fuel t cs=some (d,p)->niceT P m t=true->cellsD m d=some vs->cs=vs
 | 0,_,_,_,_,_,_,_,h,_=>by simp[niceT]at h
 | m+1,0,_,_,_,_,_,h,_,_=>by simp[DataW.trod]at h
 | m+1,fuel+1,t,cs,d,p,vs,h,hn,hc=>by
  unfold niceT at hn
  unfold DataW.trod at h
  split at hn
  ·rename_i k hk
   rw[hk]at h
   split at h<;>rename_i e1<;>try (simp at e1;done)
   all_goals first
    | (split at h
       ·simp only[Option.some.injEq,Prod.mk.injEq]at h
        obtain⟨rfl,rfl⟩:=h
        rename_i hkk
        simp only[cellsD,Option.some.injEq]at hc
        subst hc
        obtain⟨rfl,_⟩:=hkk
        simp only[Option.some.injEq,TypeDesc.int.injEq]at e1
        subst e1
        rfl
       ·cases h)
    | (cases h;done)
  ·rename_i n e hk
   simp only[Bool.and_eq_true,beq_iff_eq]at hn
   rw[hk]at h
   simp only at h
   split at h
   ·rename_i hl
    obtain⟨xs,hx,e1⟩:=Option.map_eq_some_iff.1 h
    simp only[Prod.mk.injEq]at e1
    obtain⟨rfl,-⟩:=e1
    simp only[cellsD]at hc
    obtain⟨ys,hy,rfl⟩:=Option.map_eq_some_iff.1 hc
    have h1:=mapM_some hx
    have h2:=mapM_some hy
    have hlen:xs.length=n:=by
     have:=congrArg List.length h1
     simpa using this.symm
    have hlen2:ys.length=n:=by
     have:=congrArg List.length h2
     simp at this
     omega
    have key:((List.range n).map fun i=>(cs.drop (i*P.cellsOf e)).take (P.cellsOf e))=ys:=by
     apply List.ext_getElem
     ·simp[hlen2]
     ·intro i a1 a2
      have b1:((List.range n).map fun i=>DataW.trod (fun _=>()) P W base sp held fuel e ((cs.drop (i*P.cellsOf e)).take (P.cellsOf e)))[i]?=(xs.map some)[i]?:=by rw[h1]
      have b2:((xs.map (·.1)).map (cellsD m))[i]?=(ys.map some)[i]?:=by rw[h2]
      have hi:i<n:=by omega
      rw[List.getElem?_map,List.getElem?_range hi,List.getElem?_map,List.getElem?_eq_getElem (show i<xs.length by omega)]at b1
      rw[List.getElem?_map,List.getElem?_map,List.getElem?_eq_getElem (show i<xs.length by omega),List.getElem?_map,List.getElem?_eq_getElem a2]at b2
      simp only[Option.map_some,Option.some.injEq]at b1 b2
      have:=cells_of_trod m fuel e _ xs[i].1 xs[i].2 ys[i] b1 hn.2 b2
      simpa using this
    rw[<- key,chunks _ _ _ (by omega),List.take_of_length_le (by omega)]
   ·cases h
  ·cases hn
theorem laid_at {W:World}:∀ {l:List (String×DataW Unit)}{ps:List MemPlace},DataW.LaidVars P W l ps->∀ {n:String}{d:DataW Unit},(n,d)∈l ->
  ∃g t cs fuel p,P.globalNamed n=some g∧(P.globals[g]?).map (·.type)=some t∧W.var? P n=some cs∧DataW.trod (fun _=>()) P W 0 (fun _=>true) false fuel t cs.toList=some (d,p)
 | [],_,_,_,_,h=>by cases h
 | (n',d')::r,ps,h,n,d,hm=>by
  obtain⟨g,t,cs,fuel,p,q,h1,h2,h3,h4,h5,_⟩:=h
  rcases List.mem_cons.1 hm with e | hm
  ·cases e
   exact⟨g,t,cs,fuel,p,h1,h2,h3,h4⟩
  ·exact laid_at h5 hm
def tabB (P:Program) (g:Nat):Bool:=match (P.globals[g]?).map (·.type) with
 | some t=>niceT P 4 t
 | none=>false
theorem tab_one {W:World}{laid:List (String×DataW Unit)}(hL:laidMet P laid W) {n:String}{d:DataW Unit}(hm:(n,d)∈laid) {g:Nat}{ls:List L}(hg:P.globalNamed n=some g) (hB:tabB P g=true) (hc:cellsD 4 d=some (ls.map plV)) :
  (X0 W).ok g∧∃ty fr,(X0 W).w.heap[g]?=some (.cells (ls.map plV).toArray ty fr):=by
 obtain⟨ps,hv,_,_⟩:=hL
 obtain⟨g',t',cs,fuel,p,h1,h2,h3,h4⟩:=laid_at hv hm
 obtain rfl:=Option.some.inj (hg.symm.trans h1)
 have hn:niceT P 4 t'=true:=by
  unfold tabB at hB
  rw[h2]at hB
  exact hB
 have e:=cells_of_trod 4 fuel t' cs.toList d p _ h4 hn hc
 unfold World.var? at h3
 rw[hg]at h3
 simp only[Option.bind_some]at h3
 split at h3
 ·rename_i c ty fr hh
  simp only[Option.some.injEq]at h3
  subst h3
  refine⟨(Array.getElem?_eq_some_iff.1 hh).1,ty,fr,?_⟩
  show W.heap[g]?=_
  rw[hh,<- e]
 ·cases h3
end
theorem statesD_s {s:PuS}{c:Cir}{pos:List Int}(h:s.Of c pos) :
  CallS Tryz.prog 75 [.ptr 170 s.b 0,aIs pos] s.hp fun r H'=>r=aIs (statesZ s.ps s.ns pos)∧H'=s.hp:=
 CallS.frzTop (τ:=18) (e:=3) (sz:=1) (rows:=(statesZ s.ps s.ns pos).map rI) (by simp[allD,isD]) (by simp[rowsD]) ((states_s h).mono fun r H' ⟨g,h1,h2⟩=>⟨g,h1,by rw[h2];exact subP.refl _⟩)
abbrev s1H (s:PuS) (st:List Int) (i b6 b2 b9:Nat):Heap:=[(6,.box b6 [aIs st]),(2,.box b2 [.ptr 170 s.b 0]),(170,.box s.b s.cells),(171,.mapK s.m false s.E),(9,.box b9 [aI i])]
theorem step1_b {s:PuS}(h:s.OK) {st:List Int}(hst:st.length=s.ns.length) {i:Nat}{t:List UInt8}(hp:t≠[]->((i:Int),t)∈allP s.ps) (b6 b2 b9:Nat) :
  CallS Tryz.prog 131 [aT t,.ptr 6 b6 0,.ptr 2 b2 0,.ptr 9 b9 0] (s1H s st i b6 b2 b9) fun r H'=>r=aB (t != []&&decide (st.getD (netW s.ns ((i:Int),t)) 0=2))∧H'=s1H s st i b6 b2 b9:=by
 have hnl:=h.nets
 by_cases ht:t=[]
 ·subst ht
  refine CallS.dropP (callS_of Tryz.func131 rfl Tryz.ntmps131 (rs:=[.tmp 5]) rfl (by kernel_rfl) (by simp) (by kernel_rfl) (K:=fun r H'=>r=aB false∧subP (s1H s st i b6 b2 b9) H') ?_) (fun _ _ ⟨h1,h2⟩=>⟨_,h2,by simpa using h1,rfl⟩)
  simp
  refine V.drawX (fun t=>if t=13 then some (.ro (aI 0)) else none) (by kernel_rfl) (by kernel_rfl) (by simp) ?_
  simp
  rcases st with _ | ⟨z,st⟩
  ·simp
   exact subP.refl _
  ·simp
   exact subP.refl _
 ·have hnet:=puNet_s h (hp ht)
  have hlt:=(h.of _ (hp ht)).2
  generalize netW s.ns ((i:Int),t)=w at *
  have hws:w<st.length:=by omega
  obtain⟨e1,e2⟩:=getD_at hws
  generalize st.getD w 0=z at *
  refine CallS.dropP (callS_of Tryz.func131 rfl Tryz.ntmps131 (rs:=[.tmp 5]) rfl (by kernel_rfl) (by simp) (by kernel_rfl) (K:=fun r H'=>r=aB (t != []&&decide (z=2))∧subP (s1H s st i b6 b2 b9) H') ?_) (fun _ _ ⟨h1,h2⟩=>⟨_,h2,h1,rfl⟩)
  simp
  refine V.drawX (fun t=>if t=13 then some (.ro (aI w)) else none) (by kernel_rfl) (by kernel_rfl) (by simp) ?_
  simp[ht,hws,e1,e2]
  exact⟨hnet,rfl,subP.refl _⟩
abbrev s1A (s:PuS) (st:List Int) (i b6 b2 b9:Nat):Heap:=[(6,.box b6 [aIs st]),(170,.box b2 [.ptr 171 s.b 0]),(171,.box s.b [.dat (.sl (s.ps.map encPa)),.dat (.sl (s.l.map encPi)),aI s.ns.length,.map 172 s.m]),(172,.mapK s.m false s.E),(9,.box b9 [aI i])]
theorem s1_AB {s:PuS}{st:List Int}{i b6 b2 b9:Nat}{x:X}{H0:Heap}(hi:Inv x (s1A s st i b6 b2 b9++H0)):Inv x (s1H s st i b6 b2 b9++H0):=by
 have h1:Inv x ([(6,Ent.box b6 [aIs st]),(2,.box b2 [.ptr 171 s.b 0]),(170,.box s.b [.dat (.sl (s.ps.map encPa)),.dat (.sl (s.l.map encPi)),aI s.ns.length,.map 172 s.m]),(171,.mapK s.m false s.E),(9,.box b9 [aI i])]++H0):=hi.ents (by simp)
 have h2:=Inv.swap (g:=2) (e:=.box b2 [.ptr 171 s.b 0]) (e':=.box b2 [.ptr 170 s.b 0]) rfl (box_sat (Ds_c D_tag Ds_i)) (fun _ h=>h) h1
 have h3:=Inv.swap (g:=170) (e:=.box s.b [.dat (.sl (s.ps.map encPa)),.dat (.sl (s.l.map encPi)),aI s.ns.length,.map 172 s.m]) (e':=.box s.b s.cells) rfl (box_sat (Ds_c D_i (Ds_c D_i (Ds_c D_i (Ds_c D_mtag Ds_i))))) (fun _ h=>h) h2
 exact h3
theorem s1_BA {s:PuS}{st:List Int}{i b6 b2 b9:Nat}{x:X}{H0:Heap}(hi:Inv x (s1H s st i b6 b2 b9++H0)):Inv x (s1A s st i b6 b2 b9++H0):=by
 have h1:Inv x ([(6,Ent.box b6 [aIs st]),(170,.box b2 [.ptr 170 s.b 0]),(171,.box s.b s.cells),(172,.mapK s.m false s.E),(9,.box b9 [aI i])]++H0):=hi.ents (by simp)
 have h2:=Inv.swap (g:=170) (e:=.box b2 [.ptr 170 s.b 0]) (e':=.box b2 [.ptr 171 s.b 0]) rfl (box_sat (Ds_c D_tag Ds_i)) (fun _ h=>h) h1
 have h3:=Inv.swap (g:=171) (e:=.box s.b s.cells) (e':=.box s.b [.dat (.sl (s.ps.map encPa)),.dat (.sl (s.l.map encPi)),aI s.ns.length,.map 172 s.m]) rfl (box_sat (Ds_c D_i (Ds_c D_i (Ds_c D_i (Ds_c D_mtag Ds_i))))) (fun _ h=>h) h2
 exact h3
theorem step1_s {s:PuS}(h:s.OK) {st:List Int}(hst:st.length=s.ns.length) {i:Nat}{t:List UInt8}(hp:t≠[]->((i:Int),t)∈allP s.ps) (b6 b2 b9:Nat) :
  CallS Tryz.prog 131 [aT t,.ptr 6 b6 0,.ptr 170 b2 0,.ptr 9 b9 0] (s1A s st i b6 b2 b9) fun r H'=>r=aB (t != []&&decide (st.getD (netW s.ns ((i:Int),t)) 0=2))∧H'=s1A s st i b6 b2 b9:=by
 refine CallS.res (CallS.inv (az':=[aT t,.ptr 6 b6 0,.ptr 2 b2 0,.ptr 9 b9 0]) (fun x H0 hi=>s1_AB hi) (fun x vs=>Ds_c D_i (Ds_c D_i (Ds_c D_tag (Ds_c D_i Ds_i))) vs) (step1_b h hst hp b6 b2 b9)) ?_
 rintro r H' ⟨rfl,rfl⟩
 exact⟨_,_,fun x H0 hi=>s1_BA hi,fun _ _ h=>h,rfl,rfl⟩
def nextK (k n:Nat) (p m:Bool):Nat×Bool:=
 if plusK k=[] then (n,false) else if minusK k=[] then (if p=true then 1 else 0,false) else if p=true∧m=true then (n,true) else if p=true then (1,false) else if m=true then (0,false) else (n,false)
theorem Next_k (k:Nat) (hk:k<14) (n:Nat) (hn:n<manyK k) (p m:Bool):CallFn Tryz.prog 132 [aI k,aI n,aB p,aB m] (.tuple [aI ((nextK k n p m).1:Nat),aB (nextK k n p m).2,aI 0]):=by
 have hf:=placed_k k hk n hn
 have hl:=row_len k hk
 have hc:=row_cell k hk
 obtain⟨h7,h8,-⟩:=row_dat k hk
 obtain⟨h7l,h71⟩:=List.getElem?_eq_some_iff.1 h7
 obtain⟨h8l,h81⟩:=List.getElem?_eq_some_iff.1 h8
 unfold nextK
 refine callFz_of Tryz.func132 rfl Tryz.ntmps132 (rs:=[.tmp 8,.tmp 9,.tmp 10]) rfl (by kernel_rfl) (by simp) (by kernel_rfl) ?_
 simp
 refine hf.s ?_
 generalize rowOf k=R at *
 generalize plusK k=P at *
 generalize minusK k=M at *
 simp
 intro b6
 refine⟨cells_ok hl hc,?_⟩
 simp[hl,h7,h71,h8,h81]
 cases p<;>cases m<;>by_cases hP:P=[]<;>by_cases hM:M=[]<;>simp[hP,hM,h7,h71,h8,h81]


section
open Go.Sort
variable {P:Program}{ρ:Go.Shelf.Ren}
end
def stepV (k:Int) (v:Bool) (t:Int) (on off:Bool):Bool×Int×Bool:=
 if k=1 then (if on != off then on else v,t,on&&off)
 else if k=2 then (if on=false then (false,0,false) else (v,if t=0 then 1 else t,false))
 else (v,t,false)
def sigStep (c:Control) (s:State) (L:List Bool) (i:Nat):Bool×Int×Bool:=match c.signals[i]?,s.values[i]?,s.timers[i]? with
 | some x,some v,some t=>stepV x.kind v t (evalE x.on L) (x.kind==1&&evalE x.off L)
 | _,_,_=>(false,0,false)
def newV (c:Control) (s:State):List Bool:=(List.range c.signals.length).map fun i=>(sigStep c s (valuesOf s) i).1
def newT (c:Control) (s:State):List Int:=(List.range c.signals.length).map fun i=>(sigStep c s (valuesOf s) i).2.1
def onceS (c:Control) (s:State):State:={ s with values:=newV c s,timers:=newT c s }
def onceB (c:Control) (s:State) (n:Nat):List Int:=((List.range n).filter fun i=>(sigStep c s (valuesOf s) i).2.2).map fun i:Nat=>firstC c+i
def roundS (c:Control) (s:State):State:=onceS c (gatesP c s)
def roundB (c:Control) (s:State):List Int:=onceB c (gatesP c s) c.signals.length
theorem once_shape {c:Control}{s:State}(h:shapeS c s):shapeS c (onceS c s):=by
 obtain⟨h1,h2,h3,h4,h5⟩:=h
 exact⟨h1,h2,h3,by simp[onceS,newV],by simp[onceS,newT]⟩
theorem round_shape {c:Control}{s:State}(h:shapeS c s):shapeS c (roundS c s):=once_shape (gates_shape h)
theorem onceB_succ (c:Control) (s:State) (n:Nat):onceB c s (n+1)=onceB c s n++(if (sigStep c s (valuesOf s) n).2.2 then [firstC c+n] else []):=by
 unfold onceB
 rw[List.range_succ,List.filter_append,List.map_append]
 congr 1
 by_cases h:(sigStep c s (valuesOf s) n).2.2=true<;>simp[h]
theorem onceB_len (c:Control) (s:State) (n:Nat):(onceB c s n).length<=n:=by
 unfold onceB
 rw[List.length_map]
 exact Nat.le_trans (List.length_filter_le _ _) (by simp)
theorem idxE_fn (xs:List Expr) (p:Expr->Bool) (f:FuncId) (first caps:List A) (hx:Sh xs) (hp:∀x∈xs,CallFn Tryz.prog f (first++[aE x]++caps) (aB (p x))) :
  CallFn Tryz.prog 254 [.dat (.sl (xs.map encE)),.fn f first caps] (aI (idxI (xs.findIdx? p))):=by
 refine callFz_of Tryz.func254 rfl Tryz.ntmps254 (rs:=[.tmp 4]) rfl (by kernel_rfl) (by simp) (by kernel_rfl) ?_
 simp
 refine V.forI (σ:=Unit) xs.length [0,1,7] (by simp;exact rfl) (fun i _=>[(8,aI i)]) (fun _ _=>[]) (fun i _=>NoF p (xs.take i)) () (by simp) (by simp) ⟨by simp;exact rfl,by simp⟩ ?_ ?_
 ·rintro i-hi hI
  obtain⟨y,hy⟩:∃y,xs[i]=y:=⟨_,rfl⟩
  have h1:xs[i]?=some y:=by rw[List.getElem?_eq_getElem hi,hy]
  have hs:=findIdx_step (p:=p) hI h1
  have hc:=hp y (List.mem_of_getElem? h1)
  simp at hc
  simp[hi,hy,encE_eq]
  refine hc.s ?_
  cases e:p y
  ·simp
   exact⟨by omega,hs.1 e⟩
  ·rw[hs.2 e]
   simp
 ·rintro-hI
  rw[findIdx_none hI]
  simp
theorem containsE_fn (xs:List Expr) (p:Expr->Bool) (f:FuncId) (first caps:List A) (hx:Sh xs) (hp:∀x∈xs,CallFn Tryz.prog f (first++[aE x]++caps) (aB (p x))) :
  CallFn Tryz.prog 197 [.dat (.sl (xs.map encE)),.fn f first caps] (aB (xs.any p)):=by
 refine callFz_of Tryz.func197 rfl Tryz.ntmps197 (rs:=[.tmp 4]) rfl (by kernel_rfl) (by simp) (by kernel_rfl) ?_
 simp
 refine (idxE_fn xs p f first caps hx hp).s ?_
 simp
 rw[idxI_ge,List.findIdx?_isSome]
theorem value_fn:∀(N:Nat) (x:Expr),SizeOf.sizeOf x<N->OkE x->∀vs:List Bool,vs.length<=256->RightE vs.length x->CallFn Tryz.prog 137 [aE x,aBs vs] (aB (evalE x vs))
 | 0,_,h,_,_,_,_=>absurd h (Nat.not_lt_zero _)
 | N+1,x,hN,hx,vs,hv,hr=>by
  have ih:∀a∈x.args,CallFn Tryz.prog 137 [aE a,aBs vs] (aB (evalE a vs)):=fun a ha=>value_fn N a (by have:=Expr.lt_of_mem ha;omega) (hx.args a ha) vs hv (hr.args a ha)
  have v1:∀a∈x.args,CallFn Tryz.prog 198 ([]++[aE a]++[.rptr [.sl (vs.map encB)]]) (aB (!evalE a vs)):=by
   intro a ha
   have c:=ih a ha
   generalize evalE a vs=b at *
   refine callFz_of Tryz.func198 rfl Tryz.ntmps198 (rs:=[.tmp 3]) rfl (by kernel_rfl) (by simp) (by kernel_rfl) ?_
   simp
   refine c.s ?_
   simp
  have v2:∀a∈x.args,CallFn Tryz.prog 199 ([]++[aE a]++[.rptr [.sl (vs.map encB)]]) (aB (evalE a vs)):=by
   intro a ha
   have c:=ih a ha
   generalize evalE a vs=b at *
   refine callFz_of Tryz.func199 rfl Tryz.ntmps199 (rs:=[.tmp 3]) rfl (by kernel_rfl) (by simp) (by kernel_rfl) ?_
   simp
   refine c.s ?_
   simp
  have k1:=containsE_fn x.args (fun a=>!evalE a vs) 198 [] [.rptr [.sl (vs.map encB)]] hx.len v1
  have k2:=containsE_fn x.args (fun a=>evalE a vs) 199 [] [.rptr [.sl (vs.map encB)]] hx.len v2
  have hn:=hr.node
  have hlen:=hx.len
  have hop:0<=x.op∧x.op<5:=by
   unfold nodeR at hn
   split at hn<;>omega
  obtain ho | ho | ho | ho | ho:x.op=0∨x.op=1∨x.op=2∨x.op=3∨x.op=4:=by omega
  ·refine callFz_of Tryz.func137 rfl Tryz.ntmps137 (rs:=[.tmp 4]) rfl (by kernel_rfl) (by simp) (by kernel_rfl) ?_
   simp[ho,evalE_eq x]
  ·have hix:0<=x.index∧x.index<vs.length:=by
    simp[nodeR,ho]at hn
    omega
   obtain⟨k,hk⟩:∃k:Nat,x.index=k:=⟨x.index.toNat,by omega⟩
   rw[hk]at hix
   have hkl:k<vs.length:=by omega
   refine callFz_of Tryz.func137 rfl Tryz.ntmps137 (rs:=[.tmp 4]) rfl (by kernel_rfl) (by simp) (by kernel_rfl) ?_
   simp[ho,hk,hkl,evalE_eq x]
  ·have hl:x.args.length=1:=by
    simp[nodeR,ho]at hn
    split at hn
    ·cases hn
    ·omega
   obtain⟨y,hy⟩:∃y,x.args=[y]:=List.length_eq_one_iff.1 hl
   have e:evalE x vs = !(evalE y vs):=by
    rw[evalE_eq,if_neg (by omega),if_neg (by omega),if_pos ho,hy]
    simp[evalL]
   have c:=ih y (by simp[hy])
   rw[e]
   generalize evalE y vs=b at *
   refine callFz_of Tryz.func137 rfl Tryz.ntmps137 (rs:=[.tmp 4]) rfl (by kernel_rfl) (by simp) (by kernel_rfl) ?_
   simp[ho,hy]
   refine V.draw (fun t=>if t=26 then some (.fn (aB b)) else none) (by kernel_rfl) (by kernel_rfl) (by simp) ?_
   simp[ho,hy,encE_eq]
   exact c
  ·have e:evalE x vs = !(x.args.any fun a=>!evalE a vs):=by
    rw[evalE_eq,if_neg (by omega),if_neg (by omega),if_neg (by omega),if_pos ho,evalL_all,allT]
    exact List.all_eq_not_any_not
   rw[e]
   generalize (x.args.any fun a=>!evalE a vs)=b at *
   refine callFz_of Tryz.func137 rfl Tryz.ntmps137 (rs:=[.tmp 4]) rfl (by kernel_rfl) (by simp) (by kernel_rfl) ?_
   simp[ho]
   refine k1.s ?_
   simp
  ·have e:evalE x vs=x.args.any fun a=>evalE a vs:=by
    rw[evalE_eq,if_neg (by omega),if_neg (by omega),if_neg (by omega),if_neg (by omega),evalL_any,anyT]
   rw[e]
   generalize (x.args.any fun a=>evalE a vs)=b at *
   refine callFz_of Tryz.func137 rfl Tryz.ntmps137 (rs:=[.tmp 4]) rfl (by kernel_rfl) (by simp) (by kernel_rfl) ?_
   simp[ho]
   refine k2.s ?_
   simp
abbrev aCh (v:Bool) (t:Int) (b:Bool):A:=.record [.bool v,.int .i64 t,.bool b]
theorem rule0_fn (v:Bool) (t:Int) (b on off:Bool):CallFn Tryz.prog 194 [aCh v t b,aB on,aB off] (aCh v t b):=by
 refine callFz_of Tryz.func194 rfl Tryz.ntmps194 (rs:=[.cell 6 211]) rfl (by kernel_rfl) (by simp) (by kernel_rfl) ?_
 simp
theorem rule1_fn (v:Bool) (t:Int) (b on off:Bool):CallFn Tryz.prog 195 [aCh v t b,aB on,aB off] (aCh (if on != off then on else v) t (on&&off)):=by
 refine CallS.agg (az:=[]) ?_
 refine callFz_of Tryz.func195 rfl Tryz.ntmps195 (rs:=[.cell 6 211]) rfl (by kernel_rfl) (by simp) (by kernel_rfl) ?_
 cases on<;>cases off<;>simp
theorem rule2_fn (v:Bool) (t:Int) (on off:Bool):CallFn Tryz.prog 196 [aCh v t false,aB on,aB off] (aCh (if on=false then false else v) (if on=false then 0 else if t=0 then 1 else t) false):=by
 refine CallS.agg (az:=[]) ?_
 refine callFz_of Tryz.func196 rfl Tryz.ntmps196 (rs:=[.cell 6 211]) rfl (by kernel_rfl) (by simp) (by kernel_rfl) ?_
 cases on
 ·simp
 ·by_cases ht:t=0<;>simp[ht]
abbrev rulesA:List A:=[.fn 194 [] [],.fn 195 [] [],.fn 196 [] []]
theorem rules_fn:CallFn Tryz.prog 136 [] (.agg rulesA):=by
 refine callFz_of Tryz.func136 rfl Tryz.ntmps136 (rs:=[.cell 0 208]) rfl (by kernel_rfl) (by simp) (by kernel_rfl) ?_
 simp
theorem growB_o (n:Int) (h0:0<=n) (h1:n<=4294967296):CallOwn Tryz.prog 253 [.nils,aI n] 4 1 []:=by
 refine callO_of Tryz.func253 rfl Tryz.ntmps253 (rs:=[.tmp 4]) rfl (by kernel_rfl) (by simp) (by kernel_rfl) ?_
 by_cases hn:0<n
 ·simp[hn,Int.not_lt.2 h0]
  omega
 ·have e:n=0:=by omega
  subst e
  simp
def sumB (xss:List (List Bool)):Nat:=(xss.map List.length).sum
theorem concatB_o (xss:List (List Bool)) (h:sumB xss<=4294967296) (h1:xss.length<=4294967296):CallOwn Tryz.prog 193 [.dat (.sl (xss.map fun xs=>[.sl (xs.map encB)]))] 4 1 (xss.flatten.map rB):=by
 refine callO_of Tryz.func193 rfl Tryz.ntmps193 (rs:=[.tmp 2]) rfl (by kernel_rfl) (by simp) (by kernel_rfl) ?_
 have hle:∀i,(xss.take i).flatten.length<=sumB xss:=by
  intro i
  have e:xss=xss.take i++xss.drop i:=(List.take_append_drop i xss).symm
  have:sumB xss=sumB (xss.take i)+sumB (xss.drop i):=by
   unfold sumB
   conv=>lhs;rw[e]
   rw[List.map_append,List.sum_append]
  rw[List.length_flatten]
  unfold sumB at this ⊢
  omega
 have hst:∀i y,xss[i]?=some y->(xss.take (i+1)).flatten=(xss.take i).flatten++y:=by
  intro i y hy
  rw[List.take_add_one,hy]
  simp
 obtain⟨L,hL⟩:∃L:Nat->Nat,∀i,L i=(xss.take i).flatten.length:=⟨_,fun _=>rfl⟩
 have hL0:L 0=0:=by simp[hL]
 have hLs:∀i y,xss[i]?=some y->L (i+1)=L i+y.length:=by
  intro i y hy
  rw[hL,hL,hst i y hy,List.length_append]
 have hLm:∀i,L i<=sumB xss:=fun i=>by rw[hL];exact hle i
 simp
 refine V.forI (σ:=Unit) xss.length [0,2,9,10] (by simp;exact rfl) (fun i _=>[(11,aI i),(3,aI (L i))]) (fun _ _=>[]) (fun _ _=>True) () (by simp) (by simp[hL0]) ⟨by simp;exact rfl,by simp⟩ ?_ ?_
 ·rintro i-hi -
  have hy:=List.getElem?_eq_getElem hi
  have hs:=hLs i _ hy
  have hl:=hLm (i+1)
  simp[hi,hs]
  omega
 ·rintro - -
  have hl:=hLm xss.length
  simp
  refine (growB_o _ (by omega) (by omega)).s 50 ?_
  intro hd
  simp
  refine V.forL (γ:=Value) xss [2,25,26] (by simp;exact rfl) (fun i _ g=>[(27,aI i),(6,.own 50 g)]) (fun i _ g=>[(50,.seq g 4 1 ((xss.take i).flatten.map rB))]) (fun (_:Unit) (_:List Bool)=>(Except.ok ():Except Unit Unit)) (fun _ _=>True) () hd trivial (by simp) ⟨by simp;exact rfl,by simp⟩ ?_ ?_
  ·rintro i-g y hi hy - -
   have hy':xss[i]?=some y:=by rw[List.getElem?_eq_getElem hi,hy]
   have hs:=hst i _ hy'
   have hl2:=hle (i+1)
   rw[hs,List.length_append]at hl2
   rw[hs]
   generalize (xss.take i).flatten=zs at hl2
   simp[hi,hy]
   omega
  ·rintro-g - -
   simp
abbrev encM (c:Control) (s:State):List L:=encC c++(encSt s++[.int .i64 (firstC c)])
theorem lines_d (c:Control) (s:State) (h:SmS s):CallOwn Tryz.prog 135 [.rptr (encM c s)] 4 1 ((valuesOf s).map rB):=by
 obtain⟨h1,h2,h3,h4,h5⟩:=h
 refine callO_of Tryz.func135 rfl Tryz.ntmps135 (rs:=[.tmp 2]) rfl (by kernel_rfl) (by simp) (by kernel_rfl) ?_
 simp
 refine V.forI (σ:=Value) s.ends.length [0,2,10,11] (by simp;exact rfl) (fun i g=>[(12,aI i),(3,.own 50 g)]) (fun i g=>[(50,.seq g 4 1 ((endsV (s.ends.take i)).map rB))]) (fun _ _=>True) (.slice none 0 0) trivial (by simp) ⟨by simp;exact rfl,by simp[endsV]⟩ ?_ ?_
 ·rintro i g hi -
  obtain⟨x,hx⟩:∃x,s.ends[i]=x:=⟨_,rfl⟩
  have hs:=endsV_take (show s.ends[i]?=some x by rw[List.getElem?_eq_getElem hi,hx])
  have hl:=endsV_length (s.ends.take i)
  rw[List.length_take]at hl
  rw[hs]
  generalize endsV (s.ends.take i)=zs at hl ⊢
  simp[hi,hx]
  omega
 ·rintro g -
  have hl:=endsV_length s.ends
  rw[List.take_length]
  have hv:valuesOf s=endsV s.ends++s.inputs++s.values:=rfl
  rw[hv]
  generalize endsV s.ends=zs at hl ⊢
  simp
  refine V.frz1 3 (τ:=50) (h:=g) (e:=4) (sz:=1) (rows:=zs.map rB) (by simp) (by simp[hget]) (by simp) ?_
  refine V.draw (fun t=>if t=36 then some (.own 4 1 ((zs++s.inputs++s.values).map rB)) else none) (by kernel_rfl) (by kernel_rfl) (by simp[hdel]) ?_
  have hcc:=concatB_o [zs,s.inputs,s.values] (by simp[sumB];omega) (by simp)
  simp at hcc
  simp[hdel]
  exact hcc
theorem Inv.same {x:X}{H:Heap}{t:Nat}{e e':Ent}(hi:Inv x ((t,e)::H)) (ho:∀b,e'.own b->e.own b) (hs:e.sat x->e'.sat x):Inv x ((t,e')::H):=by
 have hap:=List.pairwise_cons.1 hi.apart
 refine⟨hi.bd,?_,?_,List.pairwise_cons.2 ⟨fun p hp b h1 h2=>hap.1 p hp b (ho b h1) h2,hap.2⟩⟩
 ·intro p hp
  rcases List.mem_cons.1 hp with rfl | hp
  ·exact hs (hi.sat (t,e) (by simp))
  ·exact hi.sat p (by simp[hp])
 ·intro p hp b hb
  rcases List.mem_cons.1 hp with rfl | hp
  ·exact hi.own (t,e) (by simp) b (ho b hb)
  ·exact hi.own p (by simp[hp]) b hb
end Go.Proofs.YtpadinblmjlggaaGreatDoor
