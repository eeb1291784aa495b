/- Texts joined by a program: Fwa,Fwb,Fwba. -/
import Derived.Test.YtafamcbdaeppoaaGreatDoorProg
import Derived.WalkKit
import Derived.CallsIn
import Derived.TacticsIn
import Derived.RangeFuncRecord
import Derived.RangeFuncIn
import Derived.Deep.LoopGhost
import Derived.MapKept
import Derived.ChangeKeysEq
set_option linter.unusedSimpArgs false
set_option linter.unusedVariables false
namespace Go.Proofs.YtafamcbdaeppoaaGreatDoor
inductive L where
 | int (k:IntKind) (n:Int)
 | bool (b:Bool)
 | str (s:List UInt8)
 | sl (xs:List (List L))
 deriving Inhabited
structure X where
 w:World
 ok:Nat->Prop
theorem ask_drawn {α:Type}(a:Ask α):∀(w:World),w.drawn<=(w.ask a).2.drawn:=by
 induction a with
 | done a=>intro w;exact Nat.le_refl _
 | ask what range k ih=>
  intro w
  unfold World.ask
  dsimp only
  split
  ·exact ih _ w
  ·have h2:=ih ((Question.extern what range).cut (w.tape w.drawn (Question.extern what range))) { w with drawn:=w.drawn+1 }
   exact Nat.le_trans (Nat.le_succ _) h2
theorem sys_drawn (w:World) (c:Sys):w.drawn<=(w.sys c).2.drawn:=by
 unfold World.sys
 have h:=ask_drawn (Kernel.perform c w.os) w
 split
 ·exact Nat.le_refl _
 ·rename_i r os w' heq
  rw[heq]at h
  exact h
theorem viewStore_drawn {P:Program}{w w':World}{a k:Addr}{u:TypeId}{v:Value}{b:Bool}{l:List Addr}(h:w.viewStore P a u k v b=.ok (w',l)):w'.drawn=w.drawn:=by
 unfold World.viewStore at h
 simp only[bind,Except.bind,pure,Except.pure]at h
 repeat' (split at h)
 all_goals first
  | (cases h;done)
  | (simp only[Except.ok.injEq,Prod.mk.injEq]at h;rw[<- h.1])
theorem Sem.run_drawn {P:Program}{α:Type}(s:Sem α):∀(w:World) {a:α}{w':World},s.run P w=.ok a w'->w.drawn<=w'.drawn:=by
 induction s with
 | pure a=>intro w b w' h;simp only[Sem.run,Result.ok.injEq]at h;rw[h.2];exact Nat.le_refl _
 | load m a k ih=>
  intro w b w' h
  simp only[Sem.run]at h
  split at h
  ·exact ih _ w h
  ·split at h
   ·exact ih _ w h
   ·cases h
 | store m a v k ih=>
  intro w b w' h
  cases v
  case agg=>simp only[Sem.run]at h;cases h
  case tuple=>simp only[Sem.run]at h;cases h
  all_goals
   simp only[Sem.run]at h
   split at h
   ·split at h
    ·cases h
    ·have h2:=ih _ h
     exact h2
   ·split at h
    ·rename_i w2 l heq
     have h2:=ih _ h
     unfold World.farStore at heq
     split at heq
     ·split at heq
      ·rename_i r hvs
       simp only[Except.ok.injEq]at heq
       subst heq
       rw[<- viewStore_drawn hvs]
       exact h2
      ·cases heq
     ·cases heq
    ·cases h
 | new o k ih=>intro w b w' h;simp only[Sem.run]at h;have h2:=ih _ _ h;exact h2
 | shape r k ih=>intro w b w' h;simp only[Sem.run]at h;exact ih _ _ h
 | freeze a n k ih=>
  intro w b w' h
  simp only[Sem.run]at h
  have:=ih _ h
  unfold World.freeze at this
  split at this<;>exact this
 | frozen a k ih=>intro w b w' h;simp only[Sem.run]at h;exact ih _ _ h
 | getObj r k ih=>
  intro w b w' h
  simp only[Sem.run]at h
  split at h
  ·cases h
  ·exact ih _ _ h
  ·cases h
 | setObj r o k ih=>
  intro w b w' h
  simp only[Sem.run]at h
  split at h
  ·cases h
  ·have h2:=ih _ h
   exact h2
  ·cases h
 | choose q k ih=>
  intro w b w' h
  simp only[Sem.run]at h
  split at h
  ·exact ih _ _ h
  ·have h2:=ih _ _ h
   exact Nat.le_trans (Nat.le_succ _) h2
 | sys c k ih=>
  intro w b w' h
  simp only[Sem.run]at h
  have h2:=ih _ _ h
  exact Nat.le_trans (sys_drawn w c) h2
 | program k ih=>intro w b w' h;simp only[Sem.run]at h;exact ih _ _ h
 | mark m k ih=>intro w b w' h;simp only[Sem.run]at h;exact ih _ h
 | halt h=>intro w b w' h;simp only[Sem.run]at h;cases h
mutual
def RdL (x:X):L->Value->Prop
 | .int k n,v=>v=.int k n
 | .bool b,v=>v=.bool b
 | .str s,v=>v=.string ⟨s.toArray⟩
 | .sl xs,v=>(v=.slice none 0 0∧xs=[])∨(∃b off cap,v=.slice (some ⟨b,off,none⟩) xs.length cap∧xs.length<=cap∧RdRows x xs b off)∨∃a,v=.slice (some a) 0 0∧xs=[]
def RdRows (x:X):List (List L)->Nat->Nat->Prop
 | [],_,_=>True
 | r::rs,b,off=>RdCells x r b off∧RdRows x rs b (off+r.length)
def RdCells (x:X):List L->Nat->Nat->Prop
 | [],_,_=>True
 | l::ls,b,off=>(x.ok b∧∃v,x.w.cell? ⟨b,off,none⟩=some v∧RdL x l v)∧RdCells x ls b (off+1)
end
def RdLs (x:X):List L->List Value->Prop
 | [],[]=>True
 | l::ls,v::vs=>RdL x l v∧RdLs x ls vs
 | _,_=>False
structure X.le (x y:X):Prop where
 keep:∀b,x.ok b->y.ok b∧y.w.heap[b]?=x.w.heap[b]?
 os:y.w.os=x.w.os
 output:y.w.output=x.w.output
 tape:y.w.tape=x.w.tape
 size:x.w.heap.size<=y.w.heap.size
 drawn:x.w.drawn<=y.w.drawn
theorem X.le.refl (x:X):x.le x:=⟨fun _ h=>⟨h,rfl⟩,rfl,rfl,rfl,Nat.le_refl _,Nat.le_refl _⟩
theorem X.le.trans {x y z:X}(h:x.le y) (k:y.le z):x.le z:=
 ⟨fun b hb=>⟨(k.keep b (h.keep b hb).1).1,(k.keep b (h.keep b hb).1).2.trans (h.keep b hb).2⟩,k.os.trans h.os,k.output.trans h.output,
  k.tape.trans h.tape,Nat.le_trans h.size k.size,Nat.le_trans h.drawn k.drawn⟩
theorem X.le.cell {x y:X}(h:x.le y) {b off:Nat}(hb:x.ok b):y.w.cell? ⟨b,off,none⟩=x.w.cell? ⟨b,off,none⟩:=by
 simp only[World.cell?,(h.keep b hb).2]
mutual
theorem RdL.mono {x y:X}(h:x.le y):∀(l:L) (v:Value),RdL x l v->RdL y l v
 | .int _ _,_,hv=>by simpa [RdL]using hv
 | .bool _,_,hv=>by simpa [RdL]using hv
 | .str _,_,hv=>by simpa [RdL]using hv
 | .sl xs,v,hv=>by
  simp only[RdL]at hv ⊢
  rcases hv with hv | ⟨b,off,cap,e,hc,hr⟩|hv
  ·exact .inl hv
  ·exact .inr (.inl ⟨b,off,cap,e,hc,RdRows.mono h xs b off hr⟩)
  ·exact .inr (.inr hv)
theorem RdRows.mono {x y:X}(h:x.le y):∀(xs:List (List L)) (b off:Nat),RdRows x xs b off->RdRows y xs b off
 | [],_,_,_=>by simp[RdRows]
 | r::rs,b,off,hr=>by
  simp only[RdRows]at hr ⊢
  exact⟨RdCells.mono h r b off hr.1,RdRows.mono h rs b (off+r.length) hr.2⟩
theorem RdCells.mono {x y:X}(h:x.le y):∀(ls:List L) (b off:Nat),RdCells x ls b off->RdCells y ls b off
 | [],_,_,_=>by simp[RdCells]
 | l::ls,b,off,hr=>by
  simp only[RdCells]at hr ⊢
  obtain⟨⟨hb,v,hc,hv⟩,hr⟩:=hr
  exact⟨⟨(h.keep b hb).1,v,by rw[h.cell hb];exact hc,RdL.mono h l v hv⟩,RdCells.mono h ls b (off+1) hr⟩
end
theorem RdLs.mono {x y:X}(h:x.le y):∀(ls:List L) (vs:List Value),RdLs x ls vs->RdLs y ls vs
 | [],[],_=>by simp[RdLs]
 | l::ls,v::vs,hr=>by
  simp only[RdLs]at hr ⊢
  exact⟨RdL.mono h l v hr.1,RdLs.mono h ls vs hr.2⟩
 | [],_::_,hr=>by simp[RdLs]at hr
 | _::_,[],hr=>by simp[RdLs]at hr
theorem RdLs.length {x:X}:∀ {ls:List L}{vs:List Value},RdLs x ls vs->vs.length=ls.length
 | [],[],_=>rfl
 | l::ls,v::vs,hr=>by simp only[RdLs]at hr;simp[RdLs.length hr.2]
 | [],_::_,hr=>by simp[RdLs]at hr
 | _::_,[],hr=>by simp[RdLs]at hr
theorem RdCells.drop {x:X}:∀(k:Nat) (ls:List L) (b off:Nat),RdCells x ls b off->RdCells x (ls.drop k) b (off+k)
 | 0,ls,b,off,h=>by simpa using h
 | k+1,[],b,off,h=>by simp[RdCells]
 | k+1,l::ls,b,off,h=>by
  simp only[RdCells]at h
  have:=RdCells.drop k ls b (off+1) h.2
  simpa [Nat.add_assoc,Nat.add_comm 1 k]using this
theorem RdCells.take {x:X}:∀(k:Nat) (ls:List L) (b off:Nat),RdCells x ls b off->RdCells x (ls.take k) b off
 | 0,ls,b,off,h=>by simp[RdCells]
 | k+1,[],b,off,h=>by simp[RdCells]
 | k+1,l::ls,b,off,h=>by
  simp only[RdCells]at h
  simp only[List.take_succ_cons,RdCells]
  exact⟨h.1,RdCells.take k ls b (off+1) h.2⟩
theorem RdCells.vals {x:X}:∀(ls:List L) (b off:Nat),RdCells x ls b off->∃vs,RdLs x ls vs∧∀j v,vs[j]?=some v->x.w.cell? ⟨b,off+j,none⟩=some v
 | [],b,off,h=>⟨[],by simp[RdLs],by simp⟩
 | l::ls,b,off,h=>by
  simp only[RdCells]at h
  obtain⟨⟨_,v,hc,hv⟩,hr⟩:=h
  obtain⟨vs,h1,h2⟩:=RdCells.vals ls b (off+1) hr
  refine⟨v::vs,by simp only[RdLs];exact⟨hv,h1⟩,fun j u hj=>?_⟩
  cases j with
  | zero=>simp at hj;subst hj;simpa using hc
  | succ j=>simp at hj;have:=h2 j u hj;simpa [Nat.add_assoc,Nat.add_comm 1 j]using this
theorem RdRows.get {x:X}{sz:Nat}:∀(i:Nat) (xs:List (List L)) (b off:Nat) (r:List L),(∀r∈xs,r.length=sz)->RdRows x xs b off->xs[i]?=some r->RdCells x r b (off+i*sz)
 | _,[],_,_,_,_,_,h=>by simp at h
 | 0,r::rs,b,off,r',_,h,hr=>by
  simp at hr;subst hr
  simp only[RdRows]at h
  simpa using h.1
 | i+1,r::rs,b,off,r',hs,h,hr=>by
  simp at hr
  simp only[RdRows]at h
  have h1:=hs r (by simp)
  have:=RdRows.get i rs b (off+r.length) r' (fun r hr=>hs r (by simp[hr])) h.2 hr
  rw[h1]at this
  rw[Nat.succ_mul,Nat.add_comm (i*sz) sz,<- Nat.add_assoc];exact this
theorem RdRows.drop {x:X}{sz:Nat}:∀(k:Nat) (xs:List (List L)) (b off:Nat),(∀r∈xs,r.length=sz)->RdRows x xs b off->RdRows x (xs.drop k) b (off+k*sz)
 | 0,_,_,_,_,h=>by simpa using h
 | k+1,[],_,_,_,_=>by simp[RdRows]
 | k+1,r::rs,b,off,hs,h=>by
  simp only[RdRows]at h
  have h1:=hs r (by simp)
  have:=RdRows.drop k rs b (off+r.length) (fun r hr=>hs r (by simp[hr])) h.2
  rw[h1]at this
  simp only[List.drop_succ_cons]
  rw[Nat.succ_mul,Nat.add_comm (k*sz) sz,<- Nat.add_assoc];exact this
theorem RdRows.take {x:X}:∀(k:Nat) (xs:List (List L)) (b off:Nat),RdRows x xs b off->RdRows x (xs.take k) b off
 | 0,_,_,_,_=>by simp[RdRows]
 | k+1,[],_,_,_=>by simp[RdRows]
 | k+1,r::rs,b,off,h=>by
  simp only[RdRows]at h
  simp only[List.take_succ_cons,RdRows]
  exact⟨h.1,RdRows.take k rs b (off+r.length) h.2⟩
inductive A where
 | any
 | undef
 | dat (l:L)
 | nn (xs:List (List L))
 | record (ls:List L)
 | agg (az:List A)
 | tuple (az:List A)
 | ptr (t b off:Nat)
 | rptr (ls:List L)
 | nilp
 | nils
 | own (t:Nat) (h:Value)
 | fn (f:FuncId) (first caps:List A)
 | nilf
 | map (t r:Nat)
 | yld (l:Nat)
 | cond (p:Prop) (a:A)
 | eptr (t:Nat) (h:Value) (sz i j:Nat)
 | clip (xs:List (List L))
 | owd (h:Value) (xs:List (List L))
 deriving Inhabited
mutual
def D (x:X):A->Value->Prop
 | .any,_=>True
 | .undef,v=>v=Go.undef
 | .dat l,v=>RdL x l v
 | .nn xs,v=>RdL x (.sl xs) v∧v≠.slice none 0 0
 | .record ls,v=>∃vs,v=.agg vs∧RdLs x ls vs.toList
 | .agg az,v=>∃vs,v=.agg vs∧Ds x az vs.toList
 | .tuple az,v=>∃vs,v=.tuple vs∧Ds x az vs.toList
 | .ptr _ b off,v=>v=.pointer (some ⟨b,off,none⟩)
 | .rptr ls,v=>∃b off,v=.pointer (some ⟨b,off,none⟩)∧RdCells x ls b off
 | .nilp,v=>v=.pointer none
 | .nils,v=>v=.slice none 0 0
 | .own _ h,v=>v=h∧∃a n c,h=.slice a n c
 | .fn f first caps,v=>∃fs cs,v=.func (.func f) fs cs∧Ds x first fs.toList∧Ds x caps cs.toList
 | .nilf,v=>v=.nilFunc
 | .map _ r,v=>v=.map (some r)
 | .yld l,v=>v=.func (.yield l) #[] #[]
 | .cond p a,v=>(p->D x a v)∧(¬p->v=Go.undef)
 | .eptr _ h sz i j,v=>∃b off n cap,h=.slice (some ⟨b,off,none⟩) n cap∧v=.pointer (some ⟨b,off+i*sz+j,none⟩)
 | .clip xs,v=>RdL x (.sl xs) v∧∃a n,v=.slice a n n
 | .owd h xs,v=>v=h∧RdL x (.sl xs) v
def Ds (x:X):List A->List Value->Prop
 | [],[]=>True
 | a::az,v::vs=>D x a v∧Ds x az vs
 | [],_::_=>False
 | _::_,[]=>False
end
mutual
theorem D.mono {x y:X}(h:x.le y):∀(a:A) (v:Value),D x a v->D y a v
 | .any,_,_=>by simp[D]
 | .undef,_,hv=>by simpa [D]using hv
 | .dat l,v,hv=>by simp only[D]at hv ⊢;exact RdL.mono h l v hv
 | .nn xs,v,hv=>by simp only[D]at hv ⊢;exact⟨RdL.mono h _ v hv.1,hv.2⟩
 | .clip xs,v,hv=>by simp only[D]at hv ⊢;exact⟨RdL.mono h _ v hv.1,hv.2⟩
 | .owd g xs,v,hv=>by simp only[D]at hv ⊢;exact⟨hv.1,RdL.mono h _ v hv.2⟩
 | .record ls,v,hv=>by
  simp only[D]at hv ⊢
  obtain⟨vs,e,hr⟩:=hv
  exact⟨vs,e,RdLs.mono h ls _ hr⟩
 | .agg az,v,hv=>by
  simp only[D]at hv ⊢
  obtain⟨vs,e,hr⟩:=hv
  exact⟨vs,e,Ds.mono h az _ hr⟩
 | .tuple az,v,hv=>by
  simp only[D]at hv ⊢
  obtain⟨vs,e,hr⟩:=hv
  exact⟨vs,e,Ds.mono h az _ hr⟩
 | .ptr _ _ _,_,hv=>by simpa [D]using hv
 | .rptr ls,v,hv=>by
  simp only[D]at hv ⊢
  obtain⟨b,off,e,hr⟩:=hv
  exact⟨b,off,e,RdCells.mono h ls b off hr⟩
 | .nilp,_,hv=>by simpa [D]using hv
 | .nils,_,hv=>by simpa [D]using hv
 | .own _ _,_,hv=>by simpa [D]using hv
 | .fn f first caps,v,hv=>by
  simp only[D]at hv ⊢
  obtain⟨fs,cs,e,h1,h2⟩:=hv
  exact⟨fs,cs,e,Ds.mono h first _ h1,Ds.mono h caps _ h2⟩
 | .nilf,_,hv=>by simpa [D]using hv
 | .map _ _,_,hv=>by simpa [D]using hv
 | .yld _,_,hv=>by simpa [D]using hv
 | .cond p a,v,hv=>by simp only[D]at hv ⊢;exact⟨fun hp=>D.mono h a v (hv.1 hp),hv.2⟩
 | .eptr _ _ _ _ _,_,hv=>by simpa [D]using hv
theorem Ds.mono {x y:X}(h:x.le y):∀(az:List A) (vs:List Value),Ds x az vs->Ds y az vs
 | [],[],_=>by simp[Ds]
 | a::az,v::vs,hr=>by
  simp only[Ds]at hr ⊢
  exact⟨D.mono h a v hr.1,Ds.mono h az vs hr.2⟩
 | [],_::_,hr=>by simp[Ds]at hr
 | _::_,[],hr=>by simp[Ds]at hr
end
theorem Ds.get {x:X}:∀ {az:List A}{vs:List Value}(i:Nat),Ds x az vs->D x (az.getD i .any) (vs.getD i Go.undef)
 | [],[],i,_=>by simp[D]
 | a::az,v::vs,0,h=>by simp only[Ds]at h;simpa using h.1
 | a::az,v::vs,i+1,h=>by simp only[Ds]at h;simpa using Ds.get i h.2
 | [],_::_,_,h=>by simp[Ds]at h
 | _::_,[],_,h=>by simp[Ds]at h
theorem Ds.length {x:X}:∀ {az:List A}{vs:List Value},Ds x az vs->vs.length=az.length
 | [],[],_=>rfl
 | a::az,v::vs,h=>by simp only[Ds]at h;simp[Ds.length h.2]
 | [],_::_,h=>by simp[Ds]at h
 | _::_,[],h=>by simp[Ds]at h
theorem Ds.append {x:X}:∀ {az bz:List A}{vs us:List Value},Ds x az vs->Ds x bz us->Ds x (az++bz) (vs++us)
 | [],_,[],_,_,h=>by simpa using h
 | a::az,_,v::vs,_,h,k=>by simp only[Ds]at h;simp only[List.cons_append,Ds];exact⟨h.1,Ds.append h.2 k⟩
 | [],_,_::_,_,h,_=>by simp[Ds]at h
 | _::_,_,[],_,h,_=>by simp[Ds]at h
theorem Ds.take {x:X}:∀(k:Nat) {az:List A}{vs:List Value},Ds x az vs->Ds x (az.take k) (vs.take k)
 | 0,_,_,_=>by simp[Ds]
 | k+1,[],[],_=>by simp[Ds]
 | k+1,a::az,v::vs,h=>by simp only[Ds]at h;simp only[List.take_succ_cons,Ds];exact⟨h.1,Ds.take k h.2⟩
 | _+1,[],_::_,h=>by simp[Ds]at h
 | _+1,_::_,[],h=>by simp[Ds]at h
theorem Ds.drop {x:X}:∀(k:Nat) {az:List A}{vs:List Value},Ds x az vs->Ds x (az.drop k) (vs.drop k)
 | 0,_,_,h=>by simpa using h
 | k+1,[],[],_=>by simp[Ds]
 | k+1,a::az,v::vs,h=>by simp only[Ds]at h;simpa using Ds.drop k h.2
 | _+1,[],_::_,h=>by simp[Ds]at h
 | _+1,_::_,[],h=>by simp[Ds]at h
theorem Ds.at {x:X}{az:List A}{vs:List Value}{i:Nat}{a:A}(h:Ds x az vs) (ha:az[i]?=some a):∃v,vs[i]?=some v∧D x a v:=by
 have hl:=h.length
 have hi:i<az.length:=by
  rcases Nat.lt_or_ge i az.length with h | h
  ·exact h
  ·simp[List.getElem?_eq_none h]at ha
 have:=Ds.get i h
 rw[List.getElem?_eq_getElem hi]at ha
 cases ha
 refine⟨vs[i]'(by omega),List.getElem?_eq_getElem (by omega),?_⟩
 simpa [List.getD,List.getElem?_eq_getElem hi,List.getElem?_eq_getElem (show i<vs.length by omega)]using this
theorem Ds.of_ls {x:X}:∀ {ls:List L}{vs:List Value},RdLs x ls vs->Ds x (ls.map .dat) vs
 | [],[],_=>by simp[Ds]
 | l::ls,v::vs,h=>by simp only[RdLs]at h;simp only[List.map_cons,Ds,D];exact⟨h.1,Ds.of_ls h.2⟩
 | [],_::_,h=>by simp[RdLs]at h
 | _::_,[],h=>by simp[RdLs]at h
theorem RdLs.take {x:X}:∀(k:Nat) {ls:List L}{vs:List Value},RdLs x ls vs->RdLs x (ls.take k) (vs.take k)
 | 0,_,_,_=>by simp[RdLs]
 | k+1,[],[],_=>by simp[RdLs]
 | k+1,a::az,v::vs,h=>by simp only[RdLs]at h;simp only[List.take_succ_cons,RdLs];exact⟨h.1,RdLs.take k h.2⟩
 | _+1,[],_::_,h=>by simp[RdLs]at h
 | _+1,_::_,[],h=>by simp[RdLs]at h
theorem RdLs.drop {x:X}:∀(k:Nat) {ls:List L}{vs:List Value},RdLs x ls vs->RdLs x (ls.drop k) (vs.drop k)
 | 0,_,_,h=>by simpa using h
 | k+1,[],[],_=>by simp[RdLs]
 | k+1,a::az,v::vs,h=>by simp only[RdLs]at h;simpa using RdLs.drop k h.2
 | _+1,[],_::_,h=>by simp[RdLs]at h
 | _+1,_::_,[],h=>by simp[RdLs]at h
theorem RdLs.append {x:X}:∀ {az bz:List L}{vs us:List Value},RdLs x az vs->RdLs x bz us->RdLs x (az++bz) (vs++us)
 | [],_,[],_,_,h=>by simpa using h
 | a::az,_,v::vs,_,h,k=>by simp only[RdLs]at h;simp only[List.cons_append,RdLs];exact⟨h.1,RdLs.append h.2 k⟩
 | [],_,_::_,_,h,_=>by simp[RdLs]at h
 | _::_,_,[],_,h,_=>by simp[RdLs]at h
theorem RdLs.at {x:X}:∀(i:Nat) {ls:List L}{vs:List Value}{l:L},RdLs x ls vs->ls[i]?=some l->∃v,vs[i]?=some v∧RdL x l v
 | _,[],_,_,_,h=>by simp at h
 | 0,l::ls,v::vs,l',h,e=>by simp at e;subst e;simp only[RdLs]at h;exact⟨v,rfl,h.1⟩
 | i+1,l::ls,v::vs,l',h,e=>by simp only[RdLs]at h;simp at e;simpa using RdLs.at i h.2 e
 | _,_::_,[],_,h,_=>by simp[RdLs]at h
def plV:L->Value
 | .int k n=>.int k n
 | .bool b=>.bool b
 | .str s=>.string ⟨s.toArray⟩
 | .sl _=>.nilIface
def tabL:List (Nat×List L):=[(2,[.int .u64 1,.int .u64 10,.int .u64 100,.int .u64 1000,.int .u64 10000,.int .u64 100000,.int .u64 1000000,.int .u64 10000000,.int .u64 100000000,.int .u64 1000000000,.int .u64 10000000000,.int .u64 100000000000,.int .u64 1000000000000,.int .u64 10000000000000,.int .u64 100000000000000,.int .u64 1000000000000000,.int .u64 10000000000000000,.int .u64 100000000000000000,.int .u64 1000000000000000000,.int .u64 10000000000000000000]),(3,[.int .u8 0,.int .u8 1,.int .u8 28,.int .u8 2,.int .u8 29,.int .u8 14,.int .u8 24,.int .u8 3,.int .u8 30,.int .u8 22,.int .u8 20,.int .u8 15,.int .u8 25,.int .u8 17,.int .u8 4,.int .u8 8,.int .u8 31,.int .u8 27,.int .u8 13,.int .u8 23,.int .u8 21,.int .u8 19,.int .u8 16,.int .u8 7,.int .u8 26,.int .u8 12,.int .u8 18,.int .u8 6,.int .u8 11,.int .u8 5,.int .u8 10,.int .u8 9]),(4,[.int .u8 0,.int .u8 1,.int .u8 56,.int .u8 2,.int .u8 57,.int .u8 49,.int .u8 28,.int .u8 3,.int .u8 61,.int .u8 58,.int .u8 42,.int .u8 50,.int .u8 38,.int .u8 29,.int .u8 17,.int .u8 4,.int .u8 62,.int .u8 47,.int .u8 59,.int .u8 36,.int .u8 45,.int .u8 43,.int .u8 51,.int .u8 22,.int .u8 53,.int .u8 39,.int .u8 33,.int .u8 30,.int .u8 24,.int .u8 18,.int .u8 12,.int .u8 5,.int .u8 63,.int .u8 55,.int .u8 48,.int .u8 27,.int .u8 60,.int .u8 41,.int .u8 37,.int .u8 16,.int .u8 46,.int .u8 35,.int .u8 44,.int .u8 21,.int .u8 52,.int .u8 32,.int .u8 23,.int .u8 11,.int .u8 54,.int .u8 26,.int .u8 40,.int .u8 15,.int .u8 34,.int .u8 20,.int .u8 31,.int .u8 10,.int .u8 25,.int .u8 14,.int .u8 19,.int .u8 9,.int .u8 13,.int .u8 8,.int .u8 7,.int .u8 6]),(1,[.int .u8 65,.int .u8 90,.int .u8 1,.int .u8 97,.int .u8 122,.int .u8 1,.int .u8 48,.int .u8 57,.int .u8 2,.int .u8 95,.int .u8 95,.int .u8 3,.int .u8 32,.int .u8 32,.int .u8 5,.int .u8 10,.int .u8 10,.int .u8 5])]
def tabF (n:Nat):Option (List L):=(tabL.find? fun q=>q.1==n).map (·.2)
def Tabs (x:X):Prop:=∀q∈tabL,x.ok q.1∧∃ty fr,x.w.heap[q.1]?=some (.cells (q.2.map plV).toArray ty fr)
theorem Tabs.mono {x y:X}(h:x.le y) (ht:Tabs x):Tabs y:=by
 intro q hq
 obtain⟨h1,ty,fr,h2⟩:=ht q hq
 exact⟨(h.keep _ h1).1,ty,fr,by rw[(h.keep _ h1).2];exact h2⟩
def plB:L->Bool
 | .sl _=>false
 | _=>true
theorem plV_ok {x:X}{l:L}(h:plB l=true):RdL x l (plV l):=by
 cases l<;>simp[plB,plV,RdL]at h ⊢
theorem tab_plain:∀q∈tabL,q.2.all plB=true:=by decide +kernel
theorem rdCells_plain {x:X}{b:Nat}{c:Array Value}{ty:TypeId}{fr:Nat×Nat}(hok:x.ok b) (hh:x.w.heap[b]?=some (.cells c ty fr)):∀(ls:List L) (off:Nat),ls.all plB=true->(∀j l,ls[j]?=some l->c[off+j]?=some (plV l))->RdCells x ls b off
 | [],_,_,_=>by simp[RdCells]
 | l::ls,off,hp,hc=>by
  simp only[List.all_cons,Bool.and_eq_true]at hp
  simp only[RdCells]
  refine⟨⟨hok,plV l,?_,plV_ok hp.1⟩,rdCells_plain hok hh ls (off+1) hp.2 fun j u hj=>?_⟩
  ·have:=hc 0 l (by simp)
   simp only[Nat.add_zero]at this
   simp[World.cell?,hh,this]
  ·have:=hc (j+1) u (by simpa using hj)
   rwa [Nat.add_assoc,Nat.add_comm 1 j]
theorem tab_read {x:X}(h:Tabs x) {n:Nat}{ls:List L}(hn:tabF n=some ls):RdCells x ls n 0:=by
 unfold tabF at hn
 obtain⟨q,hq,rfl⟩:=Option.map_eq_some_iff.1 hn
 have hm:=List.mem_of_find?_eq_some hq
 have he:=List.find?_some hq
 simp only[beq_iff_eq]at he
 subst he
 obtain⟨h1,ty,fr,h2⟩:=h q hm
 refine rdCells_plain h1 h2 q.2 0 (tab_plain q hm) fun j l hj=>?_
 simp[hj]
section
abbrev Env:=Nat->A
def kv:L->Value
 | .int k n=>.int k n
 | .bool b=>.bool b
 | .str s=>.string ⟨s.toArray⟩
 | .sl _=>.nilIface
def MapP {α:Type}(p:α->Value->Prop):List (L×α)->List MapEntry->Prop
 | [],[]=>True
 | (k,l)::r,m::ms=>m.key=kv k∧p l m.val∧MapP p r ms
 | [],_::_=>False
 | _::_,[]=>False
theorem MapP.mono {α:Type}{p q:α->Value->Prop}(h:∀a v,p a v->q a v):∀(es:List (L×α)) (ms:List MapEntry),MapP p es ms->MapP q es ms
 | [],[],_=>by simp[MapP]
 | (k,l)::r,m::ms,hm=>by
  simp only[MapP]at hm ⊢
  exact⟨hm.1,h _ _ hm.2.1,MapP.mono h r ms hm.2.2⟩
 | [],_::_,hm=>by simp[MapP]at hm
 | _::_,[],hm=>by simp[MapP]at hm
abbrev MapOK (x:X):List (L×L)->List MapEntry->Prop:=MapP (RdL x)
theorem MapOK.mono {x y:X}(h:x.le y) (es:List (L×L)) (ms:List MapEntry) (hm:MapOK x es ms):MapOK y es ms:=MapP.mono (fun l v hv=>RdL.mono h l v hv) es ms hm
def RdR (x:X) (ls:List L) (v:Value):Prop:=∃vs,v=.agg vs∧RdLs x ls vs.toList
theorem RdR.mono {x y:X}(h:x.le y) (ls:List L) (v:Value) (hv:RdR x ls v):RdR y ls v:=by
 obtain⟨vs,e,hr⟩:=hv
 exact⟨vs,e,RdLs.mono h ls _ hr⟩
abbrev KeyK:=Int×List UInt8
def kvK (k:KeyK):Value:=.agg #[.int .i64 k.1,.string ⟨k.2.toArray⟩]
def okK (k:KeyK):Prop:=(-9223372036854775808<=k.1∧k.1<=9223372036854775807)∧k.2.length<=9223372036854775807
def RdK (x:X):Bool->List L->Value->Prop
 | true,ls,v=>RdR x ls v
 | false,ls,v=>∃l,ls=[l]∧RdL x l v
theorem RdK.mono {x y:X}(h:x.le y):∀(s:Bool) (ls:List L) (v:Value),RdK x s ls v->RdK y s ls v
 | true,ls,v,hv=>RdR.mono h ls v hv
 | false,ls,v,hv=>by
  obtain⟨l,e,hr⟩:=hv
  exact⟨l,e,RdL.mono h l _ hr⟩
def MapK (x:X) (s:Bool):List (KeyK×List L)->List MapEntry->Prop
 | [],[]=>True
 | (k,l)::r,m::ms=>m.key=kvK k∧okK k∧RdK x s l m.val∧MapK x s r ms
 | [],_::_=>False
 | _::_,[]=>False
theorem MapK.mono {x y:X}(h:x.le y) {s:Bool}:∀(es:List (KeyK×List L)) (ms:List MapEntry),MapK x s es ms->MapK y s es ms
 | [],[],_=>by simp[MapK]
 | (k,l)::r,m::ms,hm=>by
  simp only[MapK]at hm ⊢
  exact⟨hm.1,hm.2.1,RdK.mono h s l _ hm.2.2.1,MapK.mono h r ms hm.2.2.2⟩
 | [],_::_,hm=>by simp[MapK]at hm
 | _::_,[],hm=>by simp[MapK]at hm
inductive Ent where
 | box (b:Nat) (cs:List A)
 | seq (h:Value) (e:TypeId) (sz:Nat) (rows:List (List A))
 | raw (b:Nat) (o:Obj)
 | map (b:Nat) (d:TypeDesc) (es:List (L×L))
 | mapS (b:Nat) (d:TypeDesc) (es:List (L×List L))
 | mapK (b:Nat) (s:Bool) (es:List (KeyK×List L))
 | loop (b n:Nat) (s:LoopState) (pe:Option Code) (ps:Array Tmp) (asg body:Code) (E:Env)
 | seqs (l:List (Value×TypeId×Nat×List (List A)))
abbrev Heap:=List (Nat×Ent)
def Ent.own:Ent->Nat->Prop
 | .box b _,k=>k=b
 | .seq h _ _ _,k=>h.ownBlock=some k
 | .raw b _,k=>k=b
 | .map b _ _,k=>k=b
 | .mapS b _ _,k=>k=b
 | .mapK b _ _,k=>k=b
 | .loop b _ _ _ _ _ _ _,k=>k=b
 | .seqs l,k=>∃q∈l,q.1.ownBlock=some k
def Ent.sat (x:X):Ent->Prop
 | .box b cs=>∃c ty,x.w.heap[b]?=some (.cells c ty (0,0))∧Ds x cs c.toList
 | .seq h e sz rows=>∃xs,x.w.ownsRow 0 e sz h rows.length xs∧(∀r∈rows,r.length=sz)∧Ds x rows.flatten xs
 | .raw b o=>x.w.heap[b]?=some o
 | .map b d es=>∃ms c,x.w.heap[b]?=some (.map ms c)∧MapOK x es ms.toList∧MapKept.Stamped ms c∧∀m∈ms.toList,MapKept.IsKey d m.key
 | .mapS b d es=>∃ms c,x.w.heap[b]?=some (.map ms c)∧MapP (RdR x) es ms.toList∧MapKept.Stamped ms c∧∀m∈ms.toList,MapKept.IsKey d m.key
 | .mapK b s es=>∃ms c,x.w.heap[b]?=some (.map ms c)∧MapK x s es ms.toList∧MapKept.Stamped ms c
 | .loop b n s pe ps asg body E=>∃r:Loop,x.w.heap[b]?=some (.loop r)∧r.state=s∧r.pending=pe∧r.params=ps∧r.assign=asg∧r.body=body∧r.tmps.size=n∧∀t,D x (E t) (r.tmps.getD t Go.undef)
 | .seqs l=>(∀q∈l,∃xs,x.w.ownsRow 0 q.2.1 q.2.2.1 q.1 q.2.2.2.length xs∧(∀r∈q.2.2.2,r.length=q.2.2.1)∧Ds x q.2.2.2.flatten xs)∧l.Pairwise (fun p q=>∀b,p.1.ownBlock=some b->q.1.ownBlock≠some b)
theorem Ent.sat_step {x y:X}(h:x.le y) {e:Ent}(hb:∀b,e.own b->y.w.heap[b]?=x.w.heap[b]?) (hs:e.sat x):e.sat y:=by
 cases e with
 | box b cs=>
  obtain⟨c,ty,h1,h2⟩:=hs
  exact⟨c,ty,by rw[hb b rfl];exact h1,h2.mono h⟩
 | seq v e sz rows=>
  obtain⟨xs,⟨h1,h2⟩,h3,h4⟩:=hs
  refine⟨xs,⟨h1,?_⟩,h3,h4.mono h⟩
  rcases h2 with h2 | ⟨g,cap,cur,rfl,h5,h6,h7⟩
  ·exact .inl h2
  ·exact .inr ⟨g,cap,cur,rfl,h5,by rw[hb g rfl];exact h6,h7⟩
 | raw b o=>show y.w.heap[b]?=some o;rw[hb b rfl];exact hs
 | map b d es=>
  obtain⟨ms,c,h1,h2,h3⟩:=hs
  exact⟨ms,c,by rw[hb b rfl];exact h1,MapOK.mono h _ _ h2,h3⟩
 | mapS b d es=>
  obtain⟨ms,c,h1,h2,h3⟩:=hs
  exact⟨ms,c,by rw[hb b rfl];exact h1,MapP.mono (fun l v hv=>RdR.mono h l v hv) _ _ h2,h3⟩
 | mapK b s es=>
  obtain⟨ms,c,h1,h2,h3⟩:=hs
  exact⟨ms,c,by rw[hb b rfl];exact h1,MapK.mono h _ _ h2,h3⟩
 | loop b n s pe ps asg body E=>
  obtain⟨r,h1,h2,h3,h4,h5,h6,h7,h8⟩:=hs
  exact⟨r,by rw[hb b rfl];exact h1,h2,h3,h4,h5,h6,h7,fun t=>(h8 t).mono h⟩
 | seqs l=>
  refine⟨fun q hq=>?_,hs.2⟩
  obtain⟨xs,⟨h1,h2⟩,h3,h4⟩:=hs.1 q hq
  refine⟨xs,⟨h1,?_⟩,h3,h4.mono h⟩
  rcases h2 with h2 | ⟨g,cap,cur,e1,h5,h6,h7⟩
  ·exact .inl h2
  ·exact .inr ⟨g,cap,cur,e1,h5,by rw[hb g ⟨q,hq,by rw[e1];rfl⟩];exact h6,h7⟩
structure Bdx (x:X):Prop where
 fn:∀b,x.ok b->b<x.w.heap.size
 tab:Tabs x
instance (x:X):CoeFun (Bdx x) (fun _=>∀b,x.ok b->b<x.w.heap.size):=⟨Bdx.fn⟩
instance (x:X):Coe (Bdx x) (∀b,x.ok b->b<x.w.heap.size):=⟨Bdx.fn⟩
structure Inv (x:X) (H:Heap):Prop where
 bd:Bdx x
 sat:∀p∈H,p.2.sat x
 own:∀p∈H,∀b,p.2.own b->b<x.w.heap.size∧¬x.ok b
 apart:H.Pairwise fun p q=>∀b,p.2.own b->¬q.2.own b
theorem Inv.sub {x:X}{H H':Heap}(h:Inv x H) (s:H'.Sublist H):Inv x H':=
 ⟨h.bd,fun p hp=>h.sat p (s.subset hp),fun p hp=>h.own p (s.subset hp),h.apart.sublist s⟩
theorem Inv.perm {x:X}{H H':Heap}(h:Inv x H) (s:H'.Perm H):Inv x H':=
 ⟨h.bd,fun p hp=>h.sat p (s.subset hp),fun p hp=>h.own p (s.subset hp),
  (s.pairwise_iff (fun {p q} hpq b h1 h2=>hpq b h2 h1)).2 h.apart⟩
theorem Inv.step {x y:X}{H:Heap}(h:Inv x H) (le:x.le y) (hb:∀b,y.ok b->b<y.w.heap.size)
  (hn:∀b,y.ok b->x.ok b∨x.w.heap.size<=b) (hs:∀p∈H,∀b,p.2.own b->y.w.heap[b]?=x.w.heap[b]?):Inv y H:=
 ⟨⟨hb,h.bd.tab.mono le⟩,fun p hp=>Ent.sat_step le (hs p hp) (h.sat p hp),
  fun p hp b ho=>⟨Nat.lt_of_lt_of_le (h.own p hp b ho).1 le.size,fun hk=>(hn b hk).elim (h.own p hp b ho).2 (fun hle=>Nat.not_lt.2 hle (h.own p hp b ho).1)⟩,
  h.apart⟩
structure EnvOK (n:Nat) (ds:List Deferred) (x:X) (a:Act) (E:Env):Prop where
 defers:a.defers=ds
 size:a.tmps.size=n
 slot:∀t,D x (E t) (a.tmps.getD t Go.undef)
theorem EnvOK.mono {n:Nat}{ds:List Deferred}{x y:X}{a:Act}{E:Env}(h:EnvOK n ds x a E) (le:x.le y):EnvOK n ds y a E:=
 ⟨h.defers,h.size,fun t=>(h.slot t).mono le⟩
def upd (E:Env) (t:Nat) (a:A):Env:=fun s=>if s=t then a else E s
def put (E:Env):Option Nat->A->Env
 | some t,a=>upd E t a
 | none,_=>E
def fits (n:Nat):Option Nat->Prop
 | some t=>t<n
 | none=>True
theorem EnvOK.put {n:Nat}{ds:List Deferred}{x:X}{act:Act}{E:Env}(h:EnvOK n ds x act E) {dst:Option Nat}(hf:fits n dst)
  {a:A}{v:Value}(hv:D x a v):EnvOK n ds x (act.put dst v) (put E dst a):=by
 cases dst with
 | none=>exact h
 | some t=>
  refine⟨h.defers,by simpa [Act.put]using h.size,fun s=>?_⟩
  have ht:t<act.tmps.size:=by rw[h.size];exact hf
  by_cases e:s=t
  ·subst e
   simpa [Go.Proofs.YtafamcbdaeppoaaGreatDoor.put,upd,Act.put,Array.getD_eq_getD_getElem?,ht]using hv
  ·have:=h.slot s
   simpa [Go.Proofs.YtafamcbdaeppoaaGreatDoor.put,upd,e,Act.put,Array.getD_eq_getD_getElem?,Array.getElem?_setIfInBounds_ne (Ne.symm e)]using this
def fw (r:Option Nat):Fence:={ fn:=fun _=>True,depth:=none,alive:=false,round:=r }
abbrev PostQ:=Exit->Env->Heap->Prop
def mk (m:Nat):Deferred:={ target:=.collected m,args:=#[] }
def marks (ms:List Nat):Heap:=ms.map fun m=>(0,.raw m (.deferred (some [])))
def Post (n:Nat) (H0:Heap) (Q:PostQ) (x:X):Exit->Act->World->Prop:=fun e a w'=>
 ∃x' E' H' ms,x'.w=w'∧x.le x'∧Inv x' (H'++(marks ms++H0))∧EnvOK n (ms.map mk) x' a E'∧Q e E' H'
theorem Post.le {n:Nat}{H0:Heap}{Q Q':PostQ}{x y:X}(le:x.le y) (hq:∀e E H,Q e E H->Q' e E H) {e:Exit}{a:Act}{w:World}
  (h:Post n H0 Q y e a w):Post n H0 Q' x e a w:=by
 obtain⟨x',E',H',ms,h1,h2,h3,h4,h5⟩:=h
 exact⟨x',E',H',ms,h1,le.trans h2,h3,h4,hq _ _ _ h5⟩
structure Cfg where
 P:Program
 r:Option Nat
 n:Nat
def W (C:Cfg) (c:Code) (E:Env) (H:Heap) (Q:PostQ):Prop:=
 ∀x act H0 ms,Inv x (H++(marks ms++H0))->EnvOK C.n (ms.map mk) x act E->c.wpIn (fw C.r) 0 C.P (Post C.n H0 Q x) act x.w
variable {C:Cfg}{E:Env}{H:Heap}{Q:PostQ}
theorem W.mono {c:Code}{Q':PostQ}(h:W C c E H Q) (hq:∀e E H,Q e E H->Q' e E H):W C c E H Q':=
 fun x act H0 ms hi he=>wpIn_mono (h x act H0 ms hi he) fun _ _ _=>Post.le (X.le.refl _) hq
theorem W.skip (h:Q .normal E H):W C .skip E H Q:=
 fun x _ _ ms hi he=>wpIn_skip ⟨x,E,H,ms,rfl,X.le.refl _,hi,he,h⟩
theorem W.exit {id:Nat}(h:Q (.exit id) E H):W C (.exit id) E H Q:=
 fun x _ _ ms hi he=>wpIn_exit ⟨x,E,H,ms,rfl,X.le.refl _,hi,he,h⟩
theorem W.ret (h:Q .ret E H):W C .ret E H Q:=
 fun x _ _ ms hi he=>wpIn_ret ⟨x,E,H,ms,rfl,X.le.refl _,hi,he,h⟩
def seqQ (C:Cfg) (b:Code) (Q:PostQ):PostQ:=fun e E H=>
 match e with
 | .normal=>W C b E H Q
 | .exit i=>Q (.exit i) E H
 | .ret=>Q .ret E H
 | _=>False
theorem W.seq {a b:Code}(h:W C a E H (seqQ C b Q)):W C (.seq a b) E H Q:=by
 intro x act H0 ms hi he
 refine wpIn_seq (wpIn_mono (h x act H0 ms hi he) ?_)
 rintro e a' w' ⟨x',E',H',ms',rfl,hle,hi',he',hq⟩
 cases e with
 | normal=>exact wpIn_mono (hq x' a' H0 ms' hi' he') fun _ _ _=>Post.le hle fun _ _ _ h=>h
 | exit i=>exact⟨x',E',H',ms',rfl,hle,hi',he',hq⟩
 | ret=>exact⟨x',E',H',ms',rfl,hle,hi',he',hq⟩
 | goto l=>exact hq.elim
 | panic ch=>exact hq.elim
 | outgrown=>exact hq.elim
def blockQ (id:Nat) (Q:PostQ):PostQ:=fun e E H=>
 match e with
 | .exit i=>if i=id then Q .normal E H else Q (.exit i) E H
 | .normal=>Q .normal E H
 | .ret=>Q .ret E H
 | _=>False
theorem W.block {id:Nat}{c:Code}(h:W C c E H (blockQ id Q)):W C (.block id c) E H Q:=by
 intro x act H0 ms hi he
 refine wpIn_block (wpIn_mono (h x act H0 ms hi he) ?_)
 rintro e a' w' ⟨x',E',H',ms',rfl,hle,hi',he',hq⟩
 cases e with
 | normal=>exact⟨x',E',H',ms',rfl,hle,hi',he',hq⟩
 | exit i=>
  simp only[blockQ]at hq
  simp only[Exit.inBlock]
  split at hq
  ·rename_i h1;simp only[h1,if_true];exact⟨x',E',H',ms',rfl,hle,hi',he',hq⟩
  ·rename_i h1;simp only[h1,if_false];exact⟨x',E',H',ms',rfl,hle,hi',he',hq⟩
 | ret=>exact⟨x',E',H',ms',rfl,hle,hi',he',hq⟩
 | goto l=>exact hq.elim
 | panic ch=>exact hq.elim
 | outgrown=>exact hq.elim
def kL:Value->Option L
 | .int k n=>some (.int k n)
 | .bool b=>some (.bool b)
 | .string s=>some (.str s.data.toList)
 | .slice none 0 0=>some (.sl [])
 | _=>none
def kLs:List Value->Option (List L)
 | []=>some []
 | v::r=>match kL v,kLs r with
  | some l,some ls=>some (l::ls)
  | _,_=>none
theorem kL_ok (x:X) {v:Value}{l:L}(h:kL v=some l):RdL x l v:=by
 unfold kL at h
 split at h<;>simp only[Option.some.injEq,reduceCtorEq]at h<;>subst h<;>simp[RdL,RdLs,Value.cells]
theorem kLs_ok (x:X):∀ {vs:List Value}{ls:List L},kLs vs=some ls->RdLs x ls vs
 | [],ls,h=>by simp only[kLs,Option.some.injEq]at h;subst h;simp[RdLs]
 | v::r,ls,h=>by
  simp only[kLs]at h
  split at h
  ·rename_i l ls' h1 h2
   simp only[Option.some.injEq]at h
   subst h
   simp only[RdLs]
   exact⟨kL_ok x h1,kLs_ok x h2⟩
  ·cases h
def kA:Value->A
 | .int k n=>.dat (.int k n)
 | .bool b=>.dat (.bool b)
 | .string s=>.dat (.str s.data.toList)
 | .slice none 0 0=>.nils
 | .pointer none=>.nilp
 | .nilFunc=>.nilf
 | .agg vs=>match kLs vs.toList with
  | some ls=>.record ls
  | none=>.any
 | _=>.any
def ev (E:Env):Operand->A
 | .tmp t=>E t
 | .const v=>kA v
 | .func f=>.fn f [] []
 | .global n=>match tabF n with
  | some _=>.ptr 7777 n 0
  | none=>.any
theorem kA_ok (x:X) (v:Value):D x (kA v) v:=by
 unfold kA
 split
 case h_7 vs=>
  split
  ·rename_i ls h
   simp only[D]
   exact⟨vs,rfl,kLs_ok x h⟩
  ·simp[D]
 all_goals simp[D,RdL]
theorem ev_ok {n:Nat}{ds:List Deferred}{x:X}{act:Act}(he:EnvOK n ds x act E) (o:Operand):D x (ev E o) (act.eval o):=by
 cases o with
 | tmp t=>exact he.slot t
 | const v=>exact kA_ok x v
 | global g=>
  simp only[ev]
  cases tabF g with
  | none=>simp[D]
  | some ls=>simp only[D];rfl
 | func f=>simp only[ev,Act.eval,D];exact⟨#[],#[],rfl,by simp[Ds],by simp[Ds]⟩
theorem W.loop {c:Code}(I:Nat->Env->Heap->Prop) (m:Nat) (h0:I m E H)
  (hr:∀m E H,I m E H->W C c E H fun e E' H'=>match e with
   | .normal=>∃m',m'<m∧I m' E' H'
   | .exit i=>Q (.exit i) E' H'
   | .ret=>Q .ret E' H'
   | _=>False):W C (.loop c) E H Q:=by
 intro x act H0 ms hi he
 let J:Nat->Act->World->Prop:=fun m a w=>∃x' E' H' ms',x'.w=w∧x.le x'∧Inv x' (H'++(marks ms'++H0))∧EnvOK C.n (ms'.map mk) x' a E'∧I m E' H'
 refine wpIn_loop (fun a w=>∃m,J m a w) (fun a w=>leastOf (fun m=>J m a w)) ⟨m,x,E,H,ms,rfl,X.le.refl _,hi,he,h0⟩ ?_
 intro a w hj
 obtain⟨x1,E1,H1,ms1,rfl,hle,hi1,he1,hI⟩:=(leastOf_spec hj).1
 refine wpIn_mono (hr _ E1 H1 hI x1 a H0 ms1 hi1 he1) ?_
 rintro e a' w' ⟨x',E',H',ms',rfl,hle',hi',he',hq⟩
 cases e with
 | normal=>
  obtain⟨m',hlt,hI'⟩:=hq
  have hJ':J m' a' x'.w:=⟨x',E',H',ms',rfl,hle.trans hle',hi',he',hI'⟩
  exact⟨⟨m',hJ'⟩,Nat.lt_of_le_of_lt ((leastOf_spec (p:=fun m=>J m a' x'.w) ⟨m',hJ'⟩).2 m' hJ') hlt⟩
 | exit i=>exact⟨x',E',H',ms',rfl,hle.trans hle',hi',he',hq⟩
 | ret=>exact⟨x',E',H',ms',rfl,hle.trans hle',hi',he',hq⟩
 | goto l=>exact hq.elim
 | panic ch=>exact hq.elim
 | outgrown=>exact hq.elim
end
section
variable {P:Program}
def lkFs (P:Program) (g:TypeId->Option (List TypeDesc)):Nat->List Field->Option (List TypeDesc)
 | _,[]=>some []
 | o,f::r=>if f.name ≠ "_"∧f.offset=o then
   match g f.type with
   | some ks=>if ks.length=P.cellsOf f.type then (lkFs P g (o+ks.length) r).map (ks++·) else none
   | none=>none
  else none
def lkT (P:Program):Nat->TypeId->Option (List TypeDesc)
 | 0,_=>none
 | d+1,t=>match P.underlying t with
  | some .bool=>some [.bool]
  | some (.int k)=>some [.int k]
  | some .string=>some [.string]
  | some (.struct fs)=>if P.stoodInHeld t then none else lkFs P (lkT P d) 0 fs.toList
  | _=>none
def fitV:TypeDesc->Value->Prop
 | .bool,.bool _=>True
 | .int k,.int k' _=>k'=k
 | .string,.string _=>True
 | _,_=>False
def FitVs:List TypeDesc->List Value->Prop
 | [],[]=>True
 | k::ks,v::vs=>fitV k v∧FitVs ks vs
 | _,_=>False
theorem FitVs.split:∀ {ks ls:List TypeDesc}{vs:List Value},FitVs (ks++ls) vs->FitVs ks (vs.take ks.length)∧FitVs ls (vs.drop ks.length)
 | [],ls,vs,h=>⟨by simp[FitVs],by simpa using h⟩
 | k::ks,ls,[],h=>by simp[FitVs]at h
 | k::ks,ls,v::vs,h=>by
  simp only[List.cons_append,FitVs]at h
  have:=FitVs.split h.2
  simp only[List.length_cons,List.take_succ_cons,List.drop_succ_cons,FitVs]
  exact⟨⟨h.1,this.1⟩,this.2⟩
theorem FitVs.length:∀ {ks:List TypeDesc}{vs:List Value},FitVs ks vs->vs.length=ks.length
 | [],[],_=>rfl
 | [],_::_,h=>by simp[FitVs]at h
 | _::_,[],h=>by simp[FitVs]at h
 | _::ks,_::vs,h=>by simp only[FitVs]at h;simp[FitVs.length h.2]
def okV (P:Program) (t:TypeId) (ks:List TypeDesc) (a:Value):Prop:=((∃fs,P.underlying t=some (.struct fs))∧∃xs,a=.agg xs∧FitVs ks xs.toList)∨(P.plainKey t=true∧FitVs ks [a])
def EqK (P:Program) (dd:Nat) (t:TypeId) (ks:List TypeDesc):Prop:=∀(w:World) (a b:Value),okV P t ks a->okV P t ks b ->
 ∃r:Bool,(Op.equalIn dd t a b).run P w=.ok r w∧(r=true↔a=b)
def kT (P:Program) (t:TypeId) (ks:List TypeDesc):Prop:=(∃fs,P.underlying t=some (.struct fs))∨(P.plainKey t=true∧ks.length=1)
theorem part_okV {t:TypeId}{ks:List TypeDesc}(hk:kT P t ks) (hl:ks.length=P.cellsOf t) {xs:Array Value}{o:Nat}(hf:FitVs ks ((xs.toList.drop o).take ks.length)) (w:World) :
  ∃a,(part t xs o).run P w=.ok a w∧okV P t ks a∧(((∃fs,P.underlying t=some (.struct fs))∧a=.agg ((xs.toList.drop o).take ks.length).toArray)∨(P.plainKey t=true∧(xs.toList.drop o).take ks.length=[a])):=by
 rcases hk with⟨fs,hu⟩|⟨hp,h1⟩
 ·obtain⟨i,hi⟩:=info_of_underlying hu
  have hx:xs.extract o (o+P.cellsOf t)=((xs.toList.drop o).take ks.length).toArray:=by
   apply Array.toList_inj.1
   rw[Array.toList_extract,hl]
   simp[List.extract]
  refine⟨.agg ((xs.toList.drop o).take ks.length).toArray,?_,.inl ⟨⟨fs,hu⟩,_,rfl,by simpa using hf⟩,.inl ⟨⟨fs,hu⟩,rfl⟩⟩
  rw[<- hx]
  simp[part,isAgg,run_underlying hu,run_sizeOf w hi]
 ·have hlen:=hf.length
  rw[h1]at hlen hf
  match hq:(xs.toList.drop o).take 1,hlen,hf with
  | [a],_,hf=>
   have ha:xs[o]?=some a:=by
    rw[<- Array.getElem?_toList]
    have:((xs.toList.drop o).take 1)[0]?=some a:=by rw[hq];rfl
    rw[List.getElem?_take_of_lt (by omega),List.getElem?_drop]at this
    simpa using this
   refine⟨a,run_part_plain w hp ha,.inr ⟨hp,hf⟩,.inr ⟨hp,by rw[h1];exact hq⟩⟩
theorem plain_struct {t:TypeId}{fs:Array Field}(h:P.underlying t=some (.struct fs)):P.plainKey t=false:=by simp[Program.plainKey,h]
theorem run_eqFs {dd:Nat}{g:TypeId->Option (List TypeDesc)}(hg:∀t ks,g t=some ks->kT P t ks∧EqK P dd t ks) (w:World) (xs ys:Array Value):∀(fs:List Field) (o:Nat) (ks:List TypeDesc),lkFs P g o fs=some ks ->
  FitVs ks (xs.toList.drop o)->FitVs ks (ys.toList.drop o)->∃r:Bool,(Op.eqFields dd xs ys fs).run P w=.ok r w∧(r=true↔xs.toList.drop o=ys.toList.drop o)
 | [],o,ks,h,hx,hy=>by
  simp only[lkFs,Option.some.injEq]at h
  subst h
  have h1:=hx.length
  have h2:=hy.length
  refine⟨true,by simp[Op.eqFields],?_⟩
  rw[List.eq_nil_of_length_eq_zero h1,List.eq_nil_of_length_eq_zero h2]
  simp
 | f::fs,o,ks,h,hx,hy=>by
  unfold lkFs at h
  split at h<;>try (cases h;done)
  rename_i hn
  split at h<;>try (cases h;done)
  rename_i ka hka
  split at h<;>try (cases h;done)
  rename_i hl
  simp only[Option.map_eq_some_iff]at h
  obtain⟨kb,hkb,rfl⟩:=h
  obtain⟨hn,ho⟩:=hn
  obtain⟨hkt,heq⟩:=hg _ _ hka
  obtain⟨x1,x2⟩:=hx.split
  obtain⟨y1,y2⟩:=hy.split
  rw[List.drop_drop]at x2 y2
  obtain⟨a,a1,a2,a3⟩:=part_okV hkt hl x1 w
  obtain⟨b,b1,b2,b3⟩:=part_okV hkt hl y1 w
  obtain⟨r,r1,r2⟩:=heq w a b a2 b2
  obtain⟨r',r3,r4⟩:=run_eqFs hg w xs ys fs (o+ka.length) kb hkb x2 y2
  have hab:a=b↔(xs.toList.drop o).take ka.length=(ys.toList.drop o).take ka.length:=by
   rcases a3 with⟨⟨_,hu⟩,ea⟩|⟨hp,ea⟩
   ·rcases b3 with⟨_,eb⟩|⟨hp,eb⟩
    ·rw[ea,eb];simp
    ·rw[plain_struct hu]at hp;cases hp
   ·rcases b3 with⟨⟨_,hu⟩,eb⟩|⟨_,eb⟩
    ·rw[plain_struct hu]at hp;cases hp
    ·rw[ea,eb];simp
  have hall:xs.toList.drop o=ys.toList.drop o↔(xs.toList.drop o).take ka.length=(ys.toList.drop o).take ka.length∧xs.toList.drop (o+ka.length)=ys.toList.drop (o+ka.length):=by
   constructor
   ·intro e
    refine⟨by rw[e],?_⟩
    rw[<- List.drop_drop,<- List.drop_drop,e]
   ·rintro⟨e1,e2⟩
    rw[<- List.take_append_drop ka.length (xs.toList.drop o),<- List.take_append_drop ka.length (ys.toList.drop o),e1,List.drop_drop,List.drop_drop,e2]
  rw[ho.symm]at a1 b1
  simp only[Op.eqFields,hn,ne_eq,not_false_eq_true,if_true,Sem.run_bind,a1,b1,r1,Result.andThen_ok]
  cases r
  ·refine⟨false,by simp,?_⟩
   rw[hall,<- hab,<- r2]
   simp
  ·refine⟨r',by simpa using r3,?_⟩
   rw[r4,hall,<- hab,<- r2]
   simp
theorem eq_leaf {d:Nat}{t:TypeId}{k:TypeDesc}(hu:P.underlying t=some k) (hk:k=.bool∨(∃q,k=.int q)∨k=.string):kT P t [k]∧EqK P (d+1) t [k]:=by
 have hp:P.plainKey t=true:=by rcases hk with rfl | ⟨q,rfl⟩|rfl<;>simp[Program.plainKey,hu]
 refine⟨.inr ⟨hp,rfl⟩,?_⟩
 intro w a b ha hb
 rcases ha with⟨⟨_,h⟩,_⟩|⟨_,ha⟩
 ·rw[plain_struct h]at hp;cases hp
 rcases hb with⟨⟨_,h⟩,_⟩|⟨_,hb⟩
 ·rw[plain_struct h]at hp;cases hp
 simp only[FitVs,and_true]at ha hb
 rcases hk with rfl | ⟨q,rfl⟩|rfl
 ·cases a<;>simp only[fitV]at ha
  cases b<;>simp only[fitV]at hb
  rename_i a b
  exact⟨a==b,by simp[Op.equalIn,run_underlying hu],by simp⟩
 ·cases a<;>simp only[fitV]at ha
  cases b<;>simp only[fitV]at hb
  subst ha
  subst hb
  rename_i a _ b
  exact⟨a==b,by simp[Op.equalIn,run_underlying hu],by simp⟩
 ·cases a<;>simp only[fitV]at ha
  cases b<;>simp only[fitV]at hb
  rename_i a b
  exact⟨a.toList==b.toList,run_equalIn_string w d t a b hu,by simp[ByteArray.toList_eq];exact⟨fun h=>ByteArray.ext h,fun h=>h▸rfl⟩⟩
theorem lkT_ok (d:Nat):∀(m:Nat) (t:TypeId) (ks:List TypeDesc),lkT P m t=some ks->kT P t ks∧EqK P (d+m) t ks
 | 0,_,_,h=>by cases h
 | m+1,t,ks,h=>by
  unfold lkT at h
  split at h<;>try (cases h;done)
  ·rename_i hu
   simp only[Option.some.injEq]at h
   subst h
   exact eq_leaf hu (.inl rfl)
  ·rename_i q hu
   simp only[Option.some.injEq]at h
   subst h
   exact eq_leaf hu (.inr (.inl ⟨q,rfl⟩))
  ·rename_i hu
   simp only[Option.some.injEq]at h
   subst h
   exact eq_leaf hu (.inr (.inr rfl))
  ·rename_i fs hu
   split at h<;>try (cases h;done)
   rename_i hst
   refine⟨.inl ⟨fs,hu⟩,?_⟩
   intro w a b ha hb
   obtain⟨xs,rfl,hx⟩:∃xs,a=.agg xs∧FitVs ks xs.toList:=by
    rcases ha with⟨_,h⟩|⟨hp,_⟩
    ·exact h
    ·rw[plain_struct hu]at hp;cases hp
   obtain⟨ys,rfl,hy⟩:∃xs,b=.agg xs∧FitVs ks xs.toList:=by
    rcases hb with⟨_,h⟩|⟨hp,_⟩
    ·exact h
    ·rw[plain_struct hu]at hp;cases hp
   have hfs:P.fieldsOf t=fs:=by simp[Program.fieldsOf,hu]
   obtain⟨r,hr,hiff⟩:=run_eqFs (dd:=d+m) (lkT_ok d m) w xs ys fs.toList 0 ks h (by simpa using hx) (by simpa using hy)
   refine⟨r,?_,?_⟩
   ·rw[show d+(m+1)=(d+m)+1 from rfl,run_equalIn_struct w (d+m) t xs ys (by rw[hfs];exact hu) (by simpa using hst),hfs]
    exact hr
   ·rw[hiff]
    simp
def cmpT (P:Program) (t:TypeId):Option (List TypeDesc):=match P.underlying t with
 | some (.struct _)=>if P.eqGuardType P.depth t then none else lkT P 6 t
 | _=>none
def fitL:TypeDesc->L->Bool
 | .bool,.bool _=>true
 | .int k,.int k' _=>k'==k
 | .string,.str _=>true
 | _,_=>false
def fitLs:List TypeDesc->List L->Bool
 | [],[]=>true
 | k::ks,l::ls=>fitL k l&&fitLs ks ls
 | _,_=>false
def leq1:L->L->Bool
 | .int _ a,.int _ b=>a==b
 | .bool a,.bool b=>a==b
 | .str a,.str b=>a==b
 | _,_=>false
def leqs:List L->List L->Bool
 | [],[]=>true
 | a::az,b::bs=>leq1 a b&&leqs az bs
 | _,_=>false
theorem fitL_ok {x:X}{k:TypeDesc}{l:L}{v:Value}(h:fitL k l=true) (hv:RdL x l v):fitV k v∧v=kv l:=by
 cases l<;>cases k<;>simp[fitL]at h<;>simp only[RdL]at hv<;>subst hv<;>simp[fitV,kv,h]
theorem fitLs_ok {x:X}:∀ {ks:List TypeDesc}{ls:List L}{vs:List Value},fitLs ks ls=true->RdLs x ls vs->FitVs ks vs
 | [],[],[],_,_=>by simp[FitVs]
 | [],_::_,_,h,_=>by simp[fitLs]at h
 | _::_,[],_,h,_=>by simp[fitLs]at h
 | [],[],_::_,_,hv=>by simp[RdLs]at hv
 | k::ks,l::ls,[],_,hv=>by simp[RdLs]at hv
 | k::ks,l::ls,v::vs,h,hv=>by
  simp only[fitLs,Bool.and_eq_true]at h
  simp only[RdLs]at hv
  exact⟨(fitL_ok h.1 hv.1).1,fitLs_ok h.2 hv.2⟩
theorem leqs_ok {x:X}:∀ {ks:List TypeDesc}{ls ms:List L}{vs us:List Value},fitLs ks ls=true->fitLs ks ms=true->RdLs x ls vs->RdLs x ms us->(leqs ls ms=true↔vs=us)
 | [],[],[],[],[],_,_,_,_=>by simp[leqs]
 | [],_::_,_,_,_,h,_,_,_=>by simp[fitLs]at h
 | [],_,_::_,_,_,_,h,_,_=>by simp[fitLs]at h
 | _::_,[],_,_,_,h,_,_,_=>by simp[fitLs]at h
 | _::_,_,[],_,_,_,h,_,_=>by simp[fitLs]at h
 | [],[],[],_::_,_,_,_,h,_=>by simp[RdLs]at h
 | [],[],[],_,_::_,_,_,_,h=>by simp[RdLs]at h
 | k::ks,l::ls,_::_,[],_,_,_,h,_=>by simp[RdLs]at h
 | k::ks,l::ls,_::_,_,[],_,_,_,h=>by simp[RdLs]at h
 | k::ks,l::ls,m::ms,v::vs,u::us,h1,h2,h3,h4=>by
  simp only[fitLs,Bool.and_eq_true]at h1 h2
  simp only[RdLs]at h3 h4
  have ih:=leqs_ok h1.2 h2.2 h3.2 h4.2
  have e1:=(fitL_ok h1.1 h3.1).2
  have e2:=(fitL_ok h2.1 h4.1).2
  simp only[leqs,Bool.and_eq_true,ih,List.cons.injEq]
  refine and_congr ?_ Iff.rfl
  subst e1
  subst e2
  have a1:=h1.1
  have a2:=h2.1
  cases k<;>cases l<;>simp[fitL]at a1<;>cases m<;>simp[fitL]at a2<;>simp[leq1,kv,a1,a2]
theorem struct_eq {t:TypeId}{ks:List TypeDesc}(ht:cmpT P t=some ks) {x:X}{ls ms:List L}(h1:fitLs ks ls=true) (h2:fitLs ks ms=true) {vs us:Array Value}(hv:RdLs x ls vs.toList) (hu:RdLs x ms us.toList) (ox oy:Operand) :
  (do eqGuard .eql t ox oy (.agg vs) (.agg us);binOp .eql t (.agg vs) (.agg us):Sem Value).run P x.w=.ok (.bool (leqs ls ms)) x.w ∧
  (do eqGuard .neq t ox oy (.agg vs) (.agg us);binOp .neq t (.agg vs) (.agg us):Sem Value).run P x.w=.ok (.bool (!leqs ls ms)) x.w:=by
 unfold cmpT at ht
 split at ht<;>try (cases ht;done)
 rename_i fs hut
 split at ht<;>try (cases ht;done)
 rename_i hg
 obtain⟨_,heq⟩:=lkT_ok (10000-6) 6 t ks ht
 obtain⟨r,hr,hiff⟩:=heq x.w (.agg vs) (.agg us) (.inl ⟨⟨fs,hut⟩,_,rfl,fitLs_ok h1 hv⟩) (.inl ⟨⟨fs,hut⟩,_,rfl,fitLs_ok h2 hu⟩)
 have hl:=leqs_ok h1 h2 hv hu
 have er:r=leqs ls ms:=by
  rw[Bool.eq_iff_iff,hiff,hl]
  simp[Array.toList_inj]
 have hr':(Op.equal t (.agg vs) (.agg us)).run P x.w=.ok (leqs ls ms) x.w:=by
  rw[<- er]
  exact hr
 have hg':P.eqGuardType P.depth t=false:=by simpa using hg
 constructor
 ·simp[eqGuard,binOp,hr',hg']
 ·simp[eqGuard,binOp,hr',hg']
end
end Go.Proofs.YtafamcbdaeppoaaGreatDoor
