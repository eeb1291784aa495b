/- Texts joined by a program: Hoa,Ho,Ib,Ic,Jm. -/
import Derived.Lib.Bytealg
import Derived.Test.YtafamcbdaeppoaaGreatDoorF10
import Derived.Test.YtafamcbdaeppoaaGreatDoorF14
set_option linter.unusedSimpArgs false
set_option linter.unusedVariables false
set_option maxHeartbeats 4000000
namespace Go.Proofs.YtafamcbdaeppoaaGreatDoor
abbrev ltB (a b:List UInt8):Bool:=Go.Op.bytesLess a b
theorem ltB_irrefl:∀a,ltB a a=false
 | []=>rfl
 | a::x=>by simp[ltB,Go.Op.bytesLess,UInt8.lt_irrefl,ltB_irrefl x]
theorem ltB_trans:∀ {a b c},ltB a b=true->ltB b c=true->ltB a c=true
 | _,_,[],_,h=>by simp[ltB,Go.Op.bytesLess]at h
 | [],_,_::_,_,_=>rfl
 | _::_,[],_::_,h,_=>by simp[ltB,Go.Op.bytesLess]at h
 | a::x,b::y,c::z,h1,h2=>by
  simp only[ltB,Go.Op.bytesLess,Bool.or_eq_true,decide_eq_true_eq,Bool.and_eq_true,beq_iff_eq]at h1 h2 ⊢
  rcases h1 with h1 | ⟨rfl,h1⟩
  ·rcases h2 with h2 | ⟨rfl,h2⟩
   ·exact .inl (UInt8.lt_trans h1 h2)
   ·exact .inl h1
  ·rcases h2 with h2 | ⟨rfl,h2⟩
   ·exact .inl h2
   ·exact .inr ⟨rfl,ltB_trans h1 h2⟩
theorem ltB_total:∀ {a b},ltB a b=false->ltB b a=false->a=b
 | [],[],_,_=>rfl
 | [],_::_,h,_=>by simp[ltB,Go.Op.bytesLess]at h
 | _::_,[],_,h=>by simp[ltB,Go.Op.bytesLess]at h
 | a::x,b::y,h1,h2=>by
  simp only[ltB,Go.Op.bytesLess,Bool.or_eq_false_iff,decide_eq_false_iff_not,Bool.and_eq_false_iff,beq_eq_false_iff_ne]at h1 h2
  have e:a=b:=UInt8.le_antisymm (UInt8.not_lt.1 h2.1) (UInt8.not_lt.1 h1.1)
  subst e
  rw[ltB_total (a:=x) (b:=y) (h1.2.resolve_left fun h=>h rfl) (h2.2.resolve_left fun h=>h rfl)]
theorem ltB_asymm {a b:List UInt8}(h:ltB a b=true):ltB b a=false:=by
 cases h2:ltB b a with
 | false=>rfl
 | true=>have:=ltB_trans h h2;rw[ltB_irrefl]at this;cases this
theorem cmpT_eq:∀a b:List UInt8,Go.Lib.compareBytes a b=if ltB a b=true then -1 else if ltB b a=true then 1 else 0
 | [],[]=>rfl
 | [],_::_=>rfl
 | _::_,[]=>rfl
 | a::x,b::y=>by
  rw[Go.Lib.compareBytes,cmpT_eq x y]
  by_cases h1:a<b
  ·have:ltB (a::x) (b::y)=true:=by simp[ltB,Go.Op.bytesLess,h1]
   rw[if_pos h1,if_pos this]
  ·by_cases h2:b<a
   ·have e1:ltB (a::x) (b::y)=false:=by
     simp only[ltB,Go.Op.bytesLess,Bool.or_eq_false_iff,decide_eq_false_iff_not,Bool.and_eq_false_iff,beq_eq_false_iff_ne]
     exact⟨h1,.inl fun e=>by subst e;exact h1 h2⟩
    have e2:ltB (b::y) (a::x)=true:=by simp[ltB,Go.Op.bytesLess,h2]
    rw[if_neg h1,if_pos h2,if_neg (by simp[e1]),if_pos e2]
   ·have e:a=b:=UInt8.le_antisymm (UInt8.not_lt.1 h2) (UInt8.not_lt.1 h1)
    subst e
    have e1:ltB (a::x) (a::y)=ltB x y:=by simp[ltB,Go.Op.bytesLess,UInt8.lt_irrefl]
    have e2:ltB (a::y) (a::x)=ltB y x:=by simp[ltB,Go.Op.bytesLess,UInt8.lt_irrefl]
    rw[if_neg h1,if_neg h2,e1,e2]
theorem cmpT_lt (a b:List UInt8):Go.Lib.compareBytes a b<0↔ltB a b=true:=by
 rw[cmpT_eq]
 split
 ·rename_i h;simp[h]
 ·rename_i h
  split
  ·simp[h]
  ·simp[h]
theorem cmpT_zero (a b:List UInt8):Go.Lib.compareBytes a b=0↔a=b:=by
 rw[cmpT_eq]
 split
 ·rename_i h
  constructor
  ·intro e;omega
  ·rintro rfl;rw[ltB_irrefl]at h;cases h
 ·rename_i h
  split
  ·rename_i h2
   constructor
   ·intro e;omega
   ·rintro rfl;rw[ltB_irrefl]at h2;cases h2
  ·rename_i h2
   simp only[true_iff]
   exact ltB_total (by simpa using h) (by simpa using h2)
structure TotB {α:Type}(lt:α->α->Bool):Prop where
 irr:∀a,lt a a=false
 trans:∀a b c,lt a b=true->lt b c=true->lt a c=true
 tot:∀a b,lt a b=false->lt b a=false->a=b
theorem TotB.asymm {α:Type}{lt:α->α->Bool}(h:TotB lt) {a b:α}(h1:lt a b=true):lt b a=false:=by
 cases h2:lt b a with
 | false=>rfl
 | true=>have:=h.trans _ _ _ h1 h2;rw[h.irr]at this;cases this
def lexB {α β:Type} [DecidableEq α] (lt1:α->α->Bool) (lt2:β->β->Bool) (a b:α×β):Bool:=if a.1=b.1 then lt2 a.2 b.2 else lt1 a.1 b.1
theorem lexB_tot {α β:Type} [DecidableEq α] {lt1:α->α->Bool}{lt2:β->β->Bool}(h1:TotB lt1) (h2:TotB lt2):TotB (lexB lt1 lt2):=by
 refine⟨fun a=>?_,fun a b c ha hb=>?_,fun a b ha hb=>?_⟩
 ·unfold lexB
  rw[if_pos rfl,h2.irr]
 ·unfold lexB at *
  by_cases e1:a.1=b.1
  ·rw[if_pos e1]at ha
   by_cases e2:b.1=c.1
   ·rw[if_pos e2]at hb
    rw[if_pos (e1.trans e2)]
    exact h2.trans _ _ _ ha hb
   ·rw[if_neg e2]at hb
    rw[if_neg (by rw[e1];exact e2),e1]
    exact hb
  ·rw[if_neg e1]at ha
   by_cases e2:b.1=c.1
   ·rw[if_neg (by rw[<- e2];exact e1),<- e2]
    exact ha
   ·rw[if_neg e2]at hb
    have h3:=h1.trans _ _ _ ha hb
    rw[if_neg (fun e=>by rw[e,h1.irr]at h3;cases h3)]
    exact h3
 ·unfold lexB at *
  by_cases e1:a.1=b.1
  ·rw[if_pos e1]at ha
   rw[if_pos e1.symm]at hb
   exact Prod.ext e1 (h2.tot _ _ ha hb)
  ·rw[if_neg e1]at ha
   rw[if_neg (fun e=>e1 e.symm)]at hb
   exact absurd (h1.tot _ _ ha hb) e1
theorem nat_tot:TotB fun a b:Nat=>decide (a<b):=⟨fun a=>by simp,fun a b c h1 h2=>by simp at *;omega,fun a b h1 h2=>by simp at *;omega⟩
theorem ltB_tot:TotB ltB:=⟨ltB_irrefl,fun _ _ _=>ltB_trans,fun _ _=>ltB_total⟩
theorem sorted_same {α:Type}{R:α->α->Prop}:∀ {l m:List α},(∀a b,a∈l->b∈l->R a b->R b a->a=b)->l.Pairwise R->m.Pairwise R->l.Perm m->l=m
 | [],m,_,_,_,hp=>by simpa using hp.symm
 | a::l,[],_,_,_,hp=>by simp at hp
 | a::l,b::m,hx,hl,hm,hp=>by
  obtain⟨l1,l2⟩:=List.pairwise_cons.1 hl
  obtain⟨m1,m2⟩:=List.pairwise_cons.1 hm
  have e:a=b:=by
   have ha:a∈b::m:=hp.mem_iff.1 (by simp)
   have hb:b∈a::l:=hp.mem_iff.2 (by simp)
   rcases List.mem_cons.1 ha with e | ha
   ·exact e
   ·rcases List.mem_cons.1 hb with e | hb
    ·exact e.symm
    ·exact hx a b (by simp) (by simp[hb]) (l1 b hb) (m1 a ha)
  subst e
  rw[sorted_same (fun x y hx1 hy1=>hx x y (by simp[hx1]) (by simp[hy1])) l2 m2 ((List.perm_cons a).1 hp)]
section
section sort
variable {α:Type}
def insB (lt:α->α->Bool) (g:α) (l:List α):List α:=l.takeWhile (fun x=>lt x g)++g::l.dropWhile (fun x=>lt x g)
def sortB (lt:α->α->Bool) (l:List α):List α:=l.foldl (fun out g=>insB lt g out) []
theorem insB_perm (lt:α->α->Bool) (g:α) (l:List α):(insB lt g l).Perm (l++[g]):=by
 have h:l.takeWhile (fun x=>lt x g)++l.dropWhile (fun x=>lt x g)=l:=List.takeWhile_append_dropWhile
 unfold insB
 refine List.perm_middle.trans ?_
 rw[h]
 exact (List.perm_append_singleton g l).symm
theorem sortB_gen (lt:α->α->Bool):∀(l out:List α),(l.foldl (fun out g=>insB lt g out) out).Perm (out++l)
 | [],out=>by simp
 | g::l,out=>by
  rw[List.foldl_cons]
  refine (sortB_gen lt l _).trans ?_
  refine ((insB_perm lt g out).append_right l).trans ?_
  simp
theorem sortB_perm (lt:α->α->Bool) (l:List α):(sortB lt l).Perm l:=by simpa [sortB]using sortB_gen lt l []
structure OrdB (lt:α->α->Bool):Prop where
 asymm:∀a b,lt a b=true->lt b a=false
 ntrans:∀a b c,lt b a=false->lt c b=false->lt c a=false
theorem insB_sorted {lt:α->α->Bool}(ho:OrdB lt) (g:α):∀ {l:List α},l.Pairwise (fun a b=>lt b a=false)->(insB lt g l).Pairwise (fun a b=>lt b a=false)
 | [],_=>by simp[insB]
 | a::l,h=>by
  obtain⟨h1,h2⟩:=List.pairwise_cons.1 h
  cases hc:lt a g with
  | true=>
   have e:insB lt g (a::l)=a::insB lt g l:=by simp[insB,hc]
   rw[e,List.pairwise_cons]
   refine⟨fun b hb=>?_,insB_sorted ho g h2⟩
   rcases List.mem_append.1 ((insB_perm lt g l).mem_iff.1 hb) with hb | hb
   ·exact h1 b hb
   ·rw[List.mem_singleton.1 hb]
    exact ho.asymm _ _ hc
  | false=>
   have e:insB lt g (a::l)=g::a::l:=by simp[insB,hc]
   rw[e,List.pairwise_cons]
   refine⟨fun b hb=>?_,h⟩
   rcases List.mem_cons.1 hb with rfl | hb
   ·exact hc
   ·exact ho.ntrans _ _ _ hc (h1 b hb)
theorem sortB_sorted {lt:α->α->Bool}(ho:OrdB lt) (l:List α):(sortB lt l).Pairwise (fun a b=>lt b a=false):=by
 have:∀(l out:List α),out.Pairwise (fun a b=>lt b a=false)->(l.foldl (fun out g=>insB lt g out) out).Pairwise (fun a b=>lt b a=false):=by
  intro l
  induction l with
  | nil=>intro out h;exact h
  | cons g l ih=>intro out h;exact ih _ (insB_sorted ho g h)
 exact this l [] .nil
end sort
theorem ltB_ord {α:Type}(f:α->List UInt8):OrdB fun a b:α=>ltB (f a) (f b):=by
 refine⟨fun a b h=>ltB_asymm h,fun a b c h1 h2=>?_⟩
 cases h:ltB (f c) (f a) with
 | false=>rfl
 | true=>
  exfalso
  cases h3:ltB (f b) (f c) with
  | true=>rw[ltB_trans h3 h]at h1;cases h1
  | false=>
   rw[ltB_total h3 h2]at h1
   rw[h]at h1
   cases h1
def byName (a b:Made):Bool:=ltB a.name b.name
def partsL (l:List Made):List Made:=sortB byName l
theorem parts_same {l m:List Made}(hn:(l.map Made.name).Nodup) (hp:l.Perm m) {l':List Made}(hp':l'.Perm l) (hs:l'.Pairwise fun a b=>byName b a=false):l'=partsL m:=by
 refine sorted_same (fun a b ha hb h1 h2=>?_) hs (sortB_sorted (ltB_ord Made.name) m) (hp'.trans (hp.trans (sortB_perm _ m).symm))
 have e:=ltB_total h2 h1
 obtain⟨i,hi,rfl⟩:=List.getElem_of_mem (hp'.mem_iff.1 ha)
 obtain⟨j,hj,rfl⟩:=List.getElem_of_mem (hp'.mem_iff.1 hb)
 have hij:i=j:=by
  rw[List.Nodup,List.pairwise_iff_getElem]at hn
  rcases Nat.lt_trichotomy i j with h | h | h
  ·exact absurd (by rw[List.getElem_map,List.getElem_map];exact e) (hn i j (by simpa using hi) (by simpa using hj) h)
  ·exact h
  ·exact absurd (by rw[List.getElem_map,List.getElem_map];exact e.symm) (hn j i (by simpa using hj) (by simpa using hi) h)
 subst hij
 rfl
end
def posL (ps:List Made) (t:List UInt8):Nat:=(ps.takeWhile fun p=>ltB p.name t).length
theorem posL_le (ps:List Made) (t:List UInt8):posL ps t<=ps.length:=(List.takeWhile_prefix _).length_le
theorem pos_iff {t:List UInt8}:∀ {ps:List Made},ps.Pairwise (fun a b=>byName b a=false)->∀ {i:Nat}(hi:i<ps.length),ltB ps[i].name t=true↔i<posL ps t
 | [],_,i,hi=>absurd hi (by simp)
 | p::ps,h,i,hi=>by
  rw[List.pairwise_cons]at h
  cases e:ltB p.name t with
  | true=>
   have e2:posL (p::ps) t=posL ps t+1:=by simp[posL,e]
   cases i with
   | zero=>simp[e,e2]
   | succ i=>
    have:=pos_iff (t:=t) h.2 (i:=i) (by simpa using hi)
    simp only[List.getElem_cons_succ,e2]
    rw[this]
    omega
  | false=>
   have e2:posL (p::ps) t=0:=by simp[posL,e]
   rw[e2]
   cases i with
   | zero=>simp[e]
   | succ i=>
    have hi':i<ps.length:=by simpa using hi
    simp only[List.getElem_cons_succ,Nat.not_lt_zero,iff_false]
    intro h2
    have h3:=h.1 ps[i] (List.getElem_mem _)
    unfold byName at h3
    cases h4:ltB p.name ps[i].name with
    | true=>rw[ltB_trans h4 h2]at e;cases e
    | false=>
     rw[ltB_total h4 h3,h2]at e
     cases e
def seekL (ps:List Made) (t:List UInt8):Option Nat:=ps.findIdx? fun p=>p.name==t
theorem seek_pos {ps:List Made}{t:List UInt8}(hs:ps.Pairwise (fun a b=>byName b a=false)) (hn:(ps.map Made.name).Nodup) (h:t∈ps.map Made.name):seekL ps t=some (posL ps t):=by
 obtain⟨i,hi,e⟩:=List.getElem_of_mem h
 rw[List.length_map]at hi
 rw[List.getElem_map]at e
 have h1:¬i<posL ps t:=fun hl=>by
  have:=(pos_iff (t:=t) hs hi).2 hl
  rw[e,ltB_irrefl]at this
  cases this
 have hlt:posL ps t<ps.length:=by omega
 have h2:=mt (pos_iff (t:=t) hs hlt).1 (Nat.lt_irrefl _)
 rw[Bool.not_eq_true]at h2
 have hpi:posL ps t=i:=by
  rcases Nat.lt_or_ge (posL ps t) i with hl | hl
  ·have h3:=List.pairwise_iff_getElem.1 hs _ _ hlt hi hl
   unfold byName at h3
   rw[e]at h3
   have h4:=ltB_total h2 h3
   rw[List.Nodup,List.pairwise_iff_getElem]at hn
   exact absurd (by rw[List.getElem_map,List.getElem_map,h4,e]) (hn _ _ (by simpa using hlt) (by simpa using hi) hl)
  ·omega
 unfold seekL
 rw[List.findIdx?_eq_some_iff_getElem]
 refine⟨hlt,?_,fun j hj=>?_⟩
 ·subst hpi
  simp[e]
 ·have h5:=(pos_iff (t:=t) hs (by omega:j<ps.length)).2 hj
  simp only[beq_iff_eq]
  intro h6
  rw[h6,ltB_irrefl]at h5
  cases h5
def KnownP (F:List (List UInt8)) (p:Pin):Prop:=p=noPin∨p.part∈F
def JoinsIn (F:List (List UInt8)) (js:List (Pin×Pin)):Prop:=∀q∈js,q.1.part∈F∧q.2.part∈F
theorem twin_mono {sg kind:Int}{letter:UInt8}:∀(ps:List Pin) (d:Dl),∃l,(ps.foldl (twinD sg kind letter) d).parts=d.parts++l
 | [],d=>⟨[],by simp⟩
 | p::ps,d=>by
  obtain⟨l,h⟩:=twin_mono ps (twinD sg kind letter d p)
  rw[List.foldl_cons,h]
  simp only[twinD,List.append_assoc]
  exact⟨_,rfl⟩
section
structure FullF (F:List (List UInt8)) (c:Control):Prop where
 sup:[83]∈F
 act:∀a:Nat,(a:Int)<c.actuators->letterT a∈F∧letterT a++[48]∈F∧letterT a++[49]∈F∧86::letterT a∈F
 inp:∀i:Nat,i<c.inputs.length->c.inputs.getD i []∈F
 own:∀i:Nat,i<c.signals.length->kindAt c i=1∨kindAt c i=2->ownT c i∈F
structure InF (F:List (List UInt8)) (m:Mk):Prop where
 joins:JoinsIn F m.joins
 gates:∀q∈m.gates,KnownP F q.2
section steps
variable {F:List (List UInt8)}{c:Control}(hF:FullF F c) (h0:0<=c.actuators)
include hF h0
omit h0
end steps
theorem fold_mono {f:Mk->Nat->Mk}(hm:∀m i,∃l,(f m i).parts=m.parts++l) (m:Mk):∀k:Nat,∃l,((List.range k).foldl f m).parts=m.parts++l
 | 0=>⟨[],by simp⟩
 | k+1=>by
  rw[List.range_succ,List.foldl_append]
  obtain⟨l,h⟩:=fold_mono hm m k
  obtain⟨l2,h2⟩:=hm ((List.range k).foldl f m) k
  exact⟨l++l2,by rw[<- List.append_assoc,<- h];exact h2⟩
theorem gateM_mono (c:Control) (m:Mk) (i:Nat):∃l,(gateM c m i).parts=m.parts++l:=by
 unfold gateM
 split
 ·exact⟨_,rfl⟩
 ·exact⟨[],by simp[Mk.sig]⟩
theorem mono_trans {a b d:List Made}(h1:∃l,b=a++l) (h2:∃l,d=b++l):∃l,d=a++l:=by
 obtain⟨l1,rfl⟩:=h1
 obtain⟨l2,rfl⟩:=h2
 exact⟨l1++l2,by rw[List.append_assoc]⟩
theorem to_mono (c:Control) (m:Mk) (x:Expr) (p:Pin):∃l,(m.to c x p).parts=m.parts++l:=⟨_,rfl⟩
theorem addf_mono (m:Mk) (i:Nat) (k d l:Int) (n:List UInt8):∃z,(((m.sig i).add k n d l).feed n).parts=m.parts++z:=⟨_,rfl⟩
theorem sigM_mono (c:Control) (m:Mk) (i:Nat):∃l,(sigM c m i).parts=m.parts++l:=by
 unfold sigM
 cases c.signals[i]? with
 | none=>exact⟨[],by simp⟩
 | some x=>
  dsimp only
  split
  ·exact mono_trans (addf_mono m i _ _ _ _) (mono_trans (to_mono c _ x.on _) (to_mono c _ x.off _))
  ·split
   ·exact mono_trans (addf_mono m i _ _ _ _) (to_mono c _ x.on _)
   ·exact⟨[],by simp[Mk.sig]⟩
theorem pilM_mono (c:Control) (m:Mk) (a:Nat):∃l,(pilM c m a).parts=m.parts++l:=⟨[],by simp[pilM,Mk.join]⟩
end
def consL (js:List (Pin×Pin)):List Pin:=js.map fun q=>q.2
structure ConsOK (ns:List (List UInt8)) (js:List (Pin×Pin)):Prop where
 nod:(consL js).Nodup
 mem:∀p∈consL js,p.part∈ns
theorem consL_app (a b:List (Pin×Pin)):consL (a++b)=consL a++consL b:=List.map_append
theorem joinD_cons {a p q:Pin}(h:q∈consL (joinD a p)):q=p:=by
 unfold joinD at h
 split at h
 ·simp[consL]at h
 ·simpa [consL]using h
theorem joinD_nod (a p:Pin):(consL (joinD a p)).Nodup:=by
 unfold joinD
 split<;>simp[consL]
theorem ConsOK.nil (ns:List (List UInt8)):ConsOK ns []:=⟨by simp[consL],fun _ h=>by simp[consL]at h⟩
theorem ConsOK.app {a b:List (List UInt8)}{ja jb:List (Pin×Pin)}(h:ConsOK a ja) (h2:ConsOK b jb) (hn:(a++b).Nodup):ConsOK (a++b) (ja++jb):=by
 constructor
 ·rw[consL_app,List.nodup_append]
  refine⟨h.nod,h2.nod,fun x hx y hy e=>?_⟩
  subst e
  exact (List.nodup_append.1 hn).2.2 _ (h.mem x hx) _ (h2.mem x hy) rfl
 ·intro p hp
  rw[consL_app]at hp
  rcases List.mem_append.1 hp with hp | hp
  ·exact List.mem_append.2 (.inl (h.mem p hp))
  ·exact List.mem_append.2 (.inr (h2.mem p hp))
theorem ConsOK.grow {a:List (List UInt8)}{ja:List (Pin×Pin)}(h:ConsOK a ja) (b:List (List UInt8)):ConsOK (a++b) ja:=⟨h.nod,fun p hp=>List.mem_append.2 (.inl (h.mem p hp))⟩
theorem ConsOK.join {a:List (List UInt8)}{ja:List (Pin×Pin)}(h:ConsOK a ja) {p:Pin}(hp:p.part∈a) (hno:p∉consL ja) (g:Pin):ConsOK a (ja++joinD g p):=by
 constructor
 ·rw[consL_app,List.nodup_append]
  refine⟨h.nod,joinD_nod g p,fun x hx y hy e=>?_⟩
  rw[e,joinD_cons hy]at hx
  exact hno hx
 ·intro q hq
  rw[consL_app]at hq
  rcases List.mem_append.1 hq with hq | hq
  ·exact h.mem q hq
  ·rw[joinD_cons hq]
   exact hp
abbrev nms (ps:List Made):List (List UInt8):=ps.map Made.name
theorem twin_c {sg kind:Int}{letter:UInt8}:∀(ps:List Pin) {d:Dl},ConsOK (nms d.parts) d.joins->(nms (ps.foldl (twinD sg kind letter) d).parts).Nodup->ConsOK (nms (ps.foldl (twinD sg kind letter) d).parts) (ps.foldl (twinD sg kind letter) d).joins
 | [],d,h,_=>h
 | p::ps,d,h,hn=>by
  rw[List.foldl_cons]at hn ⊢
  refine twin_c ps ?_ hn
  obtain⟨l,e⟩:=twin_mono (sg:=sg) (kind:=kind) (letter:=letter) ps (twinD sg kind letter d p)
  rw[e,nms,List.map_append]at hn
  have hn1:=(List.nodup_append.1 hn).1
  have e1:(twinD sg kind letter d p).parts.map Made.name=nms d.parts++[letter::numT d.num]:=by simp[twinD,nms]
  rw[e1]at hn1
  have hnot:letter::numT d.num∉nms d.parts:=fun hm=>(List.nodup_append.1 hn1).2.2 _ hm _ (List.mem_singleton.2 rfl) rfl
  show ConsOK ((twinD sg kind letter d p).parts.map Made.name) _
  rw[e1]
  have h1:=(h.grow [letter::numT d.num]).join (p:=⟨letter::numT d.num,[49]⟩) (by simp) (fun hm=>hnot (h.mem _ hm)) d.pin
  refine h1.join (p:=⟨letter::numT d.num,[49,49]⟩) (by simp) (fun hm=>?_) p
  rw[consL_app]at hm
  rcases List.mem_append.1 hm with hm | hm
  ·exact hnot (h.mem _ hm)
  ·have:=joinD_cons hm
   simp at this
mutual
theorem expr_c (pf:Int->Pin) (sg:Int):∀(x:Expr) (k:Nat),(nms (exprD false pf sg x k).parts).Nodup->ConsOK (nms (exprD false pf sg x k).parts) (exprD false pf sg x k).joins
 | ⟨op,ix,args⟩,k=>by
  have h:=args_c pf sg args k
  rw[exprD_eq]
  dsimp only
  by_cases h0:op=0
  ·rw[if_pos h0]
   exact fun _=>.nil _
  ·rw[if_neg h0]
   by_cases h1:op=1
   ·rw[if_pos h1]
    exact fun _=>.nil _
   ·rw[if_neg h1]
    generalize argsD false pf sg args k=r at *
    obtain⟨r1,r2,r3,r4⟩:=r
    dsimp only at h ⊢
    by_cases hop:op=2
    ·rw[if_pos hop]
     unfold notsD
     cases args.head? with
     | none=>exact h
     | some y=>
      intro hn
      have e1:nms (notD false sg ⟨r1,r2,r3,r4.headD noPin⟩ y).parts=nms r1++[78::numT r3]:=by simp[notD,nms]
      have hn':(nms (notD false sg ⟨r1,r2,r3,r4.headD noPin⟩ y).parts).Nodup:=hn
      show ConsOK (nms (notD false sg ⟨r1,r2,r3,r4.headD noPin⟩ y).parts) _
      rw[e1]at hn' ⊢
      have h2:=h (List.nodup_append.1 hn').1
      have hnot:78::numT r3∉nms r1:=fun hm=>(List.nodup_append.1 hn').2.2 _ hm _ (List.mem_singleton.2 rfl) rfl
      have h3:=(h2.grow [78::numT r3]).join (p:=⟨78::numT r3,[49]⟩) (by simp) (fun hm=>hnot (h2.mem _ hm)) supPin
      refine h3.join (p:=⟨78::numT r3,[49,48]⟩) (by simp) (fun hm=>?_) _
      rw[consL_app]at hm
      rcases List.mem_append.1 hm with hm | hm
      ·exact hnot (h2.mem _ hm)
      ·have:=joinD_cons hm
       simp at this
    ·rw[if_neg hop]
     unfold foldD
     dsimp only
     cases r4 with
     | nil=>exact h
     | cons p ps=>
      intro hn
      obtain⟨l,e⟩:=twin_mono (sg:=sg) (kind:=if op=3 then 9 else 8) (letter:=if op=3 then 80 else 81) ps ⟨r1,r2,r3,p⟩
      dsimp only at hn e
      refine twin_c ps (h ?_) hn
      rw[e,nms,List.map_append]at hn
      exact (List.nodup_append.1 hn).1
theorem args_c (pf:Int->Pin) (sg:Int):∀(xs:List Expr) (k:Nat),(nms (argsD false pf sg xs k).parts).Nodup->ConsOK (nms (argsD false pf sg xs k).parts) (argsD false pf sg xs k).joins
 | [],k=>fun _=>.nil _
 | x::xs,k=>by
  intro hn
  rw[argsD]at hn ⊢
  dsimp only[nms]at hn ⊢
  rw[List.map_append]at hn ⊢
  obtain⟨n1,n2,_⟩:=List.nodup_append.1 hn
  exact (expr_c pf sg x k n1).app (args_c pf sg xs _ n2) hn
end
def PortsAt (s:List UInt8) (S:List (List UInt8)) (js:List (Pin×Pin)):Prop:=∀p∈consL js,p.part=s->p.port∈S
theorem PortsAt.none {ns:List (List UInt8)}{js:List (Pin×Pin)}(h:ConsOK ns js) {s:List UInt8}(hs:s∉ns):PortsAt s [] js:=fun p hp e=>absurd (e▸h.mem p hp) hs
theorem PortsAt.app {s:List UInt8}{S:List (List UInt8)}{a b:List (List UInt8)}{ja jb:List (Pin×Pin)}(h:PortsAt s S ja) (hb:ConsOK b jb) (hn:(a++b).Nodup) (hs:s∈a):PortsAt s S (ja++jb):=by
 intro p hp e
 rw[consL_app]at hp
 rcases List.mem_append.1 hp with hp | hp
 ·exact h p hp e
 ·exact absurd rfl ((List.nodup_append.1 hn).2.2 s hs s (e▸hb.mem p hp))
theorem PortsAt.join {s:List UInt8}{S:List (List UInt8)}{ja:List (Pin×Pin)}(h:PortsAt s S ja) (g p:Pin):PortsAt s (p.port::S) (ja++joinD g p):=by
 intro q hq e
 rw[consL_app]at hq
 rcases List.mem_append.1 hq with hq | hq
 ·exact List.mem_cons_of_mem _ (h q hq e)
 ·rw[joinD_cons hq]
  exact List.mem_cons_self
theorem PortsAt.other {s:List UInt8}{S:List (List UInt8)}{ja:List (Pin×Pin)}(h:PortsAt s S ja) (g:Pin) {p:Pin}(hne:p.part≠s):PortsAt s S (ja++joinD g p):=by
 intro q hq e
 rw[consL_app]at hq
 rcases List.mem_append.1 hq with hq | hq
 ·exact h q hq e
 ·rw[joinD_cons hq]at e
  exact absurd e hne
abbrev ConsM (m:Mk):Prop:=ConsOK (nms m.parts) m.joins
def ValvesOK (n:Nat) (m:Mk):Prop:=∀a,a<n->86::letterT a∈nms m.parts∧PortsAt (86::letterT a) [[49]] m.joins
theorem app_c {m:Mk}(h:ConsM m) {d:Dl}(hd:(nms d.parts).Nodup->ConsOK (nms d.parts) d.joins) (hn:(nms (m.app d).parts).Nodup):ConsM (m.app d)∧∀s S,s∈nms m.parts->PortsAt s S m.joins->PortsAt s S (m.app d).joins:=by
 have e:nms (m.app d).parts=nms m.parts++nms d.parts:=by simp[nms,Mk.app]
 rw[e]at hn
 have h2:=hd (List.nodup_append.1 hn).2.1
 refine⟨?_,fun s S hs hp=>hp.app h2 hn hs⟩
 show ConsOK (nms (m.app d).parts) _
 rw[e]
 exact h.app h2 hn
theorem to_c {c:Control}{m:Mk}(h:ConsM m) {x:Expr}{p:Pin}{S:List (List UInt8)}(hp:p.part∈nms m.parts) (hS:PortsAt p.part S m.joins) (hno:p.port∉S) (hn:(nms (m.to c x p).parts).Nodup) :
  ConsM (m.to c x p)∧PortsAt p.part (p.port::S) (m.to c x p).joins∧∀s S',s∈nms m.parts->s≠p.part->PortsAt s S' m.joins->PortsAt s S' (m.to c x p).joins:=by
 obtain⟨h1,h2⟩:=app_c h (d:=m.expr c x) (expr_c _ _ _ _) hn
 have h3:=h2 _ _ hp hS
 refine⟨ConsOK.join h1 ?_ (fun hm=>hno (h3 p hm rfl)) _,h3.join _ p,fun s S' hs hne hq=>(h2 s S' hs hq).other _ (Ne.symm hne)⟩
 show p.part∈nms (m.app (m.expr c x)).parts
 simp only[nms,Mk.app,List.map_append,List.mem_append]
 exact .inl hp
theorem add_c {m:Mk}(h:ConsM m) {k d l:Int}{s:List UInt8}(hn:(nms (m.add k s d l).parts).Nodup):ConsM ((m.add k s d l).feed s)∧PortsAt s [[49]] ((m.add k s d l).feed s).joins∧(∀s' S',s'∈nms m.parts->PortsAt s' S' m.joins->PortsAt s' S' ((m.add k s d l).feed s).joins)∧s∈nms ((m.add k s d l).feed s).parts:=by
 have e:nms (m.add k s d l).parts=nms m.parts++[s]:=by simp[nms,Mk.add]
 rw[e]at hn
 have hs:s∉nms m.parts:=fun hm=>(List.nodup_append.1 hn).2.2 _ hm _ (List.mem_singleton.2 rfl) rfl
 have h0:=PortsAt.none h hs
 refine⟨?_,PortsAt.join h0 supPin ⟨s,[49]⟩,fun s' S' hs' hq=>PortsAt.other hq supPin (p:=⟨s,[49]⟩) (fun e=>hs (by rw[show s=s' from e];exact hs')),?_⟩
 ·show ConsOK (nms (m.add k s d l).parts) (m.joins++joinD supPin ⟨s,[49]⟩)
  rw[e]
  exact (ConsOK.grow h [s]).join (by simp) (fun hm=>hs (h.mem _ hm)) _
 ·show s∈nms (m.add k s d l).parts
  rw[e]
  simp
theorem gateM_c {c:Control}{m:Mk}{n:Nat}(h:ConsM m) (hv:ValvesOK n m) (i:Nat) (hn:(nms (gateM c m i).parts).Nodup):ConsM (gateM c m i)∧ValvesOK n (gateM c m i):=by
 unfold gateM at hn ⊢
 split at hn
 ·rename_i hk
  rw[if_pos hk]
  obtain⟨h1,h2⟩:=app_c (m:=m.sig i) h (d:=(m.sig i).expr c (((c.signals[i]?).map (·.on)).getD ⟨0,0,[]⟩)) (expr_c _ _ _ _) hn
  refine⟨h1,fun a ha=>⟨?_,h2 _ _ (hv a ha).1 (hv a ha).2⟩⟩
  have:=(hv a ha).1
  simp only[nms,Mk.app,Mk.sig,List.map_append,List.mem_append]
  exact .inl this
 ·rename_i hk
  rw[if_neg hk]
  exact⟨h,hv⟩
theorem sigM_c {c:Control}{m:Mk}{n:Nat}(h:ConsM m) (hv:ValvesOK n m) (i:Nat) (hn:(nms (sigM c m i).parts).Nodup):ConsM (sigM c m i)∧ValvesOK n (sigM c m i):=by
 have hvn:∀a,86::letterT a≠ownT c i:=fun a e=>by
  unfold ownT at e
  have:=(List.cons.inj e).1
  split at this<;>exact absurd this (by decide)
 unfold sigM at hn ⊢
 cases e:c.signals[i]? with
 | none=>exact⟨h,hv⟩
 | some x=>
  rw[e]at hn
  dsimp only at hn ⊢
  split at hn
  ·rename_i h1
   rw[if_pos h1]
   have hm2:=hn
   obtain⟨l2,e2⟩:=to_mono c ((((m.sig i).add 2 (ownT c i) 0 (firstC c+i)).feed (ownT c i)).to c x.on ⟨ownT c i,[49,52]⟩) x.off ⟨ownT c i,[49,50]⟩
   rw[e2,nms,List.map_append]at hm2
   have hm1:=(List.nodup_append.1 hm2).1
   have hm0:=hm1
   obtain⟨l1,e1⟩:=to_mono c (((m.sig i).add 2 (ownT c i) 0 (firstC c+i)).feed (ownT c i)) x.on ⟨ownT c i,[49,52]⟩
   rw[e1,List.map_append]at hm0
   obtain⟨a1,a2,a3,a4⟩:=add_c (m:=m.sig i) h (k:=2) (d:=0) (l:=firstC c+i) (s:=ownT c i) (List.nodup_append.1 hm0).1
   obtain⟨b1,b2,b3⟩:=to_c (c:=c) (x:=x.on) (p:=⟨ownT c i,[49,52]⟩) a1 a4 a2 (by simp) hm1
   have a5:ownT c i∈nms ((((m.sig i).add 2 (ownT c i) 0 (firstC c+i)).feed (ownT c i)).to c x.on ⟨ownT c i,[49,52]⟩).parts:=by
    rw[nms,e1,List.map_append]
    exact List.mem_append.2 (.inl a4)
   obtain⟨d1,d2,d3⟩:=to_c (c:=c) (x:=x.off) (p:=⟨ownT c i,[49,50]⟩) b1 a5 b2 (by simp) hn
   refine⟨d1,fun a ha=>?_⟩
   obtain⟨v1,v2⟩:=hv a ha
   have m1:86::letterT a∈nms (((m.sig i).add 2 (ownT c i) 0 (firstC c+i)).feed (ownT c i)).parts:=by
    simp only[nms,Mk.add,Mk.feed,Mk.join,Mk.sig,List.map_append,List.mem_append]
    exact .inl v1
   have m2:86::letterT a∈nms ((((m.sig i).add 2 (ownT c i) 0 (firstC c+i)).feed (ownT c i)).to c x.on ⟨ownT c i,[49,52]⟩).parts:=by
    rw[nms,e1,List.map_append]
    exact List.mem_append.2 (.inl m1)
   refine⟨?_,d3 _ _ m2 (hvn a) (b3 _ _ m1 (hvn a) (a3 _ _ v1 v2))⟩
   rw[nms,e2,List.map_append]
   exact List.mem_append.2 (.inl m2)
  ·rename_i h1
   rw[if_neg h1]
   split at hn
   ·rename_i h2
    rw[if_pos h2]
    have hm0:=hn
    obtain⟨l1,e1⟩:=to_mono c (((m.sig i).add 12 (ownT c i) x.delay (firstC c+i)).feed (ownT c i)) x.on ⟨ownT c i,[49,50]⟩
    rw[nms,e1,List.map_append]at hm0
    obtain⟨a1,a2,a3,a4⟩:=add_c (m:=m.sig i) h (k:=12) (d:=x.delay) (l:=firstC c+i) (s:=ownT c i) (List.nodup_append.1 hm0).1
    obtain⟨b1,b2,b3⟩:=to_c (c:=c) (x:=x.on) (p:=⟨ownT c i,[49,50]⟩) a1 a4 a2 (by simp) hn
    refine⟨b1,fun a ha=>?_⟩
    obtain⟨v1,v2⟩:=hv a ha
    have m1:86::letterT a∈nms (((m.sig i).add 12 (ownT c i) x.delay (firstC c+i)).feed (ownT c i)).parts:=by
     simp only[nms,Mk.add,Mk.feed,Mk.join,Mk.sig,List.map_append,List.mem_append]
     exact .inl v1
    refine⟨?_,b3 _ _ m1 (hvn a) (a3 _ _ v1 v2)⟩
    rw[nms,e1,List.map_append]
    exact List.mem_append.2 (.inl m1)
   ·rename_i h2
    rw[if_neg h2]
    exact⟨h,hv⟩
theorem pilM_c {c:Control}{m:Mk}(h:ConsM m) {n a:Nat}(han:a<n) (hv:∀b,a<=b->b<n->86::letterT b∈nms m.parts∧PortsAt (86::letterT b) [[49]] m.joins) (hn6:n<=6) :
  ConsM (pilM c m a)∧∀b,a+1<=b->b<n->86::letterT b∈nms (pilM c m a).parts∧PortsAt (86::letterT b) [[49]] (pilM c m a).joins:=by
 obtain⟨v1,v2⟩:=hv a (Nat.le_refl _) han
 have j1:=ConsOK.join h (p:=⟨86::letterT a,[49,52]⟩) v1 (fun hm=>by have:=v2 _ hm rfl;simp at this) (portM c m.gates (c.plus.getD a 0))
 have p1:=PortsAt.join v2 (portM c m.gates (c.plus.getD a 0)) ⟨86::letterT a,[49,52]⟩
 have j2:=ConsOK.join j1 (p:=⟨86::letterT a,[49,50]⟩) v1 (fun hm=>by have:=p1 _ hm rfl;simp at this) (portM c m.gates (c.minus.getD a 0))
 refine⟨j2,fun b hb1 hb2=>?_⟩
 obtain⟨w1,w2⟩:=hv b (by omega) hb2
 have hne:(86::letterT a)≠(86::letterT b):=by
  intro e
  have h1:=(List.cons.inj (List.cons.inj e).2).1
  have h2:(65+a) % 256=(65+b) % 256:=by
   have:=congrArg UInt8.toNat h1
   simpa using this
  omega
 exact⟨w1,PortsAt.other (PortsAt.other w2 _ (p:=⟨86::letterT a,[49,52]⟩) hne) _ (p:=⟨86::letterT a,[49,50]⟩) hne⟩
def actJ (a:Nat):List (Pin×Pin):=joinD supPin ⟨letterT a++[48],[49]⟩++(joinD supPin ⟨letterT a++[49],[49]⟩++(joinD supPin ⟨86::letterT a,[49]⟩++(joinD ⟨86::letterT a,[50]⟩ ⟨letterT a,[50]⟩++joinD ⟨86::letterT a,[52]⟩ ⟨letterT a,[52]⟩)))
theorem actJ_c (a:Nat):ConsOK [letterT a,letterT a++[48],letterT a++[49],86::letterT a] (actJ a)∧PortsAt (86::letterT a) [[49]] (actJ a):=by
 have e:consL (actJ a)=[⟨letterT a++[48],[49]⟩,⟨letterT a++[49],[49]⟩,⟨86::letterT a,[49]⟩,⟨letterT a,[50]⟩,⟨letterT a,[52]⟩]:=by simp[actJ,joinD,consL]
 refine⟨⟨?_,?_⟩,?_⟩
 ·rw[e]
  simp[letterT]
  exact⟨fun h e=>by rw[h]at e;exact absurd e (by decide),fun h e=>by rw[h]at e;exact absurd e (by decide)⟩
 ·rw[e]
  intro p hp
  simp only[List.mem_cons,List.not_mem_nil,or_false]at hp
  rcases hp with rfl | rfl | rfl | rfl | rfl<;>simp
 ·intro p hp
  rw[e]at hp
  simp only[List.mem_cons,List.not_mem_nil,or_false]at hp
  rcases hp with rfl | rfl | rfl | rfl | rfl<;>simp[letterT]
theorem actM_c {m:Mk}(h:ConsM m) {a:Nat}(hv:ValvesOK a m) (hn:(nms (actM m a).parts).Nodup):ConsM (actM m a)∧ValvesOK (a+1) (actM m a):=by
 have e:=act_names m a
 have ej:(actM m a).joins=m.joins++actJ a:=by
  show ((((m.joins++_)++_)++_)++_)++_=_
  simp only[List.append_assoc]
  rfl
 obtain⟨j1,j2⟩:=actJ_c a
 have hn2:(nms m.parts++[letterT a,letterT a++[48],letterT a++[49],86::letterT a]).Nodup:=by rw[<- e];exact hn
 have hnv:86::letterT a∉nms m.parts:=fun hm=>(List.nodup_append.1 hn2).2.2 _ hm (86::letterT a) (by simp) rfl
 refine⟨?_,fun b hb=>?_⟩
 ·show ConsOK ((actM m a).parts.map Made.name) (actM m a).joins
  rw[e,ej]
  exact ConsOK.app h j1 hn2
 ·rw[ej]
  show 86::letterT b∈(actM m a).parts.map Made.name∧_
  rw[e]
  rcases Nat.lt_or_ge b a with hlt | hge
  ·exact⟨List.mem_append.2 (.inl (hv b hlt).1),(hv b hlt).2.app j1 hn2 (hv b hlt).1⟩
  ·obtain rfl:b=a:=by omega
   refine⟨by simp,fun p hp he=>?_⟩
   rw[consL_app]at hp
   rcases List.mem_append.1 hp with hp | hp
   ·exact absurd (he▸h.mem p hp) hnv
   ·exact j2 p hp he
theorem inM_c {c:Control}{m:Mk}{n:Nat}(h:ConsM m) (hv:ValvesOK n m) (i:Nat) (hn:(nms (inM c m i).parts).Nodup):ConsM (inM c m i)∧ValvesOK n (inM c m i):=by
 obtain⟨a1,a2,a3,a4⟩:=add_c (m:=m) h (k:=7) (d:=0) (l:=2*c.actuators+i) (s:=c.inputs.getD i []) hn
 refine⟨a1,fun a ha=>⟨?_,a3 _ _ (hv a ha).1 (hv a ha).2⟩⟩
 have:=(hv a ha).1
 simp only[nms,inM,Mk.add,Mk.feed,Mk.join,List.map_append,List.mem_append]
 exact .inl this
theorem fold_c {f:Mk->Nat->Mk}(hm:∀m i,∃l,nms (f m i).parts=nms m.parts++l) {n:Nat}{I:Nat->Mk->Prop}(hs:∀m i,i<n->(nms (f m i).parts).Nodup->I i m->I (i+1) (f m i)) (m:Mk) (h:I 0 m) :
  ∀k:Nat,k<=n->(nms ((List.range k).foldl f m).parts).Nodup->I k ((List.range k).foldl f m)
 | 0,_,_=>h
 | k+1,hk,hn=>by
  rw[List.range_succ,List.foldl_append]at hn ⊢
  refine hs _ k (by omega) hn (fold_c hm hs m h k (by omega) ?_)
  obtain⟨l,e⟩:=hm ((List.range k).foldl f m) k
  have hn':(nms (f ((List.range k).foldl f m) k).parts).Nodup:=hn
  rw[e]at hn'
  exact (List.nodup_append.1 hn').1
theorem nms_mono {a b:List Made}(h:∃l,b=a++l):∃l,nms b=nms a++l:=by
 obtain⟨l,rfl⟩:=h
 exact⟨l.map Made.name,List.map_append⟩
theorem whole_tak {c:Control}(hc:checkC c=0):ConsM (wholeM c):=by
 have hact:=(fine_of hc).act
 have hN:=whole_names hc
 have key:=fold_c (f:=pilM c) (fun m i=>nms_mono (pilM_mono c m i)) (n:=c.actuators.toNat)
  (I:=fun a m=>ConsM m∧∀b,a<=b->b<c.actuators.toNat->86::letterT b∈nms m.parts∧PortsAt (86::letterT b) [[49]] m.joins)
  (fun m i hi _ h=>pilM_c h.1 hi h.2 (by omega)) ((List.range c.signals.length).foldl (sigM c) ((List.range c.signals.length).foldl (gateM c) (machineM c)))
 refine (key ?_ _ (Nat.le_refl _) hN).1
 have n1:(nms ((List.range c.signals.length).foldl (sigM c) ((List.range c.signals.length).foldl (gateM c) (machineM c))).parts).Nodup:=by
  obtain⟨l,e⟩:=fold_mono (pilM_mono c) ((List.range c.signals.length).foldl (sigM c) ((List.range c.signals.length).foldl (gateM c) (machineM c))) c.actuators.toNat
  have:(wholeM c).parts=_++l:=e
  rw[this,List.map_append]at hN
  exact (List.nodup_append.1 hN).1
 have n2:(nms ((List.range c.signals.length).foldl (gateM c) (machineM c)).parts).Nodup:=by
  obtain⟨l,e⟩:=fold_mono (sigM_mono c) ((List.range c.signals.length).foldl (gateM c) (machineM c)) c.signals.length
  have h:=n1
  rw[nms,e,List.map_append]at h
  exact (List.nodup_append.1 h).1
 have n3:(nms (machineM c).parts).Nodup:=by
  obtain⟨l,e⟩:=fold_mono (gateM_mono c) (machineM c) c.signals.length
  have h:=n2
  rw[nms,e,List.map_append]at h
  exact (List.nodup_append.1 h).1
 have ins_mono:∀m i,∃l,nms (inM c m i).parts=nms m.parts++l:=fun m i=>⟨[c.inputs.getD i []],by simp[nms,inM,Mk.add,Mk.feed,Mk.join]⟩
 have n4:(nms ((List.range c.actuators.toNat).foldl actM ((⟨[],[],0,-1,[]⟩:Mk).add 0 [83] 0 (-1))).parts).Nodup:=by
  have h:=n3
  rw[nms,machine_names]at h
  rw[nms,acts_names]
  have h2:([83]::(actN c.actuators.toNat++c.inputs):List (List UInt8))=([[83]]++actN c.actuators.toNat)++c.inputs:=by simp
  rw[h2]at h
  have:=(List.nodup_append.1 h).1
  simpa [Mk.add]using this
 have k1:=fold_c (f:=actM) (fun m a=>⟨_,act_names m a⟩) (n:=c.actuators.toNat) (I:=fun a m=>ConsM m∧ValvesOK a m) (fun m i hi hn h=>actM_c h.1 h.2 hn) ((⟨[],[],0,-1,[]⟩:Mk).add 0 [83] 0 (-1)) ⟨.nil _,fun a ha=>absurd ha (by omega)⟩ _ (Nat.le_refl _) n4
 have k2:=fold_c (f:=inM c) ins_mono (n:=c.inputs.length) (I:=fun _ m=>ConsM m∧ValvesOK c.actuators.toNat m) (fun m i hi hn h=>inM_c h.1 h.2 i hn) _ k1 _ (Nat.le_refl _) n3
 have k3:=fold_c (f:=gateM c) (fun m i=>nms_mono (gateM_mono c m i)) (n:=c.signals.length) (I:=fun _ m=>ConsM m∧ValvesOK c.actuators.toNat m) (fun m i hi hn h=>gateM_c h.1 h.2 i hn) _ k2 _ (Nat.le_refl _) n2
 have k4:=fold_c (f:=sigM c) (fun m i=>nms_mono (sigM_mono c m i)) (n:=c.signals.length) (I:=fun _ m=>ConsM m∧ValvesOK c.actuators.toNat m) (fun m i hi hn h=>sigM_c h.1 h.2 i hn) _ k3 _ (Nat.le_refl _) n1
 exact⟨k4.1,fun b _ hb=>k4.2 b hb⟩
end Go.Proofs.YtafamcbdaeppoaaGreatDoor
