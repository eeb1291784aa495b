/- Texts joined by a program: Fxi,He,Hf,Pb. -/
import Derived.Test.YtafamcbdaeppoaaGreatDoorF17
import Derived.Test.YtafamcbdaeppoaaGreatDoorF12
import Derived.Test.YtafamcbdaeppoaaGreatDoorF14
set_option linter.unusedSimpArgs false
set_option linter.unusedVariables false
set_option maxHeartbeats 4000000
set_option maxRecDepth 10000
namespace Go.Proofs.YtafamcbdaeppoaaGreatDoor
section
variable {P:Program}
def rStep (P:Program) (ρ:Nat->Option CR) (o:Oper) (E:Env) (G:Nat->Option Ent):Option (Prop×A):=match o.guard with
 | some _=>none
 | none=>match pureA P E o.op with
  | some r=>some r
  | none=>match callA E o.op with
   | some (p,g,az)=>match ρ (o.dst.getD 0) with
    | some (.fn r)=>some (p∧CallFn P g az r,r)
    | some (.ro r)=>some (p∧(rdT E o).Nodup∧CallS P g az (entsOf G (rdT E o)) (fun r' H'=>r'=r∧H'=entsOf G (rdT E o)),r)
    | _=>none
   | none=>match heapF P .nilIface 0 0 E G o.op,reads o.op with
    | some (p,a,none),true=>some (p,a)
    | _,_=>none
theorem rStep_f {ρ:Nat->Option CR}{ops:List Oper}{o:Oper}{E:Env}{G:Nat->Option Ent}{p:Prop}{a:A}(h:rStep P ρ o E G=some (p,a)) (u:Value) (b:Nat):fStep0 P ρ u b ops o E G=some (p,a,none):=by
 unfold rStep at h
 unfold fStep0
 cases hg:o.guard with
 | some q=>rw[hg]at h;cases h
 | none=>
  rw[hg]at h
  simp only at h ⊢
  cases hp:pureA P E o.op with
  | some r=>
   rw[hp]at h
   simp only[Option.some.injEq]at h
   subst h
   rfl
  | none=>
   rw[hp]at h
   simp only at h ⊢
   cases hc:callA E o.op with
   | some q=>
    obtain⟨p1,g,az⟩:=q
    rw[hc]at h
    simp only at h ⊢
    split at h
    ·rename_i r hr
     simp only[Option.some.injEq,Prod.mk.injEq]at h
     obtain⟨rfl,rfl⟩:=h
     rw[hr]
    ·rename_i r hr
     simp only[Option.some.injEq,Prod.mk.injEq]at h
     obtain⟨rfl,rfl⟩:=h
     rw[hr]
    ·cases h
   | none=>
    rw[hc]at h
    simp only at h ⊢
    split at h
    ·rename_i p1 a1 h1 h2
     simp only[Option.some.injEq,Prod.mk.injEq]at h
     obtain⟨rfl,rfl⟩:=h
     rw[reads_fix (u':=.nilIface) (b':=0) (τ':=0) h2,h1]
    ·cases h
def rr (av:Nat->A) (k:Nat) (r:A):Nat->Option (Prop×A×Option (Nat×Ent)):=fun i=>some (True,if i=k then r else av i,none)
def chkC (ops:List Oper) (k:Nat) (R:List Nat):Bool:=
 depB ops&&(ops.all fun o=>o.guard.isNone)&&((List.range ops.length).all fun i=>decide (i<=k) || !slotC ops k i)&&((List.range ops.length).all fun i=>decide (i=k)||R.contains i||relN ops 12 k i)
section main
variable {ρ:Nat->Option CR}{ops:List Oper}{E0:Env}{H:Heap}{k:Nat}{R:List Nat}{av:Nat->A}
theorem env_same (hd:chkC ops k R=true) {S:Nat->Bool}(hc:Closed ops S) {i:Nat}{o:Oper}(ho:ops[i]?=some o) (hi:S i=false) (hr:∀j,dirB ops i j=true->S j=true) (r r':A) (hik:i≠k∨True) :
  ∀t∈o.looksAt ops.toArray,eeS ops E0 (rr av k r) S ops.length t=eeS ops E0 (rr av k r') (fun _=>true) i t:=by
 simp only[chkC,Bool.and_eq_true,List.all_eq_true,List.mem_range,Bool.or_eq_true,decide_eq_true_eq,Bool.not_eq_true']at hd
 obtain⟨⟨⟨hd1,hd2⟩,hd3⟩,hd4⟩:=hd
 have hil:i<ops.length:=(List.getElem?_eq_some_iff.1 ho).1
 intro t ht
 rw[<- eeS_stop ops.length (by omega)]
 refine eeS_congr _ fun j hj hw=>?_
 rcases Nat.lt_trichotomy j i with h | h | h
 ·have hs:=hr j (depB_slot hd1 h hil (slot_raw hw ho ht))
  refine⟨by rw[hs];simp[h],fun _=>?_⟩
  by_cases hjk:j=k
  ·subst hjk
   have:=(hd3 i hil).resolve_left (by omega)
   rw[slot_raw hw ho ht]at this
   cases this
  ·simp[rr,hjk]
 ·subst h
  exact⟨by simp[hi],fun hs=>absurd hs (by simp[hi])⟩
 ·have hdj:=depB_slot hd1 h (wrE_lt hw) (slot_war ho ht hw)
  have hs:S j=false:=by
   cases hs:S j with
   | false=>rfl
   | true=>rw[hc j i hs hdj]at hi;cases hi
  have:¬j<i:=by omega
  exact⟨by simp[hs,this],fun hh=>absurd hh (by simp[hs])⟩
theorem region_call (hd:chkC ops k R=true) {ok:Oper}(hok:ops[k]?=some ok) {n:Nat}{ds:List Deferred}{H0:Heap}{x0:X}{Q:Exit->Act->World->Prop}(hfit:∀o∈ops,fits n o.dst)
  (hA:∀i o,ops[i]?=some o->i≠k->∃p,rStep P ρ o (eeS ops E0 (rr av k .any) (fun _=>true) i) (fun t=>hget t H)=some (p,av i)∧p) {F:A->Heap->Prop}
  {p:Prop}{g:FuncId}{az:List A}(hca:callA (eeS ops E0 (rr av k .any) (fun _=>true) k) ok.op=some (p,g,az)) (hp:p)
  (hC:CallS P g az H fun r H1=>(∀i o,i∈R->i≠k->ops[i]?=some o->∃p,rStep P ρ o (eeS ops E0 (rr av k .any) (fun _=>true) i) (fun t=>hget t H1)=some (p,av i)∧p)∧F r H1)
  (hfin:∀r H1 x act,F r H1->x0.le x->Inv x (H1++H0)->EnvOK n ds x act (eeS ops E0 (rr av k r) (fun _=>true) ops.length)->Q .normal act x.w) :
  ∀(fuel:Nat) (listed:Array Bool) (x:X) (act:Act) (l:List Nat),listed.size=ops.length->l.Nodup->(∀k,k∈l↔k<ops.length∧listed.getD k false=false)->l.length=fuel ->
   Closed ops (fun k=>listed.getD k false)->x0.le x ->
   (∃r Hc,Inv x (Hc++H0)∧EnvOK n ds x act (eeS ops E0 (rr av k r) (fun k=>listed.getD k false) ops.length)∧(listed.getD k false=false->Hc=H) ∧
    (listed.getD k false=true->(∀i o,i∈R->i≠k->ops[i]?=some o->∃p,rStep P ρ o (eeS ops E0 (rr av k .any) (fun _=>true) i) (fun t=>hget t Hc)=some (p,av i)∧p)∧F r Hc)) ->
   wpAny P .any ops.toArray Q fuel listed act x.w:=by
 have hd':=hd
 simp only[chkC,Bool.and_eq_true,List.all_eq_true,List.mem_range,Bool.or_eq_true,decide_eq_true_eq,Bool.not_eq_true']at hd'
 obtain⟨⟨⟨hd1,hd2⟩,hd3⟩,hd4⟩:=hd'
 have hkl:k<ops.length:=(List.getElem?_eq_some_iff.1 hok).1
 have hdone:∀(listed:Array Bool) (x:X) (act:Act),(∀k,k<ops.length->listed.getD k false=true)->x0.le x ->
   (∃r Hc,Inv x (Hc++H0)∧EnvOK n ds x act (eeS ops E0 (rr av k r) (fun k=>listed.getD k false) ops.length)∧(listed.getD k false=false->Hc=H) ∧
    (listed.getD k false=true->(∀i o,i∈R->i≠k->ops[i]?=some o->∃p,rStep P ρ o (eeS ops E0 (rr av k .any) (fun _=>true) i) (fun t=>hget t Hc)=some (p,av i)∧p)∧F r Hc))->Q .normal act x.w:=by
  rintro listed x act hall hle ⟨r,Hc,hi,he,_,h2⟩
  have e1:eeS ops E0 (rr av k r) (fun k=>listed.getD k false) ops.length=eeS ops E0 (rr av k r) (fun _=>true) ops.length:=by
   funext t;exact eeS_congr _ fun k hk _=>⟨hall k hk,fun _=>rfl⟩
  rw[e1]at he
  exact hfin r Hc x act (h2 (hall k hkl)).2 hle hi he
 intro fuel
 induction fuel with
 | zero=>
  intro listed x act l hsz hnd hl hlen hc hle hst
  have hnil:l=[]:=List.eq_nil_of_length_eq_zero hlen
  subst hnil
  have hall:∀k,k<ops.length->listed.getD k false=true:=by
   intro k hk
   cases hh:listed.getD k false with
   | true=>rfl
   | false=>exact absurd ((hl k).2 ⟨hk,hh⟩) (by simp)
  refine⟨?_,hdone listed x act hall hle hst⟩
  cases hr:Region.ready .any ops.toArray listed with
  | nil=>rfl
  | cons k r=>
   have hm:k∈Region.ready .any ops.toArray listed:=by rw[hr];simp
   obtain⟨h1,o,h2,_⟩:=mem_ready.1 hm
   have hk:k<ops.length:=by simpa using (Array.getElem?_eq_some_iff.1 h2).1
   have:=hall k hk
   rw[getD_lt (by omega),this]at h1
   cases h1
 | succ fuel ih=>
  intro listed x act l hsz hnd hl hlen hc hle hst
  refine⟨fun hr=>hdone listed x act (ready_all hd1 hsz hr) hle hst,fun i hir=>?_⟩
  obtain⟨h1,o,h2,h3⟩:=mem_ready.1 hir
  have ho:ops[i]?=some o:=by simpa using h2
  have hil:i<ops.length:=(List.getElem?_eq_some_iff.1 ho).1
  have hSi:listed.getD i false=false:=by rwa [getD_lt (by omega)]at h1
  have hrd:∀j,dirB ops i j=true->listed.getD j false=true:=by
   intro j hj
   obtain⟨o',e,q1,q2,q3,q4⟩:=dirB_edge hj
   rw[ho]at q1;cases q1
   rw[<- q4];exact h3 e q2 q3
  have hS':∀j,(listed.setIfInBounds i true).getD j false=(listed.getD j false||decide (j=i)):=by
   intro j
   by_cases hj:j=i
   ·subst hj
    have:j<listed.size:=by omega
    simp[Array.getD_eq_getD_getElem?,this]
   ·simp[Array.getD_eq_getD_getElem?,Array.getElem?_setIfInBounds_ne (Ne.symm hj),hj]
  have hfun:(fun j=>(listed.setIfInBounds i true).getD j false)=fun j=>(listed.getD j false||decide (j=i)):=funext hS'
  have hcl:∀j,i<j->listed.getD j false=true->dirB ops j i=true->False:=by
   intro j _ hj hdj
   have:=hc j i hj hdj
   simp only at this
   rw[hSi]at this;cases this
  have hnext:∀(y:X) (a':Act),x0.le y->(∃r Hc,Inv y (Hc++H0)∧EnvOK n ds y a' (eeS ops E0 (rr av k r) (fun j=>(listed.getD j false||decide (j=i))) ops.length)∧((listed.getD k false||decide (k=i))=false->Hc=H) ∧
    ((listed.getD k false||decide (k=i))=true->(∀i o,i∈R->i≠k->ops[i]?=some o->∃p,rStep P ρ o (eeS ops E0 (rr av k .any) (fun _=>true) i) (fun t=>hget t Hc)=some (p,av i)∧p)∧F r Hc)) ->
    wpAny P .any ops.toArray Q fuel (listed.setIfInBounds i true) a' y.w:=by
   intro y a' hy hs
   refine ih (listed.setIfInBounds i true) y a' (l.erase i) (by simpa using hsz) (hnd.erase i) ?_ ?_ ?_ hy ?_
   ·intro j
    rw[hnd.mem_erase_iff,hl j,hS' j]
    by_cases hj:j=i
    ·subst hj;simp
    ·simp[hj]
   ·rw[List.length_erase_of_mem ((hl i).2 ⟨hil,hSi⟩),hlen];rfl
   ·rw[hfun]
    intro j m hj hjm
    simp only[Bool.or_eq_true,decide_eq_true_eq]at hj ⊢
    rcases hj with hj | rfl
    ·exact .inl (hc j m hj hjm)
    ·exact .inl (hrd m hjm)
   ·rw[hfun,hS' k]
    exact hs
  have hgo:o.guard=none:=by simpa using hd2 o (List.mem_of_getElem? ho)
  obtain⟨r,Hc,hi,he,q1,q2⟩:=hst
  by_cases hik:i=k
  ·subst hik
   rw[hok]at ho
   cases ho
   have hHc:=q1 hSi
   subst hHc
   have hE:=env_same (E0:=E0) (av:=av) hd hc hok hSi hrd r .any (.inr trivial)
   have hca2:callA (eeS ops E0 (rr av i r) (fun j=>listed.getD j false) ops.length) ok.op=some (p,g,az):=by
    rw[callA_congr (looks_op hE)]
    exact hca
   unfold wpOp
   rw[h2]
   simp only
   have hw:∀z,Region.wanted ok z=true:=by intro z;simp[Region.wanted,hgo]
   rw[if_pos (hw _)]
   refine .inl ?_
   obtain⟨args,b1,b2⟩:=callA_ok (P:=P) hca2 hp he hC.1
   unfold Oper.wp
   rw[b1]
   show Calls P g args x.w _
   refine (hC.2 x args H0 hi b2).mono ?_
   rintro _ _ ⟨z,v,r',H',rfl,rfl,hz,hiz,hrv,hk1,hk2⟩
   refine hnext z _ (hle.trans hz) ⟨r',H',hiz,?_,by simp,fun _=>⟨hk1,hk2⟩⟩
   have e1:eeS ops E0 (rr av i r') (fun j=>listed.getD j false) ops.length=eeS ops E0 (rr av i r) (fun j=>listed.getD j false) ops.length:=by
    funext t
    refine eeS_congr _ fun j _ _=>⟨rfl,fun hs=>?_⟩
    have:j≠i:=by rintro rfl;rw[hSi]at hs;cases hs
    simp[rr,this]
   rw[eeS_more (i:=i) (p:=True) (a:=r') (ch:=none) hok (by simp[rr]) hSi ops.length (fun t j h1 h2 hs hw hw'=>hcl j h1 hs (depB_slot hd1 h1 h2 (slot_waw hw' hw))) hil,e1]
   exact (he.mono hz).put (hfit ok (List.mem_of_getElem? hok)) hrv
  ·have hE:=env_same (E0:=E0) (av:=av) hd hc ho hSi hrd r .any (.inr trivial)
   have hstep:∃p,rStep P ρ o (eeS ops E0 (rr av k .any) (fun _=>true) i) (fun t=>hget t Hc)=some (p,av i)∧p:=by
    cases hk:listed.getD k false with
    | false=>
     rw[q1 hk]
     exact hA i o ho hik
    | true=>
     rcases hd4 i hil with (e | hR) | hR
     ·exact absurd e hik
     ·exact (q2 hk).1 i o (by simpa using hR) hik ho
     ·have:=hc.reln 12 k i hR hk
      rw[hSi]at this
      cases this
   obtain⟨p',hs1,hs2⟩:=hstep
   refine fStep0_ok (P:=P) (ρ:=ρ) (ops:=ops) (E:=eeS ops E0 (rr av k r) (fun j=>listed.getD j false) ops.length) (G:=fun t=>hget t Hc) (fun u b=>⟨p',av i,none,?_,hs2⟩) (fun _=>rfl) hi he h2 ?_
   ·rw[fStep0_congr hE (fun _ _=>rfl)]
    exact rStep_f hs1 u b
   ·intro u b p1 a ch v y hf hle1 hi1 hdv
    rw[fStep0_congr hE (fun _ _=>rfl),rStep_f hs1 u b]at hf
    simp only[Option.some.injEq,Prod.mk.injEq]at hf
    obtain⟨rfl,rfl,rfl⟩:=hf
    have hki:(listed.getD k false||decide (k=i))=listed.getD k false:=by
     have:k≠i:=fun e=>hik e.symm
     simp[this]
    refine hnext y _ (hle.trans hle1) ⟨r,Hc,by simpa [happ]using hi1,?_,by rw[hki];exact q1,by rw[hki];exact q2⟩
    rw[eeS_more (i:=i) (p:=True) (a:=av i) (ch:=none) ho (by simp[rr,hik]) hSi ops.length (fun t j h1 h2 hs hw hw'=>hcl j h1 hs (depB_slot hd1 h1 h2 (slot_waw hw' hw))) hil]
    exact (he.mono hle1).put (hfit o (List.mem_of_getElem? ho)) hdv
end main
def againC (P:Program) (ρ:Nat->Option CR) (H:Heap):List (Oper×Env×A)->Prop
 | []=>True
 | q::r=>(match rStep P ρ q.1 q.2.1 (fun t=>hget t H) with
  | some (p,a)=>p∧a=q.2.2
  | none=>False)∧againC P ρ H r
def vcM (P:Program) (ρ:Nat->Option CR) (k:Nat) (R:List Nat) (H:Heap) (K:List (Oper×Env×A)->Oper->Env->Env->Prop):Nat->List (Oper×Env×A)->Option (Oper×Env)->List Oper->Env->Prop
 | _,acc,some (ok,Ek),[],E=>K acc ok Ek E
 | _,_,none,[],_=>False
 | i,acc,c,o::rest,E=>if i=k then vcM P ρ k R H K (i+1) acc (some (o,E)) rest (put E o.dst .any) else match rStep P ρ o E (fun t=>hget t H) with
  | some (p,a)=>p∧vcM P ρ k R H K (i+1) (if R.contains i then (o,E,a)::acc else acc) c rest (put E o.dst a)
  | none=>False
def endM (P:Program) (ρ:Nat->Option CR) (o:Oper) (E:Env) (H:Heap) (K:Env->Heap->Prop):Prop:=∀u b,match fStep0 P ρ u b [] o E (fun t=>hget t H) with
 | some (p,a,ch)=>p∧K (put E o.dst a) (happ ch H)
 | none=>False
theorem fStep0_ops {ρ:Nat->Option CR}{ops ops':List Oper}{u:Value}{b:Nat}{o:Oper}{E:Env}{G:Nat->Option Ent}(hg:o.guard=none):fStep0 P ρ u b ops o E G=fStep0 P ρ u b ops' o E G:=by
 unfold fStep0
 rw[hg]
theorem vcM_get {ρ:Nat->Option CR}{k:Nat}{R:List Nat}{H:Heap}{K:List (Oper×Env×A)->Oper->Env->Env->Prop}{ops:List Oper}{E0:Env}:∀(l:List Oper) (i:Nat) (acc:List (Oper×Env×A)) (c:Option (Oper×Env)) (av:Nat->A),
  ops.drop i=l->vcM P ρ k R H K i acc c l (eeS ops E0 (rr av k .any) (fun _=>true) i) ->
  (∀j o,j<i->j≠k->ops[j]?=some o->∃p,rStep P ρ o (eeS ops E0 (rr av k .any) (fun _=>true) j) (fun t=>hget t H)=some (p,av j)∧p) ->
  (∀j o,j<i->j≠k->j∈R->ops[j]?=some o->(o,eeS ops E0 (rr av k .any) (fun _=>true) j,av j)∈acc) ->
  (k<i->∃ok,ops[k]?=some ok∧c=some (ok,eeS ops E0 (rr av k .any) (fun _=>true) k)) ->
  ∃(av':Nat->A) (acc':List (Oper×Env×A)) (ok:Oper),(∀j,j<i->av' j=av j)∧(∀j o,j≠k->ops[j]?=some o->∃p,rStep P ρ o (eeS ops E0 (rr av' k .any) (fun _=>true) j) (fun t=>hget t H)=some (p,av' j)∧p) ∧
   (∀j o,j≠k->j∈R->ops[j]?=some o->(o,eeS ops E0 (rr av' k .any) (fun _=>true) j,av' j)∈acc') ∧
   (k<ops.length->ops[k]?=some ok∧K acc' ok (eeS ops E0 (rr av' k .any) (fun _=>true) k) (eeS ops E0 (rr av' k .any) (fun _=>true) ops.length))
 | [],i,acc,c,av,hl,h,h1,h2,h3=>by
  have hlen:ops.length<=i:=by
   have:=congrArg List.length hl
   simp at this
   omega
  have he:eeS ops E0 (rr av k .any) (fun _=>true) i=eeS ops E0 (rr av k .any) (fun _=>true) ops.length:=by
   have:∀d,eeS ops E0 (rr av k .any) (fun _=>true) (ops.length+d)=eeS ops E0 (rr av k .any) (fun _=>true) ops.length:=by
    intro d
    induction d with
    | zero=>rfl
    | succ d ih=>
     rw[<- Nat.add_assoc,eeS,if_pos rfl,List.getElem?_eq_none (by omega)]
     exact ih
   rw[show i=ops.length+(i-ops.length) by omega]
   exact this _
  cases c with
  | none=>simp[vcM]at h
  | some q=>
   obtain⟨ok,Ek⟩:=q
   simp only[vcM]at h
   refine⟨av,acc,ok,fun _ _=>rfl,fun j o hj ho=>h1 j o ?_ hj ho,fun j o hj hR ho=>h2 j o ?_ hj hR ho,fun hk=>?_⟩
   ·have:=(List.getElem?_eq_some_iff.1 ho).1;omega
   ·have:=(List.getElem?_eq_some_iff.1 ho).1;omega
   ·obtain⟨ok',e1,e2⟩:=h3 (by omega)
    cases e2
    rw[he]at h
    exact⟨e1,h⟩
 | o::l,i,acc,c,av,hl,h,h1,h2,h3=>by
  have hoi:ops[i]?=some o:=by
   have:=congrArg (·[0]?) hl
   simpa using this
  have hl2:ops.drop (i+1)=l:=by
   have:=congrArg (List.drop 1) hl
   simpa [List.drop_drop,Nat.add_comm]using this
  rw[vcM]at h
  by_cases hik:i=k
  ·rw[if_pos hik]at h
   subst hik
   have e1:put (eeS ops E0 (rr av i .any) (fun _=>true) i) o.dst .any=eeS ops E0 (rr av i .any) (fun _=>true) (i+1):=by
    rw[eeS,if_pos rfl,hoi]
    simp[rr]
   rw[e1]at h
   obtain⟨av',acc',ok,a1,a2,a3,a4⟩:=vcM_get l (i+1) acc _ av hl2 h (fun j o hj hjk ho=>h1 j o (by omega) hjk ho) (fun j o hj hjk hR ho=>h2 j o (by omega) hjk hR ho) (fun _=>⟨o,hoi,rfl⟩)
   exact⟨av',acc',ok,fun j hj=>a1 j (by omega),a2,a3,a4⟩
  ·rw[if_neg hik]at h
   split at h
   ·rename_i p a hs
    obtain⟨hp,h⟩:=h
    let av1:Nat->A:=fun j=>if j=i then a else av j
    have hE:∀j,j<=i->eeS ops E0 (rr av1 k .any) (fun _=>true) j=eeS ops E0 (rr av k .any) (fun _=>true) j:=by
     intro j hj
     funext t
     refine eeS_congr _ fun m hm _=>⟨rfl,fun _=>?_⟩
     have:m≠i:=by omega
     simp[rr,av1,this]
    have e1:put (eeS ops E0 (rr av k .any) (fun _=>true) i) o.dst a=eeS ops E0 (rr av1 k .any) (fun _=>true) (i+1):=by
     rw[eeS,if_pos rfl,hoi,hE i (Nat.le_refl _)]
     simp[rr,hik,av1]
    rw[e1]at h
    obtain⟨av',acc',ok,a1,a2,a3,a4⟩:=vcM_get l (i+1) _ c av1 hl2 h (fun j o' hj hjk ho=>by
      rw[hE j (by omega)]
      by_cases hji:j=i
      ·subst hji
       rw[hoi]at ho
       cases ho
       exact⟨p,by simpa [av1]using hs,hp⟩
      ·have:=h1 j o' (by omega) hjk ho
       simpa [av1,hji]using this) (fun j o' hj hjk hR ho=>by
      rw[hE j (by omega)]
      by_cases hji:j=i
      ·subst hji
       rw[hoi]at ho
       cases ho
       rw[if_pos (by simpa using hR)]
       simp[av1]
      ·have:=h2 j o' (by omega) hjk hR ho
       have e2:av1 j=av j:=by simp[av1,hji]
       rw[e2]
       split
       ·exact List.mem_cons_of_mem _ this
       ·exact this) (fun hk=>by
      obtain⟨ok,e2,e3⟩:=h3 (by omega)
      exact⟨ok,e2,by rw[hE k (by omega)];exact e3⟩)
    refine⟨av',acc',ok,fun j hj=>?_,a2,a3,a4⟩
    rw[a1 j (by omega)]
    have:j≠i:=by omega
    simp[av1,this]
   ·exact h.elim
theorem again_get {ρ:Nat->Option CR}{H:Heap}:∀ {acc:List (Oper×Env×A)},againC P ρ H acc->∀q∈acc,∃p,rStep P ρ q.1 q.2.1 (fun t=>hget t H)=some (p,q.2.2)∧p
 | [],_,q,hq=>by cases hq
 | a::acc,h,q,hq=>by
  simp only[againC]at h
  rcases List.mem_cons.1 hq with rfl | hq
  ·have h1:=h.1
   split at h1
   ·rename_i p a hs
    exact⟨p,by rw[hs,h1.2],h1.1⟩
   ·exact h1.elim
  ·exact again_get h.2 q hq
theorem V.drawC {n:Nat}{id:Nat}{ops:Array Oper}{E:Env}{H:Heap}{Q:PostQ}(k:Nat) (R:List Nat) (ρ:Nat->Option CR) {pre:List Oper}{last:Oper}(hp0:ops.toList.dropLast=pre) (hl0:ops.toList.drop (ops.toList.length-1)=[last]) (hm:P.follows .mixedOrders=true)
  (hd:(chkC ops.toList.dropLast k R&&depB ops.toList&&((List.range (ops.toList.length-1)).all fun j=>relB ops.toList (ops.toList.length-1) j)&&(ops.toList.all fun o=>o.guard.isNone)&&decide (k<ops.toList.length-1)&&decide (0<ops.toList.length))=true)
  (h:vcM P ρ k R H (fun acc ok Ek E'=>match callA Ek ok.op with
   | some (p,g,az)=>p∧CallS P g az H fun r H1=>againC P ρ H1 acc∧endM P ρ last (put E' ok.dst r) H1 fun E2 H2=>Q .normal E2 H2
   | none=>False) 0 [] none pre E):V ⟨P,none,n⟩ (.region id ops true) E H Q:=by
 intro hf x act H00 ms hi he
 simp only[Bool.and_eq_true,List.all_eq_true,List.mem_range,decide_eq_true_eq]at hd
 obtain⟨⟨⟨⟨⟨hd1,hd2⟩,hd3⟩,hd4⟩,hd5⟩,hd6⟩:=hd
 have hops:ops.toList=pre++[last]:=by
  rw[<- hp0,<- hl0,List.dropLast_eq_take,List.take_append_drop]
 have hlen:ops.toList.length-1=pre.length:=by rw[hops];simp
 rw[hp0]at hd1
 rw[hlen]at hd3 hd5
 rw[hops]at hd2 hd3 hd4
 have hg:∀o∈pre++[last],o.guard=none:=fun o ho=>by simpa using hd4 o ho
 have hops2:ops=(pre++[last]).toArray:=by rw[<- hops]
 have hfit:=fitsOps_ok hf
 rw[hops]at hfit
 generalize hH0:marks ms++H00=H0 at hi
 generalize hds:ms.map mk=ds at he
 obtain⟨av,acc,ok,-,c2,c3,c4⟩:=vcM_get (ops:=pre) (E0:=E) pre 0 [] none (fun _=>.any) rfl h (fun j o hj=>by omega) (fun j o hj=>by omega) (fun hk=>by omega)
 obtain⟨c5,c6⟩:=c4 hd5
 cases hca:callA (eeS pre E (rr av k .any) (fun _=>true) k) ok.op with
 | none=>rw[hca]at c6;exact c6.elim
 | some q=>
  obtain⟨p,g,az⟩:=q
  rw[hca]at c6
  obtain⟨hp,hC⟩:=c6
  refine wpIn_wide.2 (wp_region_any hm ?_)
  have hi':Inv x.drew (H++H0):=hi.grow (X.drew_grow x)
  have he':EnvOK n ds x.drew act E:=he.mono (X.drew_grow x).le
  have hsz:∀m k,(Array.replicate m false).getD k false=false:=by
   intro m k
   rw[Array.getD_eq_getD_getElem?]
   by_cases hk:k<m
   ·simp[Array.getElem?_replicate,hk]
   ·simp[Array.getElem?_replicate,hk]
  have hfun:∀m,(fun k=>(Array.replicate m false).getD k false)=fun _=>false:=fun m=>funext (hsz m)
  have hee:∀(r:Nat->Option (Prop×A×Option (Nat×Ent))) m,eeS pre E r (fun _=>false) m=E:=by
   intro r m
   induction m with
   | zero=>rfl
   | succ m ih=>simp[eeS,ih]
  let Qf:Exit->Act->World->Prop:=Post n H00 Q x
  let Qm:Exit->Act->World->Prop:=fun e a w=>match e with
   | .normal=>wpOp P (pre++[last]).toArray Qf pre.length (fun a w=>Qf .normal a w) a w
   | e=>Qf e a w
  have hd1':=hd1
  simp only[chkC,Bool.and_eq_true,List.all_eq_true,List.mem_range,Bool.or_eq_true,decide_eq_true_eq,Bool.not_eq_true']at hd1'
  have hput:∀r,eeS pre E (rr av k r) (fun _=>true) pre.length=put (eeS pre E (rr av k .any) (fun _=>true) pre.length) ok.dst r:=by
   intro r
   let T:Nat->Bool:=fun j=>!decide (j=k)
   have e1:(fun _=>true:Nat->Bool)=fun j=>T j||decide (j=k):=by
    funext j
    by_cases hj:j=k<;>simp[T,hj]
   have hno:∀t j,k<j->j<pre.length->T j=true->wrE pre j t->¬wrE pre k t:=by
    intro t j h1 h2 _ hw hw'
    have:=(hd1'.1.2 j h2).resolve_left (by omega)
    rw[slot_waw hw' hw]at this
    cases this
   have e2:∀r,eeS pre E (rr av k r) (fun _=>true) pre.length=put (eeS pre E (rr av k r) T pre.length) ok.dst r:=by
    intro r
    rw[e1]
    exact eeS_more (i:=k) (p:=True) (a:=r) (ch:=none) c5 (by simp[rr]) (by simp[T]) pre.length hno hd5
   have e3:eeS pre E (rr av k r) T pre.length=eeS pre E (rr av k .any) T pre.length:=by
    funext t
    refine eeS_congr _ fun j _ _=>⟨rfl,fun hs=>?_⟩
    have:j≠k:=by rintro rfl;simp[T]at hs
    simp[rr,this]
   rw[e2 r,e2 .any,e3]
   cases ok.dst with
   | none=>rfl
   | some t=>
    funext s
    simp only[put,upd]
    split<;>rfl
  have key:=region_call (P:=P) (ρ:=ρ) (ops:=pre) (E0:=E) (H:=H) (k:=k) (R:=R) (av:=av) (H0:=H0) (x0:=x) (n:=n) (ds:=ds) (Q:=Qm)
   (F:=fun r H1=>endM P ρ last (put (eeS pre E (rr av k .any) (fun _=>true) pre.length) ok.dst r) H1 fun E2 H2=>Q .normal E2 H2) hd1 c5 (fun o ho=>hfit o (by simp[ho]))
   (fun i o ho hik=>c2 i o hik ho) hca hp (hC.mono fun r H1 ⟨k1,k2⟩=>⟨fun i o hR hik ho=>again_get k1 _ (c3 i o hik hR ho),k2⟩)
   (by
    intro r H1 y a hF hle hy hey
    rw[hput r]at hey
    show wpOp P (pre++[last]).toArray Qf pre.length (fun a w=>Qf .normal a w) a y.w
    have hlo:(pre++[last]).toArray[pre.length]?=some last:=by simp
    have hlg:=hg last (by simp)
    refine fStep0_ok (P:=P) (ρ:=ρ) (ops:=pre++[last]) (G:=fun t=>hget t H1) (fun u b=>?_) (fun _=>rfl) hy hey hlo ?_
    ·have:=hF u b
     split at this
     ·rename_i p a ch hs
      exact⟨p,a,ch,by rw[fStep0_ops (ops':=[]) hlg];exact hs,this.1⟩
     ·exact this.elim
    ·intro u b p1 a1 ch v z hs hz hiz hdv
     have:=hF u b
     rw[fStep0_ops (ops':=[]) hlg]at hs
     rw[hs]at this
     refine⟨z,_,happ ch H1,ms,rfl,hle.trans hz,by rw[hH0];exact hiz,?_,this.2⟩
     rw[hds]
     exact (hey.mono hz).put (hfit last (by simp)) hdv)
   pre.length (Array.replicate pre.length false) x.drew act (List.range pre.length) (by simp) List.nodup_range (by intro k;rw[hsz];simp) (by simp) (by
    rw[hfun];intro j i hj;cases hj) (X.drew_grow x).le ⟨.any,H,hi',by rw[hfun,hee];exact he',fun _=>rfl,fun hk=>by rw[hsz]at hk;cases hk⟩
  have key2:=wpAny_last (P:=P) (Q:=Qf) (Q':=Qm) hd2 (fun k hk=>hd3 k hk) (fun o ho=>hg o (by simp[ho])) (fun e a w hne hq=>by
   cases e with
   | normal=>exact absurd rfl hne
   | _=>exact hq) (fun a w hq=>hq)
   pre.length (Array.replicate pre.length false) act x.drew.w (List.range pre.length) (by simp) (by
    intro j i hj
    simp only[push_getD,hsz]at hj
    split at hj<;>cases hj) List.nodup_range (by intro k;rw[hsz];simp) (by simp) key
  have e1:(Array.replicate pre.length false).push false=Array.replicate (pre.length+1) false:=by simp[Array.replicate_succ]
  have e2:ops.size=pre.length+1:=by rw[hops2];simp
  rw[e1]at key2
  show wpAny P .any ops (Post n H00 Q x) ops.size (Array.replicate ops.size false) act x.drew.w
  rw[e2,hops2]
  exact key2
attribute [simp] rStep againC vcM endM
end
section
def argA:Option Expr->A
 | none=>.nilp
 | some x=>.rptr (encE x)
abbrev rMade (p:Made):List A:=[aI p.kind,.dat (.str p.name),aI p.delay,aI p.signal,argA p.arg,aI p.valve,aI p.line]
abbrev rJoin (p:Pin×Pin):List A:=[.dat (.str p.1.part),.dat (.str p.1.port),.dat (.str p.2.part),.dat (.str p.2.port)]
abbrev eGate (p:Int×Pin):L×List L:=(.int .i64 p.1,encPin p.2)
abbrev opsA (b b4 b5:Nat):List A:=[.fn 103 [.ptr 70 b 0] [],.fn 104 [.ptr 70 b 0] [],.fn 105 [.ptr 70 b 0] [],
 .fn 172 [] [.ptr 74 b4 0,.rptr [.int .i64 9],.rptr [.str [80]]],.fn 172 [] [.ptr 75 b5 0,.rptr [.int .i64 8],.rptr [.str [81]]]]
abbrev mkrC (c:Control) (b b4 b5 bg:Nat) (hp hj:Value) (m:Mk):List A:=
 [aI c.actuators,.dat (.sl (c.inputs.map encT)),.dat (.sl (c.signals.map encS)),.dat (.sl (c.plus.map encI)),.dat (.sl (c.minus.map encI)),.own 71 hp,.own 72 hj,aI m.number,aI m.signal,.map 73 bg]++opsA b b4 b5
abbrev mkrH (c:Control) (b b4 b5 bg:Nat) (hp hj:Value) (m:Mk):Heap:=
 [(70,.box b (mkrC c b b4 b5 bg hp hj m)),(71,.seq hp 112 7 (m.parts.map rMade)),(72,.seq hj 180 4 (m.joins.map rJoin)),(73,.mapS bg (.int .i64) (m.gates.map eGate)),
  (74,.box b4 [.ptr 70 b 0]),(75,.box b5 [.ptr 70 b 0])]
theorem first37_s {c:Control}(hc:Sm c) {b b4 b5 bg:Nat}{hp hj:Value}{m:Mk}:CallS Tryz.prog 61 [.ptr 70 b 0] (mkrH c b b4 b5 bg hp hj m) fun r H'=>r=aI (firstC c)∧H'=mkrH c b b4 b5 bg hp hj m:=by
 obtain⟨h1,h2,h3⟩:=hc
 refine callS_of Tryz.func61 rfl Tryz.ntmps61 (rs:=[.tmp 2]) rfl (by kernel_rfl) (by simp) (by kernel_rfl) ?_
 simp
 refine V.drawX (fun _=>none) (by kernel_rfl) (by kernel_rfl) (by simp) ?_
 simp
 unfold firstC
 omega
theorem leqs_pin (p:Pin):leqs (encPin p) [.str [],.str []]=decide (p=noPin):=by
 obtain⟨a,b⟩:=p
 simp only[leqs,leq1,Bool.and_true,noPin,Pin.mk.injEq]
 by_cases h1:a=[]<;>by_cases h2:b=[]<;>simp[h1,h2]
theorem join37_s {c:Control}{b b4 b5 bg:Nat}{hp hj:Value}{m:Mk}(p q:Pin) (hl:m.joins.length<=1000000):CallS Tryz.prog 171 [.ptr 70 b 0,.record (encPin p),.record (encPin q)] (mkrH c b b4 b5 bg hp hj m) fun r H'=>r=.tuple []∧∃hj',H'=mkrH c b b4 b5 bg hp hj' (m.join p q):=by
 obtain⟨p1,p2⟩:=p
 obtain⟨q1,q2⟩:=q
 refine callS_of Tryz.func171 rfl Tryz.ntmps171 (rs:=[]) rfl (by kernel_rfl) (by simp) (by kernel_rfl) ?_
 simp
 refine⟨fun e1 e2=>?_,fun hn=>?_⟩
 ·have e:joinD ⟨p1,p2⟩ ⟨q1,q2⟩=[(⟨p1,p2⟩,⟨q1,q2⟩)]:=by
   unfold joinD
   rw[if_neg]
   simp only[noPin,Pin.mk.injEq,not_or]
   exact⟨fun h=>e1.elim (· h.1) (· h.2),fun h=>e2.elim (· h.1) (· h.2)⟩
  refine V.drawX (fun _=>none) (by kernel_rfl) (by kernel_rfl) (by simp) ?_
  simp[packA]
  intro u
  refine⟨by omega,by kernel_rfl,u,?_⟩
  simp[Mk.join,e]
 ·have e:joinD ⟨p1,p2⟩ ⟨q1,q2⟩=[]:=by
   unfold joinD
   rw[if_pos]
   simp only[noPin,Pin.mk.injEq]
   by_cases h1:p1=[]∧p2=[]
   ·exact .inl h1
   ·refine .inr (hn ?_)
    by_cases h2:p1=[]
    ·exact .inr fun h=>h1 ⟨h2,h⟩
    ·exact .inl h2
  refine⟨hj,?_⟩
  simp[Mk.join,e]
theorem feed37_s {c:Control}{b b4 b5 bg:Nat}{hp hj:Value}{m:Mk}(name:List UInt8) (hl:m.joins.length<=1000000):CallS Tryz.prog 170 [.ptr 70 b 0,.dat (.str name)] (mkrH c b b4 b5 bg hp hj m) fun r H'=>r=.tuple []∧∃hj',H'=mkrH c b b4 b5 bg hp hj' (m.feed name):=by
 have h:=join37_s (c:=c) (b:=b) (b4:=b4) (b5:=b5) (bg:=bg) (hp:=hp) (hj:=hj) (m:=m) supPin ⟨name,[49]⟩ hl
 refine callS_of Tryz.func170 rfl Tryz.ntmps170 (rs:=[]) rfl (by kernel_rfl) (by simp) (by kernel_rfl) ?_
 simp
 simp at h
 refine h.mono ?_
 rintro r H' ⟨rfl,hj',rfl⟩
 simp
 exact⟨hj',by simp[Mk.feed]⟩
section on
variable {P:Program}{g:FuncId}{az:List A}{K:A->Heap->Prop}{e1 e2 e3:Nat×Ent}{H H':Heap}
theorem CallS.on0 (h:CallS P g az H K) (he:H=H'):CallS P g az H' K:=he▸h
theorem CallS.on1 (h:CallS P g az H K) (he:H=H'):CallS P g az (e1::H') fun r H1=>∃H2,K r H2∧H1=e1::H2:=he▸h.c1
theorem CallS.on2 (h:CallS P g az H K) (he:H=H'):CallS P g az (e1::e2::H') fun r H1=>∃H2,K r H2∧H1=e1::e2::H2:=by
 subst he
 refine h.c1.c1.mono ?_
 rintro r _ ⟨_,⟨H2,hk,rfl⟩,rfl⟩
 exact⟨H2,hk,rfl⟩
theorem CallS.on3 (h:CallS P g az H K) (he:H=H'):CallS P g az (e1::e2::e3::H') fun r H1=>∃H2,K r H2∧H1=e1::e2::e3::H2:=by
 refine (h.on2 (e1:=e2) (e2:=e3) he).c1.mono ?_
 rintro r _ ⟨_,⟨H2,hk,rfl⟩,rfl⟩
 exact⟨H2,hk,rfl⟩
end on
theorem subP_of_eq {H H':Heap}(h:H=H'):subP H H':=h▸subP.refl H
theorem add37_s {c:Control}{b b4 b5 bg:Nat}{hp hj:Value}{m:Mk}(kind:Int) (name:List UInt8) (delay line:Int) (hl:m.parts.length<=1000000) :
  CallS Tryz.prog 173 [.ptr 70 b 0,aI kind,.dat (.str name),aI delay,aI line] (mkrH c b b4 b5 bg hp hj m) fun r H'=>∃hp',r=.eptr 71 hp' 7 m.parts.length 0∧H'=mkrH c b b4 b5 bg hp' hj (m.add kind name delay line):=by
 refine CallS.dropP (callS_of Tryz.func173 rfl Tryz.ntmps173 (rs:=[.tmp 10]) rfl (by kernel_rfl) (by simp) (by kernel_rfl) (K:=fun r H'=>∃hp',r=.eptr 71 hp' 7 m.parts.length 0∧subP (mkrH c b b4 b5 bg hp' hj (m.add kind name delay line)) H') ?_) (fun r H' ⟨hp',e,h⟩=>⟨_,h,hp',e,rfl⟩)
 simp
 refine V.drawX (fun t=>if t=26 then some .bld else none) (by kernel_rfl) (by kernel_rfl) (by simp) ?_
 simp[packA]
 intro u u2
 refine⟨by omega,by kernel_rfl,?_⟩
 refine V.drawX (fun _=>none) (by kernel_rfl) (by kernel_rfl) (by simp) ?_
 simp
 refine⟨by omega,by omega,subP.c (subP_of_eq ?_) _⟩
 simp[Mk.add,argA]
end
theorem numT_len (n:Nat):(numT n).length<=n+1:=by
 induction n using Nat.strongRecOn with
 | _ n ih=>
  unfold numT
  rw[Go.Lib.decDigits]
  split
  ·simp
  ·have:=ih (n / 10) (by omega)
   unfold numT at this
   rw[List.length_append]
   simp only[List.length_cons,List.length_nil]
   omega
theorem own37_s {c:Control}(hc:Sm c) {i:Nat}(hi:i<c.signals.length) {b b4 b5 bg:Nat}{hp hj:Value}{m:Mk}:CallS Tryz.prog 134 [.ptr 70 b 0,aI i] (mkrH c b b4 b5 bg hp hj m) fun r H'=>r=.dat (.str (ownT c i))∧H'=mkrH c b b4 b5 bg hp hj m:=by
 obtain⟨h1,h2,h3⟩:=hc
 have hit:=Itoa_fn i (by omega)
 obtain⟨x,hx⟩:∃x,c.signals[i]=x:=⟨_,rfl⟩
 have hxo:c.signals[i]?=some x:=by rw[List.getElem?_eq_getElem hi,hx]
 have hk:kindAt c i=x.kind:=by simp[kindAt,hxo]
 have hnl:=numT_len i
 refine callS_of Tryz.func134 rfl Tryz.ntmps134 (rs:=[.tmp 4]) rfl (by kernel_rfl) (by simp) (by kernel_rfl) ?_
 simp[hi,hx]
 refine⟨fun e=>hit.s ?_,fun e=>hit.s ?_⟩
 ·simp[ownT,hk,e]
  omega
 ·simp[ownT,hk,e]
  omega
theorem next37_s {c:Control}{b b4 b5 bg:Nat}{hp hj:Value}{m:Mk}(kind:Int) (name:List UInt8) (hl:m.parts.length<=1000000) (hn:m.number<=1000000) (hnm:name.length<=1000) :
  CallS Tryz.prog 169 [.ptr 70 b 0,aI kind,.dat (.str name)] (mkrH c b b4 b5 bg hp hj m) fun r H'=>r=.dat (.str (name++numT m.number))∧∃hp',H'=mkrH c b b4 b5 bg hp' hj ({ m with number:=m.number+1 }.add kind (name++numT m.number) 0 (-1)):=by
 have hit:=Itoa_fn m.number (by omega)
 have hnl:=numT_len m.number
 have ha:=add37_s (c:=c) (b:=b) (b4:=b4) (b5:=b5) (bg:=bg) (hp:=hp) (hj:=hj) (m:={ m with number:=m.number+1 }) kind (name++numT m.number) 0 (-1) hl
 refine callS_of Tryz.func169 rfl Tryz.ntmps169 (rs:=[.tmp 6]) rfl (by kernel_rfl) (by simp) (by kernel_rfl) ?_
 simp
 refine hit.s ?_
 simp
 simp at ha
 refine⟨by omega,by omega,ha.mono ?_⟩
 rintro r H' ⟨hp',rfl,rfl⟩
 simp
theorem get_gate (k:Int):∀g:List (Int×Pin),mget (g.map eGate) (.int .i64 k)=(getG g k).map encPin
 | []=>rfl
 | q::r=>by
  simp only[List.map_cons,mget,getG,leq,get_gate k r,beq_self_eq_true,Bool.true_and,beq_iff_eq]
  split<;>rfl
theorem port37_s {c:Control}(hc:Sm c) (h0:0<=c.actuators∧c.actuators<=12) {line:Int}(hl:0<=line∧line<countC c) {b b4 b5 bg:Nat}{hp' hj:Value}{m:Mk} :
  CallS Tryz.prog 62 [.ptr 70 b 0,aI line] (mkrH c b b4 b5 bg hp' hj m) fun r H'=>r=.record (encPin (portM c m.gates line))∧H'=mkrH c b b4 b5 bg hp' hj m:=by
 have hfs:=first37_s (b:=b) (b4:=b4) (b5:=b5) (bg:=bg) (hp:=hp') (hj:=hj) (m:=m) hc
 obtain⟨h1,h2,h3⟩:=hc
 have hcn:countC c=firstC c+c.signals.length:=rfl
 have hfc:firstC c=2*c.actuators+c.inputs.length:=rfl
 refine CallS.dropP (callS_of Tryz.func62 rfl Tryz.ntmps62 (rs:=[.cell 4 123]) rfl (by kernel_rfl) (by simp) (by kernel_rfl) (K:=fun r H'=>r=.record (encPin (portM c m.gates line))∧subP (mkrH c b b4 b5 bg hp' hj m) H') ?_) (fun r H' ⟨e,h⟩=>⟨_,h,e,rfl⟩)
 have hc:Sm c:=⟨h1,h2,h3⟩
 simp
 intro b4'
 refine hfs.c1.mono ?_
 rintro _ _ ⟨_,⟨rfl,rfl⟩,rfl⟩
 obtain⟨l,rfl⟩:∃l:Nat,line=l:=⟨line.toNat,by omega⟩
 have e1:((l:Int).tdiv 2)=((l / 2:Nat):Int):=by rw[Int.tdiv_eq_ediv_of_nonneg (by omega)];rfl
 have e2:((l:Int).tmod 2)=((l % 2:Nat):Int):=by rw[Int.tmod_eq_emod_of_nonneg (by omega)];rfl
 by_cases hA:(l:Int)<2*c.actuators
 ·have hp:portM c m.gates l=⟨letterT (l / 2)++numT (l % 2),[50]⟩:=by
   unfold portM
   rw[if_pos hA,Int.toNat_natCast]
  have hn1:=numT_len (l % 2)
  rw[hp]
  simp[hA]
  refine⟨by omega,by omega,by omega,?_⟩
  rw[show ((l:Int) / 2)=((l / 2:Nat):Int) from rfl]
  refine (letter_fn (l / 2) (by omega)).s ?_
  simp
  rw[e2]
  refine (Itoa_fn (l % 2) (by omega)).s ?_
  simp
  refine⟨?_,subP.c (subP.refl _) _⟩
  simp[letterT]
  omega
 ·by_cases hB:(l:Int)<firstC c
  ·have hp:portM c m.gates l=⟨c.inputs.getD (l-2*c.actuators).toNat [],[50]⟩:=by
    unfold portM
    rw[if_neg hA,if_pos hB]
   have hi:((l:Int)-2*c.actuators).toNat<c.inputs.length:=by omega
   rw[hp,List.getD_eq_getElem?_getD,List.getElem?_eq_getElem hi]
   have hB2:(l:Int)-firstC c<0:=by omega
   simp[hA,hB2]
   refine⟨by omega,by omega,?_⟩
   refine V.drawX (fun _=>none) (by kernel_rfl) (by kernel_rfl) (by simp) ?_
   simp[hi]
   exact⟨by omega,by omega,by omega,subP.c (subP.refl _) _⟩
  ·have hi:((l:Int)-firstC c).toNat<c.signals.length:=by omega
   obtain⟨x,hx⟩:∃x,c.signals[((l:Int)-firstC c).toNat]=x:=⟨_,rfl⟩
   have hxo:c.signals[((l:Int)-firstC c).toNat]?=some x:=by rw[List.getElem?_eq_getElem hi,hx]
   have hk:kindAt c ((l:Int)-firstC c)=x.kind:=by simp[kindAt,hxo]
   have hB2:¬(l:Int)-firstC c<0:=by omega
   have hown:=own37_s (b:=b) (b4:=b4) (b5:=b5) (bg:=bg) (hp:=hp') (hj:=hj) (m:=m) hc hi
   rw[show ((((l:Int)-firstC c).toNat:Nat):Int)=l-firstC c by omega]at hown
   have hp:portM c m.gates l=if x.kind=1 then ⟨ownT c ((l:Int)-firstC c).toNat,[52]⟩ else if x.kind=2 then ⟨ownT c ((l:Int)-firstC c).toNat,[50]⟩ else (getG m.gates l).getD noPin:=by
    unfold portM
    rw[if_neg hA,if_neg hB,hk]
   rw[hp]
   simp[hA,hB2,hi,hx,hxo]
   have hsub:∀l,subP (mkrH c b b4 b5 bg hp' hj m) ((4,.box b4' l)::mkrH c b b4 b5 bg hp' hj m):=fun l=>subP.c (subP.refl _) _
   refine⟨by omega,by omega,by omega,fun h=>?_,fun h=>⟨by omega,fun h2=>?_,fun h2=>?_⟩⟩
   ·refine hown.c1.mono ?_
    rintro _ _ ⟨_,⟨rfl,rfl⟩,rfl⟩
    simp[h]
    exact hsub _
   ·refine hown.c1.mono ?_
    rintro _ _ ⟨_,⟨rfl,rfl⟩,rfl⟩
    simp[h,h2]
    exact hsub _
   ·rw[if_neg h,if_neg h2]
    have hg:=get_gate l m.gates
    cases hgg:getG m.gates l with
    | none=>
     rw[hgg]at hg
     simp at hg
     simp[hg]
     exact hsub _
    | some q=>
     rw[hgg]at hg
     simp at hg
     simp[hg]
     exact hsub _
theorem evalE_congr {vs ws:List Bool}:∀(N:Nat) (x:Expr),SizeOf.sizeOf x<N->(∀k∈varsE x,vs[k.toNat]?=ws[k.toNat]?)->evalE x vs=evalE x ws
 | 0,_,h,_=>absurd h (Nat.not_lt_zero _)
 | N+1,x,hN,h=>by
  have hL:∀l:List Expr,(∀y∈l,y∈x.args)->(∀k∈varsL l,vs[k.toNat]?=ws[k.toNat]?)->evalL l vs=evalL l ws:=by
   intro l
   induction l with
   | nil=>intro _ _;rfl
   | cons y l ih=>
    intro hl hk
    have hm:=hl y (by simp)
    simp only[evalL]
    rw[ih (fun z hz=>hl z (by simp[hz])) (fun k hkk=>hk k (by simp[varsL,hkk])),evalE_congr N y (by have:=Expr.lt_of_mem hm;omega) (fun k hkk=>hk k (by simp[varsL,hkk]))]
  rw[evalE_eq,evalE_eq,hL x.args (fun _ h=>h) (fun k hk=>h k (by rw[varsE_eq];simp[hk]))]
  by_cases hop:x.op=1
  ·have:=h x.index (by rw[varsE_eq];simp[hop])
   simp[hop,List.getD_eq_getElem?_getD,this]
  ·simp[hop]
theorem gvals_keep {c:Control}{s:State}{k:Nat}:∀j:Nat,(kindAt c k≠0∨j<=k∨c.signals.length<=k)->(gvals c s j)[k]?=s.values[k]?
 | 0,_=>rfl
 | j+1,h=>by
  simp only[gvals]
  split
  ·rename_i x hx
   split
   ·rename_i hk0
    have hne:j≠k:=by
     rintro rfl
     obtain⟨hlt,_⟩:=List.getElem?_eq_some_iff.1 hx
     rcases h with h | h | h
     ·apply h;simp[kindAt,hx,hk0]
     ·omega
     ·omega
    rw[List.getElem?_set_ne hne]
    exact gvals_keep j (by rcases h with h | h | h;exact .inl h;exact .inr (.inl (by omega));exact .inr (.inr h))
   ·exact gvals_keep j (by rcases h with h | h | h;exact .inl h;exact .inr (.inl (by omega));exact .inr (.inr h))
  ·exact gvals_keep j (by rcases h with h | h | h;exact .inl h;exact .inr (.inl (by omega));exact .inr (.inr h))
theorem gvals_stay {c:Control}{s:State}{k:Nat}:∀j:Nat,k<j->(gvals c s j)[k]?=(gvals c s (k+1))[k]?
 | 0,h=>absurd h (Nat.not_lt_zero _)
 | j+1,h=>by
  rcases Nat.lt_or_ge k j with h1 | h1
  ·rw[<- gvals_stay j h1]
   conv=>lhs;unfold gvals
   split
   ·split
    ·rw[List.getElem?_set_ne (by omega)]
    ·rfl
   ·rfl
  ·obtain rfl:k=j:=by omega
   rfl
theorem late_not {c:Control}(hf:Fine c) {i:Nat}{x:Signal}(hx:c.signals[i]?=some x) (hk:x.kind=0):∀n∈varsE x.on,n-firstC c<i∨kindAt c (n-firstC c)≠0:=by
 have h:=hf.sigs i x hx
 unfold signalE at h
 split at h
 ·rename_i h1;exact absurd h h1
 ·split at h
  ·cases h
  ·split at h
   ·rename_i h1;exact absurd h h1
   ·have hl:lateC c i x.on=false:=by
     cases hl:lateC c i x.on
     ·rfl
     ·simp[gateE,hl,hk]at h
    intro n hn
    rw[lateC_any,List.any_eq_false]at hl
    have:=hl n hn
    simp only[Bool.and_eq_true,decide_eq_true_eq,beq_iff_eq,not_and]at this
    rcases Classical.em (n-firstC c<i) with h | h
    ·exact .inl h
    ·exact .inr (this (by omega))
theorem gate_same {c:Control}(hf:Fine c) {s:State}(hsh:shapeS c s) {i:Nat}{x:Signal}(hx:c.signals[i]?=some x) (hk:x.kind=0) {m:Nat}(hm:i<=m) :
  evalE x.on (preV s++gvals c s i)=evalE x.on (preV s++gvals c s m):=by
 have hpl:=preV_length hsh
 refine evalE_congr (SizeOf.sizeOf x.on+1) x.on (by omega) fun k hk2=>?_
 have hv:=vars_check (hf.on hx).1 k hk2
 have hl:=late_not hf hx hk k hk2
 by_cases h1:k.toNat<(preV s).length
 ·rw[List.getElem?_append_left h1,List.getElem?_append_left h1]
 ·rw[List.getElem?_append_right (by omega),List.getElem?_append_right (by omega)]
  obtain⟨q,hq⟩:∃q:Nat,k-firstC c=q:=⟨(k-firstC c).toNat,by omega⟩
  have e:k.toNat-(preV s).length=q:=by omega
  rw[e]
  rw[hq]at hl
  by_cases h2:kindAt c q≠0
  ·rw[gvals_keep i (.inl h2),gvals_keep m (.inl h2)]
  ·have h3:q<i:=by rcases hl with h | h;omega;exact absurd h h2
   rw[gvals_stay i h3,gvals_stay m (by omega)]
theorem gates_gate {c:Control}(hf:Fine c) {s:State}(hsh:shapeS c s) {i:Nat}{x:Signal}(hx:c.signals[i]?=some x) (hk:x.kind=0):(gatesP c s).values[i]?=some (evalE x.on (valuesOf (gatesP c s))):=by
 obtain⟨hlt,_⟩:=List.getElem?_eq_some_iff.1 hx
 show (gvals c s c.signals.length)[i]?=some (evalE x.on (preV s++gvals c s c.signals.length))
 rw[gvals_stay _ hlt,gvals_at hx,if_pos hk,<- gate_same hf hsh hx hk (Nat.le_of_lt hlt),valuesOf_with]
 rw[List.getElem?_set_self]
 rw[gvals_length,hsh.2.2.2.1]
 exact hlt
theorem gates_keep {c:Control}{s:State}{i:Nat}(h:kindAt c i≠0):(gatesP c s).values[i]?=s.values[i]?:=gvals_keep _ (.inl h)
theorem gates_shape {c:Control}{s:State}(hsh:shapeS c s):shapeS c (gatesP c s):=by
 obtain⟨h1,h2,h3,h4,h5⟩:=hsh
 exact⟨h1,h2,h3,by simp only[gatesP,gvals_length];exact h4,h5⟩
theorem gates_twice {c:Control}(hf:Fine c) {s:State}(hsh:shapeS c s):gatesP c (gatesP c s)=gatesP c s:=by
 have h:∀j,j<=c.signals.length->gvals c (gatesP c s) j=(gatesP c s).values:=by
  intro j
  induction j with
  | zero=>intro _;rfl
  | succ j ih=>
   intro hj
   simp only[gvals]
   split
   ·rename_i x hx
    split
    ·rename_i hk
     rw[ih (by omega)]
     have:=gates_gate hf hsh hx hk
     apply List.ext_getElem?
     intro k
     by_cases e:j=k
     ·subst e
      rw[this,List.getElem?_set_self (List.getElem?_eq_some_iff.1 this).1]
     ·rw[List.getElem?_set_ne e]
    ·exact ih (by omega)
   ·exact ih (by omega)
 show { gatesP c s with values:=gvals c (gatesP c s) c.signals.length }=gatesP c s
 rw[h _ (Nat.le_refl _)]
theorem gates_right {c:Control}{s:State}(h:rightC c s=0):rightC c (gatesP c s)=0:=by
 obtain⟨z1,z2,z3⟩:=right_zero h
 have hsh:=gates_shape z2
 unfold fitsSt at z3
 rw[if_neg (by simpa using z2)]at z3
 split at z3
 ·cases z3
 ·rename_i hout
  have hz:=firstErr_zero z3
  have e:fitsSt c (gatesP c s)=firstErr (tsE c (gatesP c s)) (List.range s.timers.length):=by
   unfold fitsSt
   rw[if_neg (by simpa using hsh)]
   exact if_neg hout
  have hn:NoE (tsE c (gatesP c s)) s.timers.length:=by
   intro i hi
   have h0:=hz i hi
   unfold tsE at h0 ⊢
   obtain⟨hlv,hlt⟩:s.values.length=c.signals.length∧s.timers.length=c.signals.length:=⟨z2.2.2.2.1,z2.2.2.2.2⟩
   have hx:c.signals[i]?=some c.signals[i]:=List.getElem?_eq_getElem (by omega)
   have hv:s.values[i]?=some s.values[i]:=List.getElem?_eq_getElem (by omega)
   have ht:s.timers[i]?=some s.timers[i]:=List.getElem?_eq_getElem (by omega)
   rw[hx,hv,ht]at h0
   have ht':(gatesP c s).timers[i]?=some s.timers[i]:=ht
   have hlg:(gatesP c s).values.length=c.signals.length:=hsh.2.2.2.1
   have hv':(gatesP c s).values[i]?=some (gatesP c s).values[i]:=List.getElem?_eq_getElem (by omega)
   rw[hx,hv',ht']
   simp only at h0 ⊢
   unfold tstE at h0 ⊢
   by_cases hk:c.signals[i].kind=2
   ·have hka:kindAt c i≠0:=by simp[kindAt,hx,hk]
    have hg:=gates_keep (s:=s) hka
    rw[hv',hv]at hg
    rw[Option.some.inj hg]
    exact h0
   ·simp only[hk,ne_eq,not_false_eq_true,true_and,false_and,or_false]at h0 ⊢
    exact h0
  rw[rightC,if_neg (by simpa using z1),e]
  exact firstErr_all hn
theorem light_check {x:Expr}{n:Int}(h:checkE x n=0):lightE x=true:=by
 rw[<- check_same]at h
 unfold refCheckE at h
 cases hl:lightE x
 ·rw[hl]at h
  split at h
  ·cases h
  ·simp at h
 ·rfl
theorem node_op {x:Expr}{n:Int}(h:nodeR x n=0):0<=x.op∧x.op<5∧(x.op=0->x.index=0∨x.index=1)∧(x.op=1->0<=x.index∧x.index<n)∧(x.op=2->∃y,x.args=[y]):=by
 unfold nodeR at h
 split at h
 ·cases h
 ·rename_i h1
  refine⟨by omega,by omega,?_,?_,?_⟩
  ·intro ho
   simp[ho]at h
   split at h
   ·cases h
   ·omega
  ·intro ho
   simp[ho]at h
   split at h
   ·cases h
   ·omega
  ·intro ho
   simp[ho]at h
   have:x.args.length=1:=by omega
   exact List.length_eq_one_iff.1 this
end Go.Proofs.YtafamcbdaeppoaaGreatDoor
