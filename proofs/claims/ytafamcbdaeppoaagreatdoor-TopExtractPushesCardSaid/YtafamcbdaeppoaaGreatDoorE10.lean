/- Texts joined by a program: Fws,Fwt,Fwu,Fwv. -/
import Derived.Test.YtafamcbdaeppoaaGreatDoorE8
import Derived.Test.YtafamcbdaeppoaaGreatDoorE9
set_option linter.unusedSimpArgs false
set_option linter.unusedVariables false
namespace Go.Proofs.YtafamcbdaeppoaaGreatDoor
section
variable {P:Program}
theorem CallY.c1 {l:Nat}{az:List A}{H:Heap}{K:A->Heap->Prop}{e:Nat×Ent}(h:CallY P l az H K):CallY P l az (e::H) fun r H'=>∃H2,K r H2∧H'=e::H2:=h.frameL (H1:=[e])
theorem CallS.c1 {g:FuncId}{az:List A}{H:Heap}{K:A->Heap->Prop}{e:Nat×Ent}(h:CallS P g az H K):CallS P g az (e::H) fun r H'=>∃H2,K r H2∧H'=e::H2:=h.frameL (H1:=[e])
def subP (H H':Heap):Prop:=∃K:Heap,K.Sublist H'∧K.Perm H
theorem subP.refl (H:Heap):subP H H:=⟨H,List.Sublist.refl H,List.Perm.refl H⟩
theorem subP.c {H H':Heap}(h:subP H H') (e:Nat×Ent):subP H (e::H'):=by
 obtain⟨K,h1,h2⟩:=h
 exact⟨K,h1.cons e,h2⟩
theorem subP.cc {H H':Heap}(h:subP H H') (e:Nat×Ent):subP (e::H) (e::H'):=by
 obtain⟨K,h1,h2⟩:=h
 exact⟨e::K,h1.cons_cons e,h2.cons e⟩
theorem subP_inv {x:X}{H H' H0:Heap}(h:subP H H') (hi:Inv x (H'++H0)):Inv x (H++H0):=by
 obtain⟨K,h1,h2⟩:=h
 exact (hi.sub (h1.append (List.Sublist.refl H0))).perm (h2.symm.append_right H0)
theorem CallS.dropP {g:FuncId}{az:List A}{H:Heap}{K K':A->Heap->Prop}(h:CallS P g az H K) (hk:∀r H',K r H'->∃H'':Heap,subP H'' H'∧K' r H''):CallS P g az H K':=by
 refine⟨h.1,fun x args H0 hi hd=>(h.2 x args H0 hi hd).mono ?_⟩
 rintro _ _ ⟨y,v,r,H',a,b,c,d,e,f⟩
 obtain⟨H'',h1,h2⟩:=hk r H' f
 exact⟨y,v,r,H'',a,b,c,subP_inv h1 d,e,h2⟩
theorem V.for' {C:Cfg}{E:Env}{H:Heap}{Q:PostQ}{c:Code}{ι:Type}(Lv:List Nat) (sl:ι->List (Nat×A)) (Hs:ι->Heap) (I:ι->Prop) (μ:ι->Nat) (i0:ι)
  (h0:I i0∧(∀p∈sl i0,E p.1=p.2)∧subP (Hs i0) H)
  (hr:∀i,I i->vcC C c (headEnv E Lv (sl i)) (Hs i) fun e E' H'=>match e with
   | .normal=>∃j,I j∧μ j<μ i∧(∀p∈sl j,E' p.1=p.2)∧(∀t∈Lv,E' t=E t)∧subP (Hs j) H'
   | .exit i=>Q (.exit i) E' H'
   | .ret=>Q .ret E' H'
   | _=>False):V C (.loop c) E H Q:=by
 intro hf x act H0 ms hi he
 have hhead:∀ {i:ι}{E':Env},(∀p∈sl i,E' p.1=p.2)->(∀t∈Lv,E' t=E t)->∀t,headEnv E Lv (sl i) t=.any∨headEnv E Lv (sl i) t=E' t:=by
  intro i E' h1 h2
  refine sets_weak _ _ h1 (sets_weak _ _ ?_ fun t=>.inl rfl)
  intro p hp
  obtain⟨t,ht,rfl⟩:=List.mem_map.1 hp
  exact h2 t ht
 have key:W C (.loop c) (headEnv E Lv (sl i0)) (Hs i0) Q:=by
  refine W.loop (fun m E' H'=>∃i,I i∧μ i=m∧E'=headEnv E Lv (sl i)∧H'=Hs i) (μ i0) ⟨i0,h0.1,rfl,rfl,rfl⟩ ?_
  rintro m _ _ ⟨i,hI,rfl,rfl,rfl⟩
  have hw:=vcC_ok c _ _ _ hf (hr i hI)
  intro x act H0 ms hi he
  refine wpIn_mono (hw x act H0 ms hi he) ?_
  rintro e a' w' ⟨y,E',H',ms',rfl,hle,hi',he',hq⟩
  cases e with
  | normal=>
   obtain⟨j,h1,h2,h3,h4,h5⟩:=hq
   exact⟨y,_,_,ms',rfl,hle,subP_inv h5 hi',he'.weak (hhead h3 h4),μ j,h2,j,h1,rfl,rfl,rfl⟩
  | exit k=>exact⟨y,E',H',ms',rfl,hle,hi',he',hq⟩
  | ret=>exact⟨y,E',H',ms',rfl,hle,hi',he',hq⟩
  | goto l=>exact hq.elim
  | panic c=>exact hq.elim
  | outgrown=>exact hq.elim
 exact key x act H0 ms (subP_inv h0.2.2 hi) (he.weak (hhead h0.2.1 fun _ _=>rfl))
@[congr] theorem GCall_congr {q q' p p':Prop}{g:FuncId}{az az':List A}{H H':Heap}{K:A->Heap->Prop}{z:Prop}(_:(True∧True)=z) (h1:q=q') (h2:p=p') (h3:az=az') (h4:H=H'):GCall P q p g az H K=GCall P q' p' g az' H' K:=by rw[h1,h2,h3,h4]
theorem Inv.ents {x:X}{H H':Heap}(e:H.map Prod.snd=H'.map Prod.snd) (h:Inv x H):Inv x H':=by
 have mem:∀p∈H',∃q∈H,q.2=p.2:=by
  intro p hp
  have:p.2∈H.map Prod.snd:=by rw[e];exact List.mem_map.2 ⟨p,hp,rfl⟩
  exact List.mem_map.1 this
 refine⟨h.bd,?_,?_,?_⟩
 ·intro p hp
  obtain⟨q,hq,e⟩:=mem p hp
  rw[<- e];exact h.sat q hq
 ·intro p hp b hb
  obtain⟨q,hq,e⟩:=mem p hp
  rw[<- e]at hb;exact h.own q hq b hb
 ·have h1:(H.map Prod.snd).Pairwise fun (a c:Ent)=>∀b,a.own b->¬c.own b:=List.pairwise_map.2 h.apart
  rw[e]at h1
  exact List.pairwise_map.1 h1
def rt (k:Nat) (H:Heap):Heap:=H.map fun p=>(p.1+k,p.2)
@[simp] theorem rt_cons (k t:Nat) (e:Ent) (H:Heap):rt k ((t,e)::H)=(t+k,e)::rt k H:=rfl
theorem rt_snd (k:Nat) (H:Heap):(rt k H).map Prod.snd=H.map Prod.snd:=by simp[rt,Function.comp_def]
theorem hget_rt {k t:Nat}(h:t<k):∀H:Heap,hget t (rt k H)=none
 | []=>rfl
 | (s,e)::r=>by
  simp only[rt_cons,hget]
  rw[if_neg (by omega)]
  exact hget_rt h r
@[simp] theorem hget_rt1000 {t:Nat}(H:Heap) (h:t<1000):hget t (rt 1000 H)=none:=hget_rt h H
theorem CallY.rt {P:Program}{k l:Nat}{az:List A}{H:Heap}{K:A->Heap->Prop}(h:CallY P l az H K):CallY P l az (rt k H) fun r H'=>∃H2,H'=Go.Proofs.YtafamcbdaeppoaaGreatDoor.rt k H2∧K r H2:=by
 intro x args H0 hi hd
 obtain⟨f,t,a,b,h1,h2⟩:=h x args H0 (hi.ents (by simp[rt_snd])) hd
 refine⟨f,t,a,b,h1,h2.mono ?_⟩
 rintro _ _ ⟨y,v,r,H',a,b,c,d,e,g⟩
 exact⟨y,v,r,Go.Proofs.YtafamcbdaeppoaaGreatDoor.rt k H',a,b,c,d.ents (by simp[rt_snd]),e,H',rfl,g⟩
theorem CallS.rt {P:Program}{k:Nat}{g:FuncId}{az:List A}{H:Heap}{K:A->Heap->Prop}(h:CallS P g az (rt k H) fun r H'=>∃H2,H'=Go.Proofs.YtafamcbdaeppoaaGreatDoor.rt k H2∧K r H2):CallS P g az H K:=by
 refine⟨h.1,fun x args H0 hi hd=>(h.2 x args H0 (hi.ents (by simp[rt_snd])) hd).mono ?_⟩
 rintro _ _ ⟨y,v,r,H',a,b,c,d,e,H2,rfl,g⟩
 exact⟨y,v,r,H2,a,b,c,d.ents (by simp[rt_snd]),e,g⟩
structure Expr where
 op:Int
 index:Int
 args:List Expr
def encE:Expr->List L
 | ⟨op,ix,args⟩=>[.int .i64 op,.int .i64 ix,.sl (args.map encE)]
theorem encE_eq (e:Expr):encE e=[.int .i64 e.op,.int .i64 e.index,.sl (e.args.map encE)]:=by
 cases e;simp[encE]
inductive OkE:Expr->Prop
 | mk (e:Expr) (h:e.args.length<=9223372036854775807) (ho:inR .i64 e.op) (hi:inR .i64 e.index) (hr:∀a∈e.args,OkE a):OkE e
theorem OkE.len {e:Expr}(h:OkE e):e.args.length<=9223372036854775807:=by cases h;assumption
theorem OkE.args {e:Expr}(h:OkE e):∀a∈e.args,OkE a:=by cases h;assumption
abbrev aE (e:Expr):A:=.record [.int .i64 e.op,.int .i64 e.index,.sl (e.args.map encE)]
mutual
def preE:Expr->Int->List (Int×Expr)
 | ⟨op,ix,args⟩,d=>(d,⟨op,ix,args⟩)::(if d<=16 then preL args (d+1) else [])
def preL:List Expr->Int->List (Int×Expr)
 | [],_=>[]
 | x::xs,d=>preE x d++preL xs d
end
theorem preE_eq (e:Expr) (d:Int):preE e d=(d,e)::(if d<=16 then preL e.args (d+1) else []):=by
 cases e;simp[preE]
theorem Expr.lt_of_mem {e a:Expr}(h:a∈e.args):SizeOf.sizeOf a<SizeOf.sizeOf e:=by
 cases e
 have:=List.sizeOf_lt_of_mem h
 simp only[Expr.mk.sizeOf_spec]at this ⊢
 omega
end
section
variable {P:Program}
theorem vcOp_mono {op:Op}{d:Option Nat}{E:Env}{H:Heap}{K K':Env->Heap->Prop}(hk:∀E H,K E H->K' E H) (h:vcOp P op d E H K):vcOp P op d E H K':=by
 unfold vcOp at h ⊢
 cases h1:pureA P E op with
 | some q=>
  obtain⟨p,a⟩:=q
  simp only[h1]at h ⊢
  exact⟨h.1,hk _ _ h.2⟩
 | none=>
  simp only[h1]at h ⊢
  cases h2:callA E op with
  | some q=>
   obtain⟨p,g,az⟩:=q
   simp only[h2]at h ⊢
   exact⟨h.1,h.2.mono fun _ _=>hk _ _⟩
  | none=>
   simp only[h2]at h ⊢
   cases h3:yldA E op with
   | some q=>
    obtain⟨p,l,az⟩:=q
    simp only[h3]at h ⊢
    exact⟨h.1,h.2.mono fun _ _=>hk _ _⟩
   | none=>
    simp only[h3]at h ⊢
    intro u b
    have:=h u b
    cases h4:heapF P u b (d.getD 0) E (fun t=>hget t H) op with
    | some q=>
     obtain⟨p,a,ch⟩:=q
     simp only[h4]at this ⊢
     exact⟨this.1,hk _ _ this.2⟩
    | none=>simp only[h4]at this
theorem vcOps_mono {ops:List Oper}:∀(l:List Oper) {E:Env}{H:Heap}{K K':Env->Heap->Prop},(∀E H,K E H->K' E H)->vcOps P ops l E H K->vcOps P ops l E H K'
 | [],_,_,_,_,hk,h=>hk _ _ h
 | o::rest,E,H,K,K',hk,h=>by
  simp only[vcOps]at h ⊢
  cases hg:o.guard with
  | none=>
   simp only[hg]at h ⊢
   exact vcOp_mono (fun _ _=>vcOps_mono rest hk) h
  | some jw=>
   obtain⟨j,want⟩:=jw
   simp only[hg]at h ⊢
   cases hq:gq E ops j want with
   | none=>simp only[hq]at h
   | some q=>
    simp only[hq]at h ⊢
    cases h1:pureA P E o.op with
    | some pa=>
     obtain⟨p,a⟩:=pa
     simp only[h1]at h ⊢
     exact⟨h.1,vcOps_mono rest hk h.2⟩
    | none=>
     simp only[h1]at h ⊢
     cases h2:callA E o.op with
     | some pg=>
      obtain⟨p,g,az⟩:=pg
      simp only[h2]at h ⊢
      rcases h with⟨r,h3,h4⟩|⟨h3,h4⟩
      ·exact .inl ⟨r,h3,vcOps_mono rest hk h4⟩
      ·exact .inr ⟨fun hq=>⟨(h3 hq).1,(h3 hq).2.mono fun _ _=>vcOps_mono rest hk⟩,fun hq=>let ⟨r,h5⟩:=h4 hq;⟨r,vcOps_mono rest hk h5⟩⟩
     | none=>
      simp only[h2]at h ⊢
      cases h3:heapF P .nilIface 0 0 E (fun t=>hget t H) o.op with
      | none=>
       simp only[h3]at h ⊢
       exact⟨h.1,vcOps_mono rest hk h.2⟩
      | some pa=>
       obtain⟨p,a,ch⟩:=pa
       simp only[h3]at h ⊢
       cases ch with
       | none=>exact⟨h.1,h.2.1,vcOps_mono rest hk h.2.2⟩
       | some c=>exact⟨h.1,vcOps_mono rest hk h.2⟩
theorem V.mono {C:Cfg}{c:Code}{E:Env}{H:Heap}{Q Q':PostQ}(hq:∀e E H,Q e E H->Q' e E H) (h:V C c E H Q):V C c E H Q':=fun hf=>(h hf).mono hq
theorem vcC_mono {C:Cfg}:∀(c:Code) {E:Env}{H:Heap}{Q Q':PostQ},(∀e E H,Q e E H->Q' e E H)->vcC C c E H Q->vcC C c E H Q'
 | .skip,_,_,_,_,hq,h=>hq _ _ _ h
 | .seq a b,E,H,Q,Q',hq,h=>by
  refine vcC_mono a ?_ h
  intro e E H h
  cases e with
  | normal=>exact vcC_mono b hq h
  | exit i=>exact hq _ _ _ h
  | ret=>exact hq _ _ _ h
  | goto l=>exact h
  | panic c=>exact h
  | outgrown=>exact h
 | .cond c a b,E,H,Q,Q',hq,h=>by
  simp only[vcC]at h ⊢
  split at h
  ·rename_i p t hst
   exact⟨h.1,fun e=>vcC_mono a hq (h.2.1 e),fun e=>vcC_mono b hq (h.2.2 e)⟩
  ·exact h.elim
 | .block id c,E,H,Q,Q',hq,h=>by
  refine vcC_mono c ?_ h
  intro e E H h
  cases e with
  | normal=>exact hq _ _ _ h
  | exit i=>
   simp only[blockQ]at h ⊢
   split
   ·rename_i hi;simp only[hi,if_true]at h;exact hq _ _ _ h
   ·rename_i hi;simp only[hi,if_false]at h;exact hq _ _ _ h
  | ret=>exact hq _ _ _ h
  | goto l=>exact h
  | panic c=>exact h
  | outgrown=>exact h
 | .exit _,_,_,_,_,hq,h=>hq _ _ _ h
 | .ret,_,_,_,_,hq,h=>hq _ _ _ h
 | .region id ops d,E,H,Q,Q',hq,h=>by
  cases d with
  | false=>exact vcOps_mono ops.toList (fun _ _=>hq _ _ _) h
  | true=>exact V.mono hq h
 | .loop c,_,_,_,_,hq,h=>V.mono hq h
 | .rangeFunc _ _ _ _,_,_,_,_,hq,h=>V.mono hq h
 | .scope _,_,_,_,_,_,h=>h.elim
 | .label _,_,_,_,_,_,h=>h.elim
 | .goto _,_,_,_,_,_,h=>h.elim
 | .refuse _,_,_,_,_,_,h=>h.elim
def yK {σ δ:Type}(Hc:σ->Heap) (Hd:δ->Heap) (o:Except δ σ):A->Heap->Prop:=fun r H'=>match o with
 | .ok s=>r=.dat (.bool true)∧H'=Hc s
 | .error d=>r=.dat (.bool false)∧H'=Hd d
def IterS (P:Program) (f:FuncId) (first caps:List A) {ι:Type}(items:List ι) (enc:ι->List A):Prop:=
 ∀ {σ δ:Type}(l:Nat) (Hc:σ->Heap) (Hd:δ->Heap) (step:σ->ι->Except δ σ) (s:σ),(∀s p,p∈items->CallY P l (enc p) (Hc s) (yK Hc Hd (step s p))) ->
  CallS P f (first++[.yld l]++caps) (Hc s) fun _ H'=>match items.foldlM step s with
   | .ok s'=>H'=Hc s'
   | .error e=>H'=Hd e
theorem CallY.dropP {l:Nat}{az:List A}{H:Heap}{K K':A->Heap->Prop}(h:CallY P l az H K) (hk:∀r H',K r H'->∃H'':Heap,subP H'' H'∧K' r H''):CallY P l az H K':=by
 intro x args H0 hi hd
 obtain⟨f,t,a,b,h1,h2⟩:=h x args H0 hi hd
 refine⟨f,t,a,b,h1,h2.mono ?_⟩
 rintro _ _ ⟨y,v,r,H',a,b,c,d,e,f⟩
 obtain⟨H'',h1,h2⟩:=hk r H' f
 exact⟨y,v,r,H'',a,b,c,subP_inv h1 d,e,h2⟩
def jX:Option Nat->Exit
 | none=>.ret
 | some i=>.exit i
def jC:Option Nat->Code
 | none=>.ret
 | some i=>.exit i
theorem V.rangeFold {n:Nat}{E:Env}{H:Heap}{Q:PostQ}{g:Operand}{ps:Array Tmp}{asg body:Code}{p:Prop}{f:FuncId}{first caps:List A}{ι σ δ:Type}{items:List ι}{enc:ι->List A}
  (τ:Nat) (hg:st (ev E g)=(p,.fn f first caps)) (hp:p) (hit:IterS P f first caps items enc) (Hb:σ->Heap) (Hx:δ->Heap) (jump:δ->Option Nat) (step:σ->ι->Except δ σ) (I:σ->Prop) (s0:σ) (hI0:I s0)
  (hI:∀s p s',I s->step s p=.ok s'->I s') (hH:subP (Hb s0) H) (hlen:∀p∈items,(enc p).length=ps.size)
  (hbody:∀l s p,I s->p∈items->vcC ⟨P,some l,n⟩ asg (bindP ps.toList (enc p) E) (Hb s) fun e E' H'=>match e with
   | .normal=>vcC ⟨P,some l,n⟩ body E' H' fun e _ H''=>match step s p with
    | .ok s'=>e=.normal∧subP (Hb s') H''
    | .error d=>e=jX (jump d)∧subP (Hx d) H''
   | _=>False)
  (hend:∀o,items.foldlM step s0=o->match (generalizing:=false) o with
   | .ok s=>Q .normal E (Hb s)
   | .error d=>Q (jX (jump d)) E (Hx d)):V ⟨P,none,n⟩ (.rangeFunc g ps asg body) E H Q:=by
 intro hf
 have key:V ⟨P,none,n⟩ (.rangeFunc g ps asg body) E (Hb s0) Q:=by
  refine V.rangeFunc τ hg hp fun l=>?_
  let step':{s // I s}->ι->Except δ {s // I s}:=fun s p=>match h:step s.1 p with
   | .ok s'=>.ok ⟨s',hI s.1 p s' s.2 h⟩
   | .error d=>.error d
  have hs':∀s p,(step' s p).map Subtype.val=step s.1 p:=by
   intro s p
   show Except.map Subtype.val (match h:step s.1 p with | .ok s'=>.ok ⟨s',hI s.1 p s' s.2 h⟩ | .error d=>.error d)=_
   split<;>rename_i h<;>simp[Except.map,h]
  have hfold:∀(its:List ι) (s:{s // I s}),(its.foldlM step' s).map Subtype.val=its.foldlM step s.1:=by
   intro its
   induction its with
   | nil=>intro s;rfl
   | cons q r ih=>
    intro s
    simp only[List.foldlM_cons]
    have:=hs' s q
    cases h:step' s q with
    | error d=>rw[h]at this;rw[<- this];rfl
    | ok s1=>rw[h]at this;rw[<- this];exact ih s1
  have hc:=hit (σ:={s // I s}) (δ:=δ) l (fun s=>(τ,.loop l n .ready none ps asg body E)::Hb s.1) (fun d=>(τ,.loop l n .done (some (jC (jump d))) ps asg body E)::Hx d) step' ⟨s0,hI0⟩ ?_
  ·refine hc.mono ?_
   intro _ H' hk
   have h1:=hfold items ⟨s0,hI0⟩
   have h2:=hend _ rfl
   rw[<- h1]at h2
   cases hr:items.foldlM step' ⟨s0,hI0⟩ with
   | ok s=>
    rw[hr]at hk h2
    subst hk
    exact .inl ⟨_,rfl,h2⟩
   | error d=>
    rw[hr]at hk h2
    subst hk
    simp only[Except.map]at h2
    cases hj:jump d with
    | none=>rw[hj]at h2;exact .inr (.inl ⟨_,rfl,h2⟩)
    | some i=>rw[hj]at h2;exact .inr (.inr ⟨_,i,rfl,h2⟩)
  ·rintro⟨s,hs⟩ q hq
   have hb:=hbody l s q hs hq
   refine CallY.dropP (K:=fun r H''=>match step s q with
    | .ok s'=>r=.dat (.bool true)∧∃H3,H''=(τ,.loop l n .ready none ps asg body E)::H3∧subP (Hb s') H3
    | .error d=>r=.dat (.bool false)∧∃H3,H''=(τ,.loop l n .done (some (jC (jump d))) ps asg body E)::H3∧subP (Hx d) H3) (callY_of (hlen q hq) hf ?_) ?_
   ·have hf':=hf
    simp only[fitsC,Bool.and_eq_true]at hf'
    refine vcC_mono asg ?_ hb
    intro e E' H' h
    cases e with
    | normal=>
     refine vcC_mono body ?_ h
     intro e E'' H'' h
     cases hst:step s q with
     | ok s'=>
      rw[hst]at h
      obtain⟨rfl,h⟩:=h
      simp only[roundQ,hst]
      exact⟨by trivial,_,rfl,h⟩
     | error d=>
      rw[hst]at h
      obtain⟨rfl,h⟩:=h
      cases hj:jump d with
      | none=>simp only[jX,roundQ,hst];exact⟨by trivial,_,by rw[hj];rfl,h⟩
      | some i=>simp only[jX,roundQ,hst];exact⟨by trivial,_,by rw[hj];rfl,h⟩
    | ret=>exact h
    | exit i=>exact h
    | goto t=>exact h
    | panic c=>exact h
    | outgrown=>exact h
   ·intro r H'' hk
    have h1:=hs' ⟨s,hs⟩ q
    cases hst:step' ⟨s,hs⟩ q with
    | ok s'=>
     rw[hst]at h1
     simp only[Except.map]at h1
     simp only[<- h1]at hk
     obtain⟨rfl,H3,rfl,h3⟩:=hk
     exact⟨_,h3.cc _,rfl,rfl⟩
    | error d=>
     rw[hst]at h1
     simp only[Except.map]at h1
     simp only[<- h1]at hk
     obtain⟨rfl,H3,rfl,h3⟩:=hk
     exact⟨_,h3.cc _,rfl,rfl⟩
 intro x act H0 ms hi he
 exact key hf x act H0 ms (subP_inv hH hi) he
end
section
variable {P:Program}
def wk (a b:A):Prop:=a=b∨(a=.nils∧(b=.dat (.sl [])∨∃t,b=.own t (.slice none 0 0)))
@[simp] theorem wk_refl (a:A):wk a a=True:=by simp[wk]
@[simp] theorem wk_nil:wk .nils (.dat (.sl []))=True:=by simp[wk]
@[simp] theorem wk_own (t:Nat):wk .nils (.own t (.slice none 0 0))=True:=by simp[wk]
@[simp] theorem wk_int (k:IntKind) (a b:Int):wk (.dat (.int k a)) (.dat (.int k b))=(a=b):=by simp[wk]
@[simp] theorem wk_bool (a b:Bool):wk (.dat (.bool a)) (.dat (.bool b))=(a=b):=by simp[wk]
@[simp] theorem wk_str (a b:List UInt8):wk (.dat (.str a)) (.dat (.str b))=(a=b):=by simp[wk]
@[simp] theorem wk_owno (t:Nat) (g h:Value):wk (.own t g) (.own t h)=(g=h):=by simp[wk]
theorem wk_ok {x:X}{a b:A}(h:wk a b) {v:Value}(hv:D x a v):D x b v:=by
 rcases h with rfl | ⟨rfl,rfl | ⟨t,rfl⟩⟩
 ·exact hv
 ·simp only[D]at hv;subst hv;simp[D,RdL]
 ·simp only[D]at hv;subst hv;simp[D]
def nilSeq:Ent->Prop
 | .seq h _ _ rows=>h=.slice none 0 0∧rows=[]
 | _=>False
def subN:Heap->Heap->Prop
 | [],_=>True
 | (t,e)::r,H=>match hget t H with
  | some e'=>e'=e∧subN r (hdel t H)
  | none=>nilSeq e∧subN r H
theorem Inv.nil {x:X}{H:Heap}(hi:Inv x H) {t:Nat}{e:Ent}(he:nilSeq e):Inv x ((t,e)::H):=by
 cases e<;>simp only[nilSeq]at he
 obtain⟨rfl,rfl⟩:=he
 refine⟨hi.bd,?_,?_,List.pairwise_cons.2 ⟨?_,hi.apart⟩⟩
 ·intro r hr
  rcases List.mem_cons.1 hr with rfl | hr
  ·exact⟨[],World.ownsRow_nil _ _ _ _,by simp,by simp[Ds]⟩
  ·exact hi.sat r hr
 ·intro r hr b hb
  rcases List.mem_cons.1 hr with rfl | hr
  ·simp[Ent.own,Value.ownBlock]at hb
  ·exact hi.own r hr b hb
 ·intro r _ b hb
  simp[Ent.own,Value.ownBlock]at hb
theorem subN_perm:∀ {H' H H0:Heap}{x:X},subN H' H->Inv x (H++H0)->∃N R:Heap,(∀p∈N,nilSeq p.2)∧(H'++R).Perm (N++H)
 | [],H,_,_,_,_=>⟨[],H,by simp,by simp⟩
 | (t,e)::r,H,H0,x,h,hi=>by
  simp only[subN]at h
  split at h
  ·rename_i e' hg
   obtain⟨rfl,h⟩:=h
   have hp:=hdel_perm hg
   have hi':Inv x (hdel t H++((t,e')::H0)):=hi.perm (by
    refine List.Perm.trans ?_ (hp.symm.append_right H0)
    exact List.perm_middle)
   obtain⟨N,R,hN,hpm⟩:=subN_perm h hi'
   refine⟨N,R,hN,?_⟩
   refine (List.Perm.cons _ hpm).trans ?_
   refine List.perm_middle.symm.trans ?_
   exact List.Perm.append_left N hp.symm
  ·obtain⟨hn,h⟩:=h
   obtain⟨N,R,hN,hpm⟩:=subN_perm h hi
   refine⟨(t,e)::N,R,?_,List.Perm.cons _ hpm⟩
   intro p hp
   rcases List.mem_cons.1 hp with rfl | hp
   ·exact hn
   ·exact hN p hp
theorem Inv.nils {x:X}{H:Heap}:∀ {N:Heap},(∀p∈N,nilSeq p.2)->Inv x H->Inv x (N++H)
 | [],_,h=>h
 | (t,e)::N,hN,h=>Inv.nil (Inv.nils (fun p hp=>hN p (by simp[hp])) h) (hN (t,e) (by simp))
theorem subN_inv {x:X}{H H' H0:Heap}(h:subN H' H) (hi:Inv x (H++H0)):Inv x (H'++H0):=by
 obtain⟨N,R,hN,hp⟩:=subN_perm h hi
 have h1:Inv x ((N++H)++H0):=by rw[List.append_assoc];exact Inv.nils hN hi
 have h2:Inv x ((H'++R)++H0):=h1.perm (hp.append_right H0)
 refine h2.sub ?_
 rw[List.append_assoc]
 exact (List.Sublist.refl H').append (List.sublist_append_right R H0)
theorem sets_wk {x:X}{E:Env}{tv:Nat->Value}(hE:∀t,D x (E t) (tv t)):∀(l:List (Nat×A)) (F:Env),(∀p∈l,wk (E p.1) p.2)->(∀t,D x (F t) (tv t))->∀t,D x (sets l F t) (tv t)
 | [],F,_,hF,t=>hF t
 | (s,a)::r,F,hl,hF,t=>by
  simp only[sets,upd]
  split
  ·rename_i h;subst h;exact wk_ok (hl (t,a) (by simp)) (hE t)
  ·exact sets_wk hE r F (fun p hp=>hl p (by simp[hp])) hF t
def kpH (own:Heap) (H:Heap):Heap:=H.filter fun p=>!(own.map (·.1)).contains p.1
@[simp] theorem kpH_n (own:Heap):kpH own []=[]:=id rfl
@[simp] theorem kpH_c (own:Heap) (p:Nat×Ent) (H:Heap):kpH own (p::H)=if (own.map (·.1)).contains p.1 then kpH own H else p::kpH own H:=by
 simp only[kpH,List.filter_cons]
 cases (own.map (·.1)).contains p.1<;>simp
def LoopQ (Q:PostQ) (nx:Env->Heap->Prop):PostQ:=fun e E H=>match e with
 | .normal=>nx E H
 | .exit k=>Q (.exit k) E H
 | .ret=>Q .ret E H
 | _=>False
@[simp] theorem LoopQ_n (Q:PostQ) (nx:Env->Heap->Prop) (E:Env) (H:Heap):LoopQ Q nx .normal E H=nx E H:=rfl
@[simp] theorem LoopQ_e (Q:PostQ) (nx:Env->Heap->Prop) (E:Env) (H:Heap) (k:Nat):LoopQ Q nx (.exit k) E H=Q (.exit k) E H:=rfl
@[simp] theorem LoopQ_r (Q:PostQ) (nx:Env->Heap->Prop) (E:Env) (H:Heap):LoopQ Q nx .ret E H=Q .ret E H:=rfl
@[congr] theorem LoopQ_congr {Q:PostQ}{nx:Env->Heap->Prop}{e e':Exit}{E:Env}{H:Heap}{z:Prop}(_:(True∧True)=z) (h:e=e'):LoopQ Q nx e E H=LoopQ Q nx e' E H:=by rw[h]
def hdH {σ:Type}(Hs:Nat->σ->Heap) (s0:σ) (H:Heap) (i:Nat) (s:σ):Heap:=Hs i s++kpH (Hs 0 s0) H
def hdE (kv:List (Nat×A)) (sl:List (Nat×A)):Env:=sets sl (sets kv anyE)
def hcat:Heap->Heap->Heap
 | [],K=>K
 | e::H,K=>e::hcat H K
@[simp] theorem hcat_n (K:Heap):hcat [] K=K:=id rfl
@[simp] theorem hcat_c (e:Nat×Ent) (H K:Heap):hcat (e::H) K=e::hcat H K:=id rfl
theorem V.forI {C:Cfg}{E:Env}{H:Heap}{Q:PostQ}{c:Code}{σ:Type}{kv:List (Nat×A)}{kh:Heap}(n:Nat) (Lv:List Nat) (hkv:kv=Lv.map fun t=>(t,E t)) (sl:Nat->σ->List (Nat×A)) (Hs:Nat->σ->Heap) (I:Nat->σ->Prop) (s0:σ)
  (hI0:I 0 s0) (hE0:∀p∈sl 0 s0,wk (E p.1) p.2) (hH0:kh=kpH (Hs 0 s0) H∧subN (hcat (Hs 0 s0) kh) H)
  (hb:∀i s,i<n->I i s->vcC C c (hdE kv (sl i s)) (hcat (Hs i s) kh) (LoopQ Q fun E' H'=>
   ∃s',I (i+1) s'∧(∀p∈sl (i+1) s',wk (E' p.1) p.2)∧(∀p∈kv,E' p.1=p.2)∧subN (hcat (Hs (i+1) s') kh) H'))
  (he:∀s,I n s->vcC C c (hdE kv (sl n s)) (hcat (Hs n s) kh) (LoopQ Q fun _ _=>False)):V C (.loop c) E H Q:=by
 intro hf x act H0 ms hi hen
 have hhead:∀ {i:Nat}{s:σ}{E':Env}{y:X}{a:Act}{ds:List Deferred},EnvOK C.n ds y a E'->(∀p∈sl i s,wk (E' p.1) p.2)->(∀p∈kv,E' p.1=p.2)->EnvOK C.n ds y a (hdE kv (sl i s)):=by
  intro i s E' y a ds h h1 h2
  refine⟨h.defers,h.size,sets_wk h.slot _ _ h1 (sets_wk h.slot _ _ ?_ fun t=>by simp[anyE,D])⟩
  intro p hp
  rw[h2 p hp]
  simp
 have h00:∀p∈kv,E p.1=p.2:=by
  intro p hp
  rw[hkv]at hp
  obtain⟨t,_,rfl⟩:=List.mem_map.1 hp
  rfl
 have key:W C (.loop c) (hdE kv (sl 0 s0)) (hcat (Hs 0 s0) kh) Q:=by
  refine W.loop (fun m E' H'=>∃i s,i<=n∧I i s∧n-i=m∧E'=hdE kv (sl i s)∧H'=hcat (Hs i s) kh) n ⟨0,s0,Nat.zero_le _,hI0,rfl,rfl,rfl⟩ ?_
  rintro m _ _ ⟨i,s,hin,hI,rfl,rfl,rfl⟩
  rcases Nat.lt_or_ge i n with hlt | hge
  ·have hw:=vcC_ok c _ _ _ hf (hb i s hlt hI)
   intro x act H0 ms hi hen
   refine wpIn_mono (hw x act H0 ms hi hen) ?_
   rintro e a' w' ⟨y,E',H',ms',rfl,hle,hi',he',hq⟩
   cases e with
   | normal=>
    obtain⟨s',h1,h3,h4,h5⟩:=hq
    exact⟨y,_,_,ms',rfl,hle,subN_inv h5 hi',hhead he' h3 h4,n-(i+1),by omega,i+1,s',by omega,h1,rfl,rfl,rfl⟩
   | exit k=>exact⟨y,E',H',ms',rfl,hle,hi',he',hq⟩
   | ret=>exact⟨y,E',H',ms',rfl,hle,hi',he',hq⟩
   | goto k=>exact hq.elim
   | panic k=>exact hq.elim
   | outgrown=>exact hq.elim
  ·obtain rfl:i=n:=by omega
   have hw:=vcC_ok c _ _ _ hf (he s hI)
   intro x act H0 ms hi hen
   refine wpIn_mono (hw x act H0 ms hi hen) ?_
   rintro e a' w' ⟨y,E',H',ms',rfl,hle,hi',he',hq⟩
   cases e with
   | normal=>exact hq.elim
   | exit k=>exact⟨y,E',H',ms',rfl,hle,hi',he',hq⟩
   | ret=>exact⟨y,E',H',ms',rfl,hle,hi',he',hq⟩
   | goto k=>exact hq.elim
   | panic k=>exact hq.elim
   | outgrown=>exact hq.elim
 exact key x act H0 ms (subN_inv hH0.2 hi) (hhead hen hE0 h00)
def FoldQ {σ δ:Type}(Q:PostQ) (st:Except δ σ) (all:Except δ σ) (nx:σ->Env->Heap->Prop):PostQ:=fun e E H=>match e with
 | .normal=>∃s',st=.ok s'∧nx s' E H
 | .exit k=>∃d,st=.error d∧(all=.error d->Q (.exit k) E H)
 | .ret=>∃d,st=.error d∧(all=.error d->Q .ret E H)
 | _=>False
@[simp] theorem FoldQ_n {σ δ:Type}(Q:PostQ) (st all:Except δ σ) (nx:σ->Env->Heap->Prop) (E:Env) (H:Heap):FoldQ Q st all nx .normal E H=∃s',st=.ok s'∧nx s' E H:=rfl
@[simp] theorem FoldQ_e {σ δ:Type}(Q:PostQ) (st all:Except δ σ) (nx:σ->Env->Heap->Prop) (E:Env) (H:Heap) (k:Nat):FoldQ Q st all nx (.exit k) E H=∃d,st=.error d∧(all=.error d->Q (.exit k) E H):=rfl
@[simp] theorem FoldQ_r {σ δ:Type}(Q:PostQ) (st all:Except δ σ) (nx:σ->Env->Heap->Prop) (E:Env) (H:Heap):FoldQ Q st all nx .ret E H=∃d,st=.error d∧(all=.error d->Q .ret E H):=rfl
@[congr] theorem FoldQ_congr {σ δ:Type}{Q:PostQ}{st st' all:Except δ σ}{nx:σ->Env->Heap->Prop}{e e':Exit}{E:Env}{H:Heap}{z:Prop}(_:(True∧True)=z) (h:e=e') (h2:st=st'):FoldQ Q st all nx e E H=FoldQ Q st' all nx e' E H:=by rw[h,h2]
theorem foldlM_take {σ δ ι:Type}{step:σ->ι->Except δ σ}{items:List ι}{s0 s:σ}{i:Nat}(h:(items.take i).foldlM step s0=.ok s) (hlt:i<items.length) :
  (items.take (i+1)).foldlM step s0=step s items[i]∧∀d,step s items[i]=.error d->items.foldlM step s0=.error d:=by
 have e1:items.take (i+1)=items.take i++[items[i]]:=by rw[List.take_add_one,List.getElem?_eq_getElem hlt];rfl
 have e2:items=items.take i++(items[i]::items.drop (i+1)):=by
  rw[<- List.drop_eq_getElem_cons hlt,List.take_append_drop]
 constructor
 ·rw[e1,List.foldlM_append,h]
  simp only[bind,Except.bind,List.foldlM_cons,List.foldlM_nil]
  cases step s items[i]<;>rfl
 ·intro d hd
  rw[e2,List.foldlM_append,h]
  simp only[bind,Except.bind,List.foldlM_cons,hd]
theorem V.forL {C:Cfg}{E:Env}{H:Heap}{Q:PostQ}{c:Code}{ι σ δ γ:Type}{kv:List (Nat×A)}{kh:Heap}(items:List ι) (Lv:List Nat) (hkv:kv=Lv.map fun t=>(t,E t)) (sl:Nat->σ->γ->List (Nat×A)) (Hs:Nat->σ->γ->Heap) (step:σ->ι->Except δ σ) (I:Nat->σ->Prop) (s0:σ) (g0:γ)
  (hI0:I 0 s0) (hE0:∀p∈sl 0 s0 g0,wk (E p.1) p.2) (hH0:kh=kpH (Hs 0 s0 g0) H∧subN (hcat (Hs 0 s0 g0) kh) H)
  (hb:∀i s g y (hlt:i<items.length),items[i]=y->I i s->(items.take i).foldlM step s0=.ok s->vcC C c (hdE kv (sl i s g)) (hcat (Hs i s g) kh) (FoldQ Q (step s y) (items.foldlM step s0) fun s' E' H'=>
   I (i+1) s'∧∃g',(∀p∈sl (i+1) s' g',wk (E' p.1) p.2)∧(∀p∈kv,E' p.1=p.2)∧subN (hcat (Hs (i+1) s' g') kh) H'))
  (he:∀s g,I items.length s->items.foldlM step s0=.ok s->vcC C c (hdE kv (sl items.length s g)) (hcat (Hs items.length s g) kh) (LoopQ Q fun _ _=>False)):V C (.loop c) E H Q:=by
 refine V.forI (σ:=σ×γ) items.length Lv hkv (fun i p=>sl i p.1 p.2) (fun i p=>Hs i p.1 p.2) (fun i p=>I i p.1∧(items.take i).foldlM step s0=.ok p.1) (s0,g0) ⟨hI0,rfl⟩ hE0 hH0 ?_ ?_
 ·rintro i ⟨s,g⟩ hlt ⟨hI,hf⟩
  obtain⟨h1,h2⟩:=foldlM_take hf hlt
  refine vcC_mono c ?_ (hb i s g _ hlt rfl hI hf)
  intro e E' H' hq
  cases e with
  | normal=>
   obtain⟨s',h3,h4,g',h5⟩:=hq
   exact⟨(s',g'),⟨h4,by rw[h1];exact h3⟩,h5⟩
  | exit k=>obtain⟨d,h3,h4⟩:=hq;exact h4 (h2 d h3)
  | ret=>obtain⟨d,h3,h4⟩:=hq;exact h4 (h2 d h3)
  | goto k=>exact hq
  | panic k=>exact hq
  | outgrown=>exact hq
 ·rintro⟨s,g⟩ ⟨hI,hf⟩
  rw[List.take_length]at hf
  exact he s g hI hf
mutual
def frz (H:Heap):A->Prop×A
 | .own t h=>match hget t H with
  | some (.seq h' _ _ rows)=>(h'=h∧allD rows=true,.dat (.sl (rowsD rows)))
  | _=>(True,.own t h)
 | .nils=>(True,.dat (.sl []))
 | .agg az=>((frzs H az).1,packA (frzs H az).2)
 | .tuple az=>((frzs H az).1,.tuple (frzs H az).2)
 | a=>(True,a)
def frzs (H:Heap):List A->Prop×List A
 | []=>(True,[])
 | a::az=>((frz H a).1∧(frzs H az).1,(frz H a).2::(frzs H az).2)
end
mutual
theorem frz_ok {x:X}{H H0:Heap}(hi:Inv x (H++H0)) {y:X}(hle:x.le y) (hw:y.w=x.w) (hok:∀b,(∃p∈H,p.2.own b)->y.ok b):∀(a:A) (v:Value),D x a v->(frz H a).1->D y (frz H a).2 v
 | .own t h,v,hv,hp=>by
  simp only[frz]at hp ⊢
  simp only[D]at hv
  split at hp
  ·rename_i h' e sz rows hg
   obtain⟨rfl,hd⟩:=hp
   simp only[D]
   have hs:=hget_sat hi hg
   rw[hv.1]
   refine seq_data (Ent.sat_step hle (fun b _=>by rw[hw]) hs) (fun b hb=>hok b ⟨_,hget_mem hg,hb⟩) hd
  ·simpa [D]using hv
 | .nils,v,hv,_=>by simp only[D]at hv;subst hv;simp[frz,D,RdL]
 | .agg az,v,hv,hp=>by
  simp only[frz]at hp ⊢
  simp only[D]at hv
  obtain⟨vs,rfl,hds⟩:=hv
  exact packA_ok (frzs_ok hi hle hw hok az _ hds hp)
 | .tuple az,v,hv,hp=>by
  simp only[frz]at hp ⊢
  simp only[D]at hv ⊢
  obtain⟨vs,rfl,hds⟩:=hv
  exact⟨vs,rfl,frzs_ok hi hle hw hok az _ hds hp⟩
 | .any,v,hv,_=>by simpa [frz]using hv.mono hle
 | .undef,v,hv,_=>by simpa [frz]using hv.mono hle
 | .dat _,v,hv,_=>by simpa [frz]using hv.mono hle
 | .nn _,v,hv,_=>by simpa [frz]using hv.mono hle
 | .clip _,v,hv,_=>by simpa [frz]using hv.mono hle
 | .owd _ _,v,hv,_=>by simpa [frz]using hv.mono hle
 | .record _,v,hv,_=>by simpa [frz]using hv.mono hle
 | .ptr _ _ _,v,hv,_=>by simpa [frz]using hv.mono hle
 | .rptr _,v,hv,_=>by simpa [frz]using hv.mono hle
 | .nilp,v,hv,_=>by simpa [frz]using hv.mono hle
 | .fn _ _ _,v,hv,_=>by simpa [frz]using hv.mono hle
 | .nilf,v,hv,_=>by simpa [frz]using hv.mono hle
 | .map _ _,v,hv,_=>by simpa [frz]using hv.mono hle
 | .yld _,v,hv,_=>by simpa [frz]using hv.mono hle
 | .cond _ _,v,hv,_=>by simpa [frz]using hv.mono hle
 | .eptr _ _ _ _ _,v,hv,_=>by simpa [frz]using hv.mono hle
theorem frzs_ok {x:X}{H H0:Heap}(hi:Inv x (H++H0)) {y:X}(hle:x.le y) (hw:y.w=x.w) (hok:∀b,(∃p∈H,p.2.own b)->y.ok b):∀(az:List A) (vs:List Value),Ds x az vs->(frzs H az).1->Ds y (frzs H az).2 vs
 | [],[],_,_=>by simp[frzs,Ds]
 | a::az,v::vs,hd,hp=>by
  simp only[Ds]at hd
  simp only[frzs]at hp ⊢
  simp only[Ds]
  exact⟨frz_ok hi hle hw hok a v hd.1 hp.1,frzs_ok hi hle hw hok az vs hd.2 hp.2⟩
 | [],_::_,h,_=>by simp[Ds]at h
 | _::_,[],h,_=>by simp[Ds]at h
end
theorem CallS.frz {g:FuncId}{az:List A}{H:Heap}{K:A->Heap->Prop}{r:A}(h:CallS P g az H K) (hk:∀r' H',K r' H'->(Go.Proofs.YtafamcbdaeppoaaGreatDoor.frz H' r').1∧(Go.Proofs.YtafamcbdaeppoaaGreatDoor.frz H' r').2=r):CallS P g az H fun r' H'=>r'=r∧H'=[]:=by
 refine⟨h.1,fun x args H0 hi hd=>(h.2 x args H0 hi hd).mono ?_⟩
 rintro _ _ ⟨y,v,r',H',rfl,rfl,hle,hi',hv,hkk⟩
 obtain⟨h1,rfl⟩:=hk r' H' hkk
 obtain⟨z,hw,hle2,hi2,hok,_⟩:=hi'.freeze
 exact⟨z,v,_,[],rfl,hw,hle.trans hle2,hi2,frz_ok hi' hle2 hw hok r' v hv h1,rfl,rfl⟩
theorem callFz_of {g:FuncId}{fn:Func}{c:Code}{n:Nat}{rs:List ResultVar}{az:List A}{r:A}(hf:P.funcs[g]?=some fn) (hb:fn.body=some c) (hn:fn.ntmps=n)
  (hr:fn.results=rs.toArray) (hnm:(fn.name == "runtime.NumGoroutine")=false) (hl:az.length<=n) (hfit:fitsC n c=true)
  (h:vcC ⟨P,none,n⟩ c (envOf az) [] (RetV P rs fun r' H'=>(frz H' r').1∧(frz H' r').2=r)):CallFn P g az r:=
 (callS_of hf hb hn hr hnm hl hfit h).frz fun _ _ h=>h
theorem CallS.fn {g:FuncId}{az:List A}{K:A->Heap->Prop}{r:A}(h:CallS P g az [] K) (hk:∀r' H',K r' H'->(Go.Proofs.YtafamcbdaeppoaaGreatDoor.frz H' r').1∧(Go.Proofs.YtafamcbdaeppoaaGreatDoor.frz H' r').2=r):CallFn P g az r:=h.frz hk
def ownAt (H:Heap) (e:TypeId) (sz:Nat) (rows:List (List A)):A->Prop
 | .own t h=>hget t H=some (.seq h e sz rows)
 | .nils=>rows=[]
 | _=>False
theorem hget_sub {g:Nat}{e:Ent}:∀ {H:Heap},hget g H=some e->List.Sublist [(g,e)] H:=fun h=>List.singleton_sublist.2 (hget_mem h)
theorem CallS.own {g:FuncId}{az:List A}{e:TypeId}{sz:Nat}{rows:List (List A)}(h:CallS P g az [] fun r H'=>ownAt H' e sz rows r):CallOwn P g az e sz rows:=by
 refine⟨h.1,fun x args H0 hi hd=>(h.2 x args H0 hi hd).mono ?_⟩
 rintro _ _ ⟨y,v,r,H',rfl,rfl,hle,hi',hv,hk⟩
 cases r<;>simp only[ownAt]at hk
 ·subst hk
  simp only[D]at hv
  subst hv
  exact⟨y,_,.own 0 (.slice none 0 0),[(0,.seq (.slice none 0 0) e sz [])],rfl,rfl,hle,Inv.nil (hi'.sub (List.sublist_append_right _ _)) ⟨rfl,rfl⟩,by simp[D],0,_,rfl,rfl⟩
 ·rename_i t hh
  exact⟨y,v,.own t hh,[(t,.seq hh e sz rows)],rfl,rfl,hle,hi'.sub ((hget_sub hk).append (List.Sublist.refl _)),hv,t,hh,rfl,rfl⟩
theorem callO_of {g:FuncId}{fn:Func}{c:Code}{n:Nat}{rs:List ResultVar}{az:List A}{e:TypeId}{sz:Nat}{rows:List (List A)}(hf:P.funcs[g]?=some fn) (hb:fn.body=some c) (hn:fn.ntmps=n)
  (hr:fn.results=rs.toArray) (hnm:(fn.name == "runtime.NumGoroutine")=false) (hl:az.length<=n) (hfit:fitsC n c=true)
  (h:vcC ⟨P,none,n⟩ c (envOf az) [] (RetV P rs fun r H'=>ownAt H' e sz rows r)):CallOwn P g az e sz rows:=
 (callS_of hf hb hn hr hnm hl hfit h).own
theorem CallOwn.s {g:FuncId}{az:List A}{e:TypeId}{sz:Nat}{rows:List (List A)}(h:CallOwn P g az e sz rows) {H:Heap}{K:A->Heap->Prop}(τ:Nat) (hk:∀hd,K (.own τ hd) ((τ,.seq hd e sz rows)::H)):CallS P g az H K:=by
 refine⟨h.1,fun x args H0 hi hd=>((CallS.frame (H1:=H) h).2 x args H0 hi hd).mono ?_⟩
 rintro _ _ ⟨y,v,r,H',rfl,rfl,hle,hi',hv,H2,⟨t,hh,rfl,rfl⟩,rfl⟩
 exact⟨y,v,.own τ hh,_,rfl,rfl,hle,hi'.ents (H':=((τ,.seq hh e sz rows)::H)++H0) (by simp),by simpa [D]using hv,hk hh⟩
theorem CallOwn.fn {g:FuncId}{az:List A}{e:TypeId}{sz:Nat}{rows:List (List A)}(h:CallOwn P g az e sz rows) (hd:allD rows=true):CallFn P g az (.dat (.sl (rowsD rows))):=by
 refine CallS.fn h ?_
 rintro r H' ⟨t,hh,rfl,rfl⟩
 simp[Go.Proofs.YtafamcbdaeppoaaGreatDoor.frz,hget,hd]
mutual
def flatL:L->Bool
 | .sl []=>true
 | .sl _=>false
 | _=>true
end
def flatV:A->Bool
 | .dat l=>flatL l
 | .record ls=>ls.all flatL
 | .agg az=>az.all fun a=>match a with
  | .dat l=>flatL l
  | .own _ _=>true
  | .nils=>true
  | _=>false
 | .tuple az=>az.all fun a=>match a with
  | .dat l=>flatL l
  | .own _ _=>true
  | .nils=>true
  | .record ls=>ls.all flatL
  | _=>false
 | .own _ _=>true
 | .nils=>true
 | .undef=>true
 | .nilp=>true
 | .any=>true
 | _=>false
theorem flatL_ok {x y:X}{l:L}{v:Value}(h:flatL l=true) (hv:RdL x l v):RdL y l v:=by
 cases l with
 | int k n=>simpa [RdL]using hv
 | bool b=>simpa [RdL]using hv
 | str s=>simpa [RdL]using hv
 | sl xs=>
  cases xs with
  | nil=>
   simp only[RdL]at hv ⊢
   rcases hv with h1 | ⟨b,off,cap,e,hc,_⟩|h1
   ·exact .inl h1
   ·exact .inr (.inl ⟨b,off,cap,e,hc,by simp[RdRows]⟩)
   ·exact .inr (.inr h1)
  | cons a r=>simp[flatL]at h
theorem flatLs_ok {x y:X}:∀ {ls:List L}{vs:List Value},ls.all flatL=true->RdLs x ls vs->RdLs y ls vs
 | [],[],_,_=>by simp[RdLs]
 | l::ls,v::vs,h,hv=>by
  simp only[List.all_cons,Bool.and_eq_true]at h
  simp only[RdLs]at hv ⊢
  exact⟨flatL_ok h.1 hv.1,flatLs_ok h.2 hv.2⟩
 | [],_::_,_,h=>by simp[RdLs]at h
 | _::_,[],_,h=>by simp[RdLs]at h
theorem flatDs_ok {x y:X}{f:A->Bool}(hf:∀a v,f a=true->D x a v->D y a v):∀ {az:List A}{vs:List Value},az.all f=true->Ds x az vs->Ds y az vs
 | [],[],_,_=>by simp[Ds]
 | l::ls,v::vs,h,hv=>by
  simp only[List.all_cons,Bool.and_eq_true]at h
  simp only[Ds]at hv ⊢
  exact⟨hf _ _ h.1 hv.1,flatDs_ok hf h.2 hv.2⟩
 | [],_::_,_,h=>by simp[Ds]at h
 | _::_,[],_,h=>by simp[Ds]at h
theorem flatV_ok {x y:X}{a:A}{v:Value}(h:flatV a=true) (hv:D x a v):D y a v:=by
 cases a<;>simp only[flatV,Bool.false_eq_true]at h<;>simp only[D]at hv ⊢<;>try exact hv
 ·exact flatL_ok h hv
 ·obtain⟨vs,rfl,hr⟩:=hv
  exact⟨vs,rfl,flatLs_ok h hr⟩
 ·obtain⟨vs,rfl,hr⟩:=hv
  refine⟨vs,rfl,flatDs_ok ?_ h hr⟩
  intro a v ha hd
  split at ha<;>first | (simp only[D]at hd ⊢;first | exact hd | exact flatL_ok ha hd) | cases ha
 ·obtain⟨vs,rfl,hr⟩:=hv
  refine⟨vs,rfl,flatDs_ok ?_ h hr⟩
  intro a v ha hd
  split at ha<;>first | (simp only[D]at hd ⊢;first | exact hd | exact flatL_ok ha hd | (obtain⟨vs,rfl,hr⟩:=hd;exact⟨vs,rfl,flatLs_ok ha hr⟩)) | cases ha
def flatE:Ent->Bool
 | .seq _ _ _ rows=>rows.all (·.all flatV)
 | _=>false
theorem flatE_ok {x y:X}{e:Ent}(h:flatE e=true) (hw:∀b,e.own b->y.w.heap[b]?=x.w.heap[b]?) (hs:e.sat x):e.sat y:=by
 cases e<;>simp only[flatE,Bool.false_eq_true]at h
 rename_i v e sz rows
 obtain⟨xs,⟨h1,h2⟩,h3,h4⟩:=hs
 refine⟨xs,⟨h1,?_⟩,h3,flatDs_ok (f:=flatV) (fun a v ha hd=>flatV_ok ha hd) ?_ h4⟩
 ·rcases h2 with h2 | ⟨g,cap,cur,rfl,h5,h6,h7⟩
  ·exact .inl h2
  ·exact .inr ⟨g,cap,cur,rfl,h5,by rw[hw g rfl];exact h6,h7⟩
 ·rw[List.all_eq_true]at h ⊢
  intro a ha
  obtain⟨r,hr,ha⟩:=List.mem_flatten.1 ha
  exact List.all_eq_true.1 (h r hr) a ha
def Ent.blks:Ent->List Nat
 | .box b _=>[b]
 | .seq h _ _ _=>h.ownBlock.toList
 | .raw b _=>[b]
 | .map b _ _=>[b]
 | .mapS b _ _=>[b]
 | .mapK b _ _=>[b]
 | .loop b _ _ _ _ _ _ _=>[b]
 | .seqs l=>l.filterMap (·.1.ownBlock)
theorem Ent.blk_own {e:Ent}{b:Nat}:e.own b↔b∈e.blks:=by
 cases e<;>simp[Ent.own,Ent.blks]
theorem Ent.blks_apart {x:X}{e:Ent}(h:e.sat x):e.blks.Pairwise (·≠·):=by
 cases e with
 | seq v e sz rows=>simp only[Ent.blks];cases v.ownBlock<;>simp
 | seqs l=>
  refine List.Pairwise.filterMap _ ?_ h.2
  intro p q hpq a ha c hc e
  subst e
  exact hpq a ha hc
 | box _ _=>simp[Ent.blks]
 | raw _ _=>simp[Ent.blks]
 | map _ _ _=>simp[Ent.blks]
 | mapS _ _ _=>simp[Ent.blks]
 | mapK _ _ _=>simp[Ent.blks]
 | loop _ _ _ _ _ _ _ _=>simp[Ent.blks]
def rawsOf (x:X) (H:Heap):Heap:=H.flatMap fun p=>p.2.blks.map fun b=>(0,.raw b ((x.w.heap[b]?).getD (.deferred none)))
theorem rawsOf_mem {x:X}{H:Heap}{q:Nat×Ent}(hq:q∈rawsOf x H):∃p∈H,∃b,p.2.own b∧q=(0,.raw b ((x.w.heap[b]?).getD (.deferred none))):=by
 obtain⟨p,hp,h⟩:=List.mem_flatMap.1 hq
 obtain⟨b,hb,rfl⟩:=List.mem_map.1 h
 exact⟨p,hp,b,Ent.blk_own.2 hb,rfl⟩
theorem rawsOf_of {x:X}{H:Heap}{p:Nat×Ent}{b:Nat}(hp:p∈H) (hb:p.2.own b):((0,.raw b ((x.w.heap[b]?).getD (.deferred none))):Nat×Ent)∈rawsOf x H:=
 List.mem_flatMap.2 ⟨p,hp,List.mem_map.2 ⟨b,Ent.blk_own.1 hb,rfl⟩⟩
theorem Inv.raws {x:X}{H:Heap}(hi:Inv x H):Inv x (rawsOf x H):=by
 refine⟨hi.bd,?_,?_,?_⟩
 ·intro q hq
  obtain⟨p,hp,b,hb,rfl⟩:=rawsOf_mem hq
  have hlt:=(hi.own p hp b hb).1
  show x.w.heap[b]?=some _
  simp[hlt]
 ·intro q hq b hb
  obtain⟨p,hp,b',hb',rfl⟩:=rawsOf_mem hq
  simp only[Ent.own]at hb
  subst hb
  exact hi.own p hp b hb'
 ·refine List.pairwise_flatMap.2 ⟨fun p hp=>?_,hi.apart.imp ?_⟩
  ·rw[List.pairwise_map]
   refine (Ent.blks_apart (hi.sat p hp)).imp ?_
   intro a c hac b h1 h2
   simp only[Ent.own]at h1 h2
   exact hac (h1.symm.trans h2)
  ·intro p q hpq r hr s hs b h1 h2
   obtain⟨b1,hb1,rfl⟩:=List.mem_map.1 hr
   obtain⟨b2,hb2,rfl⟩:=List.mem_map.1 hs
   simp only[Ent.own]at h1 h2
   subst h1
   subst h2
   exact hpq _ (Ent.blk_own.2 hb1) (Ent.blk_own.2 hb2)
theorem CallS.lend {g:FuncId}{az az':List A}{H:Heap}{K K':A->Heap->Prop}(h:CallS P g az' [] K') (hz:(frzs H az).1∧(frzs H az).2=az')
  (hk:∀r H',K' r H'->flatV r=true∧(∀p∈H',flatE p.2=true)∧K r (H'++H)):CallS P g az H K:=by
 obtain⟨hz1,rfl⟩:=hz
 refine⟨h.1,fun x args H0 hi hd=>?_⟩
 obtain⟨x',hw,hle,hi0,hok,hok'⟩:=hi.freeze
 have hd':=frzs_ok hi hle hw hok az _ hd hz1
 have hr:=hi0.raws
 have:=h.2 x' args (rawsOf x' H0) (by simpa using hr) hd'
 rw[hw]at this
 refine this.mono ?_
 rintro _ _ ⟨y',v,r,H',rfl,rfl,hley,hiy,hv,hkk⟩
 obtain⟨k1,k2,k3⟩:=hk r H' hkk
 let y:X:=⟨y'.w,fun b=>y'.ok b∧¬ ∃p∈H,p.2.own b⟩
 have hown:∀p∈H,∀b,p.2.own b->b<x.w.heap.size∧¬x.ok b:=fun p hp b hb=>hi.own p (List.mem_append.2 (.inl hp)) b hb
 have hlexy:x.le y:=by
  refine⟨fun b hb=>⟨⟨(hley.keep b (hle.keep b hb).1).1,fun ⟨p,hp,ho⟩=>(hown p hp b ho).2 hb⟩,?_⟩,?_,?_,?_,?_,?_⟩
  ·exact ((hley.keep b (hle.keep b hb).1).2).trans (hle.keep b hb).2
  ·exact hley.os.trans hle.os
  ·exact hley.output.trans hle.output
  ·exact hley.tape.trans hle.tape
  ·exact Nat.le_trans hle.size hley.size
  ·exact Nat.le_trans hle.drawn hley.drawn
 have hH:∀p∈H,∀b,p.2.own b->y'.ok b∧y'.w.heap[b]?=x.w.heap[b]?:=fun p hp b hb=>by
  have h1:=hley.keep b (hok b ⟨p,hp,hb⟩)
  exact⟨h1.1,by rw[h1.2,hw]⟩
 have hH0:∀p∈H0,∀b,p.2.own b->y'.w.heap[b]?=x.w.heap[b]?∧¬y'.ok b:=fun p hp b hb=>by
  have hm:=rawsOf_of (x:=x') hp hb
  have h1:y'.w.heap[b]?=some _:=hiy.sat _ (List.mem_append.2 (.inr hm))
  have hlt:=(hi0.own p hp b hb).1
  refine⟨by rw[h1,<- hw];simp[hlt],(hiy.own _ (List.mem_append.2 (.inr hm)) b rfl).2⟩
 refine⟨y,v,r,H'++H,rfl,rfl,hlexy,?_,flatV_ok k1 hv,k3⟩
 rw[List.append_assoc]
 have sz:∀b,b<x.w.heap.size->b<y.w.heap.size:=fun b hb=>Nat.lt_of_lt_of_le hb hlexy.size
 refine⟨⟨fun b hb=>hiy.bd b hb.1,hi.bd.tab.mono hlexy⟩,?_,?_,?_⟩
 ·intro p hp
  rcases List.mem_append.1 hp with hp | hp
  ·exact flatE_ok (x:=y') (y:=y) (k2 p hp) (fun _ _=>rfl) (hiy.sat p (List.mem_append.2 (.inl hp)))
  ·refine Ent.sat_step hlexy (fun b hb=>?_) (hi.sat p hp)
   rcases List.mem_append.1 hp with hp | hp
   ·exact (hH p hp b hb).2
   ·exact (hH0 p hp b hb).1
 ·intro p hp b hb
  rcases List.mem_append.1 hp with hp | hp
  ·have:=hiy.own p (List.mem_append.2 (.inl hp)) b hb
   exact⟨this.1,fun hh=>this.2 hh.1⟩
  ·rcases List.mem_append.1 hp with hp | hp
   ·exact⟨sz b (hown p hp b hb).1,fun hh=>hh.2 ⟨p,hp,hb⟩⟩
   ·exact⟨sz b (hi.own p (List.mem_append.2 (.inr hp)) b hb).1,fun hh=>(hH0 p hp b hb).2 hh.1⟩
 ·refine List.pairwise_append.2 ⟨(List.pairwise_append.1 hiy.apart).1,hi.apart,?_⟩
  intro p hp q hq b h1 h2
  have hpn:=hiy.own p (List.mem_append.2 (.inl hp)) b h1
  rcases List.mem_append.1 hq with hq | hq
  ·exact hpn.2 (hH q hq b h2).1
  ·exact (List.pairwise_append.1 hiy.apart).2.2 p hp _ (rawsOf_of (x:=x') hq h2) b h1 rfl
theorem CallFn.lend {g:FuncId}{az az':List A}{H:Heap}{K:A->Heap->Prop}{r:A}(h:CallFn P g az' r) (hz:(frzs H az).1∧(frzs H az).2=az') (hf:flatV r=true) (hk:K r H):CallS P g az H K:=
 CallS.lend (K':=fun r' H'=>r'=r∧H'=[]) h hz (by rintro _ _ ⟨rfl,rfl⟩;exact⟨hf,by simp,by simpa using hk⟩)
@[simp] theorem flatE_i {α:Type}(f:α->Int) (k:IntKind) (hd:Value) (e sz:Nat) (xs:List α):flatE (.seq hd e sz (xs.map fun a=>[A.dat (.int k (f a))]))=true:=by simp[flatE,flatV,flatL]
@[simp] theorem flatE_b {α:Type}(f:α->Bool) (hd:Value) (e sz:Nat) (xs:List α):flatE (.seq hd e sz (xs.map fun a=>[A.dat (.bool (f a))]))=true:=by simp[flatE,flatV,flatL]
theorem CallS.frzPart {g:FuncId}{az:List A}{K:A->Heap->Prop}{H:Heap}{ρ:A}(h:CallS P g az H fun r H'=>∃H2,K r H2∧H'=H2++H) (hk:∀r H',K r H'->(Go.Proofs.YtafamcbdaeppoaaGreatDoor.frz H' r).1∧(Go.Proofs.YtafamcbdaeppoaaGreatDoor.frz H' r).2=ρ):CallS P g az H fun r' H'=>r'=ρ∧H'=H:=by
 refine⟨h.1,fun x args H0 hi hd=>(h.2 x args H0 hi hd).mono ?_⟩
 rintro _ _ ⟨y,v,r,H',rfl,rfl,hle,hi',hv,H2,hkk,rfl⟩
 obtain⟨h1,rfl⟩:=hk r H2 hkk
 rw[List.append_assoc]at hi'
 obtain⟨z,hw,hle2,hi2,hok,_⟩:=hi'.freeze
 exact⟨z,v,_,H,rfl,hw,hle.trans hle2,hi2,frz_ok hi' hle2 hw hok r v hv h1,rfl,rfl⟩
attribute [simp] hdE ownAt frz frzs flatV flatL flatE subN nilSeq
end
abbrev encI (n:Int):List L:=[.int .i64 n]
abbrev encB (b:Bool):List L:=[.bool b]
abbrev encT (s:List UInt8):List L:=[.str s]
abbrev aI (n:Int):A:=.dat (.int .i64 n)
abbrev aB (b:Bool):A:=.dat (.bool b)
abbrev aT (s:List UInt8):A:=.dat (.str s)
abbrev aIs (xs:List Int):A:=.dat (.sl (xs.map encI))
abbrev aBs (xs:List Bool):A:=.dat (.sl (xs.map encB))
abbrev aTs (xs:List (List UInt8)):A:=.dat (.sl (xs.map encT))
abbrev rI (n:Int):List A:=[.dat (.int .i64 n)]
abbrev rB (b:Bool):List A:=[.dat (.bool b)]
abbrev rT (s:List UInt8):List A:=[.dat (.str s)]
structure Signal where
 name:List UInt8
 kind:Int
 on:Expr
 off:Expr
 delay:Int
 init:Bool
abbrev encS (s:Signal):List L:=[.str s.name,.int .i64 s.kind,.int .i64 s.on.op,.int .i64 s.on.index,.sl (s.on.args.map encE),.int .i64 s.off.op,.int .i64 s.off.index,.sl (s.off.args.map encE),.int .i64 s.delay,.bool s.init]
structure Control where
 actuators:Int
 inputs:List (List UInt8)
 signals:List Signal
 plus:List Int
 minus:List Int
abbrev encC (c:Control):List L:=[.int .i64 c.actuators,.sl (c.inputs.map encT),.sl (c.signals.map encS),.sl (c.plus.map encI),.sl (c.minus.map encI)]
abbrev aC (c:Control):A:=.record (encC c)
structure State where
 ends:List Int
 valves:List Bool
 inputs:List Bool
 values:List Bool
 timers:List Int
 deriving DecidableEq
abbrev encSt (s:State):List L:=[.sl (s.ends.map encI),.sl (s.valves.map encB),.sl (s.inputs.map encB),.sl (s.values.map encB),.sl (s.timers.map encI)]
abbrev aSt (s:State):A:=.record (encSt s)
abbrev Sh {α:Type}(l:List α):Prop:=l.length<=9223372036854775807
abbrev I64 (n:Int):Prop:=-9223372036854775808<=n∧n<=9223372036854775807
structure OkS (s:Signal):Prop where
 name:Sh s.name
 kind:I64 s.kind
 on:OkE s.on
 off:OkE s.off
 delay:I64 s.delay
structure OkC (c:Control):Prop where
 actuators:I64 c.actuators
 inputs:Sh c.inputs
 names:∀s∈c.inputs,Sh s
 signals:Sh c.signals
 sigs:∀s∈c.signals,OkS s
 plus:Sh c.plus
 minus:Sh c.minus
 plusI:∀n∈c.plus,I64 n
 minusI:∀n∈c.minus,I64 n
structure OkSt (s:State):Prop where
 ends:Sh s.ends
 valves:Sh s.valves
 inputs:Sh s.inputs
 values:Sh s.values
 timers:Sh s.timers
 endsI:∀n∈s.ends,I64 n
 timersI:∀n∈s.timers,I64 n
structure Sm (c:Control):Prop where
 act : -1000000<=c.actuators∧c.actuators<=1000000
 inp:c.inputs.length<=1000000
 sig:c.signals.length<=1000000
end Go.Proofs.YtafamcbdaeppoaaGreatDoor
