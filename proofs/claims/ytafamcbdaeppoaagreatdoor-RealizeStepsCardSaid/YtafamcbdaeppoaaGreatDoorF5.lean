/- Texts joined by a program: Fwj,Fwk,Fwl. -/
import Derived.Test.YtafamcbdaeppoaaGreatDoorF4
set_option linter.unusedSimpArgs false
set_option linter.unusedVariables false
namespace Go.Proofs.YtafamcbdaeppoaaGreatDoor
section
variable {P:Program}
def gq (E:Env) (ops:List Oper) (j:Nat) (want:Bool):Option Prop:=
 match (ops[j]?).bind (·.dst) with
 | some s=>match E s with
  | .cond p (.dat (.bool b))=>some (p∧b=want)
  | .dat (.bool b)=>some (b=want)
  | _=>none
 | none=>none
def GCall (P:Program) (q p:Prop) (g:FuncId) (az:List A) (H:Heap) (K:A->Heap->Prop):Prop:=
 (∃r,(q->p∧CallFn P g az r)∧K r H)∨((q->p∧CallS P g az H K)∧(¬q->∃r,K r H))
theorem GCall.fn {q p:Prop}{g:FuncId}{az:List A}{H:Heap}{K:A->Heap->Prop}(r:A) (h:q->p∧CallFn P g az r) (hk:K r H):GCall P q p g az H K:=.inl ⟨r,h,hk⟩
theorem GCall.ways {q p:Prop}{g:FuncId}{az:List A}{H:Heap}{K:A->Heap->Prop}(h1:q->p∧CallS P g az H K) (h2:¬q->∃r,K r H):GCall P q p g az H K:=.inr ⟨h1,h2⟩
def reads:Op->Bool
 | .load ..=>true
 | .indexAddr ..=>true
 | .lookup ..=>true
 | .call c=>match c.callee with
  | .builtin .len=>true
  | _=>false
 | _=>false
theorem reads_fix {u u':Value}{b b' τ τ':Nat}{E:Env}{G:Nat->Option Ent}{o:Op}(h:reads o=true):heapF P u b τ E G o=heapF P u' b' τ' E G o:=by
 cases o<;>simp only[reads,Bool.false_eq_true]at h<;>try rfl
 rename_i c
 simp only[heapF]
 split at h<;>try (cases h;done)
 rename_i hc
 rw[hc]
 split<;>first | rfl | (rename_i h1 _ _;cases h1)
def vcOp (P:Program) (op:Op) (d:Option Nat) (E:Env) (H:Heap) (K:Env->Heap->Prop):Prop:=
 match pureA P E op with
 | some (p,a)=>p∧K (put E d a) H
 | none=>match callA E op with
  | some (p,g,az)=>p∧CallS P g az H fun r H'=>K (put E d r) H'
  | none=>match yldA E op with
  | some (p,l,az)=>p∧CallY P l az H fun r H'=>K (put E d r) H'
  | none=>∀u b,match heapF P u b (d.getD 0) E (fun t=>hget t H) op with
   | some (p,a,ch)=>p∧K (put E d a) (happ ch H)
   | none=>False
def vcOps (P:Program) (ops:List Oper):List Oper->Env->Heap->(Env->Heap->Prop)->Prop
 | [],E,H,K=>K E H
 | o::rest,E,H,K=>match o.guard with
  | none=>vcOp P o.op o.dst E H fun E' H'=>vcOps P ops rest E' H' K
  | some (j,want)=>match gq E ops j want with
   | none=>False
   | some q=>match pureA P E o.op with
    | some (p,a)=>(q->p)∧vcOps P ops rest (put E o.dst (.cond q a)) H K
    | none=>match callA E o.op with
     | some (p,g,az)=>GCall P q p g az H (fun r H'=>vcOps P ops rest (put E o.dst (.cond q r)) H' K)
     | none=>match heapF P .nilIface 0 0 E (fun t=>hget t H) o.op with
      | some (p,a,none)=>(q->p)∧reads o.op=true∧vcOps P ops rest (put E o.dst (.cond q a)) H K
      | _=>¬q∧vcOps P ops rest (put E o.dst (.cond q (.dat (.bool false)))) H K
def isDefer:Op->Bool
 | .defer _=>true
 | _=>false
theorem gq_ok {n:Nat}{ds:List Deferred}{x:X}{act:Act}{E:Env}(he:EnvOK n ds x act E) {ops:List Oper}{o:Oper}{j:Nat}{want:Bool}{q:Prop}(hg:o.guard=some (j,want))
  (h:gq E ops j want=some q):(q->Region.wanted o (yielded ops.toArray act.tmps)=true)∧(¬q->Region.wanted o (yielded ops.toArray act.tmps)=false):=by
 unfold gq at h
 split at h<;>try (simp at h;done)
 rename_i s hs
 have hsl:=he.slot s
 have hy:yielded ops.toArray act.tmps j=match act.tmps[s]? with | some (.bool b)=>some b | _=>none:=by
  simp only[yielded,List.getElem?_toArray,hs,Option.bind_some]
  rfl
 have hun:∀v,act.tmps.getD s Go.undef=v->v≠Go.undef->act.tmps[s]?=some v:=by
  intro v hv hne
  rw[Array.getD_eq_getD_getElem?]at hv
  cases hh:act.tmps[s]? with
  | none=>rw[hh]at hv;exact absurd hv.symm hne
  | some u=>rw[hh]at hv;simpa using hv
 have hnone:act.tmps.getD s Go.undef=Go.undef->yielded ops.toArray act.tmps j=none:=by
  intro hv
  rw[hy]
  rw[Array.getD_eq_getD_getElem?]at hv
  cases hh:act.tmps[s]? with
  | none=>rfl
  | some u=>rw[hh]at hv;simp only[Option.getD_some]at hv;subst hv;rfl
 have hbool:∀b:Bool,act.tmps.getD s Go.undef=.bool b->yielded ops.toArray act.tmps j=some b:=by
  intro b hv
  rw[hy,hun _ hv (by simp[Go.undef])]
 have hw:Region.wanted o (yielded ops.toArray act.tmps)=(yielded ops.toArray act.tmps j==some want):=by
  simp[Region.wanted,hg]
 split at h<;>try (simp at h;done)
 ·rename_i p b hE
  simp only[Option.some.injEq]at h
  subst h
  rw[hE]at hsl
  simp only[D,RdL]at hsl
  constructor
  ·rintro⟨hp,rfl⟩
   rw[hw,hbool b (hsl.1 hp)]
   simp
  ·intro hn
   by_cases hp:p
   ·rw[hw,hbool b (hsl.1 hp)]
    have:b≠want:=fun e=>hn ⟨hp,e⟩
    simp[this]
   ·rw[hw,hnone (hsl.2 hp)]
    rfl
 ·rename_i b hE
  simp only[Option.some.injEq]at h
  subst h
  rw[hE]at hsl
  simp only[D,RdL]at hsl
  rw[hw,hbool b hsl]
  constructor
  ·rintro rfl;simp
  ·intro hn;simp[hn]
def fitsOps (n:Nat) (ops:List Oper):Bool:=ops.all fun o=>match o.dst with
 | some t=>decide (t<n)
 | none=>true
theorem fitsOps_ok {n:Nat}{ops:List Oper}(h:fitsOps n ops=true):∀o∈ops,fits n o.dst:=by
 intro o ho
 have:=List.all_eq_true.1 h o ho
 unfold fits
 cases hd:o.dst with
 | none=>trivial
 | some t=>rw[hd]at this;simpa using this
theorem semAt_exec {o:Oper}(r:Option Nat) (ρ:Operand->Value) (h:isDefer o.op=false):o.semAt r ρ=execOp ρ o:=
 Oper.semAt_eq r ρ o fun c e=>by rw[e]at h;simp[isDefer]at h
theorem vcOps_ok {C:Cfg}{ops:List Oper}{Q:Exit->Act->World->Prop}{x0:X}{H0:Heap}{ds:List Deferred}:∀(l:List Oper) (E:Env) (H:Heap) (K:Env->Heap->Prop),(∀o∈l,fits C.n o.dst)->vcOps C.P ops l E H K ->
  (∀E H x act,K E H->x0.le x->Inv x (H++H0)->EnvOK C.n ds x act E->Q .normal act x.w)->∀x act,x0.le x->Inv x (H++H0)->EnvOK C.n ds x act E->wpListIn (fw C.r) 0 C.P ops.toArray Q l act x.w
 | [],E,H,K,_,h,hq,x,act,hle,hi,he=>hq _ _ x act h hle hi he
 | o::rest,E,H,K,hf,h,hq,x,act,hle,hi,he=>by
  have hf0:=hf o (by simp)
  have hf':∀o∈rest,fits C.n o.dst:=fun o ho=>hf o (by simp[ho])
  have ih:=fun E H K h hq x act hle hi he=>vcOps_ok (C:=C) (ops:=ops) (Q:=Q) (x0:=x0) (H0:=H0) (ds:=ds) rest E H K hf' h hq x act hle hi he
  simp only[vcOps]at h
  simp only[wpListIn]
  split at h
  ·-- not guarded
   rename_i hg
   have hw:Region.wanted o (yielded ops.toArray act.tmps)=true:=by simp[Region.wanted,hg]
   rw[if_pos hw]
   refine⟨fun _ _=>trivial,?_⟩
   unfold vcOp at h
   split at h
   ·rename_i p a hp
    obtain⟨hp1,hk⟩:=h
    have hdf:isDefer o.op=false:=by cases ho:o.op<;>first | rfl | (rw[ho]at hp;simp[pureA]at hp)
    obtain⟨u,y,h1,h2,h3⟩:=pureA_ok hp hp1 _ _ x act he hi.bd
    rw[semAt_exec _ _ hdf,h1]
    exact ih _ _ K hk hq y _ (hle.trans h2.le) (hi.grow h2) ((he.mono h2.le).put hf0 h3)
   ·split at h
    ·rename_i p g az hc
     obtain⟨hp1,hcall⟩:=h
     have hdf:isDefer o.op=false:=by cases ho:o.op<;>first | rfl | (rw[ho]at hc;simp[callA]at hc)
     obtain⟨args,h1,h2⟩:=callA_ok hc hp1 he hcall.1
     rw[semAt_exec _ _ hdf,h1]
     refine⟨fun hh=>by simp[fw]at hh,?_⟩
     have hcc:=hcall.2 x args H0 hi h2
     have hcw:CallsIn (fw C.r) 0 C.P g args x.w (fun e w'=>∃y v r H',e=.returned v∧y.w=w'∧x.le y∧Inv y (H'++H0)∧D y r v∧vcOps C.P ops rest (put E o.dst r) H' K):=by
      refine⟨trivial,fun cs _=>?_⟩
      obtain⟨e,w',fr,hr,hs,hx⟩:=hcc cs
      refine⟨e,w',fr,hr,?_,hx⟩
      cases e with
      | returned v=>exact (StepsIn.of_steps hs).mono fun m _=>fenced_wide C.P m
      | panicked ch=>exact (StepsIn.of_steps hs).mono fun m _=>fenced_wide C.P m
      | outgrown=>exact hs
     refine hcw.mono ?_
     rintro e w' ⟨y,v,r,H',rfl,rfl,h3,h4,h5,hk⟩
     exact ih _ _ K hk hq y _ (hle.trans h3) h4 ((he.mono h3).put hf0 h5)
    ·split at h
     ·rename_i p l az hc
      obtain⟨hp1,hcall⟩:=h
      have hdf:isDefer o.op=false:=by cases ho:o.op<;>first | rfl | (rw[ho]at hc;simp[yldA]at hc)
      obtain⟨args,h1,h2⟩:=yldA_ok (P:=C.P) hc hp1 he
      obtain⟨f,tm,ag,bd,h3,h4⟩:=hcall x args H0 hi h2
      rw[semAt_exec _ _ hdf,h1,h3]
      refine⟨fun hh=>by simp[fw]at hh,?_⟩
      refine RoundIn.mono (F:=fw C.r) (R:=fun e w'=>∃y v r H',e=.returned v∧y.w=w'∧x.le y∧Inv y (H'++H0)∧D y r v∧vcOps C.P ops rest (put E o.dst r) H' K) h4 ?_
      rintro e w' ⟨y,v,r,H',rfl,rfl,h3,h4,h5,hk⟩
      exact ih _ _ K hk hq y _ (hle.trans h3) h4 ((he.mono h3).put hf0 h5)
     ·rename_i hp _ hc
      have hF:∀u b,∃p a ch,heapF C.P u b (o.dst.getD 0) E (fun t=>hget t H) o.op=some (p,a,ch)∧p:=by
       intro u b
       have:=h u b
       split at this
       ·rename_i p a ch hh;exact⟨p,a,ch,hh,this.1⟩
       ·exact this.elim
      have hdf:isDefer o.op=false:=by
       obtain⟨p,a,ch,hh,_⟩:=hF .nilIface 0
       cases ho:o.op<;>first | rfl | (rw[ho]at hh;simp[heapF]at hh)
      obtain⟨u,b,v,y,p,a,ch,hh,_,h1,h2,h3,h4⟩:=heapF_ok hF (fun _=>rfl) hi he
      have hk:=h u b
      rw[hh]at hk
      replace hk:=hk.2
      rw[semAt_exec _ _ hdf]
      rcases h1 with h1 | ⟨h1,rfl⟩
      ·rw[h1]
       exact ih _ _ K hk hq y _ (hle.trans h2) h3 ((he.mono h2).put hf0 h4)
      ·rw[h1]
       exact ih _ _ K hk hq y _ (hle.trans h2) h3 ((he.mono h2).put hf0 h4)
  ·rename_i j want hg
   split at h<;>try (exact h.elim)
   rename_i q hgq
   obtain⟨w1,w2⟩:=gq_ok he hg hgq
   split at h
   ·rename_i p a hp
    obtain⟨hp1,hk⟩:=h
    have hdf:isDefer o.op=false:=by cases ho:o.op<;>first | rfl | (rw[ho]at hp;simp[pureA]at hp)
    by_cases hqq:q
    ·rw[if_pos (w1 hqq)]
     refine⟨fun _ _=>trivial,?_⟩
     obtain⟨u,y,h1,h2,h3⟩:=pureA_ok hp (hp1 hqq) _ _ x act he hi.bd
     rw[semAt_exec _ _ hdf,h1]
     exact ih _ _ K hk hq y _ (hle.trans h2.le) (hi.grow h2) ((he.mono h2.le).put hf0 (by simp only[D];exact⟨fun _=>h3,fun hn=>absurd hqq hn⟩))
    ·rw[if_neg (by rw[w2 hqq];simp)]
     exact⟨fun _ _=>trivial,ih _ _ K hk hq x _ hle hi (he.put hf0 (by simp only[D];exact⟨fun hn=>absurd hn hqq,fun _=>by first | rfl | trivial⟩))⟩
   ·split at h
    ·rename_i p g az hc
     have hdf:isDefer o.op=false:=by cases ho:o.op<;>first | rfl | (rw[ho]at hc;simp[callA]at hc)
     have callW:∀ {K':A->Heap->Prop}{args:Array Value},CallS C.P g az H K'->Ds x az args.toList->CallsIn (fw C.r) 0 C.P g args x.w (fun e w'=>∃y v r' H',e=.returned v∧y.w=w'∧x.le y∧Inv y (H'++H0)∧D y r' v∧K' r' H'):=by
      intro K' args hcs h2
      refine⟨trivial,fun cs _=>?_⟩
      obtain⟨e,w',fr,hr,hs,hx⟩:=hcs.2 x args H0 hi h2 cs
      refine⟨e,w',fr,hr,?_,hx⟩
      cases e with
      | returned v=>exact (StepsIn.of_steps hs).mono fun m _=>fenced_wide C.P m
      | panicked ch=>exact (StepsIn.of_steps hs).mono fun m _=>fenced_wide C.P m
      | outgrown=>exact hs
     rcases h with⟨r,hcall,hk⟩|⟨hcall,hk⟩
     ·by_cases hqq:q
      ·rw[if_pos (w1 hqq)]
       refine⟨fun _ _=>trivial,?_⟩
       have hcall':=hcall hqq
       obtain⟨args,h1,h2⟩:=callA_ok hc hcall'.1 he hcall'.2.1
       rw[semAt_exec _ _ hdf,h1]
       refine⟨fun hh=>by simp[fw]at hh,?_⟩
       have hcs:CallS C.P g az H (fun r' H'=>r'=r∧H'=H):=hcall'.2.s ⟨rfl,rfl⟩
       refine (callW hcs h2).mono ?_
       rintro e w' ⟨y,v,r',H',rfl,rfl,h3,h4,h5,rfl,rfl⟩
       exact ih _ _ K hk hq y _ (hle.trans h3) h4 ((he.mono h3).put hf0 (by simp only[D];exact⟨fun _=>h5,fun hn=>absurd hqq hn⟩))
      ·rw[if_neg (by rw[w2 hqq];simp)]
       exact⟨fun _ _=>trivial,ih _ _ K hk hq x _ hle hi (he.put hf0 (by simp only[D];exact⟨fun hn=>absurd hn hqq,fun _=>by first | rfl | trivial⟩))⟩
     ·by_cases hqq:q
      ·rw[if_pos (w1 hqq)]
       refine⟨fun _ _=>trivial,?_⟩
       have hcall':=hcall hqq
       obtain⟨args,h1,h2⟩:=callA_ok hc hcall'.1 he hcall'.2.1
       rw[semAt_exec _ _ hdf,h1]
       refine⟨fun hh=>by simp[fw]at hh,?_⟩
       refine (callW hcall'.2 h2).mono ?_
       rintro e w' ⟨y,v,r',H',rfl,rfl,h3,h4,h5,hk'⟩
       exact ih _ _ K hk' hq y _ (hle.trans h3) h4 ((he.mono h3).put hf0 (by simp only[D];exact⟨fun _=>h5,fun hn=>absurd hqq hn⟩))
      ·rw[if_neg (by rw[w2 hqq];simp)]
       obtain⟨r0,hk0⟩:=hk hqq
       exact⟨fun _ _=>trivial,ih _ _ K hk0 hq x _ hle hi (he.put hf0 (by simp only[D];exact⟨fun hn=>absurd hn hqq,fun _=>by first | rfl | trivial⟩))⟩
    ·split at h
     rotate_left
     ·obtain⟨hnq,hk⟩:=h
      rw[if_neg (by rw[w2 hnq];simp)]
      exact⟨fun _ _=>trivial,ih _ _ K hk hq x _ hle hi (he.put hf0 (by simp only[D];exact⟨fun hn=>absurd hn hnq,fun _=>by first | rfl | trivial⟩))⟩
     rename_i p a hh
     obtain⟨hp1,hrd,hk⟩:=h
     have hdf:isDefer o.op=false:=by cases ho:o.op<;>first | rfl | (rw[ho]at hrd;simp[reads]at hrd)
     by_cases hqq:q
     ·rw[if_pos (w1 hqq)]
      refine⟨fun _ _=>trivial,?_⟩
      obtain⟨u,b,v,y,p',a',ch',h1,h2,h3,h4,h5,h6⟩:=heapF_ok (P:=C.P) (o:=o) (E:=E) (τ:=0) (fun u b=>⟨p,a,none,by rw[reads_fix hrd,hh],hp1 hqq⟩) (fun _=>rfl) hi he
      rw[reads_fix (u':=.nilIface) (b':=0) (τ':=0) hrd,hh]at h1
      simp only[Option.some.injEq,Prod.mk.injEq]at h1
      obtain⟨rfl,rfl,rfl⟩:=h1
      rw[semAt_exec _ _ hdf]
      rcases h3 with h3 | ⟨h3,rfl⟩
      ·rw[h3]
       exact ih _ _ K hk hq y _ (hle.trans h4) h5 ((he.mono h4).put hf0 (by simp only[D];exact⟨fun _=>h6,fun hn=>absurd hqq hn⟩))
      ·rw[h3]
       exact ih _ _ K hk hq y _ (hle.trans h4) h5 ((he.mono h4).put hf0 (by simp only[D];exact⟨fun _=>h6,fun hn=>absurd hqq hn⟩))
     ·rw[if_neg (by rw[w2 hqq];simp)]
      exact⟨fun _ _=>trivial,ih _ _ K hk hq x _ hle hi (he.put hf0 (by simp only[D];exact⟨fun hn=>absurd hn hqq,fun _=>by first | rfl | trivial⟩))⟩
theorem W.region {C:Cfg}{id:Nat}{ops:Array Oper}{E:Env}{H:Heap}{Q:PostQ}(hf:fitsOps C.n ops.toList=true) (h:vcOps C.P ops.toList ops.toList E H fun E' H'=>Q .normal E' H') :
  W C (.region id ops false) E H Q:=by
 intro x act H0 ms hi he
 have:=vcOps_ok (C:=C) (ops:=ops.toList) (Q:=Post C.n H0 Q x) (x0:=x) (H0:=marks ms++H0) ops.toList E H _ (fitsOps_ok hf) h
  (fun E' H' y a hk hle hi' he'=>⟨y,E',H',ms,rfl,hle,hi',he',hk⟩) x act (.refl x) hi he
 exact wpIn_region_list (by simpa using this)
end
section
variable {P:Program}
def fitsC (n:Nat):Code->Bool
 | .region _ ops _=>fitsOps n ops.toList
 | .seq a b=>fitsC n a&&fitsC n b
 | .cond _ a b=>fitsC n a&&fitsC n b
 | .block _ c=>fitsC n c
 | .loop c=>fitsC n c
 | .scope c=>fitsC n c
 | .rangeFunc _ ps a b=>ps.all (·<n)&&fitsC n a&&fitsC n b
 | _=>true
def V (C:Cfg) (c:Code) (E:Env) (H:Heap) (Q:PostQ):Prop:=fitsC C.n c=true->W C c E H Q
def vcC (C:Cfg):Code->Env->Heap->PostQ->Prop
 | .skip,E,H,Q=>Q .normal E H
 | .seq a b,E,H,Q=>vcC C a E H fun e E' H'=>match e with
  | .normal=>vcC C b E' H' Q
  | .exit i=>Q (.exit i) E' H'
  | .ret=>Q .ret E' H'
  | _=>False
 | .cond c a b,E,H,Q=>match st (ev E c) with
  | (p,.dat (.bool t))=>p∧(t=true->vcC C a E H Q)∧(t=false->vcC C b E H Q)
  | _=>False
 | .block id c,E,H,Q=>vcC C c E H (blockQ id Q)
 | .exit id,E,H,Q=>Q (.exit id) E H
 | .ret,E,H,Q=>Q .ret E H
 | .region id ops d,E,H,Q=>match d with
  | false=>vcOps C.P ops.toList ops.toList E H fun E' H'=>Q .normal E' H'
  | true=>V C (.region id ops true) E H Q
 | .loop c,E,H,Q=>V C (.loop c) E H Q
 | .rangeFunc f ps a b,E,H,Q=>V C (.rangeFunc f ps a b) E H Q
 | _,_,_,_=>False
theorem W.cond' {C:Cfg}{E:Env}{H:Heap}{Q:PostQ}{c:Operand}{a b:Code}{t:Bool}{p:Prop}(hc:st (ev E c)=(p,.dat (.bool t))) (hp:p) (h1:t=true->W C a E H Q) (h2:t=false->W C b E H Q) :
  W C (.cond c a b) E H Q:=by
 intro x act H0 ms hi he
 have h:=st_ok (ev_ok he c) (by rw[hc];exact hp)
 rw[hc]at h
 simp only[D,RdL]at h
 exact wpIn_cond_split h (fun e=>h1 e x act H0 ms hi he) (fun e=>h2 e x act H0 ms hi he)
theorem vcC_ok {C:Cfg}:∀(c:Code) (E:Env) (H:Heap) (Q:PostQ),fitsC C.n c=true->vcC C c E H Q->W C c E H Q
 | .skip,_,_,_,_,h=>W.skip h
 | .seq a b,E,H,Q,hf,h=>by
  simp only[fitsC,Bool.and_eq_true]at hf
  refine W.seq ((vcC_ok a E H _ hf.1 h).mono ?_)
  intro e E' H' hq
  cases e with
  | normal=>exact vcC_ok b E' H' Q hf.2 hq
  | exit i=>exact hq
  | ret=>exact hq
  | goto l=>exact hq
  | panic c=>exact hq
  | outgrown=>exact hq
 | .cond c a b,E,H,Q,hf,h=>by
  simp only[fitsC,Bool.and_eq_true]at hf
  simp only[vcC]at h
  split at h
  ·rename_i p t hst
   exact W.cond' hst h.1 (fun e=>vcC_ok a E H Q hf.1 (h.2.1 e)) (fun e=>vcC_ok b E H Q hf.2 (h.2.2 e))
  ·exact h.elim
 | .block id c,E,H,Q,hf,h=>W.block (vcC_ok c E H _ hf h)
 | .exit _,_,_,_,_,h=>W.exit h
 | .ret,_,_,_,_,h=>W.ret h
 | .region id ops d,E,H,Q,hf,h=>by
  cases d with
  | false=>exact W.region hf h
  | true=>exact h hf
 | .loop c,_,_,_,hf,h=>h hf
 | .rangeFunc _ _ _ _,_,_,_,hf,h=>h hf
 | .scope _,_,_,_,_,h=>h.elim
 | .label _,_,_,_,_,h=>h.elim
 | .goto _,_,_,_,_,h=>h.elim
 | .refuse _,_,_,_,_,h=>h.elim
def anyE:Env:=fun _=>.any
def sets:List (Nat×A)->Env->Env
 | [],E=>E
 | (t,a)::r,E=>upd (sets r E) t a
def headEnv (E:Env) (Lv:List Nat) (sl:List (Nat×A)):Env:=sets sl (sets (Lv.map fun t=>(t,E t)) anyE)
def subH:Heap->Heap->Prop
 | [],_=>True
 | (t,e)::r,H=>hget t H=some e∧subH r (hdel t H)
theorem sets_weak {E:Env}:∀(l:List (Nat×A)) (F:Env),(∀p∈l,E p.1=p.2)->(∀t,F t=.any∨F t=E t)->∀t,sets l F t=.any∨sets l F t=E t
 | [],F,_,hF,t=>hF t
 | (s,a)::r,F,hl,hF,t=>by
  simp only[sets,upd]
  split
  ·rename_i h;subst h;exact .inr (hl (t,a) (by simp)).symm
  ·exact sets_weak r F (fun p hp=>hl p (by simp[hp])) hF t
theorem EnvOK.weak {n:Nat}{ds:List Deferred}{x:X}{a:Act}{E F:Env}(h:EnvOK n ds x a E) (hw:∀t,F t=.any∨F t=E t):EnvOK n ds x a F:=
 ⟨h.defers,h.size,fun t=>by
  rcases hw t with h1 | h1
  ·rw[h1];simp[D]
  ·rw[h1];exact h.slot t⟩
theorem subH_inv {x:X}:∀ {H H' H0:Heap},subH H H'->Inv x (H'++H0)->Inv x (H++H0)
 | [],H',H0,_,hi=>hi.sub (List.sublist_append_right _ _)
 | (t,e)::r,H',H0,h,hi=>by
  have hp:=hdel_perm (hget_app (H0:=H0) h.1)
  have hd:hdel t (H'++H0)=hdel t H'++H0:=by
   have:∀ {K:Heap},hget t K=some e->hdel t (K++H0)=hdel t K++H0:=by
    intro K
    induction K with
    | nil=>intro h;simp[hget]at h
    | cons p r ih=>
     obtain⟨s,e1⟩:=p
     simp only[hget,hdel,List.cons_append]
     split
     ·intro _;rfl
     ·intro h;simp[ih h]
   exact this h.1
  rw[hd]at hp
  have hi1:=hi.perm hp.symm
  -- the rest,then the entry again
  have hsub:∃K:Heap,K.Sublist (hdel t H'++H0)∧K.Perm (r++H0):=by
   have:∀(r:Heap) (K:Heap),subH r K->∃K':Heap,K'.Sublist (K++H0)∧K'.Perm (r++H0):=by
    intro r
    induction r with
    | nil=>intro K _;exact⟨H0,List.sublist_append_right _ _,List.Perm.refl _⟩
    | cons p r ih=>
     intro K hK
     obtain⟨s,e1⟩:=p
     obtain⟨K',h1,h2⟩:=ih _ hK.2
     have hmem:∀ {K K':Heap}{e1:Ent},hget s K=some e1->K'.Sublist (hdel s K++H0)->∃K2:Heap,K2.Sublist (K++H0)∧K2.Perm ((s,e1)::K'):=by
      intro K
      induction K with
      | nil=>intro _ _ h;simp[hget]at h
      | cons q K ihK=>
       obtain⟨u,e2⟩:=q
       intro K' e1 hg hs
       simp only[hget]at hg
       simp only[hdel]at hs
       split at hg
       ·rename_i hu
        subst hu
        simp only[if_true]at hs
        simp only[Option.some.injEq]at hg
        subst hg
        exact⟨(u,e2)::K',by simpa using hs,List.Perm.refl _⟩
       ·rename_i hu
        simp only[hu,if_false,List.cons_append]at hs
        cases hs with
        | cons _ hs'=>
         obtain⟨K2,k1,k2⟩:=ihK hg hs'
         exact⟨K2,show List.Sublist K2 ((u,e2)::(K++H0)) from k1.cons (u,e2),k2⟩
        | cons_cons _ hs'=>
         obtain⟨K2,k1,k2⟩:=ihK hg hs'
         exact⟨(u,e2)::K2,show List.Sublist ((u,e2)::K2) ((u,e2)::(K++H0)) from k1.cons_cons (u,e2),(k2.cons _).trans (List.Perm.swap _ _ _)⟩
     obtain⟨K2,k1,k2⟩:=hmem hK.1 h1
     exact⟨K2,k1,k2.trans (show List.Perm ((s,e1)::K') ((s,e1)::(r++H0)) from h2.cons (s,e1))⟩
   exact this r _ h.2
  obtain⟨K,k1,k2⟩:=hsub
  exact (hi1.sub (k1.cons_cons (t,e))).perm (show List.Perm ((t,e)::(r++H0)) ((t,e)::K) from (k2.cons (t,e)).symm)
theorem V.for {C:Cfg}{E:Env}{H:Heap}{Q:PostQ}{c:Code}{ι:Type}(Lv:List Nat) (sl:ι->List (Nat×A)) (Hs:ι->Heap) (I:ι->Prop) (μ:ι->Nat) (i0:ι)
  (h0:I i0∧(∀p∈sl i0,E p.1=p.2)∧subH (Hs i0) H)
  (hr:∀i,I i->vcC C c (headEnv E Lv (sl i)) (Hs i) fun e E' H'=>match e with
   | .normal=>∃j,I j∧μ j<μ i∧(∀p∈sl j,E' p.1=p.2)∧(∀t∈Lv,E' t=E t)∧subH (Hs j) H'
   | .exit i=>Q (.exit i) E' H'
   | .ret=>Q .ret E' H'
   | _=>False):V C (.loop c) E H Q:=by
 intro hf x act H0 ms hi he
 have hhead:∀ {i:ι}{E':Env},(∀p∈sl i,E' p.1=p.2)->(∀t∈Lv,E' t=E t)->∀t,headEnv E Lv (sl i) t=.any∨headEnv E Lv (sl i) t=E' t:=by
  intro i E' h1 h2
  refine sets_weak _ _ h1 (sets_weak _ _ ?_ fun t=>.inl rfl)
  intro p hp
  obtain⟨t,ht,rfl⟩:=List.mem_map.1 hp
  exact h2 t ht
 have key:W C (.loop c) (headEnv E Lv (sl i0)) (Hs i0) Q:=by
  refine W.loop (fun m E' H'=>∃i,I i∧μ i=m∧E'=headEnv E Lv (sl i)∧H'=Hs i) (μ i0) ⟨i0,h0.1,rfl,rfl,rfl⟩ ?_
  rintro m _ _ ⟨i,hI,rfl,rfl,rfl⟩
  have hw:=vcC_ok c _ _ _ hf (hr i hI)
  intro x act H0 ms hi he
  refine wpIn_mono (hw x act H0 ms hi he) ?_
  rintro e a' w' ⟨y,E',H',ms',rfl,hle,hi',he',hq⟩
  cases e with
  | normal=>
   obtain⟨j,h1,h2,h3,h4,h5⟩:=hq
   exact⟨y,_,_,ms',rfl,hle,subH_inv h5 hi',he'.weak (hhead h3 h4),μ j,h2,j,h1,rfl,rfl,rfl⟩
  | exit k=>exact⟨y,E',H',ms',rfl,hle,hi',he',hq⟩
  | ret=>exact⟨y,E',H',ms',rfl,hle,hi',he',hq⟩
  | goto k=>exact hq.elim
  | panic k=>exact hq.elim
  | outgrown=>exact hq.elim
 exact key x act H0 ms (subH_inv h0.2.2 hi) (he.weak (hhead h0.2.1 fun _ _=>rfl))
def elB (P:Program) (e:TypeId):Bool:=match P.info? e with
 | some i=>match i.zero with
  | some z=>z.cells.size==i.size&&decide (0<i.size)&&decide (i.bytes<=4096)
  | none=>false
 | none=>false
theorem elOK_of {e:TypeId}(h:elB P e=true):elOK P e:=by
 unfold elB at h
 split at h<;>try (simp at h;done)
 rename_i i hi
 split at h<;>try (simp at h;done)
 rename_i z hz
 simp only[Bool.and_eq_true,beq_iff_eq,decide_eq_true_eq]at h
 exact⟨i,z,hi,hz,h.1.1,h.1.2,h.2⟩
def resA (P:Program) (E:Env) (H:Heap):ResultVar->Option (Prop×A)
 | .tmp t=>some (True,E t)
 | .cell a t=>match E a with
  | .ptr g b off=>match hget g H with
   | some (.box b' cs)=>an (b'=b) (cellsA P t off cs)
   | _=>none
  | .rptr ls=>loadA P t (.rptr ls)
  | _=>none
def ress (P:Program) (E:Env) (H:Heap):List ResultVar->Option (Prop×List A)
 | []=>some (True,[])
 | r::rs=>match resA P E H r,ress P E H rs with
  | some (p,a),some (q,az)=>some (p∧q,a::az)
  | _,_=>none
def RetV (P:Program) (rs:List ResultVar) (K:A->Heap->Prop):PostQ:=fun e E H=>
 match e with
 | .exit _=>False
 | .goto _=>False
 | .panic _=>False
 | .outgrown=>False
 | _=>match ress P E H rs with
  | some (p,az)=>p∧(match az with
   | [a]=>K a H
   | _=>K (.tuple az) H)
  | none=>False
def resSem (tmps:Array Value):ResultVar->Sem Value
 | .tmp t=>pure (tmps.getD t Go.undef)
 | .cell a t=>do loadVar t (<- asAddr (tmps.getD a Go.undef))
theorem resA_ok {n:Nat}{ds:List Deferred}{x:X}{act:Act}{E:Env}{H H0:Heap}(he:EnvOK n ds x act E) (hi:Inv x (H++H0)) {r:ResultVar}{p:Prop}{a:A}(h:resA P E H r=some (p,a)) (hp:p) :
  ∃v,(resSem act.tmps r).run P x.w=.ok v x.w∧D x a v:=by
 cases r with
 | tmp t=>
  simp only[resA,Option.some.injEq,Prod.mk.injEq]at h
  obtain⟨_,rfl⟩:=h
  exact⟨_,rfl,he.slot t⟩
 | cell s t=>
  simp only[resA]at h
  have hs:=he.slot s
  split at h<;>try (simp at h;done)
  ·rename_i g b off hE
   rw[hE]at hs
   simp only[D]at hs
   split at h<;>try (simp at h;done)
   rename_i b' cs hg
   obtain⟨q,h1,rfl⟩:=an_some h
   obtain⟨rfl,hq⟩:=hp
   obtain⟨c,ty,hh,hdc⟩:=hget_sat hi hg
   obtain⟨u,k1,k2⟩:=loadCells_ok hh (k:=0) hdc (fun j v hj=>by simpa using hj) h1 hq
   exact⟨u,by simp only[resSem,hs,asAddr,Sem.run_bind,Sem.run_pure,Result.andThen_ok];simpa using k1,k2⟩
  ·rename_i ls hE
   rw[hE]at hs
   obtain⟨u,k1,k2⟩:=loadA_ok h hp hs
   simp only[D]at hs
   obtain⟨b,off,e,_⟩:=hs
   refine⟨u,?_,k2⟩
   rw[e]at k1
   simp only[resSem,e]
   simpa [asAddr,Instr.loadAt,Instr.sureAddr]using k1
theorem ress_ok {n:Nat}{ds:List Deferred}{x:X}{act:Act}{E:Env}{H H0:Heap}(he:EnvOK n ds x act E) (hi:Inv x (H++H0)):∀ {rs:List ResultVar}{p:Prop}{az:List A},ress P E H rs=some (p,az)->p ->
  ∃vs,(rs.mapM (resSem act.tmps)).run P x.w=.ok vs x.w∧Ds x az vs
 | [],p,az,h,_=>by
  simp only[ress,Option.some.injEq,Prod.mk.injEq]at h
  obtain⟨_,rfl⟩:=h
  exact⟨[],by simp,by simp[Ds]⟩
 | r::rs,p,az,h,hp=>by
  simp only[ress]at h
  split at h<;>try (simp at h;done)
  rename_i q a q' az' h1 h2
  simp only[Option.some.injEq,Prod.mk.injEq]at h
  obtain⟨rfl,rfl⟩:=h
  obtain⟨v,k1,k2⟩:=resA_ok he hi h1 hp.1
  obtain⟨vs,k3,k4⟩:=ress_ok he hi h2 hp.2
  refine⟨v::vs,?_,by simp only[Ds];exact⟨k2,k4⟩⟩
  rw[List.mapM_cons,Sem.run_bind,k1]
  simp only[Result.andThen_ok,Sem.run_bind,k3,Sem.run_pure]
theorem results_ok {fn:Func}{x:X}{tmps vs:_}(h:(fn.results.toList.mapM (resSem tmps)).run P x.w=.ok vs x.w) :
  (results fn tmps).run P x.w=.ok (if h:vs.length=1 then vs[0] else .tuple vs.toArray) x.w:=by
 have e:results fn tmps=(do let vs <- fn.results.mapM (resSem tmps);pure (if h:vs.size=1 then vs[0] else .tuple vs):Sem Value):=rfl
 rw[e,Array.mapM_eq_mapM_toList]
 simp only[Sem.run_bind,Sem.run_map,h]
 simp
def envOf (az:List A):Env:=fun t=>(az[t]?).getD .undef
theorem leaves_marks {fn:Func}{tmps:Array Value}{R:Ending->World->Prop}{H H0:Heap}:∀(ms:List Nat) (y:X),Inv y (H++(marks ms++H0)) ->
  (∀y':X,y.le y'->Inv y' (H++H0)->∃v,(results fn tmps).run P y'.w=.ok v y'.w∧R (.returned v) y'.w)->LeavesInM Fence.wide 0 P fn tmps R (ms.map mk) .returning y.w
 | [],y,hi,h=>h y (.refl y) (by simpa [marks]using hi)
 | m::ms,y,hi,h=>by
  have hperm:((0,Ent.raw m (.deferred (some [])))::(H++(marks ms++H0))).Perm (H++(marks (m::ms)++H0)):=by
   simp only[marks,List.map_cons,List.cons_append]
   exact List.perm_middle.symm
  have hi1:=hi.perm hperm
  have hs:y.w.heap[m]?=some (.deferred (some [])):=hi1.sat (0,.raw m _) (by simp)
  have hown:=hi1.own (0,.raw m (.deferred (some []))) (by simp) m rfl
  let w':World:={ y.w with heap:=y.w.heap.setIfInBounds m (.deferred none) }
  have hold:∀b,b≠m->w'.heap[b]?=y.w.heap[b]?:=fun b hb=>by simp[w',Array.getElem?_setIfInBounds_ne (Ne.symm hb)]
  have hle:y.le ⟨w',y.ok⟩:=⟨fun b hb=>⟨hb,hold b fun e=>hown.2 (e▸hb)⟩,rfl,rfl,rfl,by simp[w'],Nat.le_refl _⟩
  have hi2:Inv ⟨w',y.ok⟩ (H++(marks ms++H0)):=by
   refine (hi1.sub (List.sublist_cons_self _ _)).step hle (fun b hb=>by have:=hi.bd b hb;simpa [w']using this) (fun b hb=>.inl hb) fun p hpp b hb=>hold b fun e=>?_
   subst e
   exact (List.pairwise_cons.1 hi1.apart).1 p hpp b rfl hb
  refine⟨by simp,.inl ⟨m,w',rfl,?_,leaves_marks ms _ hi2 fun y' hle' hi'=>h y' (hle.trans hle') hi'⟩⟩
  simp only[Instr.takeDeferred,Sem.run_bind,getObj,Sem.run,hs,Result.andThen_ok,setObj,Sem.run_pure]
  rfl
theorem callS_ofW {g:FuncId}{fn:Func}{c:Code}{n:Nat}{rs:List ResultVar}{az:List A}{H:Heap}{K:A->Heap->Prop}(hf:P.funcs[g]?=some fn) (hb:fn.body=some c) (hn:fn.ntmps=n)
  (hr:fn.results=rs.toArray) (hnm:(fn.name == "runtime.NumGoroutine")=false) (hl:az.length<=n) (hfit:fitsC n c=true)
  (h:W ⟨P,none,n⟩ c (envOf az) H (RetV P rs K)):CallS P g az H K:=by
 refine⟨⟨fn,hf,by rw[hb];rfl,hnm⟩,fun x args H0 hi hd=>?_⟩
 have hargs:=hd.length
 simp only[Array.length_toList]at hargs
 refine (callsIn_wide (n:=0)).1 (callsIn_of_wp_marks hf hb trivial ?_)
 have he:EnvOK n [] x { tmps:=args++Array.replicate (fn.ntmps-args.size) Go.undef,defers:=[] } (envOf az):=by
  refine⟨rfl,by simp;omega,fun t=>?_⟩
  simp only[envOf,Array.getD_eq_getD_getElem?,Array.getElem?_append]
  by_cases ht:t<args.size
  ·simp only[ht,if_true]
   obtain⟨a,ha⟩:∃a,az[t]?=some a:=⟨_,List.getElem?_eq_getElem (by omega)⟩
   obtain⟨v,h1,h2⟩:=hd.at ha
   simp only[Array.getElem?_toList]at h1
   simp[ha,h1,h2]
  ·simp only[ht,if_false]
   have hx:az[t]?=none:=List.getElem?_eq_none (by omega)
   rw[hx]
   have:((Array.replicate (fn.ntmps-args.size) Go.undef)[t-args.size]?).getD Go.undef=Go.undef:=by
    by_cases h2:t-args.size<fn.ntmps-args.size
    ·simp[Array.getElem?_replicate,h2]
    ·simp[Array.getElem?_replicate,h2]
   simp[this,D]
 refine wpIn_mono (h x _ H0 [] hi he) ?_
 rintro e a w' ⟨y0,E',H',ms,rfl,hle0,hi0,he0,hq⟩
 have key:(match ress P E' H' rs with
  | some (p,az)=>p∧(match az with
   | [a]=>K a H'
   | _=>K (.tuple az) H')
  | none=>False)->LeavesInM Fence.wide 0 P fn a.tmps (fun e w'=>∃y v r H'',e=.returned v∧y.w=w'∧x.le y∧Inv y (H''++H0)∧D y r v∧K r H'') a.defers .returning y0.w:=by
  intro hq
  rw[he0.defers]
  refine leaves_marks ms y0 hi0 fun y hle1 hi'=>?_
  have hle:=hle0.trans hle1
  have he':=he0.mono hle1
  split at hq
  ·rename_i p az' hres
   obtain⟨hp,hk⟩:=hq
   obtain⟨vs,k1,k2⟩:=ress_ok he' hi' hres hp
   have k3:=results_ok (fn:=fn) (by rw[hr];simpa using k1)
   refine⟨_,k3,?_⟩
   split at hk
   ·rename_i r
    obtain⟨v,rfl,hv⟩:=k2.one
    exact⟨y,v,r,H',by simp,rfl,hle,hi',hv,hk⟩
   ·rename_i hne
    have hlen:vs.length≠1:=by
     intro h1
     rw[k2.length]at h1
     obtain⟨r,rfl⟩:=List.length_eq_one_iff.1 h1
     exact hne r rfl
    exact⟨y,.tuple vs.toArray,.tuple az',H',by simp[hlen],rfl,hle,hi',by simp only[D];exact⟨_,rfl,by simpa using k2⟩,hk⟩
  ·exact hq.elim
 cases e with
 | normal=>exact key hq
 | ret=>exact key hq
 | exit i=>exact hq.elim
 | goto l=>exact hq.elim
 | panic c=>exact hq.elim
 | outgrown=>exact hq.elim
theorem callS_of {g:FuncId}{fn:Func}{c:Code}{n:Nat}{rs:List ResultVar}{az:List A}{H:Heap}{K:A->Heap->Prop}(hf:P.funcs[g]?=some fn) (hb:fn.body=some c) (hn:fn.ntmps=n)
  (hr:fn.results=rs.toArray) (hnm:(fn.name == "runtime.NumGoroutine")=false) (hl:az.length<=n) (hfit:fitsC n c=true)
  (h:vcC ⟨P,none,n⟩ c (envOf az) H (RetV P rs K)):CallS P g az H K:=
 callS_ofW hf hb hn hr hnm hl hfit (vcC_ok c _ H _ hfit h)
theorem CallS.drop {g:FuncId}{az:List A}{H:Heap}{K K':A->Heap->Prop}(h:CallS P g az H K) (hk:∀r H',K r H'->∃H'':Heap,H''.Sublist H'∧K' r H''):CallS P g az H K':=by
 refine⟨h.1,fun x args H0 hi hd=>(h.2 x args H0 hi hd).mono ?_⟩
 rintro _ _ ⟨y,v,r,H',a,b,c,d,e,f⟩
 obtain⟨H'',h1,h2⟩:=hk r H' f
 exact⟨y,v,r,H'',a,b,c,d.sub (h1.append (List.Sublist.refl _)),e,h2⟩
theorem callFn_of {g:FuncId}{fn:Func}{c:Code}{n:Nat}{rs:List ResultVar}{az:List A}{r:A}(hf:P.funcs[g]?=some fn) (hb:fn.body=some c) (hn:fn.ntmps=n)
  (hr:fn.results=rs.toArray) (hnm:(fn.name == "runtime.NumGoroutine")=false) (hl:az.length<=n) (hfit:fitsC n c=true)
  (h:vcC ⟨P,none,n⟩ c (envOf az) [] (RetV P rs fun r' _=>r'=r)):CallFn P g az r:=
 (callS_of hf hb hn hr hnm hl hfit h).drop fun _ _ e=>⟨[],List.nil_sublist _,e,rfl⟩
end
attribute [simp] stR nilsA hasNil packB mvA nilcA cmpA isKL leq mget mput vcC vcOps vcOp pureA callA heapF ev kA kL kLs st an an1 an2 evl evlp evs evp opt optp gq put upd envOf loadA fieldA indexA lenA binA boxA asL flatA buildA fillA splice packA toLs pickA unA partA cellsA
 sets headEnv subH anyE fldA idxA extA nilA maxA minA convA boundA sliceA builtinA bslA rowsA one1 blockQ RetV ress resA
attribute [simp] fitLs fitL leqs leq1
attribute [simp] rl_map rl_take rl_drop rl_app rl_nil rl_cons
@[simp] theorem happ_s (t:Nat) (e:Ent) (H:Heap):happ (some (t,e)) H=(match hget t H with | some _=>hset t e H | none=>(t,e)::H):=id rfl
@[simp] theorem happ_n (H:Heap):happ none H=H:=id rfl
@[simp] theorem hget_n (g:Nat):hget g []=none:=id rfl
@[simp] theorem hget_c (g t:Nat) (e:Ent) (r:Heap):hget g ((t,e)::r)=if t=g then some e else hget g r:=id rfl
@[simp] theorem hset_c (g t:Nat) (e e':Ent) (r:Heap):hset g e ((t,e')::r)=if t=g then (t,e)::r else (t,e')::hset g e r:=id rfl
@[simp] theorem hdel_c (g t:Nat) (e':Ent) (r:Heap):hdel g ((t,e')::r)=if t=g then r else (t,e')::hdel g r:=id rfl
@[congr] theorem CallS_congr {P:Program}{g:FuncId}{az az':List A}{H H':Heap}{K:A->Heap->Prop}{z:Prop}(_:(True∧True)=z) (h1:az=az') (h2:H=H'):CallS P g az H K=CallS P g az' H' K:=by rw[h1,h2]
@[congr] theorem V_congr {C:Cfg}{c:Code}{E:Env}{H H':Heap}{Q:PostQ}{z:Prop}(_:(True∧True)=z) (h:H=H'):V C c E H Q=V C c E H' Q:=by rw[h]
@[simp] theorem inR_i64 (n:Int):inR .i64 n ↔ -9223372036854775808<=n∧n<=9223372036854775807:=by
 unfold inR
 simp only[IntKind.wrap,IntKind.signed,IntKind.bits]
 simp
 omega
@[simp] theorem inR_i32 (n:Int):inR .i32 n ↔ -2147483648<=n∧n<=2147483647:=by
 unfold inR
 simp only[IntKind.wrap,IntKind.signed,IntKind.bits]
 simp
 omega
@[simp] theorem inR_u8 (n:Int):inR .u8 n↔0<=n∧n<=255:=by
 unfold inR
 simp only[IntKind.wrap,IntKind.signed,IntKind.bits]
 simp
 omega
end Go.Proofs.YtafamcbdaeppoaaGreatDoor
