/- Texts joined by a program: Fxb,Fxe,Fxf,Fxg,Fxh,Fxi,Fxj,Fxk,Fxl,Fxm,Kn,Ql. -/
import Derived.Test.YtpadinblmjlggaaGreatDoorW11
set_option linter.unusedSimpArgs false
set_option linter.unusedVariables false
set_option maxHeartbeats 4000000
namespace Go.Proofs.YtpadinblmjlggaaGreatDoor
section
variable {P:Program}
abbrev Sq:=Value×TypeId×Nat×List (List A)
def sq (q:Sq):Ent:=.seq q.1 q.2.1 q.2.2.1 q.2.2.2
theorem inv_shut {x:X}{t u:Nat}{q:Sq}{l:List Sq}{H:Heap}(h:Inv x ((u,sq q)::(t,.seqs l)::H)):Inv x ((t,.seqs (q::l))::H):=by
 have s1:Ent.sat x (sq q):=h.sat (u,sq q) (by simp)
 have s2:Ent.sat x (.seqs l):=h.sat (t,.seqs l) (by simp)
 have ap:=List.pairwise_cons.1 h.apart
 have ap2:=List.pairwise_cons.1 ap.2
 refine⟨h.bd,?_,?_,?_⟩
 ·intro p hp
  rcases List.mem_cons.1 hp with rfl | hp
  ·refine⟨fun q' hq'=>?_,List.pairwise_cons.2 ⟨fun q' hq' b hb=>?_,s2.2⟩⟩
   ·rcases List.mem_cons.1 hq' with rfl | hq'
    ·exact s1
    ·exact s2.1 q' hq'
   ·intro hb2
    exact ap.1 (t,.seqs l) (by simp) b hb ⟨q',hq',hb2⟩
  ·exact h.sat p (by simp[hp])
 ·intro p hp b hb
  rcases List.mem_cons.1 hp with rfl | hp
  ·obtain⟨q',hq',hb2⟩:=hb
   rcases List.mem_cons.1 hq' with rfl | hq'
   ·exact h.own (u,sq q') (by simp) b hb2
   ·exact h.own (t,.seqs l) (by simp) b ⟨q',hq',hb2⟩
  ·exact h.own p (by simp[hp]) b hb
 ·refine List.pairwise_cons.2 ⟨fun p hp b hb=>?_,ap2.2⟩
  obtain⟨q',hq',hb2⟩:=hb
  rcases List.mem_cons.1 hq' with rfl | hq'
  ·exact ap.1 p (by simp[hp]) b hb2
  ·exact ap2.1 p hp b ⟨q',hq',hb2⟩
theorem inv_open {x:X}{t u:Nat}{q:Sq}{l:List Sq}{H:Heap}(h:Inv x ((t,.seqs (q::l))::H)):Inv x ((u,sq q)::(t,.seqs l)::H):=by
 have s:Ent.sat x (.seqs (q::l)):=h.sat (t,.seqs (q::l)) (by simp)
 obtain⟨s1,s2⟩:=s
 have s3:=List.pairwise_cons.1 s2
 have ap:=List.pairwise_cons.1 h.apart
 refine⟨h.bd,?_,?_,?_⟩
 ·intro p hp
  rcases List.mem_cons.1 hp with rfl | hp
  ·exact s1 q (by simp)
  ·rcases List.mem_cons.1 hp with rfl | hp
   ·exact⟨fun q' hq'=>s1 q' (by simp[hq']),s3.2⟩
   ·exact h.sat p (by simp[hp])
 ·intro p hp b hb
  rcases List.mem_cons.1 hp with rfl | hp
  ·exact h.own (t,.seqs (q::l)) (by simp) b ⟨q,by simp,hb⟩
  ·rcases List.mem_cons.1 hp with rfl | hp
   ·obtain⟨q',hq',hb2⟩:=hb
    exact h.own (t,.seqs (q::l)) (by simp) b ⟨q',by simp[hq'],hb2⟩
   ·exact h.own p (by simp[hp]) b hb
 ·refine List.pairwise_cons.2 ⟨fun p hp b hb hb2=>?_,List.pairwise_cons.2 ⟨fun p hp b hb=>?_,ap.2⟩⟩
  ·rcases List.mem_cons.1 hp with rfl | hp
   ·obtain⟨q',hq',hb3⟩:=hb2
    exact s3.1 q' hq' b hb hb3
   ·exact ap.1 p hp b ⟨q,by simp,hb⟩ hb2
  ·obtain⟨q',hq',hb3⟩:=hb
   exact ap.1 p hp b ⟨q',by simp[hq'],hb3⟩
theorem inv_shuffle {x:X}{t:Nat}{l l':List Sq}{H:Heap}(hp:l.Perm l') (h:Inv x ((t,.seqs l)::H)):Inv x ((t,.seqs l')::H):=by
 have ap:=List.pairwise_cons.1 h.apart
 have s:Ent.sat x (.seqs l):=h.sat (t,.seqs l) (by simp)
 refine⟨h.bd,?_,?_,List.pairwise_cons.2 ⟨?_,ap.2⟩⟩
 ·intro p hpp
  rcases List.mem_cons.1 hpp with rfl | hpp
  ·refine⟨fun q hq=>s.1 q (hp.mem_iff.2 hq),(hp.pairwise_iff ?_).1 s.2⟩
   intro a b hab k h1 h2
   exact hab k h2 h1
  ·exact h.sat p (by simp[hpp])
 ·intro p hpp b hb
  rcases List.mem_cons.1 hpp with rfl | hpp
  ·obtain⟨q,hq,hb2⟩:=hb
   exact h.own (t,.seqs l) (by simp) b ⟨q,hp.mem_iff.2 hq,hb2⟩
  ·exact h.own p (by simp[hpp]) b hb
 ·intro p hpp b hb
  obtain⟨q,hq,hb2⟩:=hb
  exact ap.1 p hpp b ⟨q,hp.mem_iff.2 hq,hb2⟩
theorem inv_other {x:X}{t u:Nat}{a b:Sq}{l l':List Sq}{H:Heap}(hp:(a::l).Perm (b::l')) (h:Inv x ((u,sq a)::(t,.seqs l)::H)):Inv x ((u,sq b)::(t,.seqs l')::H):=
 inv_open (inv_shuffle hp (inv_shut h))
theorem CallS.inv {g:FuncId}{az az':List A}{H H':Heap}{K:A->Heap->Prop}(hi:∀x H0,Inv x (H++H0)->Inv x (H'++H0)) (ha:∀x vs,Ds x az vs->Ds x az' vs) (h:CallS P g az' H' K):CallS P g az H K:=
 ⟨h.1,fun x args H0 hx hd=>h.2 x args H0 (hi x H0 hx) (ha x _ hd)⟩
theorem V.inv {C:Cfg}{c:Code}{E:Env}{H H':Heap}{Q:PostQ}(hi:∀x H0,Inv x (H++H0)->Inv x (H'++H0)) (h:V C c E H' Q):V C c E H Q:=by
 intro hf x act H0 ms hx he
 exact h hf x act H0 ms (hi x _ hx) he
end
section
variable {P:Program}
end
section
variable {P:Program}
def endC (P:Program) (o:Oper) (E:Env) (H:Heap) (K:Env->Heap->Prop):Prop:=match callA E o.op with
 | some (p,g,az)=>p∧CallS P g az H fun r H'=>K (put E o.dst r) H'
 | none=>False
attribute [simp] endC
end
section
variable {P:Program}
def Gh (Q:Env->Heap->Prop) (E:Env) (H:Heap):Prop:=
 ∀(n:Nat) (ds:List Deferred) (x:X) (act:Act) (H0:Heap),Inv x (H++H0)->EnvOK n ds x act E ->
  ∃(y:X) (E':Env) (H':Heap),y.w=x.w∧x.le y∧Inv y (H'++H0)∧EnvOK n ds y act E'∧Q E' H'
theorem Gh.here {Q:Env->Heap->Prop}{E:Env}{H:Heap}(h:Q E H):Gh Q E H:=
 fun _ _ x _ _ hi he=>⟨x,E,H,rfl,.refl x,hi,he,h⟩
@[congr] theorem Gh_congr {Q:Env->Heap->Prop}{E:Env}{H H':Heap}{z:Prop}(_:(True∧True)=z) (h:H=H'):Gh Q E H=Gh Q E H':=by rw[h]
theorem Gh.inv {Q:Env->Heap->Prop}{E:Env}{H H':Heap}(hi:∀x H0,Inv x (H++H0)->Inv x (H'++H0)) (h:Gh Q E H'):Gh Q E H:=
 fun n ds x act H0 hx he=>h n ds x act H0 (hi x H0 hx) he
theorem V.gh {C:Cfg}{c:Code}{E:Env}{H:Heap}{Q:PostQ}(h:V C c E H fun e E' H'=>Gh (Q e) E' H'):V C c E H Q:=by
 intro hf x act H0 ms hi he
 refine wpIn_mono (h hf x act H0 ms hi he) ?_
 rintro e a w ⟨y,E1,H1,ms',rfl,l1,i1,e1,g⟩
 obtain⟨z,E2,H2,w2,l2,i2,e2,h2⟩:=g C.n (ms'.map mk) y a _ i1 e1
 exact⟨z,E2,H2,ms',w2,l1.trans l2,i2,e2,h2⟩
theorem V.ofG {C:Cfg}{c:Code}{E:Env}{H:Heap}{Q:PostQ}(h:Gh (fun E' H'=>V C c E' H' Q) E H):V C c E H Q:=by
 intro hf x act H0 ms hi he
 obtain⟨z,E2,H2,w2,l2,i2,e2,h2⟩:=h C.n (ms.map mk) x act _ hi he
 have:=h2 hf z act H0 ms i2 e2
 rw[w2]at this
 exact wpIn_mono this fun _ _ _=>Post.le l2 fun _ _ _ h=>h
theorem freeze1 {x:X}{τ:Nat}{h:Value}{e sz:Nat}{rows:List (List A)}{H H0:Heap}(hH:hget τ H=some (.seq h e sz rows)) (hd:allD rows=true) (hi:Inv x (H++H0)) :
  ∃y:X,y.w=x.w∧x.le y∧Inv y (hdel τ H++H0)∧RdL y (.sl (rowsD rows)) h:=by
 have hp:=hdel_perm hH
 have hi1:Inv x ([(τ,.seq h e sz rows)]++(hdel τ H++H0)):=by
  have:=hi.perm (hp.symm.append_right H0)
  simpa using this
 obtain⟨y,hw,hle,hi2,hok,_⟩:=hi1.freeze
 exact⟨y,hw,hle,hi2,seq_data (Ent.sat_step hle (fun b _=>by rw[hw]) (hi1.sat (τ,.seq h e sz rows) (by simp))) (fun b hb=>hok b ⟨_,List.mem_singleton.2 rfl,hb⟩) hd⟩
theorem Ds_app {x:X}{a b:List A}{vs:List Value}(h:Ds x (a++b) vs):Ds x a (vs.take a.length)∧Ds x b (vs.drop a.length):=by
 have h1:=h.take a.length
 have h2:=h.drop a.length
 rw[List.take_left]at h1
 rw[List.drop_left]at h2
 exact⟨h1,h2⟩
theorem Ds_set {x:X}{a a':A}(hd:∀v,D x a v->D x a' v):∀ {r:List A}{vs:List Value}{j:Nat},r[j]?=some a->Ds x r vs->Ds x (r.set j a') vs
 | [],_,_,h,_=>by simp at h
 | _::_,[],_,_,h=>by simp[Ds]at h
 | b::r,v::vs,0,hj,h=>by
  simp only[List.getElem?_cons_zero,Option.some.injEq]at hj
  subst hj
  simp only[Ds]at h
  simp only[List.set_cons_zero,Ds]
  exact⟨hd v h.1,h.2⟩
 | b::r,v::vs,j+1,hj,h=>by
  simp only[List.getElem?_cons_succ]at hj
  simp only[Ds]at h
  simp only[List.set_cons_succ,Ds]
  exact⟨h.1,Ds_set hd hj h.2⟩
theorem Ds_rows {x:X}{r r':List A}(hd:∀vs,Ds x r vs->Ds x r' vs):∀ {rs:List (List A)}{vs:List Value}{i:Nat},rs[i]?=some r->Ds x rs.flatten vs->Ds x (rs.set i r').flatten vs
 | [],_,_,h,_=>by simp at h
 | q::rs,vs,0,hj,h=>by
  simp only[List.getElem?_cons_zero,Option.some.injEq]at hj
  subst hj
  simp only[List.flatten_cons]at h
  obtain⟨h1,h2⟩:=Ds_app h
  simp only[List.set_cons_zero,List.flatten_cons]
  rw[<- List.take_append_drop q.length vs]
  exact (hd _ h1).append h2
 | q::rs,vs,i+1,hj,h=>by
  simp only[List.getElem?_cons_succ]at hj
  simp only[List.flatten_cons]at h
  obtain⟨h1,h2⟩:=Ds_app h
  simp only[List.set_cons_succ,List.flatten_cons]
  rw[<- List.take_append_drop q.length vs]
  exact h1.append (Ds_rows hd hj h2)
theorem seq_swap {x:X}{hh:Value}{e sz i:Nat}{rs:List (List A)}{r r':List A}(hr:rs[i]?=some r) (hl:r'.length=r.length) (hd:∀vs,Ds x r vs->Ds x r' vs) (hs:Ent.sat x (.seq hh e sz rs)):Ent.sat x (.seq hh e sz (rs.set i r')):=by
 obtain⟨xs,ho,h1,h2⟩:=hs
 refine⟨xs,by simpa using ho,?_,Ds_rows hd hr h2⟩
 intro q hq
 rcases List.mem_or_eq_of_mem_set hq with hq | rfl
 ·exact h1 q hq
 ·rw[hl];exact h1 r (List.mem_of_getElem? hr)
theorem Inv.swap {x:X}{g:Nat}{e e':Ent}{H H0:Heap}(hg:hget g H=some e) (hs:e.sat x->e'.sat x) (ho:∀b,e'.own b->e.own b) (hi:Inv x (H++H0)):Inv x (hset g e' H++H0):=by
 have h1:Inv x ((g,e)::(hdel g H++H0)):=hi.perm ((hdel_perm hg).symm.append_right H0)
 have h2:Inv x ((g,e')::(hdel g H++H0)):=by
  refine⟨h1.bd,?_,?_,?_⟩
  ·intro p hp
   rcases List.mem_cons.1 hp with rfl | hp
   ·exact hs (h1.sat (g,e) (by simp))
   ·exact h1.sat p (by simp only[List.mem_cons];exact .inr hp)
  ·intro p hp b hb
   rcases List.mem_cons.1 hp with rfl | hp
   ·exact h1.own (g,e) (by simp) b (ho b hb)
   ·exact h1.own p (by simp only[List.mem_cons];exact .inr hp) b hb
  ·have:=List.pairwise_cons.1 h1.apart
   exact List.pairwise_cons.2 ⟨fun q hq b hb=>this.1 q hq b (ho b hb),this.2⟩
 exact h2.perm ((hset_perm hg).append_right H0).symm
theorem rowNil_inv {x:X}{H H0:Heap}{g τ i j:Nat}{hh:Value}{e sz:Nat}{rs:List (List A)}{r:List A}(e' sz':Nat) (hg:hget g H=some (.seq hh e sz rs)) (hr:rs[i]?=some r) (hj:r[j]?=some .nils) (hi:Inv x (H++H0)) :
  Inv x (((τ,.seq (.slice none 0 0) e' sz' [])::hset g (.seq hh e sz (rs.set i (r.set j (.own τ (.slice none 0 0))))) H)++H0):=by
 have h1:=hi.swap (e':=.seq hh e sz (rs.set i (r.set j (.own τ (.slice none 0 0))))) hg (fun hs=>seq_swap hr (by simp) (fun vs hv=>Ds_set (fun v hv=>by
  simp only[D]at hv ⊢
  subst hv
  exact⟨rfl,_,_,_,rfl⟩) hj hv) hs) (fun b hb=>hb)
 exact Inv.nil (t:=τ) h1 ⟨rfl,rfl⟩
theorem Gh.frzBox {Q:Env->Heap->Prop}{E:Env}{H:Heap}{g τ j b:Nat}{h:Value}{e sz:Nat}{rows:List (List A)}{cs:List A}{t:Nat}(hg:hget g (hdel τ H)=some (.box b cs)) (hH:hget τ H=some (.seq h e sz rows)) (hd:allD rows=true)
  (hj:cs[j]?=some (.own t h)) (hq:Gh Q E (hset g (.box b (cs.set j (.dat (.sl (rowsD rows))))) (hdel τ H))):Gh Q E H:=by
 intro n ds x act H0 hi he
 obtain⟨y,hw,hle,hi2,hrd⟩:=freeze1 hH hd hi
 have hi3:Inv y (hset g (.box b (cs.set j (.dat (.sl (rowsD rows))))) (hdel τ H)++H0):=
  hi2.swap hg (fun ⟨c,ty,h1,h2⟩=>⟨c,ty,h1,Ds_set (fun v hv=>by simp only[D]at hv ⊢;rw[hv.1];exact hrd) hj h2⟩) (fun b hb=>hb)
 obtain⟨z,E2,H2,w2,l2,i2,e2,h2⟩:=hq n ds y act H0 hi3 (he.mono hle)
 exact⟨z,E2,H2,w2.trans hw,hle.trans l2,i2,e2,h2⟩
def vcF (P:Program) (ρ:Nat->Option CR) (T:List Nat) (ops:List Oper):List Oper->Env->Heap->(Env->Heap->Prop)->Prop
 | [],E,H,K=>K E H
 | o::rest,E,H,K=>∀u b,match T.contains (o.dst.getD 0)&&o.guard.isNone with
  | true=>match heapF P u b (o.dst.getD 0) E (fun t=>hget t H) o.op with
   | some (p,a,ch)=>p∧vcF P ρ T ops rest (put E o.dst a) (happ ch H) K
   | none=>False
  | false=>match fStep P ρ u b ops o E (fun t=>hget t H) with
   | some (p,a,ch)=>p∧vcF P ρ T ops rest (put E o.dst a) (happ ch H) K
   | none=>False
@[congr] theorem vcF_congr {P:Program}{ρ:Nat->Option CR}{T:List Nat}{ops:List Oper}{l:List Oper}{E:Env}{H H':Heap}{K:Env->Heap->Prop}{z:Prop}(_:(True∧True)=z)
  (h:H=H'):vcF P ρ T ops l E H K=vcF P ρ T ops l E H' K:=by rw[h]
theorem vcF_ok {ρ:Nat->Option CR}{T:List Nat}{ops:List Oper}{n:Nat}{ds:List Deferred}{H0:Heap}{x0:X}{Q:Exit->Act->World->Prop}:∀(l:List Oper) (k:Nat) (E:Env) (H:Heap) (K:Env->Heap->Prop),ops.drop k=l->(∀o∈l,fits n o.dst)->vcF P ρ T ops l E H K ->
  (∀E H x act,K E H->x0.le x->Inv x (H++H0)->EnvOK n ds x act E->Q .normal act x.w)->∀x act,x0.le x->Inv x (H++H0)->EnvOK n ds x act E->wpOps P ops.toArray Q ((List.range' k l.length)) act x.w
 | [],k,E,H,K,_,_,h,hq,x,act,hle,hi,he=>by
  simp only[List.length_nil,List.range'_zero,wpOps]
  exact hq _ _ x act h hle hi he
 | o::rest,k,E,H,K,hk,hf,h,hq,x,act,hle,hi,he=>by
  have ho:ops[k]?=some o:=by
   have:=congrArg (·[0]?) hk
   simpa [List.getElem?_drop]using this
  have hk':ops.drop (k+1)=rest:=by
   rw[<- List.drop_drop,hk]
   rfl
  simp only[List.length_cons,List.range'_succ]
  rw[wpOps_cons]
  simp only[vcF]at h
  cases hT:(T.contains (o.dst.getD 0)&&o.guard.isNone) with
  | true=>
   rw[hT]at h
   dsimp only at h
   have hg:o.guard=none:=by
    have:=(Bool.and_eq_true_iff.1 hT).2
    cases hgd:o.guard with
    | none=>rfl
    | some _=>rw[hgd]at this;simp at this
   have hw:Region.wanted o (yielded ops.toArray act.tmps)=true:=by simp[Region.wanted,hg]
   obtain⟨u,b,v,y,p,a,ch,h1,h2,h3,h4,h5,h6⟩:=heapF_ok (P:=P) (o:=o) (E:=E) (τ:=o.dst.getD 0) (fun u b=>by
    have:=h u b
    split at this
    ·rename_i p a ch hh;exact⟨p,a,ch,hh,this.1⟩
    ·exact this.elim) (fun t=>rfl) hi he
   have hk2:=h u b
   rw[h1]at hk2
   have fin:∀v,D y a v->wpOps P ops.toArray Q (List.range' (k+1) rest.length) (act.put o.dst v) y.w:=fun v hd=>
    vcF_ok rest (k+1) _ _ K hk' (fun o ho=>hf o (by simp[ho])) hk2.2 hq y _ (hle.trans h4) h5 ((he.mono h4).put (hf o (by simp)) hd)
   unfold wpOp
   rw[show ops.toArray[k]?=some o by simpa using ho]
   simp only
   rw[if_pos hw]
   left
   show o.upon P act _ Q _
   rcases h3 with h3 | ⟨h3,rfl⟩
   ·rw[h3];exact fin v h6
   ·rw[h3];exact fin Go.undef h6
  | false=>
   rw[hT]at h
   dsimp only at h
   refine fStep_ok (ρ:=ρ) (fun u b=>?_) (fun t=>rfl) hi he (by simpa using ho) ?_
   ·have:=h u b
    split at this
    ·rename_i p a ch hh;exact⟨p,a,ch,hh,this.1⟩
    ·exact this.elim
   ·intro u b p a ch v y hh hle2 hi2 hd
    have:=h u b
    rw[hh]at this
    exact vcF_ok rest (k+1) _ _ K hk' (fun o ho=>hf o (by simp[ho])) this.2 hq y _ (hle.trans hle2) hi2 ((he.mono hle2).put (hf o (by simp)) hd)
theorem V.regF {n:Nat}{id:Nat}{ops:Array Oper}{E:Env}{H:Heap}{Q:PostQ}(ρ:Nat->Option CR) (T:List Nat) (h:vcF P ρ T ops.toList ops.toList E H fun E' H'=>Q .normal E' H'):V ⟨P,none,n⟩ (.region id ops false) E H Q:=by
 intro hf x act H0 ms hi he
 refine wpIn_wide.2 (wp_region ?_)
 have:=vcF_ok (P:=P) (ρ:=ρ) (T:=T) (n:=n) (ds:=ms.map mk) (x0:=x) (Q:=Post n H0 Q x) ops.toList 0 E H _ rfl (fitsOps_ok hf) h (fun E H y act hK hle hi he=>⟨y,E,H,ms,rfl,hle,hi,he,hK⟩) x act (.refl x) hi he
 rw[List.range_eq_range']
 simpa using this
theorem V.seq {C:Cfg}{a b:Code}{E:Env}{H:Heap}{Q:PostQ}(h:V C a E H fun e E' H'=>match e with
  | .normal=>vcC C b E' H' Q
  | .exit i=>Q (.exit i) E' H'
  | .ret=>Q .ret E' H'
  | _=>False):V C (.seq a b) E H Q:=by
 intro hf
 simp only[fitsC,Bool.and_eq_true]at hf
 refine W.seq ((h hf.1).mono ?_)
 intro e E' H' hq
 cases e<;>first | exact vcC_ok b _ _ _ hf.2 hq | exact hq
theorem CallFn.give {g:FuncId}{az az':List A}{Hc Hr H:Heap}{K:A->Heap->Prop}{r:A}(h:CallFn P g az' r) (hH:H=Hc++Hr) (hz:(frzs Hc az).1∧(frzs Hc az).2=az') (hk:K r Hr):CallS P g az H K:=by
 subst hH
 obtain⟨hz1,rfl⟩:=hz
 refine⟨h.1,fun x args H0 hi hd=>?_⟩
 rw[List.append_assoc]at hi
 obtain⟨x',hw,hle,hi0,hok,_⟩:=hi.freeze
 have hd':=frzs_ok hi hle hw hok az _ hd hz1
 have:=(CallS.frame (H1:=Hr) h).2 x' args H0 (by simpa using hi0) hd'
 rw[hw]at this
 refine this.mono ?_
 rintro _ _ ⟨y,v,r',H',rfl,rfl,hley,hiy,hv,H2,⟨rfl,rfl⟩,rfl⟩
 exact⟨y,v,_,_,rfl,rfl,hle.trans hley,by simpa using hiy,hv,hk⟩
attribute [simp] vcF
end
section
variable {P:Program}
end
section
variable {P:Program}
def rStep (P:Program) (ρ:Nat->Option CR) (o:Oper) (E:Env) (G:Nat->Option Ent):Option (Prop×A):=match o.guard with
 | some _=>none
 | none=>match pureA P E o.op with
  | some r=>some r
  | none=>match callA E o.op with
   | some (p,g,az)=>match ρ (o.dst.getD 0) with
    | some (.fn r)=>some (p∧CallFn P g az r,r)
    | some (.ro r)=>some (p∧(rdT E o).Nodup∧CallS P g az (entsOf G (rdT E o)) (fun r' H'=>r'=r∧H'=entsOf G (rdT E o)),r)
    | _=>none
   | none=>match heapF P .nilIface 0 0 E G o.op,reads o.op with
    | some (p,a,none),true=>some (p,a)
    | _,_=>none
def rr (av:Nat->A) (k:Nat) (r:A):Nat->Option (Prop×A×Option (Nat×Ent)):=fun i=>some (True,if i=k then r else av i,none)
section main
variable {ρ:Nat->Option CR}{ops:List Oper}{E0:Env}{H:Heap}{k:Nat}{R:List Nat}{av:Nat->A}
end main
def againC (P:Program) (ρ:Nat->Option CR) (H:Heap):List (Oper×Env×A)->Prop
 | []=>True
 | q::r=>(match rStep P ρ q.1 q.2.1 (fun t=>hget t H) with
  | some (p,a)=>p∧a=q.2.2
  | none=>False)∧againC P ρ H r
def vcM (P:Program) (ρ:Nat->Option CR) (k:Nat) (R:List Nat) (H:Heap) (K:List (Oper×Env×A)->Oper->Env->Env->Prop):Nat->List (Oper×Env×A)->Option (Oper×Env)->List Oper->Env->Prop
 | _,acc,some (ok,Ek),[],E=>K acc ok Ek E
 | _,_,none,[],_=>False
 | i,acc,c,o::rest,E=>if i=k then vcM P ρ k R H K (i+1) acc (some (o,E)) rest (put E o.dst .any) else match rStep P ρ o E (fun t=>hget t H) with
  | some (p,a)=>p∧vcM P ρ k R H K (i+1) (if R.contains i then (o,E,a)::acc else acc) c rest (put E o.dst a)
  | none=>False
def endM (P:Program) (ρ:Nat->Option CR) (o:Oper) (E:Env) (H:Heap) (K:Env->Heap->Prop):Prop:=∀u b,match fStep0 P ρ u b [] o E (fun t=>hget t H) with
 | some (p,a,ch)=>p∧K (put E o.dst a) (happ ch H)
 | none=>False
attribute [simp] rStep againC vcM endM
end
section
variable {P:Program}
def Sees (a b:A):Prop:=∀x v,D x a v->D x b v
def swA (sw:Nat->Option A) (o:Oper) (a:A):A:=(sw (o.dst.getD 0)).getD a
def swP (sw:Nat->Option A) (o:Oper) (a:A):Prop:=match sw (o.dst.getD 0) with
 | some b=>Sees a b
 | none=>True
theorem sw_ok {sw:Nat->Option A}{o:Oper}{a:A}(h:swP sw o a) {x:X}{v:Value}(hv:D x a v):D x (swA sw o a) v:=by
 unfold swA
 unfold swP at h
 split at h
 ·rename_i b hb
  rw[hb]
  exact h x v hv
 ·rename_i hb
  rw[hb]
  exact hv
def vcS (P:Program) (ρ:Nat->Option CR) (T:List Nat) (sw:Nat->Option A) (ops:List Oper):List Oper->Env->Heap->(Env->Heap->Prop)->Prop
 | [],E,H,K=>K E H
 | o::rest,E,H,K=>∀u b,match T.contains (o.dst.getD 0)&&o.guard.isNone with
  | true=>match heapF P u b (o.dst.getD 0) E (fun t=>hget t H) o.op with
   | some (p,a,ch)=>p∧swP sw o a∧vcS P ρ T sw ops rest (put E o.dst (swA sw o a)) (happ ch H) K
   | none=>False
  | false=>match fStep P ρ u b ops o E (fun t=>hget t H) with
   | some (p,a,ch)=>p∧swP sw o a∧vcS P ρ T sw ops rest (put E o.dst (swA sw o a)) (happ ch H) K
   | none=>False
@[congr] theorem vcS_congr {P:Program}{ρ:Nat->Option CR}{T:List Nat}{sw:Nat->Option A}{ops:List Oper}{l:List Oper}{E:Env}{H H':Heap}{K:Env->Heap->Prop}{z:Prop}(_:(True∧True)=z)
  (h:H=H'):vcS P ρ T sw ops l E H K=vcS P ρ T sw ops l E H' K:=by rw[h]
theorem vcS_ok {ρ:Nat->Option CR}{T:List Nat}{sw:Nat->Option A}{ops:List Oper}{n:Nat}{ds:List Deferred}{H0:Heap}{x0:X}{Q:Exit->Act->World->Prop}:∀(l:List Oper) (k:Nat) (E:Env) (H:Heap) (K:Env->Heap->Prop),ops.drop k=l->(∀o∈l,fits n o.dst)->vcS P ρ T sw ops l E H K ->
  (∀E H x act,K E H->x0.le x->Inv x (H++H0)->EnvOK n ds x act E->Q .normal act x.w)->∀x act,x0.le x->Inv x (H++H0)->EnvOK n ds x act E->wpOps P ops.toArray Q ((List.range' k l.length)) act x.w
 | [],k,E,H,K,_,_,h,hq,x,act,hle,hi,he=>by
  simp only[List.length_nil,List.range'_zero,wpOps]
  exact hq _ _ x act h hle hi he
 | o::rest,k,E,H,K,hk,hf,h,hq,x,act,hle,hi,he=>by
  have ho:ops[k]?=some o:=by
   have:=congrArg (·[0]?) hk
   simpa [List.getElem?_drop]using this
  have hk':ops.drop (k+1)=rest:=by
   rw[<- List.drop_drop,hk]
   rfl
  simp only[List.length_cons,List.range'_succ]
  rw[wpOps_cons]
  simp only[vcS]at h
  cases hT:(T.contains (o.dst.getD 0)&&o.guard.isNone) with
  | true=>
   rw[hT]at h
   dsimp only at h
   have hg:o.guard=none:=by
    have:=(Bool.and_eq_true_iff.1 hT).2
    cases hgd:o.guard with
    | none=>rfl
    | some _=>rw[hgd]at this;simp at this
   have hw:Region.wanted o (yielded ops.toArray act.tmps)=true:=by simp[Region.wanted,hg]
   obtain⟨u,b,v,y,p,a,ch,h1,h2,h3,h4,h5,h6⟩:=heapF_ok (P:=P) (o:=o) (E:=E) (τ:=o.dst.getD 0) (fun u b=>by
    have:=h u b
    split at this
    ·rename_i p a ch hh;exact⟨p,a,ch,hh,this.1⟩
    ·exact this.elim) (fun t=>rfl) hi he
   have hk2:=h u b
   rw[h1]at hk2
   have fin:∀v,D y a v->wpOps P ops.toArray Q (List.range' (k+1) rest.length) (act.put o.dst v) y.w:=fun v hd=>
    vcS_ok rest (k+1) _ _ K hk' (fun o ho=>hf o (by simp[ho])) hk2.2.2 hq y _ (hle.trans h4) h5 ((he.mono h4).put (hf o (by simp)) (sw_ok hk2.2.1 hd))
   unfold wpOp
   rw[show ops.toArray[k]?=some o by simpa using ho]
   simp only
   rw[if_pos hw]
   left
   show o.upon P act _ Q _
   rcases h3 with h3 | ⟨h3,rfl⟩
   ·rw[h3];exact fin v h6
   ·rw[h3];exact fin Go.undef h6
  | false=>
   rw[hT]at h
   dsimp only at h
   refine fStep_ok (ρ:=ρ) (fun u b=>?_) (fun t=>rfl) hi he (by simpa using ho) ?_
   ·have:=h u b
    split at this
    ·rename_i p a ch hh;exact⟨p,a,ch,hh,this.1⟩
    ·exact this.elim
   ·intro u b p a ch v y hh hle2 hi2 hd
    have:=h u b
    rw[hh]at this
    exact vcS_ok rest (k+1) _ _ K hk' (fun o ho=>hf o (by simp[ho])) this.2.2 hq y _ (hle.trans hle2) hi2 ((he.mono hle2).put (hf o (by simp)) (sw_ok this.2.1 hd))
theorem V.seqV {C:Cfg}{a b:Code}{E:Env}{H:Heap}{Q:PostQ}(h:V C a E H fun e E' H'=>match e with
  | .normal=>V C b E' H' Q
  | .exit i=>Q (.exit i) E' H'
  | .ret=>Q .ret E' H'
  | _=>False):V C (.seq a b) E H Q:=by
 intro hf
 simp only[fitsC,Bool.and_eq_true]at hf
 refine W.seq ((h hf.1).mono ?_)
 intro e E' H' hq
 cases e with
 | normal=>exact hq hf.2
 | exit i=>exact hq
 | ret=>exact hq
 | goto l=>exact hq
 | panic c=>exact hq
 | outgrown=>exact hq
attribute [simp] vcS swA swP
end
section
variable {P:Program}
theorem V.of_vc {C:Cfg}{c:Code}{E:Env}{H:Heap}{Q:PostQ}(h:vcC C c E H Q):V C c E H Q:=fun hf=>vcC_ok c E H Q hf h
theorem V.of_vcN {C:Cfg}(k:Nat) {c:Code}{E:Env}{H:Heap}{Q:PostQ}(h:vcN C k c E H Q):V C c E H Q:=fun hf=>vcN_ok k c E H Q hf h
theorem V.condV {C:Cfg}{c:Operand}{a b:Code}{E:Env}{H:Heap}{Q:PostQ}(h:match st (ev E c) with
  | (p,.dat (.bool t))=>p∧(t=true->V C a E H Q)∧(t=false->V C b E H Q)
  | _=>False):V C (.cond c a b) E H Q:=by
 intro hf
 simp only[fitsC,Bool.and_eq_true]at hf
 cases hs:st (ev E c) with
 | mk p v=>
  rw[hs]at h
  cases v with
  | dat l=>
   cases l with
   | bool t=>exact W.cond' hs h.1 (fun ht=>h.2.1 ht (by simp_all)) (fun ht=>h.2.2 ht (by simp_all))
   | _=>exact h.elim
  | _=>exact h.elim
theorem V.cutV {C:Cfg}{c:Code}{E:Env}{H Hs:Heap}{Q:PostQ}(kv:List (Nat×A)) (hE:∀p∈kv,wk (E p.1) p.2) (hH:subN Hs H) (h:V C c (hdE kv []) Hs Q):V C c E H Q:=by
 intro hf x act H0 ms hi he
 refine h hf x act H0 ms (subN_inv hH hi) ⟨he.defers,he.size,?_⟩
 exact sets_wk he.slot [] _ (by simp) (sets_wk he.slot kv _ hE fun t=>by simp[anyE,D])
def BodyQ (id:Nat) (Q:PostQ) (nx:Env->Heap->Prop):PostQ:=fun e E H=>match e with
 | .normal=>nx E H
 | .exit k=>if k=id then nx E H else Q (.exit k) E H
 | .ret=>Q .ret E H
 | _=>False
@[simp] theorem BodyQ_n (id:Nat) (Q:PostQ) (nx:Env->Heap->Prop) (E:Env) (H:Heap):BodyQ id Q nx .normal E H=nx E H:=rfl
theorem BodyQ_x (id:Nat) (Q:PostQ) (nx:Env->Heap->Prop) (E:Env) (H:Heap):BodyQ id Q nx (.exit id) E H=nx E H:=if_pos rfl
@[simp] theorem BodyQ_r (id:Nat) (Q:PostQ) (nx:Env->Heap->Prop) (E:Env) (H:Heap):BodyQ id Q nx .ret E H=Q .ret E H:=rfl
@[congr] theorem BodyQ_congr {id:Nat}{Q:PostQ}{nx:Env->Heap->Prop}{e e':Exit}{E:Env}{H:Heap}{z:Prop}(_:(True∧True)=z) (h:e=e'):BodyQ id Q nx e E H=BodyQ id Q nx e' E H:=by rw[h]
theorem V.forB {C:Cfg}{E:Env}{H:Heap}{Q:PostQ}{id:Nat}{head inner post:Code}{σ:Type}{kv:List (Nat×A)}{kh:Heap}(n:Nat) (Lv:List Nat) (hkv:kv=Lv.map fun t=>(t,E t)) (sl sb:Nat->σ->List (Nat×A)) (Hs:Nat->σ->Heap) (I:Nat->σ->Prop) (s0:σ)
  (hI0:I 0 s0) (hE0:∀p∈sl 0 s0,wk (E p.1) p.2) (hH0:kh=kpH (Hs 0 s0) H∧subN (hcat (Hs 0 s0) kh) H)
  (hh:∀i s,i<n->I i s->vcC C head (hdE kv (sl i s)) (hcat (Hs i s) kh) (LoopQ (fun _ _ _=>False) fun E' H'=>(∀p∈sl i s,E' p.1=p.2)∧(∀p∈kv,E' p.1=p.2)∧H'=hcat (Hs i s) kh))
  (hb:∀i s,i<n->I i s->V C inner (hdE kv (sl i s)) (hcat (Hs i s) kh) (BodyQ id Q fun E' H'=>∃s',I (i+1) s'∧(∀p∈sb i s',wk (E' p.1) p.2)∧(∀p∈kv,E' p.1=p.2)∧subN (hcat (Hs (i+1) s') kh) H'))
  (hp:∀i s,i<n->I (i+1) s->vcC C post (hdE kv (sb i s)) (hcat (Hs (i+1) s) kh) (LoopQ (fun _ _ _=>False) fun E' H'=>
   ∃s',I (i+1) s'∧(∀p∈sl (i+1) s',wk (E' p.1) p.2)∧(∀p∈kv,E' p.1=p.2)∧subN (hcat (Hs (i+1) s') kh) H'))
  (he:∀s,I n s->vcC C head (hdE kv (sl n s)) (hcat (Hs n s) kh) (LoopQ Q fun _ _=>False)):V C (.loop (.seq head (.seq (.block id inner) post))) E H Q:=by
 intro hf x act H0 ms hi hen
 have hf2:=hf
 simp only[fitsC,Bool.and_eq_true]at hf2
 obtain⟨f1,f2,f3⟩:=hf2
 have hset:∀ {sl:List (Nat×A)}{E':Env}{y:X}{a:Act}{ds:List Deferred},EnvOK C.n ds y a E'->(∀p∈sl,wk (E' p.1) p.2)->(∀p∈kv,E' p.1=p.2)->EnvOK C.n ds y a (hdE kv sl):=by
  intro sl E' y a ds h h1 h2
  refine⟨h.defers,h.size,sets_wk h.slot _ _ h1 (sets_wk h.slot _ _ ?_ fun t=>by simp[anyE,D])⟩
  intro p hp
  rw[h2 p hp]
  simp
 have h00:∀p∈kv,E p.1=p.2:=by
  intro p hp
  rw[hkv]at hp
  obtain⟨t,_,rfl⟩:=List.mem_map.1 hp
  rfl
 have key:W C (.loop (.seq head (.seq (.block id inner) post))) (hdE kv (sl 0 s0)) (hcat (Hs 0 s0) kh) Q:=by
  refine W.loop (fun m E' H'=>∃i s,i<=n∧I i s∧n-i=m∧E'=hdE kv (sl i s)∧H'=hcat (Hs i s) kh) n ⟨0,s0,Nat.zero_le _,hI0,rfl,rfl,rfl⟩ ?_
  rintro m _ _ ⟨i,s,hin,hI,rfl,rfl,rfl⟩
  rcases Nat.lt_or_ge i n with hlt | hge
  ·refine W.seq ?_
   intro x act H0 ms hi hen
   refine wpIn_mono (vcC_ok head _ _ _ f1 (hh i s hlt hI) x act H0 ms hi hen) ?_
   rintro e a' w' ⟨y,E',H',ms',rfl,hle,hi',he',hq⟩
   cases e with
   | normal=>
    obtain⟨q1,q2,rfl⟩:=hq
    refine⟨y,hdE kv (sl i s),_,ms',rfl,hle,hi',hset he' (fun p hp=>.inl (q1 p hp)) q2,?_⟩
    refine W.seq (W.block ((hb i s hlt hI f2).mono ?_))
    have key2:∀E' H',(∃s',I (i+1) s'∧(∀p∈sb i s',wk (E' p.1) p.2)∧(∀p∈kv,E' p.1=p.2)∧subN (hcat (Hs (i+1) s') kh) H')->W C post E' H' fun e E' H'=>match e with
      | .normal=>∃m',m'<n-i∧∃i s,i<=n∧I i s∧n-i=m'∧E'=hdE kv (sl i s)∧H'=hcat (Hs i s) kh
      | .exit k=>Q (.exit k) E' H'
      | .ret=>Q .ret E' H'
      | _=>False:=by
     rintro E' H' ⟨s',r1,r2,r3,r4⟩ x act H0 ms hi hen
     refine wpIn_mono (vcC_ok post _ _ _ f3 (hp i s' hlt r1) x act H0 ms (subN_inv r4 hi) (hset hen r2 r3)) ?_
     rintro e a' w' ⟨y,E2,H2,ms',rfl,hle,hi',he',hq⟩
     cases e with
     | normal=>
      obtain⟨s2,h1,h3,h4,h5⟩:=hq
      exact⟨y,_,_,ms',rfl,hle,subN_inv h5 hi',hset he' h3 h4,n-(i+1),by omega,i+1,s2,by omega,h1,rfl,rfl,rfl⟩
     | exit k=>exact hq.elim
     | ret=>exact hq.elim
     | goto k=>exact hq.elim
     | panic k=>exact hq.elim
     | outgrown=>exact hq.elim
    intro e E' H' hq
    cases e with
    | normal=>exact key2 E' H' hq
    | exit k=>
     simp only[BodyQ]at hq
     simp only[blockQ]
     split at hq
     ·rename_i hk
      rw[if_pos hk]
      exact key2 E' H' hq
     ·rename_i hk
      rw[if_neg hk]
      exact hq
    | ret=>exact hq
    | goto k=>exact hq.elim
    | panic k=>exact hq.elim
    | outgrown=>exact hq.elim
   | exit k=>exact hq.elim
   | ret=>exact hq.elim
   | goto k=>exact hq.elim
   | panic k=>exact hq.elim
   | outgrown=>exact hq.elim
  ·obtain rfl:i=n:=by omega
   refine W.seq ?_
   intro x act H0 ms hi hen
   refine wpIn_mono (vcC_ok head _ _ _ f1 (he s hI) x act H0 ms hi hen) ?_
   rintro e a' w' ⟨y,E',H',ms',rfl,hle,hi',he',hq⟩
   cases e with
   | normal=>exact hq.elim
   | exit k=>exact⟨y,E',H',ms',rfl,hle,hi',he',hq⟩
   | ret=>exact⟨y,E',H',ms',rfl,hle,hi',he',hq⟩
   | goto k=>exact hq.elim
   | panic k=>exact hq.elim
   | outgrown=>exact hq.elim
 exact key x act H0 ms (subN_inv hH0.2 hi) (hset hen hE0 h00)
end
section
variable {P:Program}
theorem ds_take {x:X}:∀(ls:List L) {rest:List A}{vs:List Value},Ds x (ls.map A.dat++rest) vs->RdLs x ls (vs.take ls.length)
 | [],_,_,_=>by simp[RdLs]
 | l::ls,rest,v::vs,h=>by
  simp only[List.map_cons,List.cons_append,Ds,D]at h
  simp only[List.length_cons,List.take_succ_cons,RdLs]
  exact⟨h.1,ds_take ls h.2⟩
 | l::ls,rest,[],h=>by simp[Ds]at h
theorem Gh.frzPre {Q:Env->Heap->Prop}{E:Env}{H:Heap}(t:Nat) {τ b:Nat}{ls:List L}{rest:List A}(hE:E t=.ptr τ b 0) (hH:hget τ H=some (.box b (ls.map A.dat++rest)))
  (hq:Gh Q (upd E t (.rptr ls)) (hdel τ H)):Gh Q E H:=by
 intro n ds x act H0 hi he
 have hp:=hdel_perm hH
 have hi1:Inv x ([(τ,.box b (ls.map A.dat++rest))]++(hdel τ H++H0)):=by
  have:=hi.perm (hp.symm.append_right H0)
  simpa using this
 obtain⟨y,hw,hle,hi2,hok,_⟩:=hi1.freeze
 have he2:EnvOK n ds y act (upd E t (.rptr ls)):=by
  have hm:=he.mono hle
  refine⟨hm.defers,hm.size,fun s=>?_⟩
  simp only[upd]
  split
  ·rename_i hs
   subst hs
   have hv:=he.slot s
   rw[hE]at hv
   obtain⟨c,ty,k1,k2⟩:=hi1.sat (τ,.box b (ls.map A.dat++rest)) (by simp)
   simp only[D]at hv ⊢
   rw[hv]
   refine⟨b,0,rfl,rdCells_vals (hok b ⟨_,List.mem_singleton.2 rfl,rfl⟩) ls _ 0 (RdLs.mono hle _ _ (ds_take ls k2)) ?_⟩
   intro j u hj
   rw[hw]
   simp only[World.cell?,k1,Nat.zero_add]
   have hj2:c.toList[j]?=some u:=by
    rw[List.getElem?_take]at hj
    split at hj
    ·exact hj
    ·cases hj
   simpa using hj2
  ·exact hm.slot s
 obtain⟨z,E2,H2,w2,l2,i2,e2,h2⟩:=hq n ds y act H0 hi2 he2
 exact⟨z,E2,H2,w2.trans hw,hle.trans l2,i2,e2,h2⟩
theorem rows1 {x:X}:∀(ls:List L) (b off:Nat),RdCells x ls b off->RdRows x (ls.map fun l=>[l]) b off
 | [],_,_,_=>by simp[RdRows]
 | l::ls,b,off,h=>by
  simp only[RdCells]at h
  simp only[List.map_cons,RdRows,RdCells,List.length_singleton]
  exact⟨⟨h.1,trivial⟩,rows1 ls b (off+1) h.2⟩
theorem sliceArr_ok {o:Oper}{t e:TypeId}{n:Nat}{x:Operand}{E:Env}{ls:List L}(ho:o.op=.slice t x none none none) (hu:arT P t=some (n,e)) (hs:tk P e≠0) (hE:ev E x=.rptr ls) (hn:n<=ls.length) :
  PureOK P o E (.dat (.sl ((ls.take n).map fun l=>[l]))):=by
 intro m ds y act he hb
 obtain⟨dst,op,type,pos,after,guard⟩:=o
 simp only at ho
 subst ho
 have hv:=ev_ok he x
 rw[hE]at hv
 simp only[D]at hv
 obtain⟨b,off,hv,hc⟩:=hv
 refine⟨.slice (some ⟨b,off,none⟩) n n,y,?_,Grow.refl y,?_⟩
 ·simp[execOp,Instr.sliceAt,run_underlying (arT_und hu),hv,Instr.sureAddr,Instr.sliceBounds,run_sizeOf' hs,add_none]
 ·simp only[D,RdL]
  refine .inr (.inl ⟨b,off,n,?_,?_,rows1 _ _ _ (RdCells.take n ls b off hc)⟩)
  ·simp;omega
  ·simp;omega
def vcT (P:Program) (ρ:Nat->Option CR) (T:List Nat) (hd:Nat->Option A) (ops:List Oper):List Oper->Env->Heap->(Env->Heap->Prop)->Prop
 | [],E,H,K=>K E H
 | o::rest,E,H,K=>match hd (o.dst.getD 0),o.guard with
  | some a,none=>PureOK P o E a∧vcT P ρ T hd ops rest (put E o.dst a) H K
  | _,_=>∀u b,match T.contains (o.dst.getD 0)&&o.guard.isNone with
   | true=>match heapF P u b (o.dst.getD 0) E (fun t=>hget t H) o.op with
    | some (p,a,ch)=>p∧vcT P ρ T hd ops rest (put E o.dst a) (happ ch H) K
    | none=>False
   | false=>match fStep P ρ u b ops o E (fun t=>hget t H) with
    | some (p,a,ch)=>p∧vcT P ρ T hd ops rest (put E o.dst a) (happ ch H) K
    | none=>False
@[congr] theorem vcT_congr {P:Program}{ρ:Nat->Option CR}{T:List Nat}{hd:Nat->Option A}{ops:List Oper}{l:List Oper}{E:Env}{H H':Heap}{K:Env->Heap->Prop}{z:Prop}(_:(True∧True)=z)
  (h:H=H'):vcT P ρ T hd ops l E H K=vcT P ρ T hd ops l E H' K:=by rw[h]
theorem vcT_ok {ρ:Nat->Option CR}{T:List Nat}{hd:Nat->Option A}{ops:List Oper}{n:Nat}{ds:List Deferred}{H0:Heap}{x0:X}{Q:Exit->Act->World->Prop}:∀(l:List Oper) (k:Nat) (E:Env) (H:Heap) (K:Env->Heap->Prop),ops.drop k=l->(∀o∈l,fits n o.dst)->vcT P ρ T hd ops l E H K ->
  (∀E H x act,K E H->x0.le x->Inv x (H++H0)->EnvOK n ds x act E->Q .normal act x.w)->∀x act,x0.le x->Inv x (H++H0)->EnvOK n ds x act E->wpOps P ops.toArray Q ((List.range' k l.length)) act x.w
 | [],k,E,H,K,_,_,h,hq,x,act,hle,hi,he=>by
  simp only[List.length_nil,List.range'_zero,wpOps]
  exact hq _ _ x act h hle hi he
 | o::rest,k,E,H,K,hk,hf,h,hq,x,act,hle,hi,he=>by
  have ho:ops[k]?=some o:=by
   have:=congrArg (·[0]?) hk
   simpa [List.getElem?_drop]using this
  have hk':ops.drop (k+1)=rest:=by
   rw[<- List.drop_drop,hk]
   rfl
  simp only[List.length_cons,List.range'_succ]
  rw[wpOps_cons]
  simp only[vcT]at h
  split at h
  ·rename_i a hh hg
   obtain⟨u,y,h1,h2,h3⟩:=h.1 _ _ x act he hi.bd
   have hw:Region.wanted o (yielded ops.toArray act.tmps)=true:=by simp[Region.wanted,hg]
   unfold wpOp
   rw[show ops.toArray[k]?=some o by simpa using ho]
   simp only
   rw[if_pos hw]
   left
   show o.upon P act _ Q _
   rw[h1]
   exact vcT_ok rest (k+1) _ _ K hk' (fun o ho=>hf o (by simp[ho])) h.2 hq y _ (hle.trans h2.le) (hi.grow h2) ((he.mono h2.le).put (hf o (by simp)) h3)
  ·cases hT:(T.contains (o.dst.getD 0)&&o.guard.isNone) with
   | true=>
    rw[hT]at h
    dsimp only at h
    have hg:o.guard=none:=by
     have:=(Bool.and_eq_true_iff.1 hT).2
     cases hgd:o.guard with
     | none=>rfl
     | some _=>rw[hgd]at this;simp at this
    have hw:Region.wanted o (yielded ops.toArray act.tmps)=true:=by simp[Region.wanted,hg]
    obtain⟨u,b,v,y,p,a,ch,h1,h2,h3,h4,h5,h6⟩:=heapF_ok (P:=P) (o:=o) (E:=E) (τ:=o.dst.getD 0) (fun u b=>by
     have:=h u b
     split at this
     ·rename_i p a ch hh;exact⟨p,a,ch,hh,this.1⟩
     ·exact this.elim) (fun t=>rfl) hi he
    have hk2:=h u b
    rw[h1]at hk2
    have fin:∀v,D y a v->wpOps P ops.toArray Q (List.range' (k+1) rest.length) (act.put o.dst v) y.w:=fun v hd=>
     vcT_ok rest (k+1) _ _ K hk' (fun o ho=>hf o (by simp[ho])) hk2.2 hq y _ (hle.trans h4) h5 ((he.mono h4).put (hf o (by simp)) hd)
    unfold wpOp
    rw[show ops.toArray[k]?=some o by simpa using ho]
    simp only
    rw[if_pos hw]
    left
    show o.upon P act _ Q _
    rcases h3 with h3 | ⟨h3,rfl⟩
    ·rw[h3];exact fin v h6
    ·rw[h3];exact fin Go.undef h6
   | false=>
    rw[hT]at h
    dsimp only at h
    refine fStep_ok (ρ:=ρ) (fun u b=>?_) (fun t=>rfl) hi he (by simpa using ho) ?_
    ·have:=h u b
     split at this
     ·rename_i p a ch hh;exact⟨p,a,ch,hh,this.1⟩
     ·exact this.elim
    ·intro u b p a ch v y hh hle2 hi2 hd
     have:=h u b
     rw[hh]at this
     exact vcT_ok rest (k+1) _ _ K hk' (fun o ho=>hf o (by simp[ho])) this.2 hq y _ (hle.trans hle2) hi2 ((he.mono hle2).put (hf o (by simp)) hd)
theorem V.regD {n:Nat}{id:Nat}{ops:Array Oper}{E:Env}{H:Heap}{Q:PostQ}(ρ:Nat->Option CR) (T:List Nat) (hd:Nat->Option A) (h:vcT P ρ T hd ops.toList ops.toList E H fun E' H'=>Q .normal E' H'):V ⟨P,none,n⟩ (.region id ops false) E H Q:=by
 intro hf x act H0 ms hi he
 refine wpIn_wide.2 (wp_region ?_)
 have:=vcT_ok (P:=P) (ρ:=ρ) (T:=T) (hd:=hd) (n:=n) (ds:=ms.map mk) (x0:=x) (Q:=Post n H0 Q x) ops.toList 0 E H _ rfl (fitsOps_ok hf) h (fun E H y act hK hle hi he=>⟨y,E,H,ms,rfl,hle,hi,he,hK⟩) x act (.refl x) hi he
 rw[List.range_eq_range']
 simpa using this
attribute [simp] vcT
end
section
variable {P:Program}
theorem CallS.res {g:FuncId}{az:List A}{H:Heap}{K K':A->Heap->Prop}(h:CallS P g az H K)
  (hk:∀r H',K r H'->∃r' H'',(∀x H0,Inv x (H'++H0)->Inv x (H''++H0))∧(∀x v,D x r v->D x r' v)∧K' r' H''):CallS P g az H K':=by
 refine⟨h.1,fun x args H0 hi hd=>(h.2 x args H0 hi hd).mono ?_⟩
 rintro _ _ ⟨y,v,r,H',rfl,rfl,hle,hiy,hv,hkr⟩
 obtain⟨r',H'',a1,a2,a3⟩:=hk r H' hkr
 exact⟨y,v,r',H'',rfl,rfl,hle,a1 y H0 hiy,a2 y v hv,a3⟩
theorem rowsD_T (xs:List (List UInt8)):rowsD (xs.map rT)=xs.map encT:=by unfold rowsD;rw[List.map_map];rfl
theorem allD_T (xs:List (List UInt8)):allD (xs.map rT)=true:=by simp[allD,isD]
attribute [simp] rowsD_T allD_T
end
def encUp (us:List (PortZ×PortZ)):List (KeyK×List L):=us.map fun u=>(u.1,encPo u.2)
theorem kget_enc (p:PortZ):∀us:List (PortZ×PortZ),kget (encUp us) p=(kget us p).map encPo
 | []=>rfl
 | u::us=>by
  have ih:=kget_enc p us
  unfold encUp at ih ⊢
  simp only[List.map_cons,kget]
  split
  ·rfl
  ·exact ih
theorem kput_enc (p q:PortZ):∀us:List (PortZ×PortZ),kput (encUp us) p (encPo q)=encUp (kput us p q)
 | []=>rfl
 | u::us=>by
  have ih:=kput_enc p q us
  unfold encUp at ih ⊢
  simp only[List.map_cons,kput]
  split
  ·rfl
  ·simp only[List.map_cons]
   rw[ih]
theorem kget_put {α:Type}(p q:KeyK) (v:α):∀us:List (KeyK×α),kget (kput us p v) q=if p=q then some v else kget us q
 | []=>by simp[kput,kget]
 | u::us=>by
  have ih:=kget_put p q v us
  simp only[kput]
  split
  ·rename_i h
   simp only[kget]
   by_cases e:p=q
   ·rw[if_pos e,if_pos (h.trans e)]
   ·rw[if_neg e,if_neg (fun h2=>e (h▸h2))]
    rw[if_neg (fun h2=>e (h▸h2))]
  ·rename_i h
   simp only[kget]
   by_cases e1:u.1=q
   ·rw[if_pos e1,if_neg (fun h2=>h (e1.trans h2.symm)),if_pos e1]
   ·rw[if_neg e1,if_neg e1]
    exact ih
theorem kget_mem {α:Type}{p:KeyK}{v:α}:∀ {us:List (KeyK×α)},kget us p=some v->(p,v)∈us
 | [],h=>by simp[kget]at h
 | u::us,h=>by
  simp only[kget]at h
  split at h
  ·rename_i e
   simp only[Option.some.injEq]at h
   subst h
   subst e
   simp
  ·exact List.mem_cons_of_mem _ (kget_mem h)
structure UpR (us:List (PortZ×PortZ)) (f:PortZ->PortZ):Prop where
 none:∀p,kget us p=none->f p=p
 some:∀p q,kget us p=some q->f p=f q∧beforeZ q p=true
 root:∀p,kget us (f p)=Option.none
theorem upR_nil:UpR [] id:=⟨fun _ _=>rfl,fun _ _ h=>by simp[kget]at h,fun _=>rfl⟩
theorem upR_same {us:List (PortZ×PortZ)}{f:PortZ->PortZ}(h:UpR us f) {x:PipeZ}(he:f x.1=f x.2):UpR us (mergeF f x):=by
 have:mergeF f x=f:=by
  funext p
  unfold mergeF hiP loP
  rw[he]
  cases beforeZ (f x.2) (f x.2)<;>simp<;>intro h<;>exact h.symm
 rwa [this]
theorem upR_put {us:List (PortZ×PortZ)}{f:PortZ->PortZ}(h:UpR us f) {x:PipeZ}(he:f x.1≠f x.2):UpR (kput us (hiP (f x.1) (f x.2)) (loP (f x.1) (f x.2))) (mergeF f x):=by
 have hlt:=loP_ne he
 have ho:=hiP_or (f x.1) (f x.2)
 have hne:hiP (f x.1) (f x.2)≠loP (f x.1) (f x.2):=fun e=>by rw[e,beforeZ_tot.irr]at hlt;cases hlt
 have hrl:kget us (loP (f x.1) (f x.2))=Option.none:=by
  rcases ho with⟨_,e⟩|⟨_,e⟩<;>rw[e]<;>exact h.root _
 have hrh:kget us (hiP (f x.1) (f x.2))=Option.none:=by
  rcases ho with⟨e,_⟩|⟨e,_⟩<;>rw[e]<;>exact h.root _
 have hm:∀p,mergeF f x p=if f p=hiP (f x.1) (f x.2) then loP (f x.1) (f x.2) else f p:=fun p=>rfl
 have hfl:f (loP (f x.1) (f x.2))=loP (f x.1) (f x.2):=h.none _ hrl
 have hfh:f (hiP (f x.1) (f x.2))=hiP (f x.1) (f x.2):=h.none _ hrh
 generalize hiP (f x.1) (f x.2)=hi at *
 generalize loP (f x.1) (f x.2)=lo at *
 refine⟨fun p hp=>?_,fun p q hp=>?_,fun p=>?_⟩
 ·rw[kget_put]at hp
  split at hp
  ·cases hp
  ·rename_i e
   have:=h.none p hp
   rw[hm,this,if_neg (fun e2=>e e2.symm)]
 ·rw[kget_put]at hp
  split at hp
  ·rename_i e
   simp only[Option.some.injEq]at hp
   subst hp
   subst e
   refine⟨?_,hlt⟩
   rw[hm,hm,hfh,hfl,if_pos rfl,if_neg (fun e=>hne e.symm)]
  ·obtain⟨h1,h2⟩:=h.some p q hp
   exact⟨by rw[hm,hm,h1],h2⟩
 ·rw[hm,kget_put]
  by_cases e:f p=hi
  ·rw[if_pos e,if_neg hne,hrl]
  ·rw[if_neg e,if_neg (fun e2=>e e2.symm)]
   exact h.root p
def mU (us:List (PortZ×PortZ)) (p:PortZ):Nat:=(us.filter fun u=>!beforeZ p u.1).length
theorem filter_le {α:Type}{P Q:α->Bool}(h:∀a,P a=true->Q a=true):∀l:List α,(l.filter P).length<=(l.filter Q).length
 | []=>by simp
 | a::l=>by
  have ih:=filter_le h l
  simp only[List.filter_cons]
  cases hp:P a
  ·cases hq:Q a<;>simp<;>omega
  ·rw[h a hp]
   simp
   omega
theorem filter_lt {α:Type}{P Q:α->Bool}(h:∀a,P a=true->Q a=true):∀ {l:List α}{a:α},a∈l->P a=false->Q a=true->(l.filter P).length<(l.filter Q).length
 | b::l,a,ha,hp,hq=>by
  simp only[List.filter_cons]
  rcases List.mem_cons.1 ha with rfl | ha
  ·have:=filter_le h l
   rw[hp,hq]
   simp
   omega
  ·have ih:=filter_lt h ha hp hq
   cases hpb:P b
   ·cases hqb:Q b<;>simp<;>omega
   ·rw[h b hpb]
    simp
    omega
theorem mU_lt {us:List (PortZ×PortZ)}{p q:PortZ}(h:kget us p=some q) (hb:beforeZ q p=true):mU us q<mU us p:=by
 unfold mU
 refine filter_lt (fun u hu=>?_) (kget_mem h) (by simp[hb]) (by simp[beforeZ_tot.irr])
 simp only[Bool.not_eq_true']at hu ⊢
 exact leZ_trans hu (beforeZ_tot.asymm hb)
theorem allN_nodup (ps:List Prt) (n:Nat):(allN ps n).Nodup:=(allN_sorted ps n).imp fun {a b} h e=>by
 subst e
 have:=beforeZ_tot.irr a
 rw[h]at this
 cases this
def rootsZ (c:Cir):List PortZ:=(allP c.parts).filter fun r=>rootF c.pipes r==r
theorem netsZ_eq (c:Cir):netsZ c=(rootsZ c).map fun r=>(allP c.parts).filter fun q=>rootF c.pipes q==r:=rfl
theorem netsZ_at {c:Cir}{i:Nat}{l:List PortZ}(h:(netsZ c)[i]?=some l):∃r,(rootsZ c)[i]?=some r∧l=(allP c.parts).filter fun q=>rootF c.pipes q==r:=by
 rw[netsZ_eq,List.getElem?_map]at h
 cases hr:(rootsZ c)[i]? with
 | none=>rw[hr]at h;simp at h
 | some r=>
  rw[hr]at h
  simp only[Option.map_some,Option.some.injEq]at h
  exact⟨r,rfl,h.symm⟩
theorem netsZ_few {c:Cir}(h:CirR c):(netsZ c).length<=448:=by
 rw[netsZ_eq,List.length_map]
 have h1:(rootsZ c).length<=(allP c.parts).length:=List.length_filter_le _ _
 have h2:=allN_len c.parts c.parts.length
 have h3:=h.few
 unfold allP at h1
 omega
theorem netsZ_net {c:Cir}(h:CirR c):∀l∈netsZ c,l.length<=448∧l≠[]∧∀p∈l,p∈allP c.parts:=by
 intro l hl
 obtain⟨i,hi,e⟩:=List.getElem_of_mem hl
 obtain⟨r,hr,rfl⟩:=netsZ_at (c:=c) (i:=i) (l:=l) (by rw[List.getElem?_eq_getElem hi,e])
 have hr2:=List.mem_of_getElem? hr
 unfold rootsZ at hr2
 rw[List.mem_filter]at hr2
 refine⟨?_,List.ne_nil_of_mem (a:=r) (List.mem_filter.2 hr2),fun p hp=>(List.mem_filter.1 hp).1⟩
 have h1:((allP c.parts).filter fun q=>rootF c.pipes q==r).length<=(allP c.parts).length:=List.length_filter_le _ _
 have h2:=allN_len c.parts c.parts.length
 have h3:=h.few
 unfold allP at h1 ⊢
 omega
theorem netsZ_same {c:Cir}{i j:Nat}{l m:List PortZ}{p:PortZ}(hi:(netsZ c)[i]?=some l) (hj:(netsZ c)[j]?=some m) (hp:p∈l) (hq:p∈m):i=j:=by
 obtain⟨r,hr,rfl⟩:=netsZ_at hi
 obtain⟨t,ht,rfl⟩:=netsZ_at hj
 have e1:=(List.mem_filter.1 hp).2
 have e2:=(List.mem_filter.1 hq).2
 simp only[beq_iff_eq]at e1 e2
 rw[<- e1,e2]at hr
 have hn:(rootsZ c).Nodup:=List.Nodup.sublist List.filter_sublist (allN_nodup _ _)
 obtain⟨h1,h2⟩:=List.getElem?_eq_some_iff.1 hr
 obtain⟨h3,h4⟩:=List.getElem?_eq_some_iff.1 ht
 exact (List.getElem_inj hn).1 (h2.trans h4.symm)
theorem netW_at {c:Cir}{i:Nat}{l:List PortZ}{p:PortZ}(hi:(netsZ c)[i]?=some l) (hp:p∈l):netW (netsZ c) p=i:=by
 obtain⟨h1,h2⟩:=List.getElem?_eq_some_iff.1 hi
 unfold netW
 rw[List.findIdx_eq h1]
 refine⟨by rw[h2];simpa using hp,fun j hj=>?_⟩
 cases e:((netsZ c)[j]).any (p==·) with
 | false=>rfl
 | true=>
  have hm:p∈(netsZ c)[j]:=by simpa using e
  have:=netsZ_same (c:=c) (i:=j) (j:=i) (l:=(netsZ c)[j]) (m:=l) (List.getElem?_eq_getElem (by omega)) hi hm hp
  omega
theorem netW_some {c:Cir}(h:CirR c) {p:PortZ}(hp:p∈allP c.parts):∃l,(netsZ c)[netW (netsZ c) p]?=some l∧p∈l:=by
 have hr:=(root_all h).1 hp
 have hm:rootF c.pipes p∈rootsZ c:=by
  unfold rootsZ
  rw[List.mem_filter]
  exact⟨hr,by simp[(rootF_ok c.pipes).idem]⟩
 obtain⟨i,hi,e⟩:=List.getElem_of_mem hm
 have h1:(netsZ c)[i]?=some ((allP c.parts).filter fun q=>rootF c.pipes q==rootF c.pipes p):=by
  rw[netsZ_eq,List.getElem?_map,List.getElem?_eq_getElem hi,e]
  rfl
 have h2:p∈(allP c.parts).filter fun q=>rootF c.pipes q==rootF c.pipes p:=List.mem_filter.2 ⟨hp,by simp⟩
 refine⟨_,?_,h2⟩
 rw[netW_at h1 h2]
 exact h1
def OfD (ns:List (List PortZ)) (i j:Nat) (E:List (KeyK×List L)):Prop:=∀(a:Nat) (l:List PortZ) (p:PortZ),ns[a]?=some l->(a<i∧p∈l)∨(a=i∧p∈l.take j)->kget E p=some [.int .i64 (a:Int)]
theorem OfD.zero (ns:List (List PortZ)):OfD ns 0 0 []:=fun a l p _ h=>by
 rcases h with⟨h,_⟩|⟨_,h⟩
 ·omega
 ·simp at h
theorem OfD.next {ns:List (List PortZ)}{i:Nat}{l:List PortZ}{E:List (KeyK×List L)}(h:OfD ns i l.length E) (hl:ns[i]?=some l):OfD ns (i+1) 0 E:=fun a m p hm hp=>by
 rcases hp with⟨h1,h2⟩|⟨_,h2⟩
 ·by_cases e:a=i
  ·subst e
   rw[hl]at hm
   cases hm
   exact h a l p hl (.inr ⟨rfl,by rw[List.take_length];exact h2⟩)
  ·exact h a m p hm (.inl ⟨by omega,h2⟩)
 ·simp at h2
theorem OfD.put {c:Cir}{i j:Nat}{l:List PortZ}{x:PortZ}{E:List (KeyK×List L)}(h:OfD (netsZ c) i j E) (hl:(netsZ c)[i]?=some l) (hx:l[j]?=some x):OfD (netsZ c) i (j+1) (kput E x [.int .i64 (i:Int)]):=fun a m p hm hp=>by
 have hpm:p∈m:=by
  rcases hp with⟨_,h2⟩|⟨_,h2⟩
  ·exact h2
  ·exact List.mem_of_mem_take h2
 rw[kget_put]
 by_cases e:x=p
 ·subst e
  rw[if_pos rfl,netsZ_same hm hl hpm (List.mem_of_getElem? hx)]
 ·rw[if_neg e]
  refine h a m p hm ?_
  rcases hp with h1 | ⟨rfl,h2⟩
  ·exact .inl h1
  ·rw[hl]at hm
   cases hm
   rw[List.take_add_one,hx]at h2
   refine .inr ⟨rfl,?_⟩
   simp only[Option.toList_some,List.mem_append,List.mem_singleton]at h2
   rcases h2 with h2 | h2
   ·exact h2
   ·exact absurd h2.symm e
theorem OfD.all {c:Cir}(hr:CirR c) {E:List (KeyK×List L)}(h:OfD (netsZ c) (netsZ c).length 0 E):∀p∈allP c.parts,kget E p=some [.int .i64 (netW (netsZ c) p:Nat)]∧netW (netsZ c) p<(netsZ c).length:=fun p hp=>by
 obtain⟨l,h1,h2⟩:=netW_some hr hp
 have h3:=(List.getElem?_eq_some_iff.1 h1).1
 exact⟨h _ l p h1 (.inl ⟨h3,h2⟩),h3⟩
theorem part_kind {p:Prt}(h:partE p=0):0<=p.kind∧p.kind<14:=by
 unfold partE at h
 by_cases h1:0<=p.kind∧p.kind<14
 ·exact h1
 ·rw[if_pos h1]at h
  simp at h
theorem cylsN_succ (ps:List Prt) (n:Nat):cylsN ps (n+1)=cylsN ps n++(if kindOf ps n=1 then [n] else []):=by
 unfold cylsN
 rw[List.range_succ,List.filter_append]
 by_cases h:kindOf ps n=1<;>simp[h]
theorem drvN_succ (ps:List Prt) (ns:List (List PortZ)) (n:Nat):drvN ps ns (n+1)=drvN ps ns n++(if kindOf ps n=1 then [(n,(valveZ ps ns n).getD 0)] else []):=by
 unfold drvN
 rw[cylsN_succ,List.map_append]
 by_cases h:kindOf ps n=1<;>simp[h]
theorem drvN_len (ps:List Prt) (ns:List (List PortZ)) (n:Nat):(drvN ps ns n).length<=n:=by
 unfold drvN cylsN
 rw[List.length_map]
 exact Nat.le_trans (List.length_filter_le _ _) (by simp)
theorem drvE_bad {ps:List Prt}{ns:List (List PortZ)}{i:Nat}(hi:i<ps.length) (hk:kindOf ps i=1) (hv:valveZ ps ns i=none):drvE ps ns=14:=by
 unfold drvE
 rw[if_pos]
 rw[List.any_eq_true]
 refine⟨i,?_,by rw[hv];rfl⟩
 unfold cylsN
 rw[List.mem_filter]
 exact⟨List.mem_range.2 hi,by simp[hk]⟩
theorem drvE_end {ps:List Prt}{ns:List (List PortZ)}(h:∀i,i<ps.length->kindOf ps i=1->(valveZ ps ns i).isSome=true):drvE ps ns=if drvN ps ns ps.length=[] then 13 else 0:=by
 unfold drvE
 rw[if_neg]
 ·unfold drvN
  by_cases e:cylsN ps ps.length=[]
  ·rw[if_pos e,e]
   simp
  ·rw[if_neg e,if_neg (by simpa using e)]
 ·rw[List.any_eq_true]
  rintro⟨i,hi,hn⟩
  unfold cylsN at hi
  rw[List.mem_filter]at hi
  have:=h i (List.mem_range.1 hi.1) (by simpa using hi.2)
  rw[Option.isSome_iff_ne_none]at this
  exact this (by simpa using hn)
end Go.Proofs.YtpadinblmjlggaaGreatDoor
