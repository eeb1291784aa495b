/- Texts joined by a program: Fwn,Fwo,Fwp. -/
import Derived.Still
import Derived.Test.YtafamcbdaeppoaaGreatDoorF6
set_option linter.unusedSimpArgs false
set_option linter.unusedVariables false
namespace Go.Proofs.YtafamcbdaeppoaaGreatDoor
section
variable {P:Program}
theorem hget_hset {g:Nat}{e e':Ent}:∀ {H:Heap},hget g H=some e->∀t,hget t (hset g e' H)=if t=g then some e' else hget t H
 | [],h,_=>by simp[hget]at h
 | (s,e1)::r,h,t=>by
  simp only[hget]at h
  simp only[hset]
  split at h
  ·rename_i hs
   subst hs
   simp only[if_true,hget]
   by_cases ht:t=s
   ·subst ht;simp
   ·simp[ht,Ne.symm ht]
  ·rename_i hs
   simp only[hs,if_false,hget,hget_hset h t]
   by_cases ht:t=g
   ·subst ht;simp[hs]
   ·simp[ht]
theorem hget_happ (ch:Option (Nat×Ent)) (H:Heap) (t:Nat):hget t (happ ch H)=chG (fun t=>hget t H) ch t:=by
 cases ch with
 | none=>rfl
 | some p=>
  obtain⟨s,e⟩:=p
  simp only[happ,chG]
  cases hs:hget s H with
  | some e'=>simp only[hget_hset hs]
  | none=>
   simp only[hget]
   by_cases ht:t=s
   ·subst ht;simp
   ·simp[ht,Ne.symm ht]
theorem hget_hdel_ne {s t:Nat}(h:s≠t):∀K:Heap,hget s (hdel t K)=hget s K
 | []=>rfl
 | (u,e)::r=>by
  simp only[hdel,hget]
  by_cases hu:u=t
  ·subst hu;simp[Ne.symm h]
  ·simp only[hu,if_false,hget,hget_hdel_ne h r]
theorem entsOf_perm:∀ {l:List Nat}{H:Heap},l.Nodup->∃R:Heap,H.Perm (entsOf (fun t=>hget t H) l++R)
 | [],H,_=>⟨H,by simp[entsOf]⟩
 | t::l,H,h=>by
  simp only[List.nodup_cons]at h
  simp only[entsOf]
  cases hg:hget t H with
  | none=>exact entsOf_perm h.2
  | some e=>
   obtain⟨R,hR⟩:=entsOf_perm (H:=hdel t H) h.2
   have hc:entsOf (fun s=>hget s (hdel t H)) l=entsOf (fun s=>hget s H) l:=entsOf_congr fun s hs=>hget_hdel_ne (show s≠t from fun e=>h.1 (by rw[<- e];exact hs)) H
   rw[hc]at hR
   exact⟨R,(hdel_perm hg).trans (hR.cons _)⟩
theorem CallS.ro {g:FuncId}{az:List A}{H:Heap}{r:A}{l:List Nat}(hn:l.Nodup) (h:CallS P g az (entsOf (fun t=>hget t H) l) (fun r' H'=>r'=r∧H'=entsOf (fun t=>hget t H) l)):CallS P g az H fun r' H'=>r'=r∧H'=H:=by
 refine⟨h.1,fun x args H0 hi hd=>?_⟩
 obtain⟨R,hR⟩:=entsOf_perm (H:=H) hn
 have hi':Inv x (entsOf (fun t=>hget t H) l++(R++H0)):=by
  rw[<- List.append_assoc]
  exact hi.perm (hR.symm.append_right H0)
 refine (h.2 x args (R++H0) hi' hd).mono ?_
 rintro _ _ ⟨y,v,r',H',rfl,rfl,h3,h4,h5,rfl,rfl⟩
 refine⟨y,v,_,H,rfl,rfl,h3,?_,h5,rfl,rfl⟩
 rw[<- List.append_assoc]at h4
 exact h4.perm (hR.append_right H0)
theorem Ds_owns {x:X}{u:Value}{τ τ':Nat}:∀ {qs:List (TypeId×Nat×List (List A))}{i:Nat}{vs:List Value},Ds x (ownsL u τ i qs) vs->Ds x (ownsL u τ' i qs) vs
 | [],_,_,h=>h
 | _::r,i,v::vs,h=>by
  simp only[ownsL,Ds,D]at h ⊢
  exact⟨h.1,Ds_owns h.2⟩
 | _::_,_,[],h=>by simp[ownsL,Ds]at h
theorem entsL_mem {u:Value}{τ:Nat}:∀ {qs:List (TypeId×Nat×List (List A))}{i:Nat}{q:Value×TypeId×Nat×List (List A)},q∈hdrsL u i qs->∃j,(τ+j,Ent.seq q.1 q.2.1 q.2.2.1 q.2.2.2)∈entsL u τ i qs
 | [],_,_,h=>by simp[hdrsL]at h
 | p::r,i,q,h=>by
  simp only[hdrsL]at h
  rcases List.mem_cons.1 h with rfl | h
  ·exact⟨i,by simp[entsL]⟩
  ·obtain⟨j,hj⟩:=entsL_mem (τ:=τ) h
   exact⟨j,by simp only[entsL];exact List.mem_cons_of_mem _ hj⟩
theorem hdrsL_mem {u:Value}{τ:Nat}:∀ {qs:List (TypeId×Nat×List (List A))}{i:Nat}{p:Nat×Ent},p∈entsL u τ i qs->∃q∈hdrsL u i qs,p.2=Ent.seq q.1 q.2.1 q.2.2.1 q.2.2.2
 | [],_,_,h=>by simp[entsL]at h
 | p0::r,i,p,h=>by
  simp only[entsL]at h
  rcases List.mem_cons.1 h with rfl | h
  ·exact⟨_,List.mem_cons_self,rfl⟩
  ·obtain⟨q,hq,e⟩:=hdrsL_mem h
   exact⟨q,by simp only[hdrsL];exact List.mem_cons_of_mem _ hq,e⟩
theorem hdrsL_apart {u:Value}{τ:Nat}:∀ {qs:List (TypeId×Nat×List (List A))}{i:Nat},(entsL u τ i qs).Pairwise (fun p q=>∀b,p.2.own b->¬q.2.own b)↔(hdrsL u i qs).Pairwise (fun p q=>∀b,p.1.ownBlock=some b->q.1.ownBlock≠some b)
 | [],_=>by simp[entsL,hdrsL]
 | p::r,i=>by
  simp only[entsL,hdrsL,List.pairwise_cons]
  rw[hdrsL_apart (qs:=r)]
  constructor
  ·rintro⟨h1,h2⟩
   refine⟨fun q hq b hb=>?_,h2⟩
   obtain⟨j,hj⟩:=entsL_mem (τ:=τ) hq
   exact h1 _ hj b hb
  ·rintro⟨h1,h2⟩
   refine⟨fun q hq b hb=>?_,h2⟩
   obtain⟨q',hq',e⟩:=hdrsL_mem hq
   rw[e]
   exact h1 q' hq' b hb
theorem Inv.bundle {x:X}{u:Value}{τ t:Nat}{qs:List (TypeId×Nat×List (List A))}{H:Heap}(h:Inv x (entsL u τ 0 qs++H)):Inv x ((t,.seqs (hdrsL u 0 qs))::H):=by
 have hap:=List.pairwise_append.1 h.apart
 refine⟨h.bd,?_,?_,List.pairwise_cons.2 ⟨?_,hap.2.1⟩⟩
 ·intro p hp
  rcases List.mem_cons.1 hp with rfl | hp
  ·refine⟨fun q hq=>?_,hdrsL_apart.1 hap.1⟩
   obtain⟨j,hj⟩:=entsL_mem (τ:=τ) hq
   exact h.sat _ (List.mem_append.2 (.inl hj))
  ·exact h.sat p (List.mem_append.2 (.inr hp))
 ·intro p hp b hb
  rcases List.mem_cons.1 hp with rfl | hp
  ·obtain⟨q,hq,hqb⟩:=hb
   obtain⟨j,hj⟩:=entsL_mem (τ:=τ) hq
   exact h.own _ (List.mem_append.2 (.inl hj)) b hqb
  ·exact h.own p (List.mem_append.2 (.inr hp)) b hb
 ·intro p hp b hb
  obtain⟨q,hq,hqb⟩:=hb
  obtain⟨j,hj⟩:=entsL_mem (τ:=τ) hq
  exact hap.2.2 _ hj p hp b hqb
def spreadL (τ:Nat):Nat->List (Value×TypeId×Nat×List (List A))->Heap
 | _,[]=>[]
 | i,q::r=>(τ+i,.seq q.1 q.2.1 q.2.2.1 q.2.2.2)::spreadL τ (i+1) r
theorem fStep0_ok {ρ:Nat->Option CR}{ops:List Oper}{o:Oper}{E:Env}{G:Nat->Option Ent}(h:∀u b,∃p a ch,fStep0 P ρ u b ops o E G=some (p,a,ch)∧p) {n:Nat}{ds:List Deferred}{x:X}{act:Act}{H H0:Heap}
  (hG:∀t,G t=hget t H) (hi:Inv x (H++H0)) (he:EnvOK n ds x act E) {i:Nat}(ho:ops.toArray[i]?=some o) {K:Act->World->Prop}{Q:Exit->Act->World->Prop}
  (hk:∀u b p a ch v (y:X),fStep0 P ρ u b ops o E G=some (p,a,ch)->x.le y->Inv y (happ ch H++H0)->D y a v->K (act.put o.dst v) y.w) :
  wpOp P ops.toArray Q i K act x.w:=by
 obtain⟨p0,a0,c0,hh,hp0⟩:=h .nilIface 0
 have hh0:=hh
 unfold wpOp
 rw[ho]
 simp only
 unfold fStep0 at hh
 split at hh
 ·rename_i hg
  have hw:Region.wanted o (yielded ops.toArray act.tmps)=true:=by simp[Region.wanted,hg]
  rw[if_pos hw]
  left
  split at hh
  ·rename_i p a hp
   simp only[Option.some.injEq,Prod.mk.injEq]at hh
   obtain⟨rfl,rfl,rfl⟩:=hh
   obtain⟨u,y,h1,h2,h3⟩:=pureA_ok hp hp0 _ _ x act he hi.bd
   show o.upon P act K Q _
   rw[h1]
   exact hk _ _ _ _ _ u y hh0 h2.le (hi.grow h2) h3
  ·rename_i hpn
   split at hh
   ·rename_i p g az hc
    split at hh<;>try (simp at hh;done)
    ·rename_i r hr
     simp only[Option.some.injEq,Prod.mk.injEq]at hh
     obtain⟨rfl,rfl,rfl⟩:=hh
     obtain⟨args,h1,h2⟩:=callA_ok hc hp0.1 he hp0.2.1
     show o.upon P act K Q _
     rw[h1]
     have hcs:CallS P g az H (fun r' H'=>r'=r∧H'=H):=hp0.2.s ⟨rfl,rfl⟩
     refine (hcs.2 x args H0 hi h2).mono ?_
     rintro e w' ⟨y,v,r',H',rfl,rfl,h3,h4,h5,rfl,rfl⟩
     exact hk _ _ _ _ _ v y hh0 h3 h4 h5
    ·rename_i e sz rows hr
     simp only[Option.some.injEq,Prod.mk.injEq]at hh
     obtain⟨rfl,_,_⟩:=hh
     obtain⟨args,h1,h2⟩:=callA_ok hc hp0.1 he hp0.2.1
     show o.upon P act K Q _
     rw[h1]
     have hcs:=CallS.frame (H1:=H) hp0.2
     refine (hcs.2 x args H0 hi h2).mono ?_
     rintro ee w' ⟨y,v,r',H',rfl,rfl,h3,h4,h5,H2,⟨t,hv,rfl,rfl⟩,rfl⟩
     simp only[D]at h5
     refine hk hv 0 _ _ _ v y (by simp only[fStep0,hg,hpn,hc,hr];rfl) h3 (happ_new ?_) (by simp only[D];exact h5)
     have h6:Inv y ((t,.seq hv e sz rows)::(H++H0)):=by simpa using h4
     refine⟨h6.bd,?_,?_,?_⟩
     ·intro q hq
      rcases List.mem_cons.1 hq with rfl | hq
      ·exact h6.sat (t,.seq hv e sz rows) (by simp)
      ·exact h6.sat q (by simp only[List.mem_cons];exact .inr hq)
     ·intro q hq b hb
      rcases List.mem_cons.1 hq with rfl | hq
      ·exact h6.own (t,.seq hv e sz rows) (by simp) b hb
      ·exact h6.own q (by simp only[List.mem_cons];exact .inr hq) b hb
     ·have:=List.pairwise_cons.1 h6.apart
      exact List.pairwise_cons.2 ⟨fun q hq b hb=>this.1 q hq b hb,this.2⟩
    ·rename_i r hr
     simp only[Option.some.injEq,Prod.mk.injEq]at hh
     obtain⟨rfl,rfl,rfl⟩:=hh
     obtain rfl:G=fun t=>hget t H:=funext hG
     obtain⟨args,h1,h2⟩:=callA_ok hc hp0.1 he hp0.2.2.1
     show o.upon P act K Q _
     rw[h1]
     refine ((CallS.ro hp0.2.1 hp0.2.2).2 x args H0 hi h2).mono ?_
     rintro e w' ⟨y,v,r',H',rfl,rfl,h3,h4,h5,rfl,rfl⟩
     exact hk _ _ _ _ _ v y hh0 h3 h4 h5
    ·rename_i qs hr
     simp only[Option.some.injEq,Prod.mk.injEq]at hh
     obtain⟨rfl,_,_⟩:=hh
     obtain⟨args,h1,h2⟩:=callA_ok hc hp0.1 he hp0.2.1
     show o.upon P act K Q _
     rw[h1]
     have hcs:=CallS.frame (H1:=H) hp0.2
     refine (hcs.2 x args H0 hi h2).mono ?_
     rintro ee w' ⟨y,v,r',H',rfl,rfl,h3,h4,h5,H2,⟨u,rfl,rfl⟩,rfl⟩
     simp only[D]at h5
     refine hk u 0 _ _ _ v y (by simp only[fStep0,hg,hpn,hc,hr];rfl) h3 (happ_new ?_) ?_
     ·rw[List.append_assoc]at h4
      exact h4.bundle
     ·simp only[D]
      obtain⟨vs,e,hds⟩:=h5
      exact⟨vs,e,Ds_owns hds⟩
   ·rename_i hcn
    have hF:∀u b,∃p a ch,heapF P u b (o.dst.getD 0) E G o.op=some (p,a,ch)∧p:=by
     intro u b
     obtain⟨p,a,ch,h1,h2⟩:=h u b
     simp only[fStep0,hg,hpn,hcn]at h1
     exact⟨p,a,ch,h1,h2⟩
    obtain⟨u,b,v,y,p,a,ch,h1,h2,h3,h4,h5,h6⟩:=heapF_ok hF hG hi he
    have h7:fStep0 P ρ u b ops o E G=some (p,a,ch):=by simp only[fStep0,hg,hpn,hcn];exact h1
    show o.upon P act K Q _
    rcases h3 with h3 | ⟨h3,rfl⟩
    ·rw[h3];exact hk _ _ _ _ _ v y h7 h4 h5 h6
    ·rw[h3];exact hk _ _ _ _ _ Go.undef y h7 h4 h5 h6
 ·rename_i j want hg
  split at hh<;>try (simp at hh;done)
  rename_i q hgq
  obtain⟨w1,w2⟩:=gq_ok he hg hgq
  split at hh
  ·rename_i p a hp
   simp only[Option.some.injEq,Prod.mk.injEq]at hh
   obtain⟨rfl,rfl,rfl⟩:=hh
   by_cases hqq:q
   ·rw[if_pos (w1 hqq)]
    left
    obtain⟨u,y,h1,h2,h3⟩:=pureA_ok hp (hp0 hqq) _ _ x act he hi.bd
    show o.upon P act K Q _
    rw[h1]
    exact hk _ _ _ _ _ u y hh0 h2.le (hi.grow h2) (by simp only[D];exact⟨fun _=>h3,fun hn=>absurd hqq hn⟩)
   ·rw[if_neg (by rw[w2 hqq];simp)]
    exact hk _ _ _ _ _ Go.undef x hh0 (.refl x) hi (by simp only[D];exact⟨fun hn=>absurd hn hqq,fun _=>by first | rfl | trivial⟩)
  ·split at hh<;>try (simp at hh;done)
   ·rename_i p g az r hc hr
    simp only[Option.some.injEq,Prod.mk.injEq]at hh
    obtain⟨rfl,rfl,rfl⟩:=hh
    by_cases hqq:q
    ·rw[if_pos (w1 hqq)]
     left
     obtain⟨args,h1,h2⟩:=callA_ok hc (hp0 hqq).1 he (hp0 hqq).2.1
     show o.upon P act K Q _
     rw[h1]
     have hcs:CallS P g az H (fun r' H'=>r'=r∧H'=H):=(hp0 hqq).2.s ⟨rfl,rfl⟩
     refine (hcs.2 x args H0 hi h2).mono ?_
     rintro e w' ⟨y,v,r',H',rfl,rfl,h3,h4,h5,rfl,rfl⟩
     exact hk _ _ _ _ _ v y hh0 h3 h4 (by simp only[D];exact⟨fun _=>h5,fun hn=>absurd hqq hn⟩)
    ·rw[if_neg (by rw[w2 hqq];simp)]
     exact hk _ _ _ _ _ Go.undef x hh0 (.refl x) hi (by simp only[D];exact⟨fun hn=>absurd hn hqq,fun _=>by first | rfl | trivial⟩)
   ·rename_i p g az r hc hr
    simp only[Option.some.injEq,Prod.mk.injEq]at hh
    obtain⟨rfl,rfl,rfl⟩:=hh
    obtain rfl:G=fun t=>hget t H:=funext hG
    by_cases hqq:q
    ·rw[if_pos (w1 hqq)]
     left
     obtain⟨g1,g2,g3⟩:=hp0 hqq
     obtain⟨args,h1,h2⟩:=callA_ok hc g1 he g3.1
     show o.upon P act K Q _
     rw[h1]
     refine ((CallS.ro g2 g3).2 x args H0 hi h2).mono ?_
     rintro e w' ⟨y,v,r',H',rfl,rfl,h3,h4,h5,rfl,rfl⟩
     exact hk _ _ _ _ _ v y hh0 h3 h4 (by simp only[D];exact⟨fun _=>h5,fun hn=>absurd hqq hn⟩)
    ·rw[if_neg (by rw[w2 hqq];simp)]
     exact hk _ _ _ _ _ Go.undef x hh0 (.refl x) hi (by simp only[D];exact⟨fun hn=>absurd hn hqq,fun _=>by first | rfl | trivial⟩)
   ·rename_i hc
    split at hh
    rotate_left
    ·simp only[Option.some.injEq,Prod.mk.injEq]at hh
     obtain⟨rfl,rfl,rfl⟩:=hh
     rw[if_neg (by rw[w2 hp0];simp)]
     exact hk _ _ _ _ _ Go.undef x hh0 (.refl x) hi (by simp only[D];exact⟨fun hn=>absurd hn hp0,fun _=>by first | rfl | trivial⟩)
    rename_i p a hhp hrd
    simp only[Option.some.injEq,Prod.mk.injEq]at hh
    obtain⟨rfl,rfl,rfl⟩:=hh
    by_cases hqq:q
    ·rw[if_pos (w1 hqq)]
     left
     obtain⟨u,b,v,y,p',a',ch',h1,h2,h3,h4,h5,h6⟩:=heapF_ok (P:=P) (o:=o) (E:=E) (τ:=0) (fun u b=>⟨p,a,none,by rw[reads_fix hrd,hhp],hp0 hqq⟩) hG hi he
     rw[reads_fix (u':=.nilIface) (b':=0) (τ':=0) hrd,hhp]at h1
     simp only[Option.some.injEq,Prod.mk.injEq]at h1
     obtain⟨rfl,rfl,rfl⟩:=h1
     show o.upon P act K Q _
     rcases h3 with h3 | ⟨h3,rfl⟩
     ·rw[h3];exact hk _ _ _ _ _ v y hh0 h4 h5 (by simp only[D];exact⟨fun _=>h6,fun hn=>absurd hqq hn⟩)
     ·rw[h3];exact hk _ _ _ _ _ Go.undef y hh0 h4 h5 (by simp only[D];exact⟨fun _=>h6,fun hn=>absurd hqq hn⟩)
    ·rw[if_neg (by rw[w2 hqq];simp)]
     exact hk _ _ _ _ _ Go.undef x hh0 (.refl x) hi (by simp only[D];exact⟨fun hn=>absurd hn hqq,fun _=>by first | rfl | trivial⟩)
theorem happ_perm (t:Nat) (H:Heap):∃R:Heap,∀e,(happ (some (t,e)) H).Perm ((t,e)::R):=by
 cases hg:hget t H with
 | none=>exact⟨H,fun e=>by simp[happ,hg]⟩
 | some e'=>exact⟨hdel t H,fun e=>by rw[happ_set hg];exact (hset_perm hg).symm⟩
theorem Inv.gone {x:X}{t:Nat}{H:Heap}(h:Inv x H):Inv x ((t,.seqs [])::H):=by
 refine⟨h.bd,?_,?_,?_⟩
 ·intro p hp
  rcases List.mem_cons.1 hp with rfl | hp
  ·exact⟨fun q hq=>(by cases hq),List.Pairwise.nil⟩
  ·exact h.sat p hp
 ·intro p hp b hb
  rcases List.mem_cons.1 hp with rfl | hp
  ·obtain⟨q,hq,_⟩:=hb;cases hq
  ·exact h.own p hp b hb
 ·refine List.pairwise_cons.2 ⟨fun q _ b hb=>?_,h.apart⟩
  obtain⟨q,hq,_⟩:=hb;cases hq
theorem fStep_ok {ρ:Nat->Option CR}{ops:List Oper}{o:Oper}{E:Env}{G:Nat->Option Ent}(h:∀u b,∃p a ch,fStep P ρ u b ops o E G=some (p,a,ch)∧p) {n:Nat}{ds:List Deferred}{x:X}{act:Act}{H H0:Heap}
  (hG:∀t,G t=hget t H) (hi:Inv x (H++H0)) (he:EnvOK n ds x act E) {i:Nat}(ho:ops.toArray[i]?=some o) {K:Act->World->Prop}{Q:Exit->Act->World->Prop}
  (hk:∀u b p a ch v (y:X),fStep P ρ u b ops o E G=some (p,a,ch)->x.le y->Inv y (happ ch H++H0)->D y a v->K (act.put o.dst v) y.w) :
  wpOp P ops.toArray Q i K act x.w:=by
 cases hgd:o.guard with
 | some jw=>
  have e:∀u b,fStep P ρ u b ops o E G=fStep0 P ρ u b ops o E G:=fun u b=>by simp[fStep,hgd]
  exact fStep0_ok (fun u b=>by rw[<- e];exact h u b) hG hi he ho fun u b p a ch v y h1=>hk u b p a ch v y (by rw[e];exact h1)
 | none=>
  have hw:Region.wanted o (yielded ops.toArray act.tmps)=true:=by simp[Region.wanted,hgd]
  cases hr:ρ (o.dst.getD 0) with
  | none=>
   have e:∀u b,fStep P ρ u b ops o E G=fStep0 P ρ u b ops o E G:=fun u b=>by simp[fStep,hgd,hr]
   exact fStep0_ok (fun u b=>by rw[<- e];exact h u b) hG hi he ho fun u b p a ch v y h1=>hk u b p a ch v y (by rw[e];exact h1)
  | some c=>
   cases c
   case bld=>
    have e:∀u b,fStep P ρ u b ops o E G=bldF P E u (o.dst.getD 0) o.op:=fun u b=>by simp[fStep,hgd,hr]
    obtain⟨u,v,y,p,a,ch,h1,h2,h3,h4,h5⟩:=bldF_ok (o:=o) (τ:=o.dst.getD 0) (fun u=>by rw[<- e u 0];exact h u 0) hi he
    unfold wpOp
    rw[ho]
    simp only
    rw[if_pos hw]
    left
    show o.upon P act K Q _
    rw[h2]
    exact hk u 0 p a ch v y (by rw[e];exact h1) h3 h4 h5
   case clip=>
    have e:∀u b,fStep P ρ u b ops o E G=match clipF P E o.op with
     | some (p,a)=>some (p,a,none)
     | none=>none:=fun u b=>by unfold fStep;rw[hgd,hr];first | done | (cases clipF P E o.op<;>rfl)
    obtain⟨p,a,ch,h1,hp⟩:=h .nilIface 0
    have h1':=h1
    rw[e]at h1
    split at h1<;>try (simp at h1;done)
    rename_i p' a' hc
    simp only[Option.some.injEq,Prod.mk.injEq]at h1
    obtain⟨rfl,rfl,rfl⟩:=h1
    obtain⟨u,y,k1,k2,k3⟩:=clipF_ok hc hp _ _ x act he hi.bd
    unfold wpOp
    rw[ho]
    simp only
    rw[if_pos hw]
    left
    show o.upon P act K Q _
    rw[k1]
    exact hk _ _ _ _ _ u y h1' k2.le (hi.grow k2) k3
   case frz=>
    have e:∀u b,fStep P ρ u b ops o E G=frzF P u b (o.dst.getD 0) E G o.op:=fun u b=>by simp[fStep,hgd,hr]
    have hF:∀u b,∃p a ch,heapF P u b (o.dst.getD 0) E G o.op=some (p,a,ch)∧p:=by
     intro u b
     obtain⟨p,a,ch,h1,h2⟩:=h u b
     rw[e]at h1
     unfold frzF at h1
     split at h1<;>try (simp at h1;done)
     rename_i q g hh g' h' e' sz rows hq
     simp only[Option.some.injEq,Prod.mk.injEq]at h1
     obtain⟨rfl,_,_⟩:=h1
     exact⟨_,_,_,hq,h2.1⟩
    obtain⟨u,b,v,y,p,a,ch,h1,h2,h3,h4,h5,h6⟩:=heapF_ok hF hG hi he
    obtain⟨p2,a2,ch2,k1,k2⟩:=h u b
    have k1':=k1
    rw[e]at k1
    unfold frzF at k1
    rw[h1]at k1
    split at k1<;>try (simp at k1;done)
    rename_i q g hh g' h' e' sz rows hq
    simp only[Option.some.injEq,Prod.mk.injEq]at hq k1
    obtain⟨rfl,rfl,rfl⟩:=hq
    obtain⟨rfl,rfl,rfl⟩:=k1
    obtain⟨_,rfl,rfl,hd⟩:=k2
    obtain⟨R,hR⟩:=happ_perm g' H
    have i1:Inv y ([(g',.seq h' e' sz rows)]++(R++H0)):=by
     have:=h5.perm ((hR (.seq h' e' sz rows)).symm.append_right H0)
     simpa using this
    obtain⟨z,z1,z2,z3,z4,_⟩:=i1.freeze
    have i2:Inv z (happ (some (g',.seqs [])) H++H0):=by
     have:=(z3.gone (t:=g')).perm (((hR (.seqs [])).append_right H0).trans (by simp))
     exact this
    simp only[D]at h6
    obtain⟨rfl,_⟩:=h6
    have hs:Ent.sat z (.seq v e' sz rows):=Ent.sat_step z2 (fun _ _=>by rw[z1]) (i1.sat (g',.seq v e' sz rows) (by simp))
    have hrd:RdL z (.sl (rowsD rows)) v:=seq_data hs (fun b hb=>z4 b ⟨_,List.mem_singleton.2 rfl,hb⟩) hd
    unfold wpOp
    rw[ho]
    simp only
    rw[if_pos hw]
    left
    show o.upon P act K Q _
    rcases h3 with h3 | ⟨h3,rfl⟩
    ·rw[h3,<- z1]
     exact hk u b _ _ _ v z k1' (h4.trans z2) i2 (by simpa [D]using hrd)
    ·rw[h3,<- z1]
     exact hk u b _ _ _ Go.undef z k1' (h4.trans z2) i2 (by simpa [D]using hrd)
   all_goals
    have e:∀u b,fStep P ρ u b ops o E G=fStep0 P ρ u b ops o E G:=fun u b=>by simp[fStep,hgd,hr]
    exact fStep0_ok (fun u b=>by rw[<- e];exact h u b) hG hi he ho fun u b p a ch v y h1=>hk u b p a ch v y (by rw[e];exact h1)
end
section
variable {P:Program}
section
variable (P:Program) (ρ:Nat->Option CR) (ops:List Oper) (E0:Env) (G0:Nat->Option Ent) (ν:Nat->Value×Nat)
def lexS:Nat->Env×(Nat->Option Ent)
 | 0=>(E0,G0)
 | i+1=>match ops[i]? with
  | some o=>match fStep P ρ (ν i).1 (ν i).2 ops o (lexS i).1 (lexS i).2 with
   | some (_,a,ch)=>(put (lexS i).1 o.dst a,chG (lexS i).2 ch)
   | none=>lexS i
  | none=>lexS i
def resN (i:Nat):Option (Prop×A×Option (Nat×Ent)):=match ops[i]? with
 | some o=>fStep P ρ (ν i).1 (ν i).2 ops o (lexS P ρ ops E0 G0 ν i).1 (lexS P ρ ops E0 G0 ν i).2
 | none=>none
end
theorem lexS_eq {ρ:Nat->Option CR}{ops:List Oper}{E0:Env}{G0:Nat->Option Ent}{ν:Nat->Value×Nat}:∀i,lexS P ρ ops E0 G0 ν i =
  (eeS ops E0 (resN P ρ ops E0 G0 ν) (fun _=>true) i,ggS ops G0 (resN P ρ ops E0 G0 ν) (fun _=>true) i)
 | 0=>rfl
 | i+1=>by
  have ih:=lexS_eq (ρ:=ρ) (ops:=ops) (E0:=E0) (G0:=G0) (ν:=ν) i
  simp only[lexS,eeS,ggS,if_true]
  cases ho:ops[i]? with
  | none=>simp only[ih]
  | some o=>
   have hr:resN P ρ ops E0 G0 ν i=fStep P ρ (ν i).1 (ν i).2 ops o (lexS P ρ ops E0 G0 ν i).1 (lexS P ρ ops E0 G0 ν i).2:=by simp only[resN,ho]
   dsimp only
   rw[<- hr]
   cases hres:resN P ρ ops E0 G0 ν i with
   | none=>simp only[ih]
   | some q=>obtain⟨p,a,ch⟩:=q;simp only[ih]
def wrE (ops:List Oper) (i t:Nat):Prop:=∃o,ops[i]?=some o∧o.dst=some t
def wrG (r:Nat->Option (Prop×A×Option (Nat×Ent))) (i t:Nat):Prop:=∃p a e,r i=some (p,a,some (t,e))
theorem eeS_congr {ops:List Oper}{E0:Env}{r r':Nat->Option (Prop×A×Option (Nat×Ent))}{S T:Nat->Bool}{t:Nat}:∀n,(∀k,k<n->wrE ops k t->S k=T k∧(S k=true->r k=r' k)) ->
  eeS ops E0 r S n t=eeS ops E0 r' T n t
 | 0,_=>rfl
 | n+1,h=>by
  have ih:=eeS_congr (E0:=E0) n fun k hk=>h k (by omega)
  simp only[eeS]
  by_cases hw:wrE ops n t
  ·obtain⟨h1,h2⟩:=h n (by omega) hw
   rw[<- h1]
   by_cases hs:S n=true
   ·rw[if_pos hs,if_pos hs,<- h2 hs]
    cases ops[n]? with
    | none=>exact ih
    | some o=>cases r n with
     | none=>exact ih
     | some q=>
      obtain⟨p,a,ch⟩:=q
      dsimp only
      cases hd:o.dst with
      | none=>exact ih
      | some s=>simp only[put,upd];rw[ih]
   ·rw[if_neg hs,if_neg hs];exact ih
  ·have hne:∀(F:Env) (q:Nat->Option (Prop×A×Option (Nat×Ent))),(match ops[n]?,q n with
    | some o,some (_,a,_)=>put F o.dst a
    | _,_=>F) t=F t:=by
    intro F q
    cases ho:ops[n]? with
    | none=>rfl
    | some o=>cases q n with
     | none=>rfl
     | some z=>
      obtain⟨p,a,ch⟩:=z
      dsimp only
      cases hd:o.dst with
      | none=>rfl
      | some s=>
       have:t≠s:=fun e=>hw ⟨o,ho,by rw[hd,e]⟩
       simp[put,upd,this]
   have e1:∀(U:Bool) (F:Env) (q:Nat->Option (Prop×A×Option (Nat×Ent))),(if U=true then (match ops[n]?,q n with
    | some o,some (_,a,_)=>put F o.dst a
    | _,_=>F) else F) t=F t:=by
    intro U F q
    cases U
    ·rfl
    ·exact hne F q
   exact (e1 _ _ r).trans (ih.trans (e1 _ _ r').symm)
theorem ggS_congr {ops:List Oper}{G0:Nat->Option Ent}{r r':Nat->Option (Prop×A×Option (Nat×Ent))}{S T:Nat->Bool}{t:Nat}:∀n,(∀k,k<n->(wrG r k t∨wrG r' k t)->S k=T k∧(S k=true->r k=r' k)) ->
  ggS ops G0 r S n t=ggS ops G0 r' T n t
 | 0,_=>rfl
 | n+1,h=>by
  have ih:=ggS_congr (G0:=G0) (ops:=ops) n fun k hk=>h k (by omega)
  simp only[ggS]
  have hne:∀(F:Nat->Option Ent) (q:Nat->Option (Prop×A×Option (Nat×Ent))) (U:Bool),¬wrG q n t->(if U=true then (match ops[n]?,q n with
    | some _,some (_,_,ch)=>chG F ch
    | _,_=>F) else F) t=F t:=by
   intro F q U hq
   cases U
   ·rfl
   ·cases ho:ops[n]? with
    | none=>rfl
    | some o=>cases hqn:q n with
     | none=>simp
     | some z=>
      obtain⟨p,a,ch⟩:=z
      cases ch with
      | none=>rfl
      | some w=>
       obtain⟨s,e⟩:=w
       have:t≠s:=fun ee=>hq ⟨p,a,e,by rw[hqn,ee]⟩
       simp[chG,this]
  by_cases hw:wrG r n t∨wrG r' n t
  ·obtain⟨h1,h2⟩:=h n (by omega) hw
   rw[<- h1]
   by_cases hs:S n=true
   ·rw[if_pos hs,if_pos hs,<- h2 hs]
    cases ops[n]? with
    | none=>exact ih
    | some o=>cases r n with
     | none=>exact ih
     | some q=>
      obtain⟨p,a,ch⟩:=q
      cases ch with
      | none=>exact ih
      | some w=>obtain⟨s,e⟩:=w;simp only[chG];rw[ih]
   ·rw[if_neg hs,if_neg hs];exact ih
  ·have hw':=not_or.1 hw
   exact (hne _ _ _ hw'.1).trans (ih.trans (hne _ _ _ hw'.2).symm)
theorem eeS_stop {ops:List Oper}{E0:Env}{r:Nat->Option (Prop×A×Option (Nat×Ent))}{i:Nat}:∀n,i<=n->eeS ops E0 r (fun k=>decide (k<i)) n=eeS ops E0 r (fun _=>true) i
 | n,h=>by
  induction n with
  | zero=>obtain rfl:i=0:=by omega
          rfl
  | succ n ih=>
   by_cases he:i=n+1
   ·subst he
    funext t
    exact eeS_congr (n+1) fun k hk _=>⟨by simp[hk],fun _=>rfl⟩
   ·simp only[eeS]
    rw[if_neg (by simp;omega)]
    exact ih (by omega)
theorem ggS_stop {ops:List Oper}{G0:Nat->Option Ent}{r:Nat->Option (Prop×A×Option (Nat×Ent))}{i:Nat}:∀n,i<=n->ggS ops G0 r (fun k=>decide (k<i)) n=ggS ops G0 r (fun _=>true) i
 | n,h=>by
  induction n with
  | zero=>obtain rfl:i=0:=by omega
          rfl
  | succ n ih=>
   by_cases he:i=n+1
   ·subst he
    funext t
    exact ggS_congr (n+1) fun k hk _=>⟨by simp[hk],fun _=>rfl⟩
   ·simp only[ggS]
    rw[if_neg (by simp;omega)]
    exact ih (by omega)
theorem eeS_more {ops:List Oper}{E0:Env}{r:Nat->Option (Prop×A×Option (Nat×Ent))}{S:Nat->Bool}{i:Nat}{o:Oper}{p:Prop}{a:A}{ch:Option (Nat×Ent)}(ho:ops[i]?=some o)
  (hr:r i=some (p,a,ch)) (hS:S i=false):∀n,(∀t k,i<k->k<n->S k=true->wrE ops k t->¬wrE ops i t)->i<n ->
   eeS ops E0 r (fun k=>S k||decide (k=i)) n=put (eeS ops E0 r S n) o.dst a
 | 0,_,h=>by omega
 | n+1,hc,h=>by
  by_cases he:i=n
  ·subst he
   simp only[eeS,hS,Bool.false_or,decide_true,if_true,Bool.false_eq_true,if_false,ho,hr]
   congr 1
   funext t
   refine eeS_congr i fun k hk _=>⟨?_,fun _=>rfl⟩
   have:k≠i:=by omega
   simp[this]
  ·have ih:=eeS_more (E0:=E0) ho hr hS n (fun t k h1 h2=>hc t k h1 (by omega)) (by omega)
   simp only[eeS]
   rw[ih]
   have hni:n≠i:=fun e=>he e.symm
   simp only[hni,decide_false,Bool.or_false]
   by_cases hs:S n=true
   ·simp only[hs,if_true]
    cases hn:ops[n]? with
    | none=>rfl
    | some o'=>cases r n with
     | none=>rfl
     | some q=>
      obtain⟨p',a',ch'⟩:=q
      simp only
      cases hd:o.dst with
      | none=>rfl
      | some s=>cases hd':o'.dst with
       | none=>rfl
       | some s'=>
        have hne:s≠s':=fun e=>hc s' n (by omega) (by omega) hs ⟨o',hn,hd'⟩ ⟨o,ho,by rw[hd,e]⟩
        funext t
        simp only[put,upd]
        by_cases h1:t=s'
        ·subst h1;simp[Ne.symm hne]
        ·simp[h1]
   ·simp only[hs];rfl
theorem ggS_more {ops:List Oper}{G0:Nat->Option Ent}{r:Nat->Option (Prop×A×Option (Nat×Ent))}{S:Nat->Bool}{i:Nat}{o:Oper}{p:Prop}{a:A}{ch:Option (Nat×Ent)}(ho:ops[i]?=some o)
  (hr:r i=some (p,a,ch)) (hS:S i=false):∀n,(∀t k,i<k->k<n->S k=true->wrG r k t->¬wrG r i t)->i<n ->
   ggS ops G0 r (fun k=>S k||decide (k=i)) n=chG (ggS ops G0 r S n) ch
 | 0,_,h=>by omega
 | n+1,hc,h=>by
  by_cases he:i=n
  ·subst he
   simp only[ggS,hS,Bool.false_or,decide_true,if_true,Bool.false_eq_true,if_false,ho,hr]
   congr 1
   funext t
   refine ggS_congr i fun k hk _=>⟨?_,fun _=>rfl⟩
   have:k≠i:=by omega
   simp[this]
  ·have ih:=ggS_more (G0:=G0) ho hr hS n (fun t k h1 h2=>hc t k h1 (by omega)) (by omega)
   simp only[ggS]
   rw[ih]
   have hni:n≠i:=fun e=>he e.symm
   simp only[hni,decide_false,Bool.or_false]
   by_cases hs:S n=true
   ·simp only[hs,if_true]
    cases hn:ops[n]? with
    | none=>rfl
    | some o'=>cases hrn:r n with
     | none=>rfl
     | some q=>
      obtain⟨p',a',ch'⟩:=q
      simp only
      cases ch with
      | none=>rfl
      | some w=>cases ch' with
       | none=>rfl
       | some w'=>
        obtain⟨s,e⟩:=w
        obtain⟨s',e'⟩:=w'
        have hne:s≠s':=fun ee=>hc s' n (by omega) (by omega) hs ⟨p',a',e',hrn⟩ ⟨p,a,e,by rw[hr,ee]⟩
        funext t
        simp only[chG]
        by_cases h1:t=s'
        ·subst h1;simp[Ne.symm hne]
        ·simp[h1]
   ·simp only[hs];rfl
end
section
variable {P:Program}
def dirB (ops:List Oper) (j i:Nat):Bool:=match ops[j]? with
 | some o=>o.after.any fun e=>Region.binds .any e&&e.on==i
 | none=>false
def relN (ops:List Oper):Nat->Nat->Nat->Bool
 | 0,j,i=>dirB ops j i
 | n+1,j,i=>dirB ops j i||(List.range j).any fun m=>dirB ops j m&&relN ops n m i
def relB (ops:List Oper) (j i:Nat):Bool:=relN ops 3 j i
def dOr (t b:Bool):Bool:=!t||b
@[congr] theorem dOr_congr {t t' b:Bool}(h:t=t'):dOr t b=dOr t' b:=by rw[h]
@[simp] theorem dOr_f (b:Bool):dOr false b=true:=rfl
@[simp] theorem dOr_t (b:Bool):dOr true b=b:=rfl
theorem relN_dir {ops:List Oper}{n j i:Nat}(h:dirB ops j i=true):relN ops n j i=true:=by
 cases n<;>simp[relN,h]
def slotC (ops:List Oper) (i j:Nat):Bool:=match ops[i]?,ops[j]? with
 | some oi,some oj=>(match oi.dst with
   | some d=>(oj.looksAt ops.toArray).contains d||oj.dst==some d
   | none=>false)||(match oj.dst with
   | some d=>(oi.looksAt ops.toArray).contains d
   | none=>false)
 | _,_=>false
def depB (ops:List Oper):Bool:=(List.range ops.length).all fun j=>
 (match ops[j]? with
  | some o=>o.after.all fun e=>!Region.binds .any e||decide (e.on<j)
  | none=>true)&&(List.range j).all fun i=>!slotC ops i j||dirB ops j i
def tagC (a b:List Nat×Option Nat):Bool:=(match a.2 with
  | some t=>b.1.contains t||b.2==some t
  | none=>false)||(match b.2 with
  | some t=>a.1.contains t
  | none=>false)
def chT:Option (Nat×Ent)->Option Nat
 | some (t,_)=>some t
 | none=>none
def vcD (P:Program) (ρ:Nat->Option CR) (ops:List Oper):Nat->List (Nat×List Nat×Option Nat)->List Oper->Env->Heap->(Env->Heap->Prop)->Prop
 | _,_,[],E,H,K=>K E H
 | i,acc,o::rest,E,H,K=>∀u b,match fStep P ρ u b ops o E (fun t=>hget t H) with
  | some (p,a,ch)=>p∧(acc.all fun z=>dOr (tagC z.2 (rdT E o,chT ch)) (dOr (!dirB ops i z.1) (relB ops i z.1)))=true ∧
    vcD P ρ ops (i+1) ((i,rdT E o,chT ch)::acc) rest (put E o.dst a) (happ ch H) K
  | none=>False
theorem depB_edge {ops:List Oper}(h:depB ops=true) {j:Nat}{o:Oper}(ho:ops[j]?=some o) {e:Edge}(he:e∈o.after) (hb:Region.binds .any e=true):e.on<j:=by
 have hj:j<ops.length:=(List.getElem?_eq_some_iff.1 ho).1
 have:=List.all_eq_true.1 h j (List.mem_range.2 hj)
 simp only[ho,Bool.and_eq_true]at this
 have h2:=Array.all_eq_true_iff_forall_mem.1 this.1 e he
 simpa [hb]using h2
theorem depB_slot {ops:List Oper}(h:depB ops=true) {i j:Nat}(hij:i<j) (hj:j<ops.length) (hc:slotC ops i j=true):dirB ops j i=true:=by
 have:=List.all_eq_true.1 h j (List.mem_range.2 hj)
 simp only[Bool.and_eq_true]at this
 have h2:=List.all_eq_true.1 this.2 i (List.mem_range.2 hij)
 simpa [hc]using h2
theorem dirB_edge {ops:List Oper}{i j:Nat}(h:dirB ops j i=true):∃o e,ops[j]?=some o∧e∈o.after∧Region.binds .any e=true∧e.on=i:=by
 unfold dirB at h
 split at h
 ·rename_i o ho
  obtain⟨q,hq,h2⟩:=Array.any_eq_true.1 h
  simp only[Bool.and_eq_true,beq_iff_eq]at h2
  exact⟨o,o.after[q],ho,Array.getElem_mem hq,h2.1,h2.2⟩
 ·cases h
structure LexOK (P:Program) (ρ:Nat->Option CR) (ops:List Oper) (E0:Env) (G0:Nat->Option Ent):Prop where
 dep:depB ops=true
 val:∀ ν i o,ops[i]?=some o->∃p a ch,resN P ρ ops E0 G0 ν i=some (p,a,ch)∧p
 tag:∀ ν i j oi oj t,i<j->ops[i]?=some oi->ops[j]?=some oj ->
  ((wrG (resN P ρ ops E0 G0 ν) i t∧(t∈rdT (lexS P ρ ops E0 G0 ν j).1 oj∨wrG (resN P ρ ops E0 G0 ν) j t))∨(t∈rdT (lexS P ρ ops E0 G0 ν i).1 oi∧wrG (resN P ρ ops E0 G0 ν) j t))->relB ops j i=true
section main
variable {ρ:Nat->Option CR}{ops:List Oper}{E0:Env}{G0:Nat->Option Ent}
def Closed (ops:List Oper) (S:Nat->Bool):Prop:=∀j i,S j=true->dirB ops j i=true->S i=true
theorem Closed.reln {S:Nat->Bool}(hc:Closed ops S):∀(n j i:Nat),relN ops n j i=true->S j=true->S i=true
 | 0,j,i,h,hj=>hc j i hj h
 | n+1,j,i,h,hj=>by
  simp only[relN,Bool.or_eq_true,List.any_eq_true,Bool.and_eq_true]at h
  rcases h with h | ⟨m,_,h1,h2⟩
  ·exact hc j i hj h
  ·exact Closed.reln hc n m i h2 (hc j m hj h1)
theorem Closed.rel {S:Nat->Bool}(hc:Closed ops S) {j i:Nat}(hj:S j=true) (h:relB ops j i=true):S i=true:=hc.reln 3 j i h hj
theorem Closed.ready {S:Nat->Bool}(hc:Closed ops S) {i:Nat}(hr:∀k,dirB ops i k=true->S k=true) {k:Nat}(h:relB ops i k=true):S k=true:=by
 simp only[relB,relN,Bool.or_eq_true,List.any_eq_true,Bool.and_eq_true]at h
 rcases h with h | ⟨m,_,h1,h2⟩
 ·exact hr k h
 ·refine hc.reln 2 m k ?_ (hr m h1)
  simpa only[relN,Bool.or_eq_true,List.any_eq_true,Bool.and_eq_true]using h2
theorem slot_raw {i j:Nat}{oj:Oper}{t:Nat}(hi:wrE ops i t) (hj:ops[j]?=some oj) (ht:t∈oj.looksAt ops.toArray):slotC ops i j=true:=by
 obtain⟨oi,h1,h2⟩:=hi
 simp[slotC,h1,hj,h2,ht]
theorem slot_war {i j:Nat}{oi:Oper}{t:Nat}(hi:ops[i]?=some oi) (ht:t∈oi.looksAt ops.toArray) (hj:wrE ops j t):slotC ops i j=true:=by
 obtain⟨oj,h1,h2⟩:=hj
 simp[slotC,h1,hi,h2,ht]
theorem slot_waw {i j:Nat}{t:Nat}(hi:wrE ops i t) (hj:wrE ops j t):slotC ops i j=true:=by
 obtain⟨oi,h1,h2⟩:=hi
 obtain⟨oj,h3,h4⟩:=hj
 simp[slotC,h1,h3,h2,h4]
theorem wrE_lt {k t:Nat}(h:wrE ops k t):k<ops.length:=by
 obtain⟨o,h1,_⟩:=h
 exact (List.getElem?_eq_some_iff.1 h1).1
theorem res_indep (L:LexOK P ρ ops E0 G0) {S:Nat->Bool}(hc:Closed ops S) {ν ν':Nat->Value×Nat}(hν:∀k,S k=true->ν k=ν' k) :
  ∀k,S k=true->resN P ρ ops E0 G0 ν k=resN P ρ ops E0 G0 ν' k:=by
 intro k
 induction k using Nat.strongRecOn with
 | _ k ih=>
  intro hk
  cases ho:ops[k]? with
  | none=>simp only[resN,ho]
  | some o=>
   have hkl:k<ops.length:=(List.getElem?_eq_some_iff.1 ho).1
   have hE:∀t∈o.looksAt ops.toArray,(lexS P ρ ops E0 G0 ν k).1 t=(lexS P ρ ops E0 G0 ν' k).1 t:=by
    intro t ht
    rw[lexS_eq,lexS_eq]
    refine eeS_congr k fun j hj hw=>⟨rfl,fun _=>?_⟩
    exact ih j hj (hc k j hk (depB_slot L.dep hj hkl (slot_raw hw ho ht)))
   have hrd:=rdT_congr (looks_op hE)
   have hG:∀t∈rdT (lexS P ρ ops E0 G0 ν k).1 o,(lexS P ρ ops E0 G0 ν k).2 t=(lexS P ρ ops E0 G0 ν' k).2 t:=by
    intro t ht
    rw[lexS_eq (i:=k) (ν:=ν),lexS_eq (i:=k) (ν:=ν')]
    refine ggS_congr k fun j hj hw=>⟨rfl,fun _=>?_⟩
    have hjl:j<ops.length:=by omega
    rcases hw with hw | hw
    ·exact ih j hj (hc.rel hk (L.tag ν j k _ o t hj (List.getElem?_eq_getElem hjl) ho (.inl ⟨hw,.inl ht⟩)))
    ·exact ih j hj (hc.rel hk (L.tag ν' j k _ o t hj (List.getElem?_eq_getElem hjl) ho (.inl ⟨hw,.inl (by rw[<- hrd];exact ht)⟩)))
   simp only[resN,ho,hν k hk]
   exact fStep_congr hE hG
theorem step_same (L:LexOK P ρ ops E0 G0) {S:Nat->Bool}(hc:Closed ops S) {i:Nat}{o:Oper}(ho:ops[i]?=some o) (hi:S i=false) (hr:∀k,dirB ops i k=true->S k=true)
  {ν ν':Nat->Value×Nat}(hν:∀k,S k=true->ν k=ν' k) (u:Value) (b:Nat) (hu:ν' i=(u,b)) :
  fStep P ρ u b ops o (eeS ops E0 (resN P ρ ops E0 G0 ν) S ops.length) (ggS ops G0 (resN P ρ ops E0 G0 ν) S ops.length)=resN P ρ ops E0 G0 ν' i:=by
 have hil:i<ops.length:=(List.getElem?_eq_some_iff.1 ho).1
 have hE:∀(μ:Nat->Value×Nat),(∀k,S k=true->ν k=μ k)->∀t∈o.looksAt ops.toArray,eeS ops E0 (resN P ρ ops E0 G0 ν) S ops.length t=(lexS P ρ ops E0 G0 μ i).1 t:=by
  intro μ hμ t ht
  rw[lexS_eq]
  simp only
  rw[<- eeS_stop ops.length (by omega)]
  refine eeS_congr _ fun k hk hw=>⟨?_,fun hs=>res_indep L hc hμ k hs⟩
  rcases Nat.lt_trichotomy k i with h | h | h
  ·rw[hr k (depB_slot L.dep h hil (slot_raw hw ho ht))];simp[h]
  ·subst h;simp[hi]
  ·have hd:=depB_slot L.dep h (wrE_lt hw) (slot_war ho ht hw)
   have:S k=false:=by
    cases hs:S k with
    | false=>rfl
    | true=>rw[hc k i hs hd]at hi;cases hi
   rw[this]
   have:¬k<i:=by omega
   simp[this]
 have hrd:∀(μ:Nat->Value×Nat),(∀k,S k=true->ν k=μ k)->rdT (eeS ops E0 (resN P ρ ops E0 G0 ν) S ops.length) o=rdT (lexS P ρ ops E0 G0 μ i).1 o:=fun μ hμ=>rdT_congr (looks_op (hE μ hμ))
 have hG:∀t∈rdT (eeS ops E0 (resN P ρ ops E0 G0 ν) S ops.length) o,ggS ops G0 (resN P ρ ops E0 G0 ν) S ops.length t=(lexS P ρ ops E0 G0 ν' i).2 t:=by
  intro t ht
  rw[lexS_eq]
  simp only
  rw[<- ggS_stop ops.length (by omega)]
  refine ggS_congr _ fun k hk hw=>⟨?_,fun hs=>res_indep L hc hν k hs⟩
  have both:∀(μ:Nat->Value×Nat),(∀k,S k=true->ν k=μ k)->wrG (resN P ρ ops E0 G0 μ) k t->S k=decide (k<i):=by
   intro μ hμ hwk
   have htr:t∈rdT (lexS P ρ ops E0 G0 μ i).1 o:=by rw[<- hrd μ hμ];exact ht
   rcases Nat.lt_trichotomy k i with h | h | h
   ·rw[hc.ready hr (L.tag μ k i _ o t h (List.getElem?_eq_getElem hk) ho (.inl ⟨hwk,.inl htr⟩))];simp[h]
   ·subst h;simp[hi]
   ·have hd:=L.tag μ i k o _ t h ho (List.getElem?_eq_getElem hk) (.inr ⟨htr,hwk⟩)
    have:S k=false:=by
     cases hs:S k with
     | false=>rfl
     | true=>rw[hc.rel hs hd]at hi;cases hi
    rw[this]
    have:¬k<i:=by omega
    simp[this]
  rcases hw with hw | hw
  ·exact both ν (fun _ _=>rfl) hw
  ·exact both ν' hν hw
 simp only[resN,ho,hu]
 exact fStep_congr (hE ν' hν) hG
theorem region_any (L:LexOK P ρ ops E0 G0) {n:Nat}{ds:List Deferred}{H0:Heap}{x0:X}{Q:Exit->Act->World->Prop}(hfit:∀o∈ops,fits n o.dst)
  (hfin:∀ ν x act Hc,x0.le x->Inv x (Hc++H0)->EnvOK n ds x act (lexS P ρ ops E0 G0 ν ops.length).1->(∀t,hget t Hc=(lexS P ρ ops E0 G0 ν ops.length).2 t)->Q .normal act x.w) :
  ∀(fuel:Nat) (listed:Array Bool) (ν:Nat->Value×Nat) (x:X) (act:Act) (Hc:Heap) (l:List Nat),listed.size=ops.length->l.Nodup->(∀k,k∈l↔k<ops.length∧listed.getD k false=false)->l.length=fuel ->
   Closed ops (fun k=>listed.getD k false)->x0.le x->Inv x (Hc++H0)->EnvOK n ds x act (eeS ops E0 (resN P ρ ops E0 G0 ν) (fun k=>listed.getD k false) ops.length) ->
   (∀t,hget t Hc=ggS ops G0 (resN P ρ ops E0 G0 ν) (fun k=>listed.getD k false) ops.length t)->wpAny P .any ops.toArray Q fuel listed act x.w:=by
 have hdone:∀(listed:Array Bool) (ν:Nat->Value×Nat) (x:X) (act:Act) (Hc:Heap),(∀k,k<ops.length->listed.getD k false=true)->x0.le x->Inv x (Hc++H0) ->
   EnvOK n ds x act (eeS ops E0 (resN P ρ ops E0 G0 ν) (fun k=>listed.getD k false) ops.length)->(∀t,hget t Hc=ggS ops G0 (resN P ρ ops E0 G0 ν) (fun k=>listed.getD k false) ops.length t)->Q .normal act x.w:=by
  intro listed ν x act Hc hall hle hi he hg
  have e1:eeS ops E0 (resN P ρ ops E0 G0 ν) (fun k=>listed.getD k false) ops.length=(lexS P ρ ops E0 G0 ν ops.length).1:=by
   rw[lexS_eq];funext t;exact eeS_congr _ fun k hk _=>⟨hall k hk,fun _=>rfl⟩
  have e2:ggS ops G0 (resN P ρ ops E0 G0 ν) (fun k=>listed.getD k false) ops.length=(lexS P ρ ops E0 G0 ν ops.length).2:=by
   rw[lexS_eq];funext t;exact ggS_congr _ fun k hk _=>⟨hall k hk,fun _=>rfl⟩
  exact hfin ν x act Hc hle hi (by rw[<- e1];exact he) (by rw[<- e2];exact hg)
 have hready:∀(listed:Array Bool),listed.size=ops.length->Region.ready .any ops.toArray listed=[]->∀k,k<ops.length->listed.getD k false=true:=by
  intro listed hsz hr k
  induction k using Nat.strongRecOn with
  | _ k ih=>
   intro hk
   cases hl:listed.getD k false with
   | true=>rfl
   | false=>
    exfalso
    have hmem:k∈Region.ready .any ops.toArray listed:=by
     refine mem_ready.2 ⟨?_,ops[k],by simp[hk],fun e he hb=>ih e.on ?_ ?_⟩
     ·rw[Array.getD_eq_getD_getElem?]at hl ⊢
      rw[Array.getElem?_eq_getElem (by omega)]at hl ⊢
      simpa using hl
     ·exact depB_edge L.dep (List.getElem?_eq_getElem hk) he hb
     ·exact Nat.lt_trans (depB_edge L.dep (List.getElem?_eq_getElem hk) he hb) hk
    rw[hr]at hmem
    cases hmem
 intro fuel
 induction fuel with
 | zero=>
  intro listed ν x act Hc l hsz hnd hl hlen hc hle hi he hg
  have hnil:l=[]:=List.eq_nil_of_length_eq_zero hlen
  subst hnil
  have hall:∀k,k<ops.length->listed.getD k false=true:=by
   intro k hk
   cases hh:listed.getD k false with
   | true=>rfl
   | false=>exact absurd ((hl k).2 ⟨hk,hh⟩) (by simp)
  refine⟨?_,hdone listed ν x act Hc hall hle hi he hg⟩
  cases hr:Region.ready .any ops.toArray listed with
  | nil=>rfl
  | cons k r=>
   have hm:k∈Region.ready .any ops.toArray listed:=by rw[hr];simp
   obtain⟨h1,o,h2,_⟩:=mem_ready.1 hm
   have hk:k<ops.length:=by simpa using (Array.getElem?_eq_some_iff.1 h2).1
   have:=hall k hk
   rw[Array.getD_eq_getD_getElem?]at h1 this
   rw[Array.getElem?_eq_getElem (by omega)]at h1 this
   simp at h1 this
   rw[h1]at this;cases this
 | succ fuel ih=>
  intro listed ν x act Hc l hsz hnd hl hlen hc hle hi he hg
  refine⟨fun hr=>hdone listed ν x act Hc (hready listed hsz hr) hle hi he hg,fun i hir=>?_⟩
  obtain⟨h1,o,h2,h3⟩:=mem_ready.1 hir
  have ho:ops[i]?=some o:=by simpa using h2
  have hil:i<ops.length:=(List.getElem?_eq_some_iff.1 ho).1
  have hSi:listed.getD i false=false:=by
   rw[Array.getD_eq_getD_getElem?]at h1 ⊢
   rw[Array.getElem?_eq_getElem (by omega)]at h1 ⊢
   simpa using h1
  have hrd:∀k,dirB ops i k=true->listed.getD k false=true:=by
   intro k hk
   obtain⟨o',e,q1,q2,q3,q4⟩:=dirB_edge hk
   rw[ho]at q1;cases q1
   rw[<- q4];exact h3 e q2 q3
  let ν1:Value->Nat->Nat->Value×Nat:=fun u b k=>if k=i then (u,b) else ν k
  have hν1:∀u b k,listed.getD k false=true->ν k=ν1 u b k:=by
   intro u b k hk
   have:k≠i:=fun e=>by rw[e,hSi]at hk;cases hk
   simp[ν1,this]
  have hstep:∀u b,fStep P ρ u b ops o (eeS ops E0 (resN P ρ ops E0 G0 ν) (fun k=>listed.getD k false) ops.length) (ggS ops G0 (resN P ρ ops E0 G0 ν) (fun k=>listed.getD k false) ops.length)=resN P ρ ops E0 G0 (ν1 u b) i:=
   fun u b=>step_same L hc ho hSi hrd (hν1 u b) u b (by simp[ν1])
  refine fStep_ok (fun u b=>by rw[hstep u b];exact L.val (ν1 u b) i o ho) (fun t=>(hg t).symm) hi he h2 ?_
  intro u b p a ch v y hf hle1 hi1 hd
  rw[hstep u b]at hf
  have hS':∀k,(listed.setIfInBounds i true).getD k false=(listed.getD k false||decide (k=i)):=by
   intro k
   by_cases hk:k=i
   ·subst hk
    have:k<listed.size:=by omega
    simp[Array.getD_eq_getD_getElem?,this]
   ·simp[Array.getD_eq_getD_getElem?,Array.getElem?_setIfInBounds_ne (Ne.symm hk),hk]
  have hfun:(fun k=>(listed.setIfInBounds i true).getD k false)=fun k=>(listed.getD k false||decide (k=i)):=funext hS'
  have eE:eeS ops E0 (resN P ρ ops E0 G0 (ν1 u b)) (fun k=>listed.getD k false) ops.length=eeS ops E0 (resN P ρ ops E0 G0 ν) (fun k=>listed.getD k false) ops.length:=by
   funext t;exact (eeS_congr _ fun k _ _=>⟨rfl,fun hs=>res_indep L hc (hν1 u b) k hs⟩).symm
  have eG:ggS ops G0 (resN P ρ ops E0 G0 (ν1 u b)) (fun k=>listed.getD k false) ops.length=ggS ops G0 (resN P ρ ops E0 G0 ν) (fun k=>listed.getD k false) ops.length:=by
   funext t;exact (ggS_congr _ fun k _ _=>⟨rfl,fun hs=>res_indep L hc (hν1 u b) k hs⟩).symm
  have hcl:∀k,i<k->listed.getD k false=true->dirB ops k i=true->False:=by
   intro k _ hk hdk
   have:=hc k i hk hdk
   simp only at this
   rw[hSi]at this;cases this
  have hclr:∀k,i<k->listed.getD k false=true->relB ops k i=true->False:=by
   intro k _ hk hdk
   have:=hc.rel (j:=k) (i:=i) hk hdk
   rw[hSi]at this;cases this
  refine ih (listed.setIfInBounds i true) (ν1 u b) y _ (happ ch Hc) (l.erase i) (by simpa using hsz) (hnd.erase i) ?_ ?_ ?_ (hle.trans hle1) hi1 ?_ ?_
  ·intro k
   rw[hnd.mem_erase_iff,hl k,hS' k]
   by_cases hk:k=i
   ·subst hk;simp
   ·simp[hk]
  ·rw[List.length_erase_of_mem ((hl i).2 ⟨hil,hSi⟩),hlen];rfl
  ·rw[hfun]
   intro j k hj hjk
   simp only[Bool.or_eq_true,decide_eq_true_eq]at hj ⊢
   rcases hj with hj | rfl
   ·exact .inl (hc j k hj hjk)
   ·exact .inl (hrd k hjk)
  ·rw[hfun,eeS_more ho hf hSi ops.length (fun t k h1 h2 hs hw hw'=>hcl k h1 hs (depB_slot L.dep h1 h2 (slot_waw hw' hw))) hil,eE]
   exact (he.mono hle1).put (hfit o (List.mem_of_getElem? ho)) hd
  ·intro t
   rw[hfun,ggS_more ho hf hSi ops.length (fun t k h1 h2 hs hw hw'=>hclr k h1 hs (L.tag (ν1 u b) i k o _ t h1 ho (List.getElem?_eq_getElem h2) (.inl ⟨hw',.inr hw⟩))) hil,eG,hget_happ]
   congr 1
   funext s
   exact hg s
end main
end
end Go.Proofs.YtafamcbdaeppoaaGreatDoor
