/- Texts joined by a program: Kl,Fxn,Ko,Kq,Kr,Fxo,Ks,Kt,Db. -/
import Derived.Test.YtpadinblmjlggaaGreatDoorW15
import Derived.Test.YtpadinblmjlggaaGreatDoorW12
import Derived.Test.YtpadinblmjlggaaGreatDoorW14
set_option linter.unusedSimpArgs false
set_option linter.unusedVariables false
set_option maxHeartbeats 8000000
set_option maxRecDepth 10000
namespace Go.Proofs.YtpadinblmjlggaaGreatDoor
section
variable {ps:List Prt}{l:List PipeZ}
theorem stepQ {i:Nat}{p:Prt}(h:ps[i]?=some p) (h0:partE p=0):(i=0->stepE ps i=0)∧(∀j q,i=j+1->ps[j]?=some q->stepE ps i=if ltB q.name p.name=true then 0 else 9):=by
 constructor
 ·rintro rfl
  simp[stepE,h,h0]
 ·rintro j q rfl hq
  simp[stepE,h,h0,hq]
theorem kz_part {Q:PostQ}{i:Nat}(hi:i<ps.length) (hf:ps.length<=64) (hn:∀p∈ps,p.name.length<=1000)
  (hQ:stepE ps i=0->∀E' H',(∀z∈[(2,aI 0),(19,aI (i+1:Nat))],wk (E' z.1) z.2)->(∀z∈[(1,A.rptr (encCi ⟨ps,l⟩)),(17,.dat (.sl (ps.map encPa))),(18,aI ps.length)],E' z.1=z.2)->Q .normal E' H')
  (hR:stepE ps i≠0->∀E' H',E' 2=aI (stepE ps i)->Q .ret E' H') :
  vcC ⟨Tryz.prog,none,115⟩ (loopC Tryz.f76 0) (hdE [(1,.rptr (encCi ⟨ps,l⟩)),(17,.dat (.sl (ps.map encPa))),(18,aI ps.length)] [(2,aI 0),(19,aI i)]) [] Q:=by
 obtain⟨p,hp⟩:∃p,ps[i]=p:=⟨_,rfl⟩
 have hpo:ps[i]?=some p:=by rw[List.getElem?_eq_getElem hi,hp]
 have hc:=partG_fn p (by have:=hn p (List.mem_of_getElem? hpo);omega)
 refine vc_part rfl ?_
 by_cases h0:partE p=0
 ·rw[h0]at hc
  obtain⟨e0,es⟩:=stepQ hpo h0
  cases i with
  | zero=>
   simp[hi,hp]
   intro b4
   refine hc.s ?_
   simp
   refine V.drawX (fun t=>none) (by kernel_rfl) (by kernel_rfl) (by simp) ?_
   simp[hpo,hi,hp]
   exact hQ (e0 rfl) _ _ (by simp) (by simp)
  | succ i=>
   obtain⟨q,hq⟩:∃q,ps[i]=q:=⟨_,rfl⟩
   have hqo:ps[i]?=some q:=by rw[List.getElem?_eq_getElem (by omega),hq]
   have e1:=es i q rfl hqo
   simp[hi,hp]
   refine⟨fun _=>⟨⟨by omega,by omega⟩,fun b4=>?_⟩,fun h=>absurd h (by omega)⟩
   refine hc.s ?_
   simp
   refine V.drawX (fun t=>none) (by kernel_rfl) (by kernel_rfl) (by simp) ?_
   rw[e1]at hQ hR
   cases hlt:ltB q.name p.name
   ·rw[hlt]at hR
    have h3:Op.bytesLess p.name q.name=true∨p.name=q.name:=by
     cases h4:ltB p.name q.name
     ·exact .inr (ltB_total h4 hlt)
     ·exact .inl h4
    rcases h3 with h3 | h3
    ·simp[hqo,hq,show i<ps.length by omega,h3]
     refine⟨by omega,hR ?_ _ _ ?_⟩<;>simp
    ·simp[hqo,hq,show i<ps.length by omega,h3]
     refine⟨by omega,hR ?_ _ _ ?_⟩<;>simp
   ·have hlt2:Op.bytesLess p.name q.name=false:=ltB_asymm hlt
    have hne:¬(p.name=q.name):=fun e=>by rw[e,ltB_irrefl]at hlt;cases hlt
    rw[hlt]at hQ
    simp[hqo,hq,show i<ps.length by omega,hlt2,hne]
    exact⟨by omega,by omega,hQ rfl _ _ (by simp) (by simp)⟩
 ·have e1:stepE ps i=partE p:=by simp[stepE,hpo,h0]
  rw[e1]at hR
  simp[hi,hp]
  intro b4
  refine hc.s ?_
  simp[h0]
  exact hR h0 _ _ (by simp)
theorem kz_lim {Q:PostQ}{i:Nat}(hi:i<ps.length) (hf:ps.length<=64) (hn:∀p∈ps,p.name.length<=1000) (hne:∀p∈ps,p.name≠[])
  (hQ:limE ps i=0->∀E' H',(∀z∈[(2,aI 0),(47,aI (i+1:Nat))],wk (E' z.1) z.2)->(∀z∈[(1,A.rptr (encCi ⟨ps,l⟩)),(45,.dat (.sl (ps.map encPa))),(46,aI ps.length)],E' z.1=z.2)->Q .normal E' H')
  (hR:limE ps i≠0->∀E' H',E' 2=aI (limE ps i)->Q .ret E' H') :
  vcC ⟨Tryz.prog,none,115⟩ (loopC Tryz.f76 1) (hdE [(1,.rptr (encCi ⟨ps,l⟩)),(45,.dat (.sl (ps.map encPa))),(46,aI ps.length)] [(2,aI 0),(47,aI i)]) [] Q:=by
 obtain⟨p,hp⟩:∃p,ps[i]=p:=⟨_,rfl⟩
 have hpo:ps[i]?=some p:=by rw[List.getElem?_eq_getElem hi,hp]
 have hpm:=List.mem_of_getElem? hpo
 have ho:=ownerZ_fn ⟨ps,l⟩ p (by unfold Sh;simp only;omega) (hn p hpm) (hne p hpm)
 have hlt:=ownI_lt ps p.name
 have e1:limE ps i=if p.kind=6∧ownN ps p.name=false then 6 else 0:=by simp[limE,hpo]
 rw[e1]at hQ hR
 simp only at ho
 generalize ownI ps p.name=k at *
 generalize ownN ps p.name=z at *
 refine vc_part rfl ?_
 by_cases h6:p.kind=6
 ·rw[show encPa p=[L.int .i64 6,.str p.name,.int .i64 p.delay] by simp[h6]]at ho
  cases z
  ·have hk:=hlt.2 rfl
   simp[hi,hp]
   intro b7
   simp[h6]
   refine GCall.fn (aI k) (fun _=>⟨trivial,ho⟩) ?_
   simp[h6,hk]
   refine hR ?_ _ _ ?_<;>simp[h6]
  ·have hk:¬k<0:=fun h=>by have:=hlt.1 h;cases this
   simp[hi,hp]
   intro b7
   simp[h6]
   refine GCall.fn (aI k) (fun _=>⟨trivial,ho⟩) ?_
   simp[h6,hk]
   exact⟨by omega,hQ (by simp) _ _ (by simp) (by simp)⟩
 ·simp[hi,hp]
  intro b7
  simp[h6]
  refine GCall.fn .undef (fun h=>absurd h (by simp)) ?_
  simp
  exact⟨by omega,by omega,hQ (by simp[h6]) _ _ (by simp) (by simp)⟩
theorem kz_pipe {Q:PostQ}{i:Nat}(hi:i<l.length) (hf:ps.length<=64) (hm:l.length<=256) (hk:∀p∈ps,0<=p.kind∧p.kind<14)
  (hQ:pipeE ⟨ps,l⟩ i=0->∀E' H',(∀z∈[(2,aI 0),(68,aI (i+1:Nat))],wk (E' z.1) z.2)->(∀z∈[(1,A.rptr (encCi ⟨ps,l⟩)),(66,.dat (.sl (l.map encPi))),(67,aI l.length)],E' z.1=z.2)->Q .normal E' H')
  (hR:pipeE ⟨ps,l⟩ i≠0->∀E' H',E' 2=aI (pipeE ⟨ps,l⟩ i)->Q .ret E' H') :
  vcC ⟨Tryz.prog,none,115⟩ (loopC Tryz.f76 2) (hdE [(1,.rptr (encCi ⟨ps,l⟩)),(66,.dat (.sl (l.map encPi))),(67,aI l.length)] [(2,aI 0),(68,aI i)]) [] Q:=by
 obtain⟨x,hx⟩:∃x,l[i]=x:=⟨_,rfl⟩
 have hxo:l[i]?=some x:=by rw[List.getElem?_eq_getElem hi,hx]
 have hsh:Sh ps:=by unfold Sh;omega
 have c1:=indexedZ_fn ⟨ps,l⟩ x.1 x.2 hsh
 have c2:=existsZ_fn ⟨ps,l⟩ x.1 x.2 hsh hk
 have c3:=compareZ_fn x.1 x.2
 have hd:=cmpZ_lt x.1 x.2
 have hpe:pipeE ⟨ps,l⟩ i=if inPort ps x.1=false∨inPort ps x.2=false then 2 else if hasPort ps x.1=false∨hasPort ps x.2=false then 6 else if beforeZ x.1 x.2=false then 9 else match i with
   | 0=>0
   | j+1=>match l[j]? with
    | some y=>if earlierZ y x=true then 0 else 9
    | none=>0:=by
  unfold pipeE
  rw[show (⟨ps,l⟩:Cir).pipes[i]?=some x from hxo]
  cases i<;>rfl
 obtain⟨⟨x1,x2⟩,x3,x4⟩:=x
 simp only at c1 c2 c3 hd hQ hR
 generalize inPort ps (x1,x2)=i1 at *
 generalize inPort ps (x3,x4)=i2 at *
 generalize hasPort ps (x1,x2)=p1 at *
 generalize hasPort ps (x3,x4)=p2 at *
 generalize cmpZ (x1,x2) (x3,x4)=cp at *
 generalize beforeZ (x1,x2) (x3,x4)=bf at *
 refine vc_part rfl ?_
 simp[hi,hx]
 intro b9
 refine c1.s ?_
 by_cases hin:i1=true∧i2=true
 ·obtain⟨rfl,rfl⟩:=hin
  simp
  refine (c2 rfl rfl).s ?_
  by_cases hhas:p1=true∧p2=true
  ·obtain⟨rfl,rfl⟩:=hhas
   cases bf
   ·have hd2:0<=cp:=by
     rcases Int.lt_or_le cp 0 with h | h
     ·have:=hd.1 h;cases this
     ·exact h
    simp
    refine V.drawX (fun t=>if t=97 then some (.fn (aI cp)) else if t=110 then some (.fn (aI 0)) else none) (by kernel_rfl) (by kernel_rfl) (by simp) ?_
    simp[hxo,hx,hi,hd2]
    rw[show pipeE ⟨ps,l⟩ i=9 from by rw[hpe];simp]at hR
    refine⟨c3,hR (by simp) _ _ ?_⟩
    simp
   ·have hd2:¬ 0<=cp:=by have:=hd.2 rfl;omega
    cases i with
    | zero=>
     simp
     refine V.drawX (fun t=>if t=97 then some (.fn (aI cp)) else if t=110 then some (.fn (aI 0)) else none) (by kernel_rfl) (by kernel_rfl) (by simp) ?_
     simp[hxo,hx,hi,hd2]
     exact⟨c3,hQ (by rw[hpe];simp) _ _ (by simp) (by simp)⟩
    | succ i=>
     obtain⟨w,hw⟩:∃w,l[i]=w:=⟨_,rfl⟩
     have hwo:l[i]?=some w:=by rw[List.getElem?_eq_getElem (by omega),hw]
     have c4:=pipesZ_fn w ((x1,x2),x3,x4)
     have hlt:=cmpZZ_lt w ((x1,x2),x3,x4)
     simp only[hwo]at hpe
     generalize cmpZZ w ((x1,x2),x3,x4)=cq at *
     generalize earlierZ w ((x1,x2),x3,x4)=ea at *
     obtain⟨⟨w1,w2⟩,w3,w4⟩:=w
     simp
     refine V.drawX (fun t=>if t=97 then some (.fn (aI cp)) else if t=110 then some (.fn (aI cq)) else none) (by kernel_rfl) (by kernel_rfl) (by simp) ?_
     cases ea
     ·have hlt2:0<=cq:=by
       rcases Int.lt_or_le cq 0 with h | h
       ·have:=hlt.1 h;cases this
       ·exact h
      simp[hwo,hw,hi,hd2,hlt2,show i<l.length by omega]
      rw[show pipeE ⟨ps,l⟩ (i+1)=9 from by rw[hpe];simp]at hR
      refine⟨c3,by omega,c4,hR (by simp) _ _ ?_⟩
      simp
     ·have hlt2:¬ 0<=cq:=by have:=hlt.2 rfl;omega
      simp[hwo,hw,hi,hd2,hlt2,show i<l.length by omega]
      exact⟨c3,by omega,c4,by omega,hQ (by rw[hpe];simp) _ _ (by simp) (by simp)⟩
  ·have hne:¬(p1=true∧p2=true):=hhas
   have h2:p1=false∨p2=false:=by cases p1<;>cases p2<;>simp_all
   simp[hne]
   rw[show pipeE ⟨ps,l⟩ i=6 from by rw[hpe];simp[h2]]at hR
   refine hR (by simp) _ _ ?_
   simp
 ·have h2:i1=false∨i2=false:=by cases i1<;>cases i2<;>simp_all
  simp[hin]
  rw[show pipeE ⟨ps,l⟩ i=2 from by rw[hpe];simp[h2]]at hR
  refine hR (by simp) _ _ ?_
  simp
theorem stepE_part {ps:List Prt}{n:Nat}(h:firstE (stepE ps) n=0):∀i p,i<n->ps[i]?=some p->partE p=0:=by
 intro i p hi hp
 have:=firstE_zero n h i hi
 by_cases h0:partE p=0
 ·exact h0
 ·rw[show stepE ps i=partE p by simp[stepE,hp,h0]]at this
  exact absurd this h0
theorem partE_kindZ {p:Prt}(h:partE p=0):0<=p.kind∧p.kind<14:=by
 unfold partE at h
 split at h
 ·cases h
 ·rename_i h1
  exact Classical.not_not.1 h1
theorem partE_ne {p:Prt}(h:partE p=0):p.name≠[]:=by
 rintro e
 unfold partE at h
 split at h
 ·cases h
 ·rw[e]at h
  simp[wordE]at h
theorem CheckZ_fn (c:Cir) (hs:c.parts.length<=64->∀p∈c.parts,p.name.length<=1000) (hl:Sh c.parts) (hl2:Sh c.pipes):CallFn Tryz.prog 76 [aCi c] (aI (cirE c)):=by
 obtain⟨ps,l⟩:=c
 unfold cirE
 simp only at hs hl hl2 ⊢
 refine callFz_cut 3 Tryz.func76 rfl Tryz.ntmps76 (rs:=[.tmp 2]) rfl (by kernel_rfl) (by simp) (by kernel_rfl) ?_
 simp
 refine⟨fun h1 h2=>absurd h1 (by omega),fun h64=>?_⟩
 have h64':¬ 64<ps.length:=by omega
 have hs:=hs (by omega)
 rw[if_neg h64']
 refine V.forI (σ:=Unit) ps.length [1,17,18] (by simp;exact rfl) (fun i _=>[(2,aI 0),(19,aI i)]) (fun _ _=>[]) (fun i _=>firstE (stepE ps) i=0) () rfl (by simp) ⟨by simp;exact rfl,by simp⟩ ?_ ?_
 ·rintro i-hi hI
  refine vc_of_part rfl (kz_part hi (by omega) hs (fun h0 E' H' q1 q2=>⟨(),by rw[firstE_step hI,h0],q1,q2,by simp⟩) fun h0 E' H' q=>?_)
  have:=firstE_hit hI hi h0
  simp[RetV,q,this,h0]
 ·rintro-hI
  rw[hI]
  have hpart:=stepE_part hI
  have hall:∀p∈ps,partE p=0:=fun p hp=>by
   obtain⟨i,hi,e⟩:=List.getElem_of_mem hp
   exact hpart i p hi (by rw[List.getElem?_eq_getElem hi,e])
  simp
  refine V.cutV [(1,.rptr (encCi ⟨ps,l⟩)),(2,aI 0)] (Hs:=[]) (by simp) (by simp) (V.of_vcN 1 ?_)
  simp
  refine V.forI (σ:=Unit) ps.length [1,45,46] (by simp;exact rfl) (fun i _=>[(2,aI 0),(47,aI i)]) (fun _ _=>[]) (fun i _=>firstE (limE ps) i=0) () rfl (by simp) ⟨by simp;exact rfl,by simp⟩ ?_ ?_
  ·rintro i-hi hI
   refine vc_of_part rfl (kz_lim hi (by omega) hs (fun p hp=>partE_ne (hall p hp)) (fun h0 E' H' q1 q2=>⟨(),by rw[firstE_step hI,h0],q1,q2,by simp⟩) fun h0 E' H' q=>?_)
   have:=firstE_hit hI hi h0
   simp[RetV,q,this,h0]
  ·rintro-hI
   rw[hI]
   simp
   refine V.cutV [(1,.rptr (encCi ⟨ps,l⟩)),(2,aI 0)] (Hs:=[]) (by simp) (by simp) (V.of_vcN 2 ?_)
   simp
   refine⟨fun h1 h2=>absurd h1 (by omega),fun h256=>?_⟩
   have h256':¬ 256<l.length:=by omega
   rw[if_neg h256']
   refine V.forI (σ:=Unit) l.length [1,66,67] (by simp;exact rfl) (fun i _=>[(2,aI 0),(68,aI i)]) (fun _ _=>[]) (fun i _=>firstE (pipeE ⟨ps,l⟩) i=0) () rfl (by simp) ⟨by simp;exact rfl,by simp⟩ ?_ ?_
   ·rintro i-hi hI
    refine vc_of_part rfl (kz_pipe hi (by omega) (by omega) (fun p hp=>partE_kindZ (hall p hp)) (fun h0 E' H' q1 q2=>⟨(),by rw[firstE_step hI,h0],q1,q2,by simp⟩) fun h0 E' H' q=>?_)
    have:=firstE_hit hI hi h0
    simp[RetV,q,this]
   ·rintro-hI
    rw[hI]
    simp
    refine V.of_vc ?_
    simp
end
theorem sets_D {x:X}{tv:Nat->Value}:∀(l:List (Nat×A)) (F:Env),(∀p∈l,D x p.2 (tv p.1))->(∀t,D x (F t) (tv t))->∀t,D x (sets l F t) (tv t)
 | [],_,_,hF=>hF
 | p::l,F,hl,hF=>by
  intro t
  obtain⟨s,a⟩:=p
  show D x (upd (sets l F) s a t) (tv t)
  unfold upd
  by_cases h:t=s
  ·rw[if_pos h,h]
   exact hl (s,a) (by simp)
  ·rw[if_neg h]
   exact sets_D l F (fun q hq=>hl q (by simp[hq])) hF t
theorem Ds_c {x:X}{a a':A}{az az':List A}(h1:∀v,D x a v->D x a' v) (h2:∀vs,Ds x az vs->Ds x az' vs):∀vs,Ds x (a::az) vs->Ds x (a'::az') vs
 | [],h=>by simp[Ds]at h
 | v::vs,h=>by simp only[Ds]at h ⊢;exact⟨h1 v h.1,h2 vs h.2⟩
theorem D_tag {x:X}{t t' b o:Nat}:∀v,D x (.ptr t b o) v->D x (.ptr t' b o) v:=fun v hv=>by simpa only[D]using hv
theorem D_mtag {x:X}{t t' b:Nat}:∀v,D x (.map t b) v->D x (.map t' b) v:=fun v hv=>by simpa only[D]using hv
theorem D_nilo {x:X}{t:Nat}:∀v,D x .nils v->D x (.own t (.slice none 0 0)) v:=fun v hv=>by
 simp only[D]at hv ⊢
 exact⟨hv,none,0,0,rfl⟩
theorem Ds_i {x:X}{az:List A}:∀vs,Ds x az vs->Ds x az vs:=fun _ h=>h
theorem D_i {x:X}{a:A}:∀v,D x a v->D x a v:=fun _ h=>h
theorem box_sat {x:X}{b:Nat}{cs cs':List A}(h:∀vs,Ds x cs vs->Ds x cs' vs):Ent.sat x (.box b cs)->Ent.sat x (.box b cs'):=by
 rintro⟨c,ty,h1,h2⟩
 exact⟨c,ty,h1,h _ h2⟩
theorem V.cutIN {C:Cfg}(k:Nat) {c:Code}{E:Env}{H Hs:Heap}{Q:PostQ}(kv:List (Nat×A)) (hE:∀p∈kv,∀x v,D x (E p.1) v->D x p.2 v) (hi:∀x H0,Inv x (H++H0)->Inv x (Hs++H0)) (h:vcN C k c (hdE kv []) Hs Q):V C c E H Q:=by
 intro hf x act H0 ms hinv he
 refine vcN_ok k c _ _ _ hf h x act H0 ms (hi x _ hinv) ⟨he.defers,he.size,?_⟩
 refine sets_D [] _ (by simp) (sets_D kv _ (fun p hp=>hE p hp x _ (he.slot p.1)) fun t=>?_)
 simp[anyE,D]
theorem D_fn {x:X}{f:FuncId}{fs fs' cs cs':List A}(h1:∀vs,Ds x fs vs->Ds x fs' vs) (h2:∀vs,Ds x cs vs->Ds x cs' vs):∀v,D x (.fn f fs cs) v->D x (.fn f fs' cs') v:=by
 intro v hv
 simp only[D]at hv ⊢
 obtain⟨a,b,e,k1,k2⟩:=hv
 exact⟨a,b,e,h1 _ k1,h2 _ k2⟩
abbrev upH (b r:Nat) (us:List (PortZ×PortZ)):Heap:=[(170,.box b [.map 171 r]),(171,.mapK r true (encUp us))]
theorem getD_enc (o:Option PortZ):(o.map encPo).getD [.int .i64 0,.str []]=encPo (o.getD (0,[])):=by cases o<;>rfl
theorem root_s {us:List (PortZ×PortZ)}{f:PortZ->PortZ}(h:UpR us f) (ho:∀u∈us,okK u.2) (p:PortZ) (hp:okK p) (b r:Nat) :
  CallS Tryz.prog 127 [.record (encPo p),.ptr 170 b 0] (upH b r us) fun v H'=>v=.record (encPo (f p))∧H'=upH b r us:=by
 refine CallS.agg (az:=[]) (bz:=[.ptr 170 b 0]) (CallS.dropP (callS_of Tryz.func127 rfl Tryz.ntmps127 (rs:=[.cell 3 73]) rfl (by kernel_rfl) (by simp) (by kernel_rfl) (K:=fun v H'=>v=.record (encPo (f p))∧subP (upH b r us) H') ?_) (fun v H' ⟨e,hh⟩=>⟨_,hh,e,rfl⟩))
 simp[kget_enc,getD_enc]
 intro b2 b3
 refine⟨hp,fun b4=>?_⟩
 refine V.for' [1,2,3] (fun s:PortZ×Nat=>[(4,.ptr 4 s.2 0),(5,aB (kget us s.1).isSome)])
  (fun s=>[(4,.box s.2 [aI ((kget us s.1).getD (0,[])).1,aT ((kget us s.1).getD (0,[])).2]),(3,.box b3 [aI 0,aT []]),(2,.box b2 [aI s.1.1,aT s.1.2]),(170,.box b [.map 171 r]),(171,.mapK r true (encUp us))])
  (fun s=>f s.1=f p∧okK s.1) (fun s=>mU us s.1) (p,b4) ⟨⟨rfl,hp⟩,by simp,?_⟩ ?_
 ·exact subP.refl _
 ·rintro⟨q,c4⟩ ⟨h1,h2⟩
  simp only at h1 h2
  cases hq:kget us q with
  | none=>
   have h3:=h.none q hq
   rw[h3]at h1
   subst h1
   simp[hq]
   exact subP.c (subP.c (subP.c (subP.refl _) _) _) _
  | some y=>
   obtain⟨h3,h4⟩:=h.some q y hq
   have h5:=ho _ (kget_mem hq)
   simp[hq,kget_enc,getD_enc]
   intro b1
   exact⟨h5,y.1,y.2,⟨h3.symm.trans h1,h5⟩,mU_lt hq h4,b1,⟨rfl,rfl⟩,subP.refl _⟩
abbrev rPo (p:PortZ):List A:=[.dat (.int .i64 p.1),.dat (.str p.2)]
theorem rowsD_P (xs:List PortZ):rowsD (xs.map rPo)=xs.map encPo:=by unfold rowsD;rw[List.map_map];rfl
theorem allD_P (xs:List PortZ):allD (xs.map rPo)=true:=by simp[allD,isD]
attribute [simp] rowsD_P allD_P
theorem all_fn (c:Cir) (hk:∀p∈c.parts,0<=p.kind∧p.kind<14) (h64:c.parts.length<=64):CallFn Tryz.prog 128 [aCi c] (.dat (.sl ((allP c.parts).map encPo))):=by
 obtain⟨ps,l⟩:=c
 simp only at hk h64 ⊢
 unfold allP
 have hal:=allN_len ps
 refine callFz_of Tryz.func128 rfl Tryz.ntmps128 (rs:=[.tmp 2]) rfl (by kernel_rfl) (by simp) (by kernel_rfl) ?_
 simp
 refine V.forI (σ:=Value) ps.length [2,9,10] (by simp;exact rfl) (fun i g=>[(3,.own 50 g),(11,aI i)]) (fun i g=>[(50,.seq g 73 2 ((allN ps i).map rPo))]) (fun _ _=>True) (.slice none 0 0) trivial (by simp) ⟨by simp;exact rfl,by simp[allN]⟩ ?_ ?_
 ·rintro i g hi -
  obtain⟨p,hp⟩:∃p,ps[i]=p:=⟨_,rfl⟩
  have hpo:ps[i]?=some p:=by rw[List.getElem?_eq_getElem hi,hp]
  have hkp:=hk p (List.mem_of_getElem? hpo)
  have hpf:=portsZ_fn p hkp
  have hlen:=portsK_len p.kind.toNat
  have hle:=hal i
  rw[allN_succ,show portsOf ps i=(portsK p.kind.toNat).map fun t=>((i:Int),t) by simp[portsOf,hpo]]
  generalize portsK p.kind.toNat=F at *
  generalize allN ps i=W at *
  simp[hi,hp]
  intro b5
  refine hpf.s ?_
  simp
  refine V.forI (σ:=Value) F.length [2,4,9,10,11,17,18] (by simp;exact rfl) (fun j g=>[(3,.own 50 g),(19,aI j)]) (fun j g=>[(50,.seq g 73 2 ((W++(F.take j).map fun t=>((i:Int),t)).map rPo))]) (fun _ _=>True) g trivial (by simp) ⟨by simp;exact rfl,by simp⟩ ?_ ?_
  ·rintro j g2 hj -
   obtain⟨x,hx⟩:∃x,F[j]=x:=⟨_,rfl⟩
   have hxo:F[j]?=some x:=by rw[List.getElem?_eq_getElem hj,hx]
   rw[List.take_add_one,hxo]
   simp[hj,hx,hxo]
   omega
  ·rintro g2 -
   simp
   omega
 ·rintro g -
  simp
section
theorem okK_port {ps:List Prt}{p:PortZ}(hl:ps.length<=1000000) (h:p∈allP ps):okK p:=by
 obtain⟨i,q,hi,_,h1,h2⟩:=mem_allN.1 h
 have:=portsK_short _ _ h2
 exact⟨by omega,by omega⟩
theorem kput_mem {α:Type}{k:KeyK}{v:α}:∀ {us:List (KeyK×α)}{u:KeyK×α},u∈kput us k v->u=(k,v)∨u∈us
 | [],u,h=>by simp[kput]at h;exact .inl h
 | w::us,u,h=>by
  simp only[kput]at h
  split at h
  ·rename_i e
   rcases List.mem_cons.1 h with rfl | h
   ·exact .inl (by rw[e])
   ·exact .inr (List.mem_cons_of_mem _ h)
  ·rcases List.mem_cons.1 h with rfl | h
   ·exact .inr (by simp)
   ·rcases kput_mem h with h | h
    ·exact .inl h
    ·exact .inr (List.mem_cons_of_mem _ h)
variable {ps:List Prt}{l:List PipeZ}
abbrev nzK (ps:List Prt) (l:List PipeZ) (b3:Nat):List (Nat×A):=[(1,.rptr (encCi ⟨ps,l⟩)),(2,.nils),(3,.ptr 170 b3 0),(4,.fn 127 [] [.ptr 170 b3 0]),(19,.dat (.sl (l.map encPi))),(20,aI l.length)]
theorem nz_pipe {Q:PostQ}{b3 r i:Nat}{us:List (PortZ×PortZ)}(hi:i<l.length) (hm:l.length<=256) (hfew:ps.length<=64) (hinall:∀x∈l,x.1∈allP ps∧x.2∈allP ps)
  (hcl:∀p,p∈allP ps->rootF (l.take i) p∈allP ps) (hI:UpR us (rootF (l.take i))) (hU:∀u∈us,u.2∈allP ps)
  (hQ:∀us',UpR us' (rootF (l.take (i+1)))->(∀u∈us',u.2∈allP ps)->∀E' H',wk (E' 21) (aI (i+1:Nat))->(∀z∈nzK ps l b3,E' z.1=z.2)->subN (upH b3 r us') H'->Q .normal E' H') :
  vcC ⟨Tryz.prog,none,88⟩ (loopC Tryz.f77 0) (hdE (nzK ps l b3) [(21,aI i)]) (upH b3 r us) Q:=by
 obtain⟨x,hx⟩:∃x,l[i]=x:=⟨_,rfl⟩
 have hxo:l[i]?=some x:=by rw[List.getElem?_eq_getElem hi,hx]
 obtain⟨hx1,hx2⟩:=hinall x (List.mem_of_getElem? hxo)
 have hu:∀u∈us,okK u.2:=fun u hu=>okK_port (by omega) (hU u hu)
 have c1:=root_s hI hu x.1 (okK_port (by omega) hx1) b3 r
 have c2:=root_s hI hu x.2 (okK_port (by omega) hx2) b3 r
 have e1:=hcl _ hx1
 have e2:=hcl _ hx2
 have hstep:=rootF_take hxo
 have hs:=@upR_same us _ hI x
 have hp:=@upR_put us _ hI x
 rw[<- hstep]at hs hp
 obtain⟨⟨x1,x2⟩,x3,x4⟩:=x
 simp only at c1 c2 e1 e2 hs hp
 generalize rootF (l.take i) (x1,x2)=a at *
 generalize rootF (l.take i) (x3,x4)=b at *
 have c3:=compareZ_fn a b
 have g1:=cmpZ_gt a b
 have oka:=okK_port (ps:=ps) (by omega) e1
 have okb:=okK_port (ps:=ps) (by omega) e2
 refine vc_part rfl ?_
 simp[hi,hx,hxo]
 intro b6
 refine V.drawX (fun t=>if t=28 then some (.ro (.record (encPo a))) else if t=32 then some (.ro (.record (encPo b))) else none) (by kernel_rfl) (by kernel_rfl) (by simp) ?_
 simp
 refine⟨c1,c2,fun b7 b8=>⟨by kernel_rfl,c3.s ?_⟩⟩
 by_cases hb:beforeZ b a=true
 ·have h0:=g1.2 hb
  have hne:a≠b:=fun e=>by rw[e,beforeZ_tot.irr]at hb;cases hb
  have hh:hiP a b=a∧loP a b=b:=by unfold hiP loP;simp[hb]
  have h1:=hp hne
  rw[hh.1,hh.2]at h1
  have hne2:¬(b.1=a.1∧b.2=a.2):=fun e=>hne (Prod.ext e.1 e.2).symm
  simp[h0,hne2,kput_enc]
  exact fun _=>⟨oka,by omega,hQ _ h1 (fun u hu=>by
   rcases kput_mem hu with rfl | hu
   ·exact e2
   ·exact hU u hu) _ _ (by simp) (by simp) (by simp)⟩
 ·have h0:¬ 0<cmpZ a b:=fun h=>hb (g1.1 h)
  by_cases he:a=b
  ·subst he
   simp[h0]
   exact⟨by omega,hQ _ (hs rfl) hU _ _ (by simp) (by simp) (by simp)⟩
  ·have hh:hiP a b=b∧loP a b=a:=by unfold hiP loP;simp[hb]
   have h1:=hp he
   rw[hh.1,hh.2]at h1
   have hne2:¬(a.1=b.1∧a.2=b.2):=fun e=>he (Prod.ext e.1 e.2)
   simp[h0,hne2,kput_enc]
   exact fun _=>⟨okb,by omega,hQ _ h1 (fun u hu=>by
    rcases kput_mem hu with rfl | hu
    ·exact e1
    ·exact hU u hu) _ _ (by simp) (by simp) (by simp)⟩
end
theorem Inv.mid {A B C D:Heap}(h:∀x H0,Inv x (A++H0)->Inv x (B++H0)) (x:X) (H0:Heap) (hi:Inv x ((C++A++D)++H0)):Inv x ((C++B++D)++H0):=by
 have p1:((C++A++D)++H0).Perm (A++(C++D++H0)):=by
  rw[List.append_assoc,List.append_assoc]
  refine (List.perm_append_comm_assoc C A (D++H0)).trans ?_
  rw[List.append_assoc]
 have p2:(B++(C++D++H0)).Perm ((C++B++D)++H0):=by
  rw[List.append_assoc C B D,List.append_assoc,List.append_assoc]
  refine (List.perm_append_comm_assoc B C (D++H0)).trans ?_
  rw[List.append_assoc]
 exact (h x _ (hi.perm p1.symm)).perm p2.symm
abbrev ownR (h:Value):List A:=[.own 90 h]
abbrev famQ (h:Value) (l:List PortZ):Sq:=(h,73,2,l.map rPo)
theorem freeze_fam {x:X}{g:Value}{e sz:Nat}{q:Sq}{l sp:List Sq}{hs:List Value}{fs:List (List PortZ)}{H:Heap}(hl:hs.length=fs.length)
  (hp:(q::l).Perm (List.zipWith famQ hs fs++sp)) (hi:Inv x ([(90,sq q),(91,.seqs l),(50,.seq g e sz (hs.map ownR))]++H)) :
  ∃y:X,y.w=x.w∧x.le y∧Inv y ([(50,.seq g e sz (fs.map fun l=>[.dat (.sl (l.map encPo))]))]++H):=by
 have h1:Inv x ((91,.seqs (q::l))::(50,.seq g e sz (hs.map ownR))::H):=inv_shut hi
 have h2:Inv x ([(91,.seqs (List.zipWith famQ hs fs++sp))]++((50,.seq g e sz (hs.map ownR))::H)):=inv_shuffle hp h1
 obtain⟨y,hw,hle,hi2,hok,-⟩:=h2.freeze
 have hsq:∀s∈List.zipWith famQ hs fs++sp,∃xs,y.w.ownsRow 0 s.2.1 s.2.2.1 s.1 s.2.2.2.length xs∧(∀r∈s.2.2.2,r.length=s.2.2.1)∧Ds y s.2.2.2.flatten xs:=by
  have:=Ent.sat_step hle (fun b _=>by rw[hw]) (h2.sat (91,.seqs (List.zipWith famQ hs fs++sp)) (by simp))
  exact this.1
 have hdat:∀h f,famQ h f∈List.zipWith famQ hs fs->RdL y (.sl (f.map encPo)) h:=by
  intro h f hm
  have hm2:famQ h f∈List.zipWith famQ hs fs++sp:=List.mem_append.2 (.inl hm)
  have:=seq_data (x:=y) (h:=h) (e:=73) (sz:=2) (rows:=f.map rPo) (hsq _ hm2) (fun b hb=>hok b ⟨_,List.mem_singleton.2 rfl,_,hm2,hb⟩) (allD_P f)
  rwa [rowsD_P]at this
 refine⟨y,hw,hle,?_⟩
 have hsat:Ent.sat y (.seq g e sz (fs.map fun l=>[.dat (.sl (l.map encPo))])):=by
  obtain⟨xs,ho,hr,hd⟩:=hi2.sat (50,.seq g e sz (hs.map ownR)) (by simp)
  refine⟨xs,by simpa [hl]using ho,?_,?_⟩
  ·intro r hrm
   obtain⟨f,hf,rfl⟩:=List.mem_map.1 hrm
   obtain⟨i,hi1,e1⟩:=List.getElem_of_mem hf
   have:=hr (ownR (hs[i]'(by omega))) (List.mem_map.2 ⟨_,List.getElem_mem _,rfl⟩)
   simpa using this
  ·clear hi2 ho hr h1 h2 hp hsq hok hi
   induction hs generalizing fs xs with
   | nil=>
    cases fs with
    | nil=>simpa using hd
    | cons _ _=>simp at hl
   | cons h hs ih=>
    cases fs with
    | nil=>simp at hl
    | cons f fs=>
     cases xs with
     | nil=>simp[Ds]at hd
     | cons v vs=>
      simp only[List.map_cons,List.flatten_cons,List.cons_append,List.nil_append,Ds,D]at hd ⊢
      refine⟨?_,ih (by simpa using hl) (fun h' f' hm=>hdat h' f' (by simp[hm])) vs hd.2⟩
      rw[hd.1.1]
      exact hdat h f (by simp)
 have hi3:=Inv.swap (H:=[(50,.seq g e sz (hs.map ownR))]) (g:=50) (e:=.seq g e sz (hs.map ownR)) (e':=.seq g e sz (fs.map fun l=>[.dat (.sl (l.map encPo))])) rfl (fun _=>hsat) (fun b hb=>hb) (H0:=H) hi2
 simpa using hi3
section
variable {P:Program}
theorem V.forV {C:Cfg}{E:Env}{H:Heap}{Q:PostQ}{c:Code}{σ:Type}{kv:List (Nat×A)}{kh:Heap}(n:Nat) (Lv:List Nat) (hkv:kv=Lv.map fun t=>(t,E t)) (sl:Nat->σ->List (Nat×A)) (Hs:Nat->σ->Heap) (I:Nat->σ->Prop) (s0:σ)
  (hI0:I 0 s0) (hE0:∀p∈sl 0 s0,wk (E p.1) p.2) (hH0:kh=kpH (Hs 0 s0) H∧subN (hcat (Hs 0 s0) kh) H)
  (hb:∀i s,i<n->I i s->V C c (hdE kv (sl i s)) (hcat (Hs i s) kh) (LoopQ Q (Gh fun E' H'=>
   ∃s',I (i+1) s'∧(∀p∈sl (i+1) s',wk (E' p.1) p.2)∧(∀p∈kv,E' p.1=p.2)∧subN (hcat (Hs (i+1) s') kh) H')))
  (he:∀s,I n s->vcC C c (hdE kv (sl n s)) (hcat (Hs n s) kh) (LoopQ Q fun _ _=>False)):V C (.loop c) E H Q:=by
 intro hf x act H0 ms hi hen
 have hhead:∀ {i:Nat}{s:σ}{E':Env}{y:X}{a:Act}{ds:List Deferred},EnvOK C.n ds y a E'->(∀p∈sl i s,wk (E' p.1) p.2)->(∀p∈kv,E' p.1=p.2)->EnvOK C.n ds y a (hdE kv (sl i s)):=by
  intro i s E' y a ds h h1 h2
  refine⟨h.defers,h.size,sets_wk h.slot _ _ h1 (sets_wk h.slot _ _ ?_ fun t=>by simp[anyE,D])⟩
  intro p hp
  rw[h2 p hp]
  simp
 have h00:∀p∈kv,E p.1=p.2:=by
  intro p hp
  rw[hkv]at hp
  obtain⟨t,_,rfl⟩:=List.mem_map.1 hp
  rfl
 have key:W C (.loop c) (hdE kv (sl 0 s0)) (hcat (Hs 0 s0) kh) Q:=by
  refine W.loop (fun m E' H'=>∃i s,i<=n∧I i s∧n-i=m∧E'=hdE kv (sl i s)∧H'=hcat (Hs i s) kh) n ⟨0,s0,Nat.zero_le _,hI0,rfl,rfl,rfl⟩ ?_
  rintro m _ _ ⟨i,s,hin,hI,rfl,rfl,rfl⟩
  rcases Nat.lt_or_ge i n with hlt | hge
  ·have hw:=hb i s hlt hI hf
   intro x act H0 ms hi hen
   refine wpIn_mono (hw x act H0 ms hi hen) ?_
   rintro e a' w' ⟨y,E',H',ms',rfl,hle,hi',he',hq⟩
   cases e with
   | normal=>
    obtain⟨z,E2,H2,w2,l2,i2,e2,s',h1,h3,h4,h5⟩:=hq C.n (ms'.map mk) y a' _ hi' he'
    exact⟨z,_,_,ms',w2,hle.trans l2,subN_inv h5 i2,hhead e2 h3 h4,n-(i+1),by omega,i+1,s',by omega,h1,rfl,rfl,rfl⟩
   | exit k=>exact⟨y,E',H',ms',rfl,hle,hi',he',hq⟩
   | ret=>exact⟨y,E',H',ms',rfl,hle,hi',he',hq⟩
   | goto k=>exact hq.elim
   | panic k=>exact hq.elim
   | outgrown=>exact hq.elim
  ·obtain rfl:i=n:=by omega
   have hw:=vcC_ok c _ _ _ hf (he s hI)
   intro x act H0 ms hi hen
   refine wpIn_mono (hw x act H0 ms hi hen) ?_
   rintro e a' w' ⟨y,E',H',ms',rfl,hle,hi',he',hq⟩
   cases e with
   | normal=>exact hq.elim
   | exit k=>exact⟨y,E',H',ms',rfl,hle,hi',he',hq⟩
   | ret=>exact⟨y,E',H',ms',rfl,hle,hi',he',hq⟩
   | goto k=>exact hq.elim
   | panic k=>exact hq.elim
   | outgrown=>exact hq.elim
 refine key x act H0 ms (subN_inv hH0.2 hi) (hhead hen hE0 h00)
theorem V.blockV {C:Cfg}{id:Nat}{c:Code}{E:Env}{H:Heap}{Q:PostQ}(h:V C c E H (blockQ id Q)):V C (.block id c) E H Q:=by
 intro hf
 simp only[fitsC]at hf
 exact W.block (h hf)
theorem V.part {f:Func}{k:Nat}{c:Code}{C:Cfg}{E:Env}{H:Heap}{Q:PostQ}(h:loopO f k=some c) (hv:V C c E H Q):V C (loopC f k) E H Q:=by
 unfold loopC
 rw[h]
 exact hv
theorem V.of_part {f:Func}{k:Nat}{c:Code}{C:Cfg}{E:Env}{H:Heap}{Q:PostQ}(h:loopO f k=some c) (hv:V C (loopC f k) E H Q):V C c E H Q:=by
 unfold loopC at hv
 rw[h]at hv
 exact hv
end
section
variable {ps:List Prt}{l:List PipeZ}
abbrev nyK (ps:List Prt) (b3 r2:Nat):List (Nat×A):=[(2,.nils),(4,.fn 127 [] [.ptr 170 b3 0]),(10,.map 46 r2),(48,.dat (.sl ((allP ps).map encPo))),(49,aI (allP ps).length)]
abbrev nyH (ps:List Prt) (l:List PipeZ) (b3 r r2:Nat) (us:List (PortZ×PortZ)) (n:Nat) (q:Sq) (lq:List Sq) (g:Value) (hs:List Value):Heap:=
 [(90,sq q),(91,.seqs lq),(50,.seq g 68 1 (hs.map ownR)),(46,.mapK r2 false (atN (rootF l) (allP ps) n))]++upH b3 r us
theorem Inv.famE {x:X}{H:Heap}{t:Nat}(h:Inv x H):Inv x ((t,.seqs [])::H):=by
 refine⟨h.bd,?_,?_,List.pairwise_cons.2 ⟨?_,h.apart⟩⟩
 ·intro p hp
  rcases List.mem_cons.1 hp with rfl | hp
  ·exact⟨by simp,.nil⟩
  ·exact h.sat p hp
 ·intro p hp b hb
  rcases List.mem_cons.1 hp with rfl | hp
  ·obtain⟨q,hq,_⟩:=hb
   cases hq
  ·exact h.own p hp b hb
 ·rintro p hp b ⟨q,hq,_⟩
  cases hq
theorem perm_pick {α:Type}:∀ {L:List α}{k:Nat}{a:α},L[k]?=some a->L.Perm (a::L.eraseIdx k)
 | [],_,_,h=>by simp at h
 | b::L,0,a,h=>by
  simp at h
  subst h
  simp
 | b::L,k+1,a,h=>by
  simp at h
  simp only[List.eraseIdx_cons_succ]
  exact ((perm_pick h).cons b).trans (List.Perm.swap a b _)
theorem perm_set {α:Type}{L:List α}{k:Nat}(hk:k<L.length) (b:α):(b::L.eraseIdx k).Perm (L.set k b):=by
 have h1:=perm_pick (L:=L.set k b) (k:=k) (a:=b) (by simp[hk])
 rw[List.eraseIdx_set_eq]at h1
 exact h1.symm
theorem zip_set {α β γ:Type}(f:α->β->γ):∀(xs:List α) (ys:List β) (k:Nat) (a:α) (b:β),List.zipWith f (xs.set k a) (ys.set k b)=(List.zipWith f xs ys).set k (f a b)
 | [],ys,k,a,b=>by simp
 | a0::xs,[],k,a,b=>by cases k<;>simp
 | a0::xs,b0::ys,0,a,b=>by simp
 | a0::xs,b0::ys,k+1,a,b=>by simp[zip_set f xs ys k a b]
theorem fam_short (f:PortZ->PortZ) (all:List PortZ) (n:Nat) (m:List PortZ) (h:m∈famN f all n):m.length<=all.length:=by
 obtain⟨r,_,rfl⟩:=List.mem_map.1 h
 unfold famR
 refine Nat.le_trans (List.length_filter_le _ _) ?_
 rw[List.length_take]
 omega
abbrev nilV:Value:=.slice none 0 0
theorem inv_newF {x:X}{q:Sq}{lq:List Sq}{g:Value}{e sz:Nat}{hs:List Value}(H0:Heap) (h:Inv x ([(90,sq q),(91,.seqs lq),(50,.seq g e sz (hs.map ownR++[[.nils]]))]++H0)) :
  Inv x ([(90,sq (famQ nilV [])),(91,.seqs (q::lq)),(50,.seq g e sz ((hs++[nilV]).map ownR))]++H0):=by
 have h1:Inv x ([(91,.seqs (q::lq)),(50,.seq g e sz (hs.map ownR++[[.nils]]))]++H0):=inv_shut h
 have h2:=rowNil_inv (τ:=90) (g:=50) (i:=hs.length) (j:=0) (r:=[.nils]) 73 2 rfl (by simp) rfl h1
 simpa [sq]using h2
theorem nz_port {Q:PostQ}{b3 r r2 n:Nat}{us:List (PortZ×PortZ)}{q:Sq}{lq sp:List Sq}{g:Value}{hs:List Value}(hn:n<(allP ps).length) (hfew:ps.length<=64)
  (hcl:∀p,p∈allP ps->rootF l p∈allP ps) (hI:UpR us (rootF l)) (hU:∀u∈us,u.2∈allP ps) (hl:hs.length=(rootsN (rootF l) (allP ps) n).length)
  (hp:(q::lq).Perm (List.zipWith famQ hs (famN (rootF l) (allP ps) n)++sp))
  (hQ:∀q' lq' sp' g' hs',hs'.length=(rootsN (rootF l) (allP ps) (n+1)).length->(q'::lq').Perm (List.zipWith famQ hs' (famN (rootF l) (allP ps) (n+1))++sp') ->
   ∀E' H',(∀z∈[(9,.own 50 g'),(50,aI (n+1:Nat))],wk (E' z.1) z.2)->(∀z∈nyK ps b3 r2,E' z.1=z.2)->subN (nyH ps l b3 r r2 us (n+1) q' lq' g' hs') H'->Q .normal E' H') :
  V ⟨Tryz.prog,none,88⟩ (loopC Tryz.f77 1) (hdE (nyK ps b3 r2) [(9,.own 50 g),(50,aI n)]) (nyH ps l b3 r r2 us n q lq g hs) Q:=by
 obtain⟨x,hx⟩:∃x,(allP ps)[n]=x:=⟨_,rfl⟩
 have hxo:(allP ps)[n]?=some x:=by rw[List.getElem?_eq_getElem hn,hx]
 have hxm:=List.mem_of_getElem? hxo
 have hu:∀u∈us,okK u.2:=fun u hu=>okK_port (by omega) (hU u hu)
 have c1:=root_s hI hu x (okK_port (by omega) hxm) b3 r
 have hsort:(allP ps).Pairwise fun a b=>beforeZ a b=true:=allN_sorted ps _
 have hro:=rootF_ok l
 have hf:=hcl x hxm
 have okf:=okK_port (ps:=ps) (by omega) hf
 have hlen:=allN_len ps ps.length
 have hall:(allP ps).length<=448:=by
  unfold allP
  omega
 have hrl:(rootsN (rootF l) (allP ps) n).length<=448:=by
  refine Nat.le_trans (List.length_filter_le _ _) ?_
  rw[List.length_take]
  omega
 have hnew:=@fam_new (rootF l) (allP ps) n x hsort hxo
 have hold:=@fam_old (rootF l) (allP ps) n x hsort hxo
 have hrn:=@roots_new (rootF l) (allP ps) n x hxo
 have hrd:=@roots_old (rootF l) (allP ps) n x hxo
 have han:=@at_new (rootF l) (allP ps) n x hxo
 have had:=@at_old (rootF l) (allP ps) n x hxo
 have hfl:=famN_len (rootF l) (allP ps) n
 have hle:=hro.le
 have hid:=hro.idem x
 refine V.part rfl (V.seqV (V.of_vc ?_))
 simp[hn]
 refine V.seqV (V.condV ?_)
 simp
 refine V.of_vc ?_
 simp
 refine V.seqV (V.blockV (V.of_vcN 2 ?_))
 simp[hn,hx,hxo]
 intro b12
 refine (c1.frameL (H1:=[_,_,_,_,_])).mono ?_
 rintro _ _ ⟨_,⟨rfl,rfl⟩,rfl⟩
 simp
 intro b13
 refine V.seqV (V.seqV (V.of_vc ?_))
 simp
 refine⟨okf,?_⟩
 refine V.seqV (V.of_vc ?_)
 simp
 by_cases hfx:rootF l x=x
 ·obtain⟨h1,h2⟩:=hnew hfx hle
  rw[hfx]at okf ⊢
  refine V.condV ?_
  simp[h2]
  refine V.seqV (V.of_vc ?_)
  simp
  refine⟨okf,?_⟩
  refine V.cutV ((9,.own 50 g)::(50,aI n)::(12,.ptr 12 b12 0)::(13,.ptr 13 b13 0)::nyK ps b3 r2)
   (Hs:=(13,.box b13 [.dat (.int .i64 x.1),.dat (.str x.2)])::(12,.box b12 [.dat (.int .i64 x.1),.dat (.str x.2)])::[(90,sq q),(91,.seqs lq),(50,.seq g 68 1 (hs.map ownR)),(46,.mapK r2 false (kput (atN (rootF l) (allP ps) n) (x.fst,x.snd) [.int .i64 hs.length]))]++upH b3 r us) (by simp[h2]) (by simp) ?_
  refine V.regF (fun t=>if t=70 then some .bld else none) [] ?_
  simp
  intro u0 g'
  refine⟨by omega,?_⟩
  have hat:=han hfx h2
  rw[<- hl]at hat
  refine V.cutV ((9,.own 50 g')::(50,aI n)::(12,.ptr 12 b12 0)::(13,.ptr 13 b13 0)::nyK ps b3 r2)
   (Hs:=[(13,.box b13 [.dat (.int .i64 x.1),.dat (.str x.2)]),(12,.box b12 [.dat (.int .i64 x.1),.dat (.str x.2)])]++[(90,sq q),(91,.seqs lq),(50,.seq g' 68 1 (hs.map ownR++[[.nils]]))]++((46,.mapK r2 false (atN (rootF l) (allP ps) (n+1)))::upH b3 r us)) (by simp) (by simp[hat]) ?_
  refine V.inv (Inv.mid (C:=[_,_]) (D:=(46,_)::upH b3 r us) fun y H0=>inv_newF H0) ?_
  have hkg:kget (atN (rootF l) (allP ps) (n+1)) x=some [.int .i64 (hs.length:Nat)]:=by
   rw[<- hat,kget_put,if_pos rfl]
  refine V.drawX (fun _=>none) (by kernel_rfl) (by kernel_rfl) (by simp) ?_
  simp[hkg,sq]
  refine⟨okf,by omega,fun u=>⟨by omega,by kernel_rfl,V.of_vc ?_⟩⟩
  simp
  refine⟨by omega,hQ (famQ u [x]) (q::lq) sp g' (hs++[u]) (by rw[hrn hfx,List.length_append,List.length_append,hl];rfl) ?_ _ _ (by simp) (by simp) (by simp[sq])⟩
  rw[h1,List.zipWith_append (by rw[hfl,hl])]
  simp only[List.zipWith_cons_cons,List.zipWith_nil_left,List.append_assoc]
  exact (hp.cons _).trans List.perm_middle.symm
 ·obtain⟨k,m,h1,h2,h3,h4⟩:=hold hfx (hle x) hid hf
  refine V.condV ?_
  simp[h4]
  refine V.of_vc ?_
  simp
  have hkh:k<hs.length:=by omega
  have hz:(List.zipWith famQ hs (famN (rootF l) (allP ps) n))[k]?=some (famQ hs[k] m):=by
   rw[List.getElem?_zipWith,List.getElem?_eq_getElem hkh,h2]
  refine V.cutV ((9,.own 50 g)::(50,aI n)::(12,.ptr 12 b12 0)::(13,.ptr 13 b13 0)::nyK ps b3 r2)
   (Hs:=[(13,.box b13 [.dat (.int .i64 (rootF l x).1),.dat (.str (rootF l x).2)]),(12,.box b12 [.dat (.int .i64 x.1),.dat (.str x.2)])]++[(90,sq q),(91,.seqs lq)]++((50,.seq g 68 1 (hs.map ownR))::(46,.mapK r2 false (atN (rootF l) (allP ps) n))::upH b3 r us)) (by simp) (by simp) ?_
  refine V.inv (Inv.mid (C:=[_,_]) (D:=(50,_)::(46,_)::upH b3 r us) (B:=[(90,sq (famQ hs[k] m)),(91,.seqs ((List.zipWith famQ hs (famN (rootF l) (allP ps) n)).eraseIdx k++sp))]) fun y H0 h=>inv_other (hp.trans ((perm_pick hz).append_right sp)) h) ?_
  have hko:hs[k]?=some hs[k]:=List.getElem?_eq_getElem hkh
  obtain⟨hk,hhk⟩:∃v,hs[k]=v:=⟨_,rfl⟩
  rw[hhk]at hko ⊢
  have hmm:=fam_short _ _ _ _ (List.mem_of_getElem? h2)
  refine V.drawX (fun _=>none) (by kernel_rfl) (by kernel_rfl) (by simp) ?_
  simp[h4,sq,hkh,hko,hhk]
  refine⟨okf,fun u=>⟨?_,by kernel_rfl,V.of_vc ?_⟩⟩
  ·omega
  ·simp
   have hkz:k<(List.zipWith famQ hs (famN (rootF l) (allP ps) n)).length:=by
    rw[List.length_zipWith,hfl]
    omega
   refine⟨by omega,hQ (famQ u (m++[x])) ((List.zipWith famQ hs (famN (rootF l) (allP ps) n)).eraseIdx k++sp) sp g (hs.set k u) (by rw[hrd hfx,List.length_set,hl]) ?_ _ _ (by simp) (by simp) (by simp[sq,had hfx])⟩
   rw[h3,zip_set]
   exact (perm_set hkz (famQ u (m++[x]))).append_right sp
end
abbrev aNets (ns:List (List PortZ)):A:=.dat (.sl (ns.map fun l=>[.sl (l.map encPo)]))
theorem Gh.fam {Q:Env->Heap->Prop}{E:Env}{g:Value}{e sz:Nat}{q:Sq}{l sp:List Sq}{hs:List Value}{fs:List (List PortZ)}{H:Heap}(hl:hs.length=fs.length)
  (hp:(q::l).Perm (List.zipWith famQ hs fs++sp)) (hq:Q E ([(50,.seq g e sz (fs.map fun l=>[.dat (.sl (l.map encPo))]))]++H)):Gh Q E ([(90,sq q),(91,.seqs l),(50,.seq g e sz (hs.map ownR))]++H):=by
 intro n ds x act H0 hi he
 rw[List.append_assoc]at hi
 obtain⟨y,hw,hle,hi2⟩:=freeze_fam hl hp hi
 exact⟨y,E,_,hw,hle,by rw[List.append_assoc];exact hi2,he.mono hle,hq⟩
theorem rowsD_N (ns:List (List PortZ)):rowsD (ns.map fun l=>([.dat (.sl (l.map encPo))]:List A))=ns.map fun l=>[.sl (l.map encPo)]:=by unfold rowsD;rw[List.map_map];rfl
theorem allD_N (ns:List (List PortZ)):allD (ns.map fun l=>([.dat (.sl (l.map encPo))]:List A))=true:=by simp[allD,isD]
attribute [simp] rowsD_N allD_N
theorem nets_fn (c:Cir) (hc:CirR c):CallFn Tryz.prog 77 [aCi c] (aNets (netsZ c)):=by
 have hkinds:∀p∈c.parts,0<=p.kind∧p.kind<14:=fun p hp=>partE_kindZ (hc.part p hp)
 have hallf:=all_fn c hkinds hc.few
 have hra:=fun p=>@root_all c hc p
 obtain⟨ps,l⟩:=c
 have hfew:=hc.few
 have hmany:=hc.many
 have hroot:=rootF_ok l
 have hinall:∀x∈l,x.1∈allP ps∧x.2∈allP ps:=fun x hx=>⟨mem_allP.2 ⟨(hc.inp x hx).1,(hc.has x hx).1⟩,mem_allP.2 ⟨(hc.inp x hx).2,(hc.has x hx).2⟩⟩
 have hcl:∀i p,p∈allP ps->rootF (l.take i) p∈allP ps:=by
  intro i p hp
  refine ((rootF_ok (l.take i)).closed (fun q=>q∈allP ps) (fun x hx=>?_) p).1 hp
  obtain⟨a,b⟩:=hinall x (List.mem_of_mem_take hx)
  exact⟨fun _=>b,fun _=>a⟩
 have hnets:netsZ ⟨ps,l⟩=famN (rootF l) (allP ps) (allP ps).length:=(famN_all _ _).symm
 have hall448:(allP ps).length<=448:=by
  have:=allN_len ps ps.length
  simp only at hfew
  unfold allP
  omega
 simp only at hfew hmany hallf
 refine callFz_cut 3 Tryz.func77 rfl Tryz.ntmps77 (rs:=[.tmp 2]) rfl (by kernel_rfl) (by simp) (by kernel_rfl) ?_
 simp
 intro b3 r
 refine V.cutIN 1 (Hs:=upH r b3 []) [(1,.rptr (encCi ⟨ps,l⟩)),(2,.nils),(3,.ptr 170 r 0),(4,.fn 127 [] [.ptr 170 r 0])] ?_ ?_ ?_
 ·intro p hp x v hv
  simp only[List.mem_cons,List.not_mem_nil,or_false]at hp
  rcases hp with rfl | rfl | rfl | rfl
  ·simpa using hv
  ·simpa using hv
  ·simpa [D]using hv
  ·simp at hv ⊢
   exact D_fn Ds_i (Ds_c D_tag Ds_i) v hv
 ·intro x H0 hi
  have h1:Inv x ([(170,.box r [.map 16 b3]),(171,.mapK b3 true [])]++H0):=hi.ents (by simp)
  have h2:=Inv.swap (g:=170) (e:=.box r [.map 16 b3]) (e':=.box r [.map 171 b3]) rfl (box_sat (Ds_c D_mtag Ds_i)) (fun _ h=>h) h1
  simpa [encUp]using h2
 ·simp
  refine V.forI (σ:=List (PortZ×PortZ)) l.length [1,2,3,4,19,20] (by simp;exact rfl) (fun i _=>[(21,aI i)]) (fun i us=>upH r b3 us)
   (fun i us=>UpR us (rootF (l.take i))∧∀u∈us,u.2∈allP ps) [] ⟨upR_nil,by simp⟩ (by simp) ⟨by simp;exact rfl,by simp[encUp]⟩ ?_ ?_
  ·rintro i us hi ⟨hI,hU⟩
   exact vc_of_part rfl (nz_pipe hi hmany (by omega) hinall (hcl i) hI hU fun us' h1 h2 E' H' q1 q2 q3=>⟨us',⟨h1,h2⟩,by simpa using q1,q2,by simpa using q3⟩)
  ·rintro us ⟨hI,hU⟩
   rw[List.take_length]at hI
   simp
   refine V.of_vc ?_
   simp
   intro r2
   refine hallf.s ?_
   simp
   refine V.inv (H':=nyH ps l r b3 r2 us 0 (famQ nilV []) [] nilV []) ?_ ?_
   ·intro x H0 hi
    have h1:=Inv.nil (t:=90) (e:=.seq nilV 73 2 []) (Inv.famE (t:=91) (Inv.nil (t:=50) (e:=.seq nilV 68 1 []) hi ⟨rfl,rfl⟩)) ⟨rfl,rfl⟩
    simpa [sq,atN,rootsN]using h1
   refine V.gh ?_
   refine V.forV (σ:=Sq×List Sq×List Sq×Value×List Value) (allP ps).length [2,4,10,48,49] (by simp;exact rfl) (fun n s=>[(9,.own 50 s.2.2.2.1),(50,aI n)]) (fun n s=>nyH ps l r b3 r2 us n s.1 s.2.1 s.2.2.2.1 s.2.2.2.2)
    (fun n s=>s.2.2.2.2.length=(rootsN (rootF l) (allP ps) n).length∧(s.1::s.2.1).Perm (List.zipWith famQ s.2.2.2.2 (famN (rootF l) (allP ps) n)++s.2.2.1)) (famQ nilV [],[],[famQ nilV []],nilV,[]) ⟨by simp[rootsN],by simp⟩ (by simp) ⟨by simp;exact rfl,by simp⟩ ?_ ?_
   ·rintro n ⟨q,lq,sp,g,hs⟩ hn ⟨h1,h2⟩
    refine V.of_part rfl (nz_port (sp:=sp) hn hfew (fun p hp=>?_) hI hU h1 h2 fun q' lq' sp' g' hs' k1 k2 E' H' q1 q2 q3=>Gh.here ⟨(q',lq',sp',g',hs'),⟨k1,k2⟩,q1,?_,?_⟩)
    ·have:=hcl l.length p hp
     rwa [List.take_length]at this
    ·simpa using q2
    ·simpa using q3
   ·rintro⟨q,lq,sp,g,hs⟩ ⟨h1,h2⟩
    simp only at h1 h2
    simp
    refine Gh.fam (H:=[_,_,_]) (by rw[h1,famN_len]) h2 ?_
    simp[hnets]
theorem Nets_fn (c:Cir) (hs:c.parts.length<=64->∀p∈c.parts,p.name.length<=1000) (hl:Sh c.parts) (hl2:Sh c.pipes):CallFn Tryz.prog 25 [aCi c] (.tuple [aNets (if cirE c=0 then netsZ c else []),aI (cirE c)]):=by
 have hch:=CheckZ_fn c hs hl hl2
 have hn:=fun h=>nets_fn c (cirR_of h)
 obtain⟨ps,l⟩:=c
 refine callFz_of Tryz.func25 rfl Tryz.ntmps25 (rs:=[.tmp 2,.tmp 3]) rfl (by kernel_rfl) (by simp) (by kernel_rfl) ?_
 simp
 refine hch.s ?_
 by_cases h:cirE ⟨ps,l⟩=0
 ·simp[h]
  refine (hn h).s ?_
  simp[h]
 ·simp[h]
theorem CallS.rt' {P:Program}{k:Nat}{g:FuncId}{az:List A}{H:Heap}{K:A->Heap->Prop}(h:CallS P g az H K):CallS P g az (Go.Proofs.YtpadinblmjlggaaGreatDoor.rt k H) fun r H'=>∃H2,H'=Go.Proofs.YtpadinblmjlggaaGreatDoor.rt k H2∧K r H2:=by
 refine⟨h.1,fun x args H0 hi hd=>(h.2 x args H0 (hi.ents (by simp[rt_snd])) hd).mono ?_⟩
 rintro _ _ ⟨y,v,r,H',a,b,c,d,e,g⟩
 exact⟨y,v,r,Go.Proofs.YtpadinblmjlggaaGreatDoor.rt k H',a,b,c,d.ents (by simp[rt_snd]),e,H',rfl,g⟩
theorem get!_list (s:List UInt8) (i:Nat) (h:i<s.length):(ByteArray.mk s.toArray).get! i=s[i]:=by
 simp[ByteArray.get!,h]
theorem decode_ascii {s:List UInt8}{i:Nat}(h:i<s.length) (hb:s[i].toNat<128):Utf8.decode ⟨s.toArray⟩ i=(s[i].toNat,1):=by
 simp[Utf8.decode,get!_list s i h,hb]
theorem decode_high {s:List UInt8}{i:Nat}(h:i<s.length) (hb:128<=s[i].toNat):128<=(Utf8.decode ⟨s.toArray⟩ i).1∧(Utf8.decode ⟨s.toArray⟩ i).1<=1114111:=by
 have hv:∀c:Nat,Utf8.valid c=true->c<=1114111:=by
  intro c hc
  simp[Utf8.valid]at hc
  omega
 have hlt:s[i].toNat<256:=s[i].toNat_lt
 simp only[Utf8.decode,Nat.add_zero,get!_list s i h,Utf8.runeError]
 rw[if_neg (by omega)]
 split
 ·split<;>simp<;>omega
 ·split
  ·split
   ·rename_i h1
    simp only[Bool.and_eq_true,decide_eq_true_eq]at h1
    exact⟨by simp only[];omega,hv _ h1.2⟩
   ·simp
  ·split
   ·split
    ·rename_i h1
     simp only[Bool.and_eq_true,decide_eq_true_eq]at h1
     exact⟨by simp only[];omega,hv _ h1.2⟩
    ·simp
   ·simp
theorem indexFuncS_fn (s:List UInt8) (hs:Sh s) (p:Int->Bool) (hp:∀r,128<=r->p r=true) (f:FuncId) (first caps:List A)
  (hf:∀r,0<=r->r<=1114111->CallFn Tryz.prog f (first++[.dat (.int .i32 r)]++caps) (aB (p r))) :
  CallFn Tryz.prog 324 [aT s,.fn f first caps,aB true] (aI (idxI (s.findIdx? fun b=>p b.toNat))):=by
 refine callFz_of Tryz.func324 rfl Tryz.ntmps324 (rs:=[.tmp 6]) rfl (by kernel_rfl) (by simp) (by kernel_rfl) ?_
 simp
 intro b
 refine V.forI (σ:=Unit) s.length [1,2,10] (by simp;exact rfl) (fun _ _=>[]) (fun i _=>[(10,.raw b (.stringIter ⟨s.toArray⟩ i))]) (fun i _=>NoF (fun b:UInt8=>p b.toNat) (s.take i)) () (by simp) (by simp) ⟨by simp;exact rfl,by simp⟩ ?_ ?_
 ·rintro i-hi hI
  have h1:=List.getElem?_eq_getElem hi
  have hs1:=findIdx_step (p:=fun b:UInt8=>p b.toNat) hI h1
  have hsz:i<(ByteArray.mk s.toArray).size:=by simpa [ByteArray.size]using hi
  rcases Nat.lt_or_ge s[i].toNat 128 with hb | hb
  ·have hd:=decode_ascii hi hb
   have hc:=hf s[i].toNat (by omega) (by omega)
   simp at hc
   simp[hsz,hd]
   refine hc.s ?_
   cases e:p s[i].toNat
   ·simp
    exact hs1.1 e
   ·rw[hs1.2 e]
    simp
  ·have hd:=decode_high hi hb
   have hc:=hf (Utf8.decode ⟨s.toArray⟩ i).1 (by omega) (by omega)
   have e1:=hp (Utf8.decode ⟨s.toArray⟩ i).1 (by omega)
   have e2:=hp s[i].toNat (by omega)
   simp at hc
   simp[hsz]
   refine hc.s ?_
   rw[e1,hs1.2 e2]
   simp
 ·rintro-hI
  rw[findIdx_none hI]
  have hsz:¬s.length<(ByteArray.mk s.toArray).size:=by simp[ByteArray.size]
  simp[hsz]
theorem IndexFuncS_fn (s:List UInt8) (hs:Sh s) (p:Int->Bool) (hp:∀r,128<=r->p r=true) (f:FuncId) (first caps:List A)
  (hf:∀r,0<=r->r<=1114111->CallFn Tryz.prog f (first++[.dat (.int .i32 r)]++caps) (aB (p r))) :
  CallFn Tryz.prog 298 [aT s,.fn f first caps] (aI (idxI (s.findIdx? fun b=>p b.toNat))):=by
 refine callFz_of Tryz.func298 rfl Tryz.ntmps298 (rs:=[.tmp 4]) rfl (by kernel_rfl) (by simp) (by kernel_rfl) ?_
 simp
 refine (indexFuncS_fn s hs p hp f first caps hf).s ?_
 simp
theorem ContainsFuncS_fn (s:List UInt8) (hs:Sh s) (p:Int->Bool) (hp:∀r,128<=r->p r=true) (f:FuncId) (first caps:List A)
  (hf:∀r,0<=r->r<=1114111->CallFn Tryz.prog f (first++[.dat (.int .i32 r)]++caps) (aB (p r))) :
  CallFn Tryz.prog 262 [aT s,.fn f first caps] (aB (s.any fun b=>p b.toNat)):=by
 refine callFz_of Tryz.func262 rfl Tryz.ntmps262 (rs:=[.tmp 4]) rfl (by kernel_rfl) (by simp) (by kernel_rfl) ?_
 simp
 refine (IndexFuncS_fn s hs p hp f first caps hf).s ?_
 simp
 rw[idxI_ge,List.findIdx?_isSome]
def badR (r:Int):Bool:=decide (122<r) || !partI r
theorem badR_fn (r:Int) (h0:0<=r) (h1:r<=1114111):CallFn Tryz.prog 263 [.dat (.int .i32 r)] (aB (badR r)):=by
 refine callFz_of Tryz.func263 rfl Tryz.ntmps263 (rs:=[.tmp 2]) rfl (by kernel_rfl) (by simp) (by kernel_rfl) ?_
 simp[reads]
 refine⟨by omega,GCall.fn (aB (partI r)) (fun h=>⟨by omega,part_fn r h0 (by omega)⟩) ?_⟩
 simp[reads,badR]
def wordS (s:List UInt8):Bool:=match s with
 | []=>false
 | b::_=>decide (97<=b.toNat)&&decide (b.toNat<=122)&&s.all partB
def nameE (s:List UInt8) (seen:List (List UInt8)):Int:=if wordS s=false then 3 else if s.length>24 then 17 else if s∈seen then 7 else 0
theorem badR_part (b:UInt8):badR b.toNat = !partB b:=by
 simp only[badR,partI,partB]
 have:=b.toNat_lt
 rw[Bool.eq_iff_iff]
 simp
 omega
theorem all_bad (s:List UInt8):(s.any fun b=>badR b.toNat) = !s.all partB:=by
 simp only[badR_part]
 induction s with
 | nil=>rfl
 | cons b s ih=>simp[ih]
def mapOf (names:List (List UInt8)):List (L×L):=names.zipIdx.map fun p=>(.str p.1,.int .i64 p.2)
theorem mget_of_aux (s:List UInt8):∀(names:List (List UInt8)) (k:Nat),mget ((names.zipIdx k).map fun p=>(L.str p.1,L.int .i64 p.2)) (.str s)=(names.findIdx? (·==s)).map fun i=>.int .i64 (i+k:Nat)
 | [],_=>rfl
 | n::ns,k=>by
  simp only[List.zipIdx_cons,List.map_cons,mget,leq,List.findIdx?_cons]
  by_cases h:n=s
  ·simp[h]
  ·simp only[beq_iff_eq,h,if_false,mget_of_aux s ns (k+1)]
   cases ns.findIdx? (·==s)<;>simp
   omega
theorem mget_of (names:List (List UInt8)) (s:List UInt8):mget (mapOf names) (.str s)=(names.findIdx? (·==s)).map fun i=>.int .i64 i:=by
 have:=mget_of_aux s names 0
 simpa [mapOf]using this
theorem mput_of_aux (s:List UInt8) (v:L):∀(names:List (List UInt8)) (k:Nat),s∉names->mput ((names.zipIdx k).map fun p=>(L.str p.1,L.int .i64 p.2)) (.str s) v=(names.zipIdx k).map (fun p=>(L.str p.1,L.int .i64 p.2))++[(.str s,v)]
 | [],_,_=>rfl
 | n::ns,k,h=>by
  simp only[List.mem_cons,not_or]at h
  simp only[List.zipIdx_cons,List.map_cons,mput,leq,beq_iff_eq,Ne.symm h.1,if_false,mput_of_aux s v ns (k+1) h.2,List.cons_append]
theorem mput_of {names:List (List UInt8)}{s:List UInt8}(h:s∉names):mput (mapOf names) (.str s) (.int .i64 names.length)=mapOf (names++[s]):=by
 have:=mput_of_aux s (.int .i64 names.length) names 0 h
 simp only[mapOf,this,List.zipIdx_append,List.map_append]
 simp
@[simp] theorem mapOf_length (names:List (List UInt8)):(mapOf names).length=names.length:=by simp[mapOf]
end Go.Proofs.YtpadinblmjlggaaGreatDoor
