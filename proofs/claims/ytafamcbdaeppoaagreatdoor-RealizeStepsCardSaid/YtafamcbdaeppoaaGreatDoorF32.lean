/- Texts joined by a program: Xn. -/
import Derived.Test.YtafamcbdaeppoaaGreatDoorF29
import Derived.Test.YtafamcbdaeppoaaGreatDoorF31
import Derived.Test.YtafamcbdaeppoaaGreatDoorF26
import Derived.Test.YtafamcbdaeppoaaGreatDoorF30
set_option linter.unusedSimpArgs false
set_option linter.unusedVariables false
set_option maxHeartbeats 8000000
set_option maxRecDepth 10000
namespace Go.Proofs.YtafamcbdaeppoaaGreatDoor
structure RowS (z:Cir) (P NX W:List Int) (x:Signal) (line:Int) (k:Nat):Prop where
 lt:k<z.parts.length
 mem:∀q,z.parts[k]?=some q->q.kind=2->x.kind=1∧decide (NX.getD k 0=P.getD k 0) = !decide (line∈W)
 inv:∀q,z.parts[k]?=some q->q.kind=5∨q.kind=9∨q.kind=8->NX.getD k 0=P.getD k 0
abbrev stepM (z:Cir) (x:Signal) (b5 b14:Nat):Heap:=[(14,.box b14 ((encS x).map A.dat)),(5,.box b5 ((encCi z).map A.dat))]
abbrev stepK (c:Control) (P NX W Ls:List Int) (line:Int) (b5 b14:Nat) (v80:A):List (Nat×A):=
 [(2,.rptr (encC c)),(5,.ptr 5 b5 0),(7,aIs P),(8,aIs NX),(11,aIs W),(14,.ptr 14 b14 0),(15,aI line),(78,.dat (.sl (c.signals.map encS))),(79,aI c.signals.length),(80,v80),(97,aIs Ls),(98,aI Ls.length)]
theorem steps_row {Q:PostQ}{c:Control}{z:Cir}{P NX W Ls:List Int}{x:Signal}{line:Int}{b5 b14 t k:Nat}{v80:A}(hP:P.length=z.parts.length) (hN:NX.length=z.parts.length) (hf:z.parts.length<=64) (hW:Sh W) (hLl:Ls.length<=64) (hL:Ls[t]?=some (k:Int)) (hr:RowS z P NX W x line k)
  (hQ:∀E' H',(∀y∈[(4,aB false),(99,aI (t+1:Nat))],wk (E' y.1) y.2)->(∀y∈stepK c P NX W Ls line b5 b14 v80,E' y.1=y.2)->subN (stepM z x b5 b14) H'->Q .normal E' H') :
  vcC ⟨Tryz.prog,none,153⟩ (loopC Tryz.f4 1) (hdE (stepK c P NX W Ls line b5 b14 v80) [(4,aB false),(99,aI t)]) (stepM z x b5 b14) Q:=by
 obtain⟨hlt,hm,hi⟩:=hr
 obtain⟨htl,hL1⟩:=List.getElem?_eq_some_iff.1 hL
 obtain⟨q,hq⟩:∃q,z.parts[k]?=some q:=⟨_,List.getElem?_eq_getElem hlt⟩
 obtain⟨hql,hq1⟩:=List.getElem?_eq_some_iff.1 hq
 have hm:=hm q hq
 have hi:=hi q hq
 have hkP:k<P.length:=by omega
 have hkN:k<NX.length:=by omega
 obtain⟨p1,p2⟩:=getD_at hkP
 obtain⟨n1,n2⟩:=getD_at hkN
 have hc:=containsI_fn W line hW
 generalize P.getD k 0=a at *
 generalize NX.getD k 0=b at *
 generalize decide (line∈W)=w at *
 obtain⟨qk,qn,qd⟩:=q
 simp only at hm hi
 have h1:¬((k:Int)<0):=by omega
 have h2:¬P.length<=k:=by omega
 refine vc_part rfl ?_
 by_cases k2:qk=2
 ·subst k2
  obtain⟨m1,m2⟩:=hm rfl
  simp[htl,hL,hL1,hkP,hql,hq1,hq,h1,h2]
  refine V.drawX (fun t=>if t=134 then some (.fn (aB w)) else none) (by kernel_rfl) (by kernel_rfl) (by simp) ?_
  simp[m1,hkP,hkN,p1,p2,n1,n2]
  have m3:(b != a)=w:=by
   rw[bne,show (b==a)=decide (b=a) from rfl,m2,Bool.not_not]
  exact⟨hc,fun h=>absurd m3 h,fun _=>⟨⟨by omega,by omega⟩,hQ _ _ (by simp) (by simp) (by simp)⟩⟩
 ·by_cases k5:qk=5
  ·subst k5
   have e:=hi (.inl rfl)
   subst e
   simp[htl,hL,hL1,hkP,hql,hq1,hq,h1,h2]
   refine V.drawX (fun _=>none) (by kernel_rfl) (by kernel_rfl) (by simp) ?_
   simp[hkP,hkN,p1,p2,n1,n2]
   exact⟨⟨by omega,by omega⟩,hQ _ _ (by simp) (by simp) (by simp)⟩
  ·by_cases k9:qk=9
   ·subst k9
    have e:=hi (.inr (.inl rfl))
    subst e
    simp[htl,hL,hL1,hkP,hql,hq1,hq,h1,h2]
    refine V.drawX (fun _=>none) (by kernel_rfl) (by kernel_rfl) (by simp) ?_
    simp[hkP,hkN,p1,p2,n1,n2]
    exact⟨⟨by omega,by omega⟩,hQ _ _ (by simp) (by simp) (by simp)⟩
   ·by_cases k8:qk=8
    ·subst k8
     have e:=hi (.inr (.inr rfl))
     subst e
     simp[htl,hL,hL1,hkP,hql,hq1,hq,h1,h2]
     refine V.drawX (fun _=>none) (by kernel_rfl) (by kernel_rfl) (by simp) ?_
     simp[hkP,hkN,p1,p2,n1,n2]
     exact⟨⟨by omega,by omega⟩,hQ _ _ (by simp) (by simp) (by simp)⟩
    ·simp[htl,hL,hL1,hkP,hql,hq1,hq,h1,h2,k2,k5,k9,k8]
     exact⟨⟨by omega,by omega⟩,hQ _ _ (by simp) (by simp) (by simp)⟩
theorem steps_sig {Q:PostQ}{c:Control}{z:Cir}{P NX W Ls:List Int}{x:Signal}{b5 i:Nat}(hx:c.signals[i]?=some x) (hcl:c.signals.length<=64) (hfc:0<=firstC c∧firstC c<=1000) (c1:CallFn Tryz.prog 24 [aC c,aI (firstC c+i)] (.tuple [aIs Ls,aI 0])) (c2:CallFn Tryz.prog 23 [aC c] (aI (firstC c)))
  (hP:P.length=z.parts.length) (hN:NX.length=z.parts.length) (hf:z.parts.length<=64) (hW:Sh W) (hLl:Ls.length<=64) (hr:∀(t:Nat) (y:Int),Ls[t]?=some y->∃k:Nat,y=k∧RowS z P NX W x (firstC c+i) k)
  (hQ:∀E' H',(∀y∈[(4,aB false),(80,aI (i+1:Nat))],wk (E' y.1) y.2)->(∀y∈[(2,.rptr (encC c)),(5,.ptr 5 b5 0),(7,aIs P),(8,aIs NX),(11,aIs W),(78,.dat (.sl (c.signals.map encS))),(79,aI c.signals.length)],E' y.1=y.2)->subN [(5,.box b5 ((encCi z).map A.dat))] H'->Q .normal E' H') :
  vcC ⟨Tryz.prog,none,153⟩ (loopC Tryz.f4 0) (hdE [(2,.rptr (encC c)),(5,.ptr 5 b5 0),(7,aIs P),(8,aIs NX),(11,aIs W),(78,.dat (.sl (c.signals.map encS))),(79,aI c.signals.length)] [(4,aB false),(80,aI i)]) [(5,.box b5 ((encCi z).map A.dat))] Q:=by
 obtain⟨hi,hx1⟩:=List.getElem?_eq_some_iff.1 hx
 refine vc_part rfl ?_
 simp[hi,hx,hx1]
 intro b14
 refine c2.s ?_
 simp
 refine⟨⟨by omega,by omega⟩,?_⟩
 refine c1.s ?_
 simp
 refine V.forI (σ:=Unit) Ls.length [2,5,7,8,11,14,15,78,79,80,97,98] (by simp;exact rfl) (fun t _=>[(4,aB false),(99,aI t)]) (fun _ _=>stepM z x b5 b14) (fun _ _=>True) () trivial (by simp) ⟨by simp;exact rfl,by simp⟩ ?_ ?_
 ·rintro t-ht -
  obtain⟨y,hy⟩:∃y,Ls[t]?=some y:=⟨_,List.getElem?_eq_getElem ht⟩
  obtain⟨k,rfl,hk⟩:=hr t y hy
  exact vc_of_part rfl (steps_row hP hN hf hW hLl hy hk fun E' H' q1 q2 q3=>⟨(),trivial,q1,q2,q3⟩)
 ·rintro - -
  simp
  refine⟨by omega,?_⟩
  exact hQ _ _ (by simp) (by simp) (by simp)
abbrev rzE (c:Control) (P NX W:List Int) (b5:Nat):List (Nat×A):=[(2,.rptr (encC c)),(4,aB false),(5,.ptr 5 b5 0),(7,aIs P),(8,aIs NX),(11,aIs W)]
theorem steps_a {c:Control}{z:Cir}{P NX W:List Int}{b5:Nat}(ha:CallFn Tryz.prog 9 [] (aB true)) (hcl:c.signals.length<=64) (hfc:0<=firstC c∧firstC c<=1000) (c2:CallFn Tryz.prog 23 [aC c] (aI (firstC c))) (hP:P.length=z.parts.length) (hN:NX.length=z.parts.length) (hf:z.parts.length<=64) (hW:Sh W)
  (hr:∀(i:Nat) x,c.signals[i]?=some x->∃Ls,Ls.length<=64∧CallFn Tryz.prog 24 [aC c,aI (firstC c+i)] (.tuple [aIs Ls,aI 0])∧∀(t:Nat) (y:Int),Ls[t]?=some y->∃k:Nat,y=k∧RowS z P NX W x (firstC c+i) k) :
  V ⟨Tryz.prog,none,153⟩ (restC Tryz.f4 8) (hdE (rzE c P NX W b5) []) [(5,.box b5 ((encCi z).map A.dat))] (RetV Tryz.prog [.tmp 4] fun r' H'=>(frz H' r').1∧(frz H' r').2=aB true):=by
 refine V.rest rfl ?_
 refine V.of_vcN 1 ?_
 simp[encC]
 refine V.forI (σ:=Unit) c.signals.length [2,5,7,8,11,78,79] (by simp;exact rfl) (fun i _=>[(4,aB false),(80,aI i)]) (fun _ _=>[(5,.box b5 ((encCi z).map A.dat))]) (fun _ _=>True) () trivial (by simp) ⟨by simp;exact rfl,by simp⟩ ?_ ?_
 ·rintro i-hi -
  have hx:=List.getElem?_eq_getElem hi
  obtain⟨Ls,l1,l2,l3⟩:=hr i _ hx
  exact vc_of_part rfl (steps_sig hx hcl hfc l2 c2 hP hN hf hW l1 l3 fun E' H' q1 q2 q3=>⟨(),trivial,q1,q2,q3⟩)
 ·rintro - -
  simp
  refine V.of_vc ?_
  simp
  refine ha.s ?_
  simp
theorem rz_b {c:Control}{s:State}{z:Cir}{P NX B W:List Int}{b5:Nat}(hP:P.length=z.parts.length) (hN:NX.length=z.parts.length) (hs:CallFn Tryz.prog 21 [aCi z,aIs P] (.tuple [aIs NX,aIs B,aI 0])) (hw:CallFn Tryz.prog 22 [aC c,aSt s] (.tuple [aIs W,aI 0]))
  (hx:V ⟨Tryz.prog,none,153⟩ (restC Tryz.f4 8) (hdE (rzE c P NX W b5) []) [(5,.box b5 ((encCi z).map A.dat))] (RetV Tryz.prog [.tmp 4] fun r' H'=>(frz H' r').1∧(frz H' r').2=aB true)) :
  V ⟨Tryz.prog,none,153⟩ (restC Tryz.f4 5) (hdE [(2,.rptr (encC c)),(3,.rptr (encSt s)),(4,aB false),(5,.ptr 5 b5 0),(6,aI 0),(7,aIs P)] []) [(5,.box b5 ((encCi z).map A.dat))] (RetV Tryz.prog [.tmp 4] fun r' H'=>(frz H' r').1∧(frz H' r').2=aB true):=by
 refine V.rest rfl ?_
 refine V.of_vcN 3 ?_
 simp
 refine hs.s ?_
 simp
 refine hw.s ?_
 simp[hP,hN]
 exact V.cutV (Hs:=[(5,.box b5 ((encCi z).map A.dat))]) (rzE c P NX W b5) (by simp) (by simp) (V.of_rest rfl hx)
theorem mem_ofSig {ps:List Made}{d:Int}{n:Nat}{y:Int}(h:y∈ofSig ps d n):∃(k:Nat) (p:Made),y=k∧ps[k]?=some p∧p.signal=d:=by
 unfold ofSig at h
 obtain⟨k,hk,rfl⟩:=List.mem_map.1 h
 have h2:=(List.mem_filter.1 hk).2
 rw[Option.any_eq_true]at h2
 obtain⟨p,hp,hd⟩:=h2
 exact⟨k,p,rfl,hp,of_decide_eq_true hd⟩
theorem mem_lineL {c:Control}{u:State}{i:Nat}(hi:i<c.signals.length):firstC c+(i:Int)∈lineL c u↔wantAt c u i=true:=by
 unfold lineL wantsL
 constructor
 ·intro h
  obtain⟨j,hj,e⟩:=List.mem_map.1 h
  have:j=i:=by omega
  rw[<- this]
  exact (List.mem_filter.1 hj).2
 ·intro h
  exact List.mem_map.2 ⟨i,List.mem_filter.2 ⟨List.mem_range.2 hi,h⟩,rfl⟩
theorem RealizeSteps_fn (c:Control) (s:State) (hc:OkC c) (hs:OkSt s):CallFn Tryz.prog 4 [aC c,aSt s] (aB true):=by
 have haw:=awake37_fn
 have hrt:=right37_fn c s hc hs
 by_cases hB:rightB c s=true
 ·rw[hB]at hrt
  have hB2:=hB
  simp only[rightB,Bool.and_eq_true,beq_iff_eq]at hB2
  obtain⟨⟨f1,f2⟩,hR⟩:=hB2
  have hsm:=few_sm f2
  have hpm:=few_c f1
  obtain⟨hz,hsh,_⟩:=right_zero hR
  have hcir:=Circuit_fn c hc
  cases hm:manyM (dM c) with
  | true=>
   rw[show circuitQ c=(([],[]),5) by simp[circuitQ,hz,hm]]at hcir
   refine callFz_of Tryz.func4 rfl Tryz.ntmps4 (rs:=[.tmp 4]) rfl (by kernel_rfl) (by simp) (by kernel_rfl) ?_
   simp
   refine hrt.s ?_
   simp
   refine hcir.s ?_
   simp
   intro b5
   refine GCall.fn (aB true) (fun h=>⟨h,haw⟩) ?_
   simp
  | false=>
   rw[show circuitQ c=(((dM c).parts,pipesM (dM c)),0) by simp[circuitQ,hz,hm]]at hcir
   simp only at hcir
   rw[cirW_enc]at hcir
   have hpo:=RePositions_fn c s hc hsm
   rw[show posQ37 c s=(posW c s,0) by unfold posQ37;rw[if_neg (by simp[hz]),if_neg (by simp[hm]),if_neg (by simp[hR])];rfl]at hpo
   have hok:=cirW_ok hz hm
   have hr:=cirW_right hz hm
   obtain⟨hpe,hpl⟩:=posW_ok hz hm s
   have hfew:=hr.few
   have hst:=Step_fn (cirW c) hok (posW c s) (by unfold Sh;omega)
   rw[show pstepQ (cirW c) (posW c s)=(stepsZ (cirW c) (posW c s) (cirW c).parts.length,badZ (cirW c) (posW c s) (cirW c).parts.length,0) by unfold pstepQ;rw[if_pos hpe]]at hst
   have hw:=Wants29_fn c s hc hsm
   rw[show wantsR29 c s=(lineL c (gatesP c s),0) by unfold wantsR29;rw[if_neg (by simp[hR])]]at hw
   have hOR:=okR_of hz
   have hnl:=stepsZ_len (cirW c) (posW c s) (cirW c).parts.length
   have hpeq:(cirW c).parts=(dM c).parts.map partZ:=rfl
   have hdl:(cirW c).parts.length=(dM c).parts.length:=by rw[hpeq,List.length_map]
   have hsl:=hOR.len
   have hwl:Sh (lineL c (gatesP c s)):=by
    have h1:(wantsL c (gatesP c s)).length<=c.signals.length:=Nat.le_trans (List.length_filter_le _ _) (by simp)
    unfold Sh lineL
    rw[List.length_map]
    omega
   have hrow:∀(i:Nat) x,c.signals[i]?=some x->∃Ls,Ls.length<=64∧CallFn Tryz.prog 24 [aC c,aI (firstC c+i)] (.tuple [aIs Ls,aI 0])∧∀(t:Nat) (y:Int),Ls[t]?=some y->∃k:Nat,y=k∧RowS (cirW c) (posW c s) (stepsZ (cirW c) (posW c s) (cirW c).parts.length) (lineL c (gatesP c s)) x (firstC c+i) k:=fun i x hx=>by
    have hi:=(List.getElem?_eq_some_iff.1 hx).1
    refine⟨ofSig (dM c).parts i (dM c).parts.length,?_,?_,fun t y hy=>?_⟩
    ·have h1:(ofSig (dM c).parts i (dM c).parts.length).length<=(dM c).parts.length:=by
      unfold ofSig
      rw[List.length_map]
      exact Nat.le_trans (List.length_filter_le _ _) (by simp)
     omega
    ·have hp:=Parts_fn c (firstC c+i) hc ((inR_i64 _).2 ⟨by have:=hOR.act;have:=hOR.inp;unfold firstC;omega,by have:=hOR.act;have:=hOR.inp;have:=hOR.len;unfold firstC;omega⟩)
     have e:partsQ37 c (firstC c+i)=(ofSig (dM c).parts i (dM c).parts.length,0):=by
      unfold partsQ37
      rw[if_neg (by simp[hz]),if_neg (by simp[hm]),if_neg (by unfold countC;unfold firstC;omega)]
      rw[show firstC c+(i:Int)-firstC c=i by omega]
     rw[e]at hp
     exact hp
    ·obtain⟨k,p,rfl,hp,hsg⟩:=mem_ofSig (List.mem_of_getElem? hy)
     have hk:k<(cirW c).parts.length:=by
      rw[hdl]
      exact (List.getElem?_eq_some_iff.1 hp).1
     have hlaw:=step_signal hz hm hR hx hp hsg
     have hq:∀q,(cirW c).parts[k]?=some q->q.kind=p.kind:=fun q hq=>by
      rw[hpeq,List.getElem?_map,hp]at hq
      simp only[Option.map_some,Option.some.injEq]at hq
      rw[<- hq]
      rfl
     have hn:(stepsZ (cirW c) (posW c s) (cirW c).parts.length).getD k 0=((nxZ (cirW c) (posW c s) k).1:Int):=by
      unfold stepsZ
      rw[List.getD_eq_getElem?_getD,List.getElem?_map,List.getElem?_range hk]
      rfl
     have hpp:(posW c s).getD k 0=(posN (posW c s) k:Int):=by
      have h0:0<=(posW c s).getD k 0:=by
       unfold posW
       rw[List.getD_eq_getElem?_getD,List.getElem?_map,hp]
       simp only[Option.map_some,Option.getD_some,placeI]
       split<;>decide
      unfold posN
      omega
     have hwm:=mem_lineL (u:=gatesP c s) hi
     refine⟨k,rfl,hk,fun q hqq h2=>?_,fun q hqq h589=>?_⟩
     ·obtain⟨m1,m2⟩:=hlaw.1 (by rw[<- hq q hqq];exact h2)
      refine⟨m1,?_⟩
      rw[hn,hpp,<- decide_not,decide_eq_decide,hwm,<- m2]
      omega
     ·rw[hq q hqq]at h589
      rw[hn,hpp,hlaw.2 (by omega)]
   have hsig:=signals_fn c hOR.sm
   have hfc:0<=firstC c∧firstC c<=1000:=by
    have:=hOR.act
    have:=hOR.inp
    unfold firstC
    omega
   have hra:=fun b5=>steps_a (b5:=b5) haw (by omega) hfc hsig hpl hnl hfew hwl hrow
   have hrb:=fun b5=>rz_b (b5:=b5) hpl hnl hst hw (hra b5)
   clear hra hrow
   generalize stepsZ (cirW c) (posW c s) (cirW c).parts.length=NX at *
   generalize badZ (cirW c) (posW c s) (cirW c).parts.length=BD at *
   generalize posW c s=P at *
   generalize cirW c=z at *
   refine callFz_cut 5 Tryz.func4 rfl Tryz.ntmps4 (rs:=[.tmp 4]) rfl (by kernel_rfl) (by simp) (by kernel_rfl) ?_
   simp
   refine hrt.s ?_
   simp
   refine hcir.s ?_
   simp
   intro b5
   refine hpo.s ?_
   simp
   exact V.cutV (Hs:=[(5,.box b5 ((encCi z).map A.dat))]) [(2,.rptr (encC c)),(3,.rptr (encSt s)),(4,aB false),(5,.ptr 5 b5 0),(6,aI 0),(7,aIs P)] (by simp) (by simp) (V.of_rest rfl (hrb b5))
 ·rw[Bool.not_eq_true]at hB
  rw[hB]at hrt
  refine callFz_of Tryz.func4 rfl Tryz.ntmps4 (rs:=[.tmp 4]) rfl (by kernel_rfl) (by simp) (by kernel_rfl) ?_
  simp
  refine hrt.s ?_
  simp
  refine haw.s ?_
  simp
end Go.Proofs.YtafamcbdaeppoaaGreatDoor
