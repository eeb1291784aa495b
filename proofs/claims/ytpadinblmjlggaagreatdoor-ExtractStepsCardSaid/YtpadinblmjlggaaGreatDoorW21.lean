/- Texts joined by a program: Df,Qp,Qq,Pa,Ea,Eb. -/
import Derived.Test.YtpadinblmjlggaaGreatDoorW20
import Derived.Test.YtpadinblmjlggaaGreatDoorW18
import Derived.Test.YtpadinblmjlggaaGreatDoorW17
set_option linter.unusedSimpArgs false
set_option linter.unusedVariables false
set_option maxHeartbeats 8000000
set_option maxRecDepth 10000
namespace Go.Proofs.YtpadinblmjlggaaGreatDoor
theorem vars_right {n:Int}:∀(N:Nat) (x:Expr),SizeOf.sizeOf x<N->RightE n x->∀k∈varsE x,0<=k∧k<n
 | 0,_,h,_,_,_=>absurd h (Nat.not_lt_zero _)
 | N+1,x,hN,hr,k,hk=>by
  rw[varsE_eq]at hk
  rcases List.mem_append.1 hk with hk | hk
  ·split at hk
   ·rename_i hop
    simp only[List.mem_singleton]at hk
    subst hk
    have:=hr.node
    unfold nodeR at this
    simp only[hop]at this
    split at this<;>try omega
    split at this<;>try omega
    simp at this
    omega
   ·simp at hk
  ·have hL:∀l:List Expr,(∀y∈l,y∈x.args)->k∈varsL l->0<=k∧k<n:=by
    intro l
    induction l with
    | nil=>intro _ h;simp[varsL]at h
    | cons y l ih=>
     intro hl h
     simp only[varsL,List.mem_append]at h
     rcases h with h | h
     ·have hm:=hl y (by simp)
      exact vars_right N y (by have:=Expr.lt_of_mem hm;omega) (hr.args y hm) k h
     ·exact ih (fun z hz=>hl z (by simp[hz])) h
   exact hL x.args (fun _ h=>h) hk
theorem vars_check {x:Expr}{n:Int}(h:checkE x n=0):∀k∈varsE x,0<=k∧k<n:=vars_right (SizeOf.sizeOf x+1) x (by omega) (right_of_check h).1
theorem line_notin {c:Control}{k:Nat}(h:(k:Int)<2*c.actuators) (ha:c.actuators<=6):namedC c k∉namesB c k:=by
 intro hm
 obtain⟨j,hj,e⟩:=List.mem_map.1 hm
 simp only[List.mem_range]at hj
 rw[named_line (c:=c) (k:=j) (by omega),named_line h]at e
 have:=lineName_inj (by omega) (by omega) e
 omega
theorem check_s (c:Control) (hc:OkC c):CallS Tryz.prog 147 [aC c] [] fun r H'=>(checkC c=0->∃m,r=.tuple [.map 30 m,aI 0]∧H'=[chkMap m (namesB c (countC c).toNat)])∧(checkC c≠0->r=.tuple [.any,aI (checkC c)]∧H'=[]):=by
 refine CallS.dropP (callS_of Tryz.func147 rfl Tryz.ntmps147 (rs:=[.tmp 2,.tmp 3]) rfl (by kernel_rfl) (by simp) (by kernel_rfl) (K:=fun r H'=>(checkC c=0->∃m,r=.tuple [.map 30 m,aI 0]∧subP [chkMap m (namesB c (countC c).toNat)] H')∧(checkC c≠0->r=.tuple [.any,aI (checkC c)])) ?_) ?_
 ·by_cases ha:c.actuators<1∨c.actuators>6
  ·have e:checkC c=2:=by simp[checkC,ha]
   rw[e]
   simp
   intro h1 h2
   omega
  ·have ha':1<=c.actuators∧c.actuators<=6∧¬c.actuators<1∧¬ 6<c.actuators:=by omega
   by_cases hm:c.inputs.length>16∨c.signals.length>64
   ·have e:checkC c=5:=by simp only[checkC];rw[if_neg ha,if_pos hm]
    rw[e]
    simp[ha'.1,ha'.2]
    intro h1 h2
    omega
   ·have hsm:Sm c:=⟨by omega,by omega,by omega⟩
    obtain⟨N,hN⟩:∃N:Nat,c.actuators=N:=⟨c.actuators.toNat,by omega⟩
    have hNN:c.actuators.toNat=N:=by omega
    have hm':(c.inputs.length:Int)<=16∧(c.signals.length:Int)<=64∧¬ 16<(c.inputs.length:Int)∧¬ 64<(c.signals.length:Int):=by omega
    have hcn:countC c=2*c.actuators+c.inputs.length+c.signals.length:=rfl
    have e:checkC c=if firstErr (inpE c) (List.range c.inputs.length)≠0 then firstErr (inpE c) (List.range c.inputs.length)
      else if firstErr (sigE c) (List.range c.signals.length)≠0 then firstErr (sigE c) (List.range c.signals.length) else pilotE c:=by
     simp only[checkC];rw[if_neg ha,if_neg hm]
    simp[ha'.1,ha'.2,hm'.1,hm'.2]
    intro m b
    refine⟨by omega,?_⟩
    refine V.forI (σ:=Unit) (2*N) [1,2,3,4,45] (by simp;exact rfl) (fun i _=>[(46,aI i)]) (fun i _=>[chkMap m (namesB c i)]) (fun _ _=>True) () trivial (by simp) ⟨by simp;exact rfl,by simp[namesB,mapOf]⟩ ?_ ?_
    ·rintro i-hi -
     have hin:(i:Int)<2*c.actuators:=by omega
     simp[hin]
     refine V.draw (fun t=>if t=55 then some (.fn (aT (namedC c i))) else none) (by kernel_rfl) (by kernel_rfl) (by simp) ?_
     have e1:=named_fn c hsm ⟨by omega,by omega⟩ i (by omega) (by omega)
     have e2:=mput_of (line_notin (c:=c) (k:=i) hin (by omega))
     simp at e1 e2 ⊢
     rw[e2,<- namesB_succ]
     exact⟨e1,by omega,rfl⟩
    ·rintro - -
     have hin:¬((N:Int)<c.actuators)∧c.actuators<=N:=by omega
     simp[hin.1,hin.2]
     refine V.forI (σ:=Unit) c.inputs.length [1,4,59,60] (by simp;exact rfl) (fun i _=>[(61,aI i)]) (fun i _=>[chkMap m (namesB c (2*N+i))]) (fun i _=>NoE (inpE c) i) () (NoE.zero _) (by simp) ⟨by simp;exact rfl,by simp⟩ ?_ ?_
     ·rintro i-hi hI
      obtain⟨y,hy⟩:∃y,c.inputs[i]=y:=⟨_,rfl⟩
      have hn:namedC c (2*N+i:Nat)=y:=by
       refine named_inp (by omega) (by simp only[firstC];omega) ?_
       rw[<- hy,show ((2*N+i:Nat)-2*c.actuators:Int).toNat=i by omega]
       exact List.getElem?_eq_getElem hi
      have hin:inpE c i=nameE y (namesB c (2*N+i)):=by rw[inpE,hNN,hn]
      simp[hi,hy]
      refine ((cname_s b m c y (hc.names y (hy▸List.getElem_mem hi)) (namesB c (2*N+i)) (by simp;omega)).perm (List.Perm.swap _ _ _)).mono ?_
      rintro rr H' ⟨rfl,rfl⟩
      rw[<- hin]
      by_cases hz:inpE c i=0
      ·have hs:=namesB_succ c (2*N+i)
       rw[hn]at hs
       simp[hz]
       exact⟨by omega,hI.succ hz,by rw[<- hs];rfl⟩
      ·have hf:=firstErr_at hI hi hz
       have e':checkC c=inpE c i:=by rw[e,hf,if_pos hz]
       simp[hz,e']
     ·rintro-hI
      have hf:=firstErr_all hI
      rw[hf]at e
      simp at e
      simp
      refine V.forI (σ:=Unit) c.signals.length [1,4,74] (by simp;exact rfl) (fun i _=>[(75,aI i)]) (fun i _=>[chkMap m (namesB c (2*N+c.inputs.length+i))]) (fun i _=>NoE (sigE c) i) () (NoE.zero _) (by simp) ⟨by simp;exact rfl,by simp⟩ ?_ ?_
      ·rintro i-hi hI2
       obtain⟨y,hy⟩:∃y,c.signals[i]=y:=⟨_,rfl⟩
       have hyo:c.signals[i]?=some y:=by rw[List.getElem?_eq_getElem hi,hy]
       have hn:namedC c (2*N+c.inputs.length+i:Nat)=y.name:=by
        refine named_sig (s:=y) (by simp only[firstC];omega) (by simp only[firstC];omega) ?_
        rw[show ((2*N+c.inputs.length+i:Nat)-firstC c:Int).toNat=i by simp only[firstC];omega]
        exact hyo
       have hsE:sigE c i=signalE c i y (namesB c (2*N+c.inputs.length+i)):=by simp only[sigE,hyo,hNN]
       simp[hi]
       refine ((signal_s b m c hsm i y hyo (hc.sigs y (hy▸List.getElem_mem hi)) (namesB c (2*N+c.inputs.length+i)) (by simp;omega) (fun h=>vars_check h)).perm (List.Perm.swap _ _ _)).mono ?_
       rintro rr H' ⟨rfl,rfl⟩
       rw[<- hsE]
       by_cases hz:sigE c i=0
       ·have hs:=namesB_succ c (2*N+c.inputs.length+i)
        rw[hn]at hs
        have hne:nameE y.name (namesB c (2*N+c.inputs.length+i))=0:=by
         rw[hsE]at hz
         by_cases h0:nameE y.name (namesB c (2*N+c.inputs.length+i))=0
         ·exact h0
         ·simp[signalE,h0]at hz
        simp[hz,hne]
        exact⟨by omega,hI2.succ hz,by rw[<- hs];rfl⟩
       ·have hf:=firstErr_at hI2 hi hz
        have e':checkC c=sigE c i:=by rw[e,hf,if_neg hz]
        simp[hz,e']
      ·rintro-hI2
       have hf:=firstErr_all hI2
       rw[hf]at e
       simp at e
       by_cases hpl:(c.plus.length:Int)≠c.actuators∨(c.minus.length:Int)≠c.actuators
       ·have e':checkC c=8:=by rw[e,pilotE,if_pos hpl]
        rw[e']
        simp
        intro h1 h2
        omega
       ·have h1:(c.plus.length:Int)=c.actuators:=by omega
        have h2:(c.minus.length:Int)=c.actuators:=by omega
        have e':checkC c=if (c.plus++c.minus).any (fun l=>decide (l<0)||decide (countC c<=l)) then 6 else 0:=by rw[e,pilotE,if_neg hpl]
        have hcc:=concat_fn [c.plus,c.minus] (by simp[sumL];omega) (by simp)
        simp at hcc
        simp[h1,h2]
        refine hcc.s ?_
        simp
        refine (containsF_fn (c.plus++c.minus) (fun l=>decide (l<0)||decide (countC c<=l)) 218 [] [.rptr (encC c)] (by simp;omega) (fun n _=>by simpa using closure1_fn c hsm n)).s ?_
        cases hany:(c.plus++c.minus).any (fun l=>decide (l<0)||decide (countC c<=l))
        ·rw[hany]at e'
         simp at e'
         rw[e']
         simp
         rw[show (countC c).toNat=2*N+c.inputs.length+c.signals.length by omega]
         exact⟨_,List.singleton_sublist.2 (List.mem_cons_self),List.Perm.refl _⟩
        ·rw[hany]at e'
         simp at e'
         rw[e']
         simp
 ·rintro r H' ⟨h1,h2⟩
  by_cases hz:checkC c=0
  ·obtain⟨m,e1,e2⟩:=h1 hz
   exact⟨_,e2,fun _=>⟨m,e1,rfl⟩,fun h=>absurd hz h⟩
  ·exact⟨[],⟨[],List.nil_sublist _,List.Perm.refl _⟩,fun h=>absurd h hz,fun _=>⟨h2 hz,rfl⟩⟩
theorem Check_fn (c:Control) (hc:OkC c):CallFn Tryz.prog 88 [aC c] (aI (checkC c)):=by
 refine callFz_of Tryz.func88 rfl Tryz.ntmps88 (rs:=[.tmp 2]) rfl (by kernel_rfl) (by simp) (by kernel_rfl) ?_
 simp
 refine (CallS.frame (H1:=[]) (check_s c hc)).mono ?_
 rintro r H' ⟨H2,⟨h1,h2⟩,rfl⟩
 by_cases hz:checkC c=0
 ·obtain⟨m,rfl,rfl⟩:=h1 hz
  simp[hz]
 ·obtain⟨rfl,rfl⟩:=h2 hz
  simp
structure PlS.Srt (s:PlS) (c:Cir):Prop where
 ok:s.OK
 ps:s.ps=c.parts
 ns:s.ns=netsZ c
 dr:s.dr=.dat (.sl ((drvN c.parts (netsZ c) c.parts.length).map encDr))
 od:s.od=aNs (orderN c.parts (drvN c.parts (netsZ c) c.parts.length) (netsZ c) (manyC c.parts (netsZ c)))
 bu:s.bu=.nils
 va:s.va=.nils
 lE:s.lE=[]
theorem sorted_s (c:Cir) (hs:c.parts.length<=64->∀p∈c.parts,p.name.length<=1000) (hl:Sh c.parts) (hl2:Sh c.pipes) :
  CallS Tryz.prog 85 [aCi c] [] fun r H'=>if pairE c=0 then ∃s:PlS,r=.tuple [.ptr 170 s.b 0,aI (sortE c.parts (drvN c.parts (netsZ c) c.parts.length) (netsZ c))]∧H'=s.hp∧s.Srt c else r=.tuple [.nilp,aI (pairE c)]∧H'=[]:=by
 have hp:=paired_s c hs hl hl2
 by_cases h0:pairE c=0
 ·simp only[h0,if_true]at hp ⊢
  have hd0:cirE c=0:=by
   unfold pairE at h0
   split at h0
   ·exact h0
   ·rename_i h;exact Classical.not_not.1 h
  have hr:=cirR_of hd0
  have hdl:(drvN c.parts (netsZ c) c.parts.length).length<=1000:=by
   have:=drvN_len c.parts (netsZ c) c.parts.length
   have:=hr.few
   omega
  refine callS_of Tryz.func85 rfl Tryz.ntmps85 (rs:=[.tmp 2,.tmp 3]) rfl (by kernel_rfl) (by simp) (by kernel_rfl) ?_
  simp
  refine hp.mono ?_
  rintro r H' ⟨s,rfl,rfl,hs⟩
  have hso:=sort_s hs.ok hs.od hs.dr hdl
  simp
  refine hso.mono ?_
  rintro r H' ⟨rfl,rfl⟩
  simp
  exact⟨{ s with od:=aNs (orderN s.ps (drvN c.parts (netsZ c) c.parts.length) s.ns (manyC s.ps s.ns)) },⟨rfl,by rw[hs.ps,hs.ns]⟩,⟨⟨rfl,rfl,rfl,rfl,rfl,rfl,rfl,rfl,rfl,rfl⟩,⟨rfl,rfl⟩,rfl,rfl⟩,
   ⟨hs.ok.od _,hs.ps,hs.ns,hs.dr,by show aNs _=aNs _;rw[hs.ps,hs.ns],hs.bu,hs.va,hs.lE⟩⟩
 ·simp only[h0,if_false]at hp ⊢
  refine callS_of Tryz.func85 rfl Tryz.ntmps85 (rs:=[.tmp 2,.tmp 3]) rfl (by kernel_rfl) (by simp) (by kernel_rfl) ?_
  simp
  refine hp.mono ?_
  rintro r H' ⟨rfl,rfl⟩
  simp[h0]
def buildE (c:Cir):Int:=if planE c≠0 then planE c else checkC (planZ c).ctl
theorem planE_eq (c:Cir):planE c=if pairE c≠0 then pairE c else sortE c.parts (drvN c.parts (netsZ c) c.parts.length) (netsZ c):=by
 unfold planE pairE sortE
 by_cases h:cirE c=0
 ·simp[h]
 ·simp[h]
theorem build_s (c:Cir) (hs:c.parts.length<=64->∀p∈c.parts,p.name.length<=1000) (hl:Sh c.parts) (hl2:Sh c.pipes) :
  CallS Tryz.prog 45 [aCi c] [] fun r H'=>if buildE c=0 then ∃s:PlS,r=.tuple [.ptr 170 s.b 0,aC (planZ c).ctl,aI 0]∧H'=s.hp∧s.At (planZ c) else r=.tuple [.nilp,aC ⟨0,[],[],[],[]⟩,aI (buildE c)]∧H'=[]:=by
 have hp:=sorted_s c hs hl hl2
 by_cases h0:pairE c=0
 ·simp only[h0,if_true]at hp
  have hb:buildE c=if sortE c.parts (drvN c.parts (netsZ c) c.parts.length) (netsZ c)≠0 then sortE c.parts (drvN c.parts (netsZ c) c.parts.length) (netsZ c) else checkC (planZ c).ctl:=by
   unfold buildE
   rw[planE_eq]
   simp[h0]
  have hd0:cirE c=0:=by
   unfold pairE at h0
   split at h0
   ·exact h0
   ·rename_i h;exact Classical.not_not.1 h
  have hde:drvE c.parts (netsZ c)=0:=by
   unfold pairE at h0
   rw[if_neg (by simp[hd0])]at h0
   exact h0
  have hr:=cirR_of hd0
  have hB:=planZ_B hr
  have hD:=planZ_D hde
  have hch:=Check_fn (planZ c).ctl (hB.okC fun d hd=>(mem_drvN hde hd).2.2.2.1)
  rw[hb]
  generalize hso:sortE c.parts (drvN c.parts (netsZ c) c.parts.length) (netsZ c)=so at *
  refine CallS.dropP (callS_of Tryz.func45 rfl Tryz.ntmps45 (rs:=[.tmp 2,.cell 3 44,.tmp 4]) rfl (by kernel_rfl) (by simp) (by kernel_rfl) (K:=fun r H'=>if so=0∧checkC (planZ c).ctl=0 then ∃s:PlS,r=.tuple [.ptr 170 s.b 0,aC (planZ c).ctl,aI 0]∧subP s.hp H'∧s.At (planZ c) else r=.tuple [.nilp,aC ⟨0,[],[],[],[]⟩,aI (if so≠0 then so else checkC (planZ c).ctl)]) ?_) ?_
  ·simp
   intro b3
   refine (hp.frameL (H1:=[(3,_)])).mono ?_
   rintro r H' ⟨_,⟨s,rfl,rfl,hs⟩,rfl⟩
   by_cases hz:so=0
   ·subst hz
    simp
    have hpre:s.Pre (planZ c):=⟨hs.ok,hs.ps,hs.ns,hs.dr,hB.dl,fun d hd=>(mem_drvN hde hd).1,hs.od,hB.ol,hB.names,planZ_lim hr⟩
    refine ((place_s hpre hs.bu hs.va hs.lE).frameL (H1:=[(3,_)])).mono ?_
    rintro r H' ⟨_,⟨s2,rfl,rfl,hA,hbb⟩,rfl⟩
    rw[<- hbb]
    simp
    refine ((control_s hA hD hB).mid [(3,_)] []).mono ?_
    rintro r H' ⟨rfl,rfl⟩
    generalize (planZ c).ctl=ct at *
    simp
    intro b7
    refine hch.s ?_
    by_cases hc0:checkC ct=0
    ·rw[hc0]
     simp
     refine V.drawX (fun _=>none) (by kernel_rfl) (by kernel_rfl) (by simp) ?_
     simp
     exact⟨s2,rfl,((subP.refl _).c _).c _,hA⟩
    ·simp[hc0]
   ·simp[hz]
  ·rintro r H' hk
   by_cases hz:so=0∧checkC (planZ c).ctl=0
   ·rw[if_pos hz]at hk
    obtain⟨s,h1,h2,h3⟩:=hk
    refine⟨_,h2,?_⟩
    rw[if_pos (by rw[if_neg (by simp[hz.1])];exact hz.2)]
    exact⟨s,h1,rfl,h3⟩
   ·rw[if_neg hz]at hk
    refine⟨[],⟨[],List.nil_sublist _,List.Perm.refl _⟩,?_⟩
    have:¬(if so≠0 then so else checkC (planZ c).ctl)=0:=by
     by_cases e:so=0
     ·simp only[e,ne_eq,not_true,if_false]
      exact fun h=>hz ⟨e,h⟩
     ·simp[e]
    rw[if_neg this]
    exact⟨hk,rfl⟩
 ·simp only[h0,if_false]at hp
  have hb:buildE c=pairE c:=by
   unfold buildE
   rw[planE_eq]
   simp[h0]
  rw[hb]
  simp only[h0,if_false]
  refine CallS.dropP (callS_of Tryz.func45 rfl Tryz.ntmps45 (rs:=[.tmp 2,.cell 3 44,.tmp 4]) rfl (by kernel_rfl) (by simp) (by kernel_rfl) (K:=fun r H'=>r=.tuple [.nilp,aC ⟨0,[],[],[],[]⟩,aI (pairE c)]) ?_) (fun r H' h=>⟨[],⟨[],List.nil_sublist _,List.Perm.refl _⟩,h,rfl⟩)
  simp
  intro b3
  refine (hp.frameL (H1:=[(3,_)])).mono ?_
  rintro r H' ⟨_,⟨rfl,rfl⟩,rfl⟩
  simp[h0]
structure OkCir (c:Cir):Prop where
 names:c.parts.length<=64->∀p∈c.parts,p.name.length<=1000
 parts:Sh c.parts
 pipes:Sh c.pipes
def drivesQ (c:Cir):List Drv×Int:=if pairE c=0 then (drvN c.parts (netsZ c) c.parts.length,0) else ([],pairE c)
theorem Drives_fn (c:Cir) (hc:OkCir c):CallFn Tryz.prog 26 [aCi c] (.tuple [.dat (.sl ((drivesQ c).1.map encDr)),aI (drivesQ c).2]):=by
 have hp:=paired_s c hc.names hc.parts hc.pipes
 unfold drivesQ
 by_cases h0:pairE c=0
 ·simp only[h0,if_true]at hp ⊢
  refine callFz_of Tryz.func26 rfl Tryz.ntmps26 (rs:=[.tmp 2,.tmp 3]) rfl (by kernel_rfl) (by simp) (by kernel_rfl) ?_
  simp
  refine hp.mono ?_
  rintro r H' ⟨s,rfl,rfl,hs⟩
  simp[hs.dr]
 ·simp only[h0,if_false]at hp ⊢
  refine callFz_of Tryz.func26 rfl Tryz.ntmps26 (rs:=[.tmp 2,.tmp 3]) rfl (by kernel_rfl) (by simp) (by kernel_rfl) ?_
  simp
  refine hp.mono ?_
  rintro r H' ⟨rfl,rfl⟩
  simp[h0]
def orderZ (c:Cir):List Nat:=orderN c.parts (drvN c.parts (netsZ c) c.parts.length) (netsZ c) (manyC c.parts (netsZ c))
def orderQ (c:Cir):List Nat×Int:=if planE c=0 then (orderZ c,0) else ([],planE c)
theorem Order_fn (c:Cir) (hc:OkCir c):CallFn Tryz.prog 40 [aCi c] (.tuple [aNs (orderQ c).1,aI (orderQ c).2]):=by
 have hp:=sorted_s c hc.names hc.parts hc.pipes
 unfold orderQ
 rw[planE_eq]
 by_cases h0:pairE c=0
 ·simp only[h0,if_true]at hp
  simp only[h0,ne_eq,not_true,if_false]
  generalize hso:sortE c.parts (drvN c.parts (netsZ c) c.parts.length) (netsZ c)=so at *
  refine callFz_of Tryz.func40 rfl Tryz.ntmps40 (rs:=[.tmp 2,.tmp 3]) rfl (by kernel_rfl) (by simp) (by kernel_rfl) ?_
  simp
  refine hp.mono ?_
  rintro r H' ⟨s,rfl,rfl,hs⟩
  by_cases hz:so=0
  ·subst hz
   simp[hs.od,orderZ]
  ·simp[hz]
 ·simp only[h0,if_false]at hp
  simp only[h0,ne_eq,not_false_iff,if_true,if_false]
  refine callFz_of Tryz.func40 rfl Tryz.ntmps40 (rs:=[.tmp 2,.tmp 3]) rfl (by kernel_rfl) (by simp) (by kernel_rfl) ?_
  simp
  refine hp.mono ?_
  rintro r H' ⟨rfl,rfl⟩
  simp[h0]
def noCtl:Control:=⟨0,[],[],[],[]⟩
def controlQ (c:Cir):Control×Int:=if buildE c=0 then ((planZ c).ctl,0) else (noCtl,buildE c)
theorem Control_fn (c:Cir) (hc:OkCir c):CallFn Tryz.prog 39 [aCi c] (.tuple [aC (controlQ c).1,aI (controlQ c).2]):=by
 have hp:=build_s c hc.names hc.parts hc.pipes
 unfold controlQ
 by_cases h0:buildE c=0
 ·simp only[h0,if_true]at hp ⊢
  generalize (planZ c).ctl=ct at *
  refine callFz_of Tryz.func39 rfl Tryz.ntmps39 (rs:=[.cell 2 44,.tmp 3]) rfl (by kernel_rfl) (by simp) (by kernel_rfl) ?_
  simp
  intro b1
  refine (hp.frameL (H1:=[(_,_)])).mono ?_
  rintro r H' ⟨_,⟨s,rfl,rfl,hs⟩,rfl⟩
  simp
 ·simp only[h0,if_false]at hp ⊢
  refine callFz_of Tryz.func39 rfl Tryz.ntmps39 (rs:=[.cell 2 44,.tmp 3]) rfl (by kernel_rfl) (by simp) (by kernel_rfl) ?_
  simp
  intro b1
  refine (hp.frameL (H1:=[(_,_)])).mono ?_
  rintro r H' ⟨_,⟨rfl,rfl⟩,rfl⟩
  simp[noCtl]
def lineQ (c:Cir) (net:Int):Int×Int:=
 if buildE c≠0 then (0,buildE c)
 else if net<0∨(netsZ c).length<=net then (0,6)
 else match (orderZ c).findIdx? (net.toNat==·) with
  | some k=>((planZ c).first+k,0)
  | none=>(0,14)
theorem ExLine_fn (c:Cir) (hc:OkCir c) (net:Int):CallFn Tryz.prog 21 [aCi c,aI net] (.tuple [aI (lineQ c net).1,aI (lineQ c net).2]):=by
 have hp:=build_s c hc.names hc.parts hc.pipes
 unfold lineQ
 by_cases h0:buildE c=0
 ·simp only[h0,if_true]at hp
  simp only[h0,ne_eq,not_true,if_false]
  generalize (planZ c).ctl=ct at *
  refine callFz_of Tryz.func21 rfl Tryz.ntmps21 (rs:=[.tmp 4,.tmp 5]) rfl (by kernel_rfl) (by simp) (by kernel_rfl) ?_
  simp
  refine hp.mono ?_
  rintro r H' ⟨s,rfl,rfl,hs⟩
  have hod:s.od=aNs (orderZ c):=hs.od
  have hns:s.ns=netsZ c:=hs.ns
  have hol:(orderZ c).length<=448:=hs.ol
  have hf:=first_s hs
  have hfl:(planZ c).first<=200:=by
   have:=hs.dl
   have:=hs.bl
   unfold Pln.first
   omega
  simp[hod,hns]
  intro b7
  refine⟨fun hb=>?_,fun h1 h2=>?_⟩
  ·rw[if_pos hb]
   exact⟨rfl,rfl⟩
  ·rw[if_neg (by omega)]
   obtain⟨n,rfl⟩:=Int.eq_ofNat_of_zero_le h1
   simp only[Int.toNat_natCast]
   have hix:=idxN_fn (orderZ c) n (by unfold Sh;omega)
   refine hix.s ?_
   cases hk:(orderZ c).findIdx? (n==·) with
   | none=>simp[idxI]
   | some k=>
    obtain⟨hkl,_⟩:=List.findIdx?_eq_some_iff_getElem.1 hk
    simp[idxI]
    refine (hf.mid [(7,_)] []).mono ?_
    rintro r H' ⟨rfl,rfl⟩
    simp
    omega
 ·simp only[h0,if_false]at hp
  simp only[h0,ne_eq,not_false_iff,if_true]
  refine callFz_of Tryz.func21 rfl Tryz.ntmps21 (rs:=[.tmp 4,.tmp 5]) rfl (by kernel_rfl) (by simp) (by kernel_rfl) ?_
  simp
  refine hp.mono ?_
  rintro r H' ⟨rfl,rfl⟩
  simp[h0]
mutual
def szE:Expr->Nat
 | ⟨_,_,args⟩=>1+szL args
def szL:List Expr->Nat
 | []=>0
 | x::xs=>szE x+szL xs
end
mutual
def dpE:Expr->Nat
 | ⟨_,_,args⟩=>1+dpL args
def dpL:List Expr->Nat
 | []=>0
 | x::xs=>max (dpE x) (dpL xs)
end
theorem szE_eq (x:Expr):szE x=1+szL x.args:=by cases x;simp[szE]
theorem dpE_eq (x:Expr):dpE x=1+dpL x.args:=by cases x;simp[dpE]
mutual
def ndE:Expr->List Expr
 | ⟨op,ix,args⟩=>⟨op,ix,args⟩::ndL args
def ndL:List Expr->List Expr
 | []=>[]
 | x::xs=>ndE x++ndL xs
end
mutual
theorem ndE_len:∀x:Expr,(ndE x).length=szE x
 | ⟨op,ix,args⟩=>by simp[ndE,szE,ndL_len args];omega
theorem ndL_len:∀l:List Expr,(ndL l).length=szL l
 | []=>by simp[ndL,szL]
 | x::xs=>by simp[ndL,szL,ndE_len x,ndL_len xs]
end
mutual
theorem preE_all:∀(x:Expr) (d:Int),d+dpE x<=17->(preE x d).map (·.2)=ndE x∧∀p∈preE x d,p.1<=16
 | ⟨op,ix,args⟩,d,h=>by
  simp only[dpE]at h
  have hd:d<=16:=by omega
  obtain⟨h1,h2⟩:=preL_all args (d+1) (by omega)
  simp only[preE,hd,if_true,List.map_cons,ndE,h1,true_and]
  intro p hp
  rcases List.mem_cons.1 hp with rfl | hp
  ·exact hd
  ·exact h2 p hp
theorem preL_all:∀(l:List Expr) (d:Int),d+dpL l<=17->(preL l d).map (·.2)=ndL l∧∀p∈preL l d,p.1<=16
 | [],_,_=>by simp[preL,ndL]
 | x::xs,d,h=>by
  simp only[dpL]at h
  obtain⟨h1,h2⟩:=preE_all x d (by omega)
  obtain⟨h3,h4⟩:=preL_all xs d (by omega)
  simp only[preL,List.map_append,ndL,h1,h3,true_and]
  intro p hp
  rcases List.mem_append.1 hp with hp | hp
  ·exact h2 p hp
  ·exact h4 p hp
end
mutual
theorem preE_deep:∀(x:Expr) (d:Int),d<=17->17<d+dpE x->∃p∈preE x d,p.1>16
 | ⟨op,ix,args⟩,d,h0,h=>by
  simp only[dpE]at h
  by_cases hd:d<=16
  ·obtain⟨p,hp,h1⟩:=preL_deep args (d+1) (by omega) (by omega)
   exact⟨p,by simp only[preE,hd,if_true];exact List.mem_cons_of_mem _ hp,h1⟩
  ·exact⟨(d,⟨op,ix,args⟩),by simp[preE],by simp only;omega⟩
theorem preL_deep:∀(l:List Expr) (d:Int),d<=17->17<d+dpL l->∃p∈preL l d,p.1>16
 | [],d,h0,h=>by simp only[dpL]at h;omega
 | x::xs,d,h0,h=>by
  simp only[dpL]at h
  by_cases hx:17<d+dpE x
  ·obtain⟨p,hp,h1⟩:=preE_deep x d h0 hx
   exact⟨p,by simp only[preL];exact List.mem_append.2 (.inl hp),h1⟩
  ·obtain⟨p,hp,h1⟩:=preL_deep xs d h0 (by omega)
   exact⟨p,by simp only[preL];exact List.mem_append.2 (.inr hp),h1⟩
end
theorem measFold_ok:∀(l:List (Int×Expr)) (s:Int×Int),(∀p∈l,p.1<=16)->s.1+l.length<=256->∃s',l.foldlM measS s=.ok s'
 | [],s,_,_=>⟨s,rfl⟩
 | p::l,s,h,hl=>by
  have h0:=h p (by simp)
  simp only[List.length_cons]at hl
  simp only[List.foldlM_cons,measS]
  rw[if_neg (by omega)]
  exact measFold_ok l _ (fun q hq=>h q (by simp[hq])) (by simp only;omega)
theorem measFold_err:∀(l:List (Int×Expr)) (s:Int×Int),((∃p∈l,p.1>16)∨s.1+l.length>256∧l≠[])->s.1<=256->l.foldlM measS s=.error ()
 | [],s,h,_=>by rcases h with⟨p,hp,_⟩|h;simp at hp;exact absurd rfl h.2
 | p::l,s,h,hs=>by
  simp only[List.foldlM_cons,measS]
  by_cases hc:s.1+1>256∨p.1>16
  ·rw[if_pos hc];rfl
  ·rw[if_neg hc]
   refine measFold_err l _ ?_ (by simp only;omega)
   rcases h with⟨q,hq,h1⟩|h
   ·rcases List.mem_cons.1 hq with rfl | hq
    ·omega
    ·exact .inl ⟨q,hq,h1⟩
   ·simp only[List.length_cons]at h
    refine .inr ⟨by simp only;omega,?_⟩
    rintro rfl
    simp at h
    omega
theorem meas_iff (x:Expr):(∃s,meas x=.ok s)↔szE x<=256∧dpE x<=16:=by
 constructor
 ·rintro⟨s,h⟩
  by_cases hd:dpE x<=16
  ·refine⟨?_,hd⟩
   obtain⟨h1,h2⟩:=preE_all x 1 (by omega)
   have hl:(preE x 1).length=szE x:=by rw[<- ndE_len,<- h1,List.length_map]
   rcases Nat.lt_or_ge 256 (szE x) with hg | hg
   ·have:=measFold_err (preE x 1) (0,0) (.inr ⟨by simp only;omega,by rw[preE_eq];simp⟩) (by simp)
    unfold meas at h
    rw[this]at h
    cases h
   ·exact hg
  ·obtain⟨p,hp,h1⟩:=preE_deep x 1 (by omega) (by omega)
   have:=measFold_err (preE x 1) (0,0) (.inl ⟨p,hp,h1⟩) (by simp)
   unfold meas at h
   rw[this]at h
   cases h
 ·rintro⟨h1,h2⟩
  obtain⟨h3,h4⟩:=preE_all x 1 (by omega)
  have hl:(preE x 1).length=szE x:=by rw[<- ndE_len,<- h3,List.length_map]
  exact measFold_ok _ _ h4 (by simp only;omega)
mutual
theorem deep_iff:∀(x:Expr) (m:Int),deepE x m=decide ((dpE x:Int)<=m)
 | ⟨op,ix,args⟩,m=>by
  have e:dpE ⟨op,ix,args⟩=1+dpL args:=by simp[dpE]
  simp only[deepE]
  by_cases h1:m<1
  ·rw[if_pos h1]
   exact (decide_eq_false (by rw[e];omega)).symm
  ·rw[if_neg h1]
   by_cases h2:m=1
   ·rw[if_pos h2]
    subst h2
    cases args with
    | nil=>exact (decide_eq_true (by rw[e];simp[dpL])).symm
    | cons y l=>
     have:1<=dpE y:=by rw[dpE_eq];omega
     exact (decide_eq_false (by rw[e];simp only[dpL];omega)).symm
   ·rw[if_neg h2,deepL_iff args (m-1) (by omega)]
    exact decide_eq_decide.2 (by rw[e];omega)
theorem deepL_iff:∀(l:List Expr) (m:Int),0<=m->deepL l m=decide ((dpL l:Int)<=m)
 | [],m,h=>by simp[deepL,dpL,h]
 | x::xs,m,h=>by
  simp only[deepL,dpL,deep_iff x m,deepL_iff xs m h]
  rw[<- Bool.decide_and]
  exact decide_eq_decide.2 (by omega)
end
mutual
theorem cnt_iff:∀(x:Expr) (m:Int),0<=m->((szE x:Int)<=m->cntE x m=szE x)∧(m<szE x->m<cntE x m)
 | ⟨op,ix,args⟩,m,h=>by
  simp only[cntE,szE]
  by_cases h0:m=0
  ·subst h0
   refine⟨fun h=>by omega,fun _=>?_⟩
   have:=cntL_iff args 0 1 (by omega)
   by_cases hs:(1:Int)+szL args<=0
   ·omega
   ·exact this.2 (by omega)
  ·have:=cntL_iff args m 1 (by omega)
   refine⟨fun h1=>?_,fun h1=>this.2 (by omega)⟩
   have h2:=this.1 (by omega)
   omega
theorem cntL_iff:∀(l:List Expr) (m n:Int),0<=n->(n+szL l<=m->cntL l m n=n+szL l)∧(m<n+szL l->m<cntL l m n)
 | [],m,n,_=>by simp[cntL,szL]
 | x::xs,m,n,hn=>by
  simp only[cntL,szL]
  by_cases h:n<=m
  ·rw[if_pos h]
   have h1:=cnt_iff x (m-n) (by omega)
   by_cases hx:(szE x:Int)<=m-n
   ·have e:=h1.1 hx
    have h2:=cntL_iff xs m (n+cntE x (m-n)) (by omega)
    rw[e]at h2 ⊢
    refine⟨fun h3=>?_,fun h3=>h2.2 (by omega)⟩
    have:=h2.1 (by omega)
    omega
   ·have e:=h1.2 (by omega)
    have h2:=cntL_iff xs m (n+cntE x (m-n)) (by omega)
    exact⟨fun h3=>by omega,fun _=>h2.2 (by omega)⟩
  ·rw[if_neg h]
   exact⟨fun h1=>by omega,fun _=>by omega⟩
end
theorem light_iff (x:Expr):lightE x=true↔szE x<=256∧dpE x<=16:=by
 unfold lightE
 rw[Bool.and_eq_true,deep_iff,decide_eq_true_eq,decide_eq_true_eq]
 have:=cnt_iff x 256 (by omega)
 constructor
 ·rintro⟨h1,h2⟩
  refine⟨?_,by omega⟩
  rcases Nat.lt_or_ge 256 (szE x) with h | h
  ·have:=this.2 (by omega);omega
  ·exact h
 ·rintro⟨h1,h2⟩
  exact⟨by have:=this.1 (by omega);omega,by omega⟩
theorem szL_ge:∀l:List Expr,l.length<=szL l
 | []=>by simp[szL]
 | x::xs=>by have:=szL_ge xs;have:1<=szE x:=by rw[szE_eq];omega
             simp only[szL,List.length_cons];omega
theorem node_same (x:Expr) (n:Int) (h:szE x<=256):nodeR x n=nodeT x n:=by
 have hl:=szL_ge x.args
 rw[szE_eq]at h
 unfold nodeR nodeT
 by_cases h1:x.op<0∨x.op>=5
 ·rw[if_pos h1,if_pos h1]
 ·rw[if_neg h1,if_neg h1]
  obtain ho | ho | ho | ho | ho:x.op=0∨x.op=1∨x.op=2∨x.op=3∨x.op=4:=by omega
  all_goals
   simp only[ho]
   simp
   try simp only[<- List.length_eq_zero_iff]
   repeat' split
   all_goals first | rfl | omega
mutual
theorem nodes_list:∀(x:Expr) (n:Int),nodesE x n=firstErr (fun y=>nodeT y n) (ndE x)
 | ⟨op,ix,args⟩,n=>by simp only[nodesE,ndE,firstErr,nodesL_list args n]
theorem nodesL_list:∀(l:List Expr) (n:Int),nodesL l n=firstErr (fun y=>nodeT y n) (ndL l)
 | [],n=>by simp[nodesL,ndL,firstErr]
 | x::xs,n=>by
  simp only[nodesL,ndL,nodes_list x n,nodesL_list xs n]
  generalize ndE x=a
  induction a with
  | nil=>simp[firstErr]
  | cons y a ih=>
   simp only[List.cons_append,firstErr]
   by_cases h:nodeT y n=0
   ·simp only[h,ne_eq,not_true_eq_false,if_false];exact ih
   ·simp[h]
end
mutual
theorem ndE_sz:∀(x:Expr) (y:Expr),y∈ndE x->szE y<=szE x
 | ⟨op,ix,args⟩,y,h=>by
  simp only[ndE]at h
  rcases List.mem_cons.1 h with rfl | h
  ·exact Nat.le_refl _
  ·have:=ndL_sz args y h;simp only[szE];omega
theorem ndL_sz:∀(l:List Expr) (y:Expr),y∈ndL l->szE y<=szL l
 | [],y,h=>by simp[ndL]at h
 | x::xs,y,h=>by
  simp only[ndL]at h
  simp only[szL]
  rcases List.mem_append.1 h with h | h
  ·have:=ndE_sz x y h;omega
  ·have:=ndL_sz xs y h;omega
end
theorem nodeFold (n:Int):∀l:List (Int×Expr),(match l.foldlM (nodeS n) () with | .ok _=>0 | .error e=>e)=firstErr (fun y=>nodeR y n) (l.map (·.2))
 | []=>rfl
 | p::l=>by
  simp only[List.foldlM_cons,List.map_cons,firstErr,nodeS]
  by_cases h:nodeR p.2 n=0
  ·simp only[h,ne_eq,not_true_eq_false,if_false]
   exact nodeFold n l
  ·simp only[h,ne_eq,not_false_eq_true,if_true]
   rfl
theorem firstErr_congr {ι:Type}{f g:ι->Int}:∀ {l:List ι},(∀x∈l,f x=g x)->firstErr f l=firstErr g l
 | [],_=>rfl
 | x::l,h=>by
  have ih:=firstErr_congr (l:=l) fun y hy=>h y (List.mem_cons_of_mem _ hy)
  simp only[firstErr,h x List.mem_cons_self,ih]
theorem check_same (x:Expr) (n:Int):refCheckE x n=checkE x n:=by
 unfold refCheckE checkE
 by_cases hn:n<0∨n>256
 ·rw[if_pos hn,if_pos hn]
 ·rw[if_neg hn,if_neg hn]
  by_cases hl:szE x<=256∧dpE x<=16
  ·have h1:lightE x=true:=(light_iff x).2 hl
   obtain⟨s,h2⟩:=(meas_iff x).2 hl
   rw[h1,h2]
   simp only[Bool.true_eq_false,if_false]
   have hk:=nodeFold n (preE x 1)
   rw[(preE_all x 1 (by omega)).1,firstErr_congr fun y hy=>node_same y n (Nat.le_trans (ndE_sz x y hy) hl.1),<- nodes_list]at hk
   cases hf:(preE x 1).foldlM (nodeS n) () with
   | ok u=>rw[hf]at hk;simp only at hk ⊢;exact hk.symm
   | error e=>rw[hf]at hk;simp only at hk ⊢;exact hk.symm
  ·have h1:lightE x=false:=by
    cases h:lightE x
    ·rfl
    ·exact absurd ((light_iff x).1 h) hl
   have h2:∃e,meas x=.error e:=by
    cases h:meas x with
    | ok s=>exact absurd ((meas_iff x).1 ⟨s,h⟩) hl
    | error e=>exact⟨e,rfl⟩
   obtain⟨e,h2⟩:=h2
   rw[h1,h2]
   simp
theorem refCheckC_fn (x:Expr) (hx:OkE x) (n:Int):CallFn Tryz.prog 165 [aE x,aI n] (aI (checkE x n)):=by
 rw[<- check_same];exact refCheck_fn x hx n
def okW (s:List UInt8) (i:Nat):Prop:=wordS (s.take i)=true∨i=0
theorem okW_step {s:List UInt8}{i:Nat}{b:UInt8}(h:okW s i) (hb:s[i]?=some b):(wordS (s.take (i+1))=true↔(partB b=true∧(i=0->97<=b.toNat∧b.toNat<=122))):=by
 have e:s.take (i+1)=s.take i++[b]:=by rw[List.take_add_one,hb];rfl
 rw[e]
 by_cases h0:i=0
 ·subst h0
  simp[wordS]
  constructor
  ·rintro⟨⟨h1,h2⟩,h3⟩;exact⟨h3,h1,h2⟩
  ·rintro⟨h3,h1,h2⟩;exact⟨⟨h1,h2⟩,h3⟩
 ·rcases h with h | h
  ·cases ht:s.take i with
   | nil=>rw[ht]at h;simp[wordS]at h
   | cons a t=>
    rw[ht]at h
    simp[wordS]at h ⊢
    simp[h,h0]
    intro _ x hx
    exact h.2.2 x hx
  ·exact absurd h h0
theorem wordS_mono {s:List UInt8}{i:Nat}(h:wordS s=true) (hi:0<i):wordS (s.take i)=true:=by
 cases s with
 | nil=>simp[wordS]at h
 | cons a t=>
  obtain⟨j,rfl⟩:∃j,i=j+1:=⟨i-1,by omega⟩
  simp[wordS]at h ⊢
  exact⟨h.1,h.2.1,fun x hx=>h.2.2 x (List.mem_of_mem_take hx)⟩
theorem wordR_fn (s:List UInt8) (hs:Sh s):CallFn Tryz.prog 163 [aT s] (aB (wordS s)):=by
 refine callFz_of Tryz.func163 rfl Tryz.ntmps163 (rs:=[.tmp 2]) rfl (by kernel_rfl) (by simp) (by kernel_rfl) ?_
 simp
 refine V.forI (σ:=Unit) s.length [0] (by simp;exact rfl) (fun i _=>[(3,aI i)]) (fun _ _=>[]) (fun i _=>okW s i) () (.inr rfl) (by simp) ⟨by simp;exact rfl,by simp⟩ ?_ ?_
 ·rintro i-hi hI
  obtain⟨b,hb⟩:∃b,s[i]=b:=⟨_,rfl⟩
  have hbo:s[i]?=some b:=by rw[List.getElem?_eq_getElem hi,hb]
  have hstep:=okW_step hI hbo
  have hlt:=b.toNat_lt
  simp[hi]
  refine V.draw (fun _=>none) (by kernel_rfl) (by kernel_rfl) (by simp) ?_
  simp[hi,hb]
  refine⟨by omega,by omega,by omega,?_⟩
  have hp:partB b=true↔((97<=b.toNat∧b.toNat<=122)∨(65<=b.toNat∧b.toNat<=90)∨(48<=b.toNat∧b.toNat<=57)∨b.toNat=95):=by
   simp[partB]
   omega
  refine⟨by omega,fun hbad=>?_,fun h1 h2=>⟨by omega,.inl (hstep.2 ⟨hp.2 (by omega),fun h=>by have:=h1 h;omega⟩)⟩⟩
  cases hw:wordS s
  ·rfl
  ·obtain⟨h3,h4⟩:=hstep.1 (wordS_mono hw (by omega))
   have h5:=hp.1 h3
   omega
 ·rintro-hI
  have e:(s != [])=wordS s:=by
   rcases hI with h | h
   ·rw[List.take_length]at h
    rw[h]
    cases s<;>simp_all [wordS]
   ·have:s=[]:=List.length_eq_zero_iff.1 h
    subst this
    rfl
  simp
  exact e
theorem nameR_fn (c:Control) (h:Sm c) (hc:OkC c) (ha:0<=c.actuators∧c.actuators<=6) (k:Nat) (h1:(k:Int)<countC c):CallFn Tryz.prog 103 [aC c,aI k] (aI (nameE (namedC c k) (namesB c k))):=by
 have hs:=h
 obtain⟨g1,g2,g3⟩:=h
 have hcn:countC c=2*c.actuators+c.inputs.length+c.signals.length:=rfl
 have hSh:Sh (namedC c k):=by
  unfold namedC
  split
  ·rename_i hk
   have:k<12:=by omega
   rw[lineName_eq k this]
   simp
  ·split
   ·rw[List.getD_eq_getElem?_getD]
    cases hi:c.inputs[((k:Int)-2*c.actuators).toNat]? with
    | none=>simp
    | some y=>exact hc.names y (List.mem_of_getElem? hi)
   ·cases hi:c.signals[((k:Int)-firstC c).toNat]? with
    | none=>simp
    | some y=>exact (hc.sigs y (List.mem_of_getElem? hi)).name
 refine callFz_of Tryz.func103 rfl Tryz.ntmps103 (rs:=[.tmp 4]) rfl (by kernel_rfl) (by simp) (by kernel_rfl) ?_
 simp
 refine (NamedR_fn c hs ha k (by omega) h1).s ?_
 simp
 refine (wordR_fn (namedC c k) hSh).s ?_
 cases hw:wordS (namedC c k)
 ·simp[nameE,hw]
 ·by_cases hl:(namedC c k).length>24
  ·simp[nameE,hw,hl]
   intro h
   omega
  ·have hl':¬ 24<(namedC c k).length:=hl
   have hl2:((namedC c k).length:Int)<=24:=by omega
   simp[hl2,Int.not_lt.2 hl2]
   refine V.forI (σ:=Unit) k [1,2,5] (by simp;exact rfl) (fun i _=>[(6,aI i)]) (fun _ _=>[]) (fun i _=>∀j,j<i->namedC c j≠namedC c k) () (by simp) (by simp) ⟨by simp;exact rfl,by simp⟩ ?_ ?_
   ·rintro i-hi hI
    simp[hi]
    refine (NamedR_fn c hs ha i (by omega) (by omega)).s ?_
    by_cases e:namedC c i=namedC c k
    ·have hm:namedC c k∈namesB c k:=List.mem_map.2 ⟨i,by simpa using hi,e⟩
     simp[nameE,hw,hl',hm,e]
    ·simp[e]
     refine⟨by omega,fun j hj=>?_⟩
     rcases Nat.lt_or_ge j i with h | h
     ·exact hI j h
     ·obtain rfl:j=i:=by omega
      exact e
   ·rintro-hI
    have hm:namedC c k∉namesB c k:=by
     intro hm
     obtain⟨j,hj,e⟩:=List.mem_map.1 hm
     exact hI j (by simpa using hj) e
    simp[nameE,hw,hl',hm]
mutual
def occE:Expr->Int->Bool
 | ⟨op,ix,args⟩,k=>if op=1 then ix==k else occL args k
def occL:List Expr->Int->Bool
 | [],_=>false
 | x::xs,k=>occE x k||occL xs k
end
theorem occE_eq (x:Expr) (k:Int):occE x k=if x.op=1 then x.index==k else occL x.args k:=by cases x;simp[occE]
theorem occurs_fn:∀(N:Nat) (x:Expr),SizeOf.sizeOf x<N->OkE x->∀k:Int,CallFn Tryz.prog 233 [aE x,aI k] (aB (occE x k))
 | 0,_,h,_,_=>absurd h (Nat.not_lt_zero _)
 | N+1,x,hN,hx,k=>by
  refine callFz_of Tryz.func233 rfl Tryz.ntmps233 (rs:=[.tmp 4]) rfl (by kernel_rfl) (by simp) (by kernel_rfl) ?_
  by_cases hop:x.op=1
  ·simp[hop,occE_eq]
  ·have e:occE x k=occL x.args k:=by rw[occE_eq,if_neg hop]
   simp[hop]
   refine V.forI (σ:=Unit) x.args.length [1,2] (by simp;exact rfl) (fun i _=>[(5,aI i)]) (fun _ _=>[]) (fun i _=>occL (x.args.drop i) k=occE x k) () (by simp[e]) (by simp) ⟨by simp;exact rfl,by simp⟩ ?_ ?_
   ·rintro i-hi hI
    obtain⟨y,hy⟩:∃y,x.args[i]=y:=⟨_,rfl⟩
    have hmem:y∈x.args:=hy▸List.getElem_mem hi
    have hlen:=hx.len
    rw[List.drop_eq_getElem_cons hi,hy,occL]at hI
    simp[hi,hy,encE_eq]
    refine (occurs_fn N y (by have:=Expr.lt_of_mem hmem;omega) (hx.args y hmem) k).s ?_
    cases ho:occE y k
    ·rw[ho]at hI
     simp at hI
     simp
     exact⟨by omega,hI⟩
    ·rw[ho]at hI
     simp at hI
     simp[hI]
   ·rintro-hI
    simp[occL]at hI
    simp[<- hI]
theorem foldl_or (f:Int->Bool):∀(l:List Int) (b:Bool),l.foldl (fun b n=>b||f n) b=(b||l.any f)
 | [],b=>by simp
 | n::l,b=>by simp[foldl_or f l,Bool.or_assoc]
theorem lateC_any (c:Control) (i:Int) (x:Expr):lateC c i x=(varsE x).any fun n=>decide (i<=n-firstC c)&&kindAt c (n-firstC c)==0:=by
 unfold lateC
 have:lateStep c i=fun b n=>b||(decide (i<=n-firstC c)&&kindAt c (n-firstC c)==0):=rfl
 rw[this,foldl_or]
 rfl
theorem occ_vars {n:Int}:∀(N:Nat) (x:Expr),SizeOf.sizeOf x<N->RightE n x->∀k,occE x k=(varsE x).any (·==k)
 | 0,_,h,_,_=>absurd h (Nat.not_lt_zero _)
 | N+1,x,hN,hr,k=>by
  have hL:∀l:List Expr,(∀y∈l,y∈x.args)->occL l k=(varsL l).any (·==k):=by
   intro l
   induction l with
   | nil=>intro _;rfl
   | cons y l ih=>
    intro hl
    have hm:=hl y (by simp)
    simp only[occL,varsL,List.any_append]
    rw[ih (fun z hz=>hl z (by simp[hz])),occ_vars N y (by have:=Expr.lt_of_mem hm;omega) (hr.args y hm) k]
  rw[occE_eq,varsE_eq]
  by_cases hop:x.op=1
  ·have hn:=hr.node
   have hargs:x.args=[]:=by
    unfold nodeR at hn
    simp only[hop]at hn
    split at hn<;>try omega
    split at hn<;>try omega
    rename_i h
    simp at h
    exact List.length_eq_zero_iff.1 (by omega)
   simp[hop,hargs,varsL]
  ·simp[hop]
   simpa using hL x.args fun _ h=>h
theorem occ_check {x:Expr}{n:Int}(h:checkE x n=0) (k:Int):occE x k=(varsE x).any (·==k):=occ_vars (SizeOf.sizeOf x+1) x (by omega) (right_of_check h).1 k
theorem late_fn (c:Control) (h:Sm c) (i:Nat) (s:Signal) (hi:c.signals[i]?=some s) (hx:OkS s) (hr:checkE s.on (countC c)=0):CallFn Tryz.prog 167 [aC c,aI i] (aB (lateC c i s.on)):=by
 have hs:=h
 obtain⟨g1,g2,g3⟩:=h
 obtain⟨hlt,hy1⟩:=List.getElem?_eq_some_iff.1 hi
 have hcn:countC c=firstC c+c.signals.length:=rfl
 have hfc:firstC c=2*c.actuators+c.inputs.length:=rfl
 refine callFz_of Tryz.func167 rfl Tryz.ntmps167 (rs:=[.tmp 4]) rfl (by kernel_rfl) (by simp) (by kernel_rfl) ?_
 simp
 refine V.forI (σ:=Unit) (c.signals.length-i) [1,2] (by simp;exact rfl) (fun m _=>[(5,aI (i+m:Nat))]) (fun _ _=>[]) (fun m _=>∀j,i<=j->j<i+m->kindAt c j=0->occE s.on (firstC c+j)=false) () (by intro j h1 h2;omega) (by simp) ⟨by simp;exact rfl,by simp⟩ ?_ ?_
 ·rintro m-hm hI
  have hj:i+m<c.signals.length:=by omega
  have hji:(i:Int)+m<c.signals.length:=by omega
  obtain⟨y,hy⟩:∃y,c.signals[i+m]=y:=⟨_,rfl⟩
  have hyo:c.signals[i+m]?=some y:=by rw[List.getElem?_eq_getElem hj,hy]
  have hka:kindAt c ((i+m:Nat):Int)=y.kind:=by unfold kindAt;rw[Int.toNat_natCast,hyo];rfl
  simp[hji]
  refine V.draw (fun t=>if t=29 then some (.fn (aI (firstC c))) else if t=32 then some (.fn (aB (occE s.on (firstC c+(i+m:Nat))))) else none) (by kernel_rfl) (by kernel_rfl) (by simp) ?_
  have e1:=signals_fn c hs
  have e2:=occurs_fn (SizeOf.sizeOf s.on+1) s.on (by omega) hx.on (firstC c+(i+m:Nat))
  simp at e1 e2
  have hti:((i:Int)+m).toNat=i+m:=by omega
  simp[hji,hti,hyo,hy1,hlt,e1,e2,hj,hy]
  refine⟨by omega,fun h=>⟨h,by omega,by omega⟩,fun hk ho=>?_,fun hno=>⟨by omega,?_,by omega⟩⟩
  ·rw[occ_check hr,List.any_eq_true]at ho
   obtain⟨n,hn,e⟩:=ho
   simp only[beq_iff_eq]at e
   rw[lateC_any,List.any_eq_true]
   refine⟨n,hn,?_⟩
   rw[show n-firstC c=((i+m:Nat):Int) by omega,hka,hk]
   simp
   omega
  ·intro j h1 h2 h3
   rcases Nat.lt_or_ge j (i+m) with h | h
   ·exact hI j h1 h h3
   ·obtain rfl:j=i+m:=by omega
    rw[hka]at h3
    have:=hno h3
    simpa using this
 ·rintro-hI
  have e:i+(c.signals.length-i)=c.signals.length:=by omega
  rw[e]
  have hl:lateC c i s.on=false:=by
   rw[lateC_any,List.any_eq_false]
   intro n hn
   have hv:=vars_check hr n hn
   simp only[Bool.and_eq_true,decide_eq_true_eq,beq_iff_eq,not_and]
   intro h1 h2
   obtain⟨j,hj⟩:∃j:Nat,n-firstC c=j:=⟨(n-firstC c).toNat,by omega⟩
   rw[hj]at h1 h2
   have:=hI j (by omega) (by omega) h2
   rw[occ_check hr,List.any_eq_false]at this
   exact this n hn (by simp;omega)
  simp[hl]
theorem signalR_fn (c:Control) (h:Sm c) (hc:OkC c) (ha:0<=c.actuators∧c.actuators<=6) (i:Nat) (s:Signal) (hi:c.signals[i]?=some s):CallFn Tryz.prog 104 [aC c,aI i] (aI (sigE c i)):=by
 have hs:=h
 obtain⟨g1,g2,g3⟩:=h
 obtain⟨hlt,hy1⟩:=List.getElem?_eq_some_iff.1 hi
 have hcn:countC c=firstC c+c.signals.length:=rfl
 have hfc:firstC c=2*c.actuators+c.inputs.length:=rfl
 have hx:OkS s:=hc.sigs s (List.mem_of_getElem? hi)
 obtain⟨N,hN⟩:∃N:Nat,c.actuators=N:=⟨c.actuators.toNat,by omega⟩
 have hNN:c.actuators.toNat=N:=by omega
 have hk:firstC c+i=((2*N+c.inputs.length+i:Nat):Int):=by omega
 have hn:namedC c (2*N+c.inputs.length+i:Nat)=s.name:=by
  refine named_sig (s:=s) (by omega) (by omega) ?_
  rw[show ((2*N+c.inputs.length+i:Nat)-firstC c:Int).toNat=i by omega]
  exact hi
 have e0:sigE c i=signalE c i s (namesB c (2*N+c.inputs.length+i)):=by simp only[sigE,hi,hNN]
 rw[e0]
 generalize hnm:namesB c (2*N+c.inputs.length+i)=names
 have c1:=nameR_fn c hs hc ha (2*N+c.inputs.length+i) (by omega)
 rw[hn,hnm,<- hk]at c1
 refine callFz_of Tryz.func104 rfl Tryz.ntmps104 (rs:=[.tmp 4]) rfl (by kernel_rfl) (by simp) (by kernel_rfl) ?_
 simp[hy1,hlt]
 intro b5
 refine V.draw (fun t=>if t=18 then some (.fn (aI (firstC c))) else if t=21 then some (.fn (aI (nameE s.name names))) else none) (by kernel_rfl) (by kernel_rfl) (by simp) ?_
 have c2:=signals_fn c hs
 try simp at c1
 try simp at c2
 simp[c1,c2]
 refine⟨by omega,fun h1=>by simp[signalE,h1],fun h1=>⟨fun h2=>?_,fun h2 h3=>?_⟩⟩
 ·simp[signalE,h1]
  omega
 ·refine V.draw (fun t=>if t=36 then some (.fn (aI (countC c))) else if t=37 then some (.fn (aI (checkE s.on (countC c)))) else none) (by kernel_rfl) (by kernel_rfl) (by simp) ?_
  have c3:=lines_fn c hs
  have c4:=refCheckC_fn s.on hx.on (countC c)
  try simp at c3
  try simp at c4
  simp[c3,c4]
  have hk03:¬(s.kind<0∨s.kind>=3):=by omega
  refine⟨fun h4=>by simp[signalE,h1,h4];omega,fun h4=>?_⟩
  have e1:signalE c i s names=if s.kind=0 then gateE c i s else if s.kind=1 then memE c s else timE s:=by
   unfold signalE;rw[if_neg (by simp[h1]),if_neg hk03,if_neg (by simp[h4])]
  rw[e1]
  have c5:=late_fn c hs i s hi hx h4
  have c6:=zeroR_fn s.off
  obtain hk | hk | hk:s.kind=0∨s.kind=1∨s.kind=2:=by omega
  ·simp only[hk,if_true]
   refine V.draw (fun _=>none) (by kernel_rfl) (by kernel_rfl) (by simp) ?_
   simp
   refine GCall.fn (aB (lateC c i s.on)) (fun _=>⟨by first | trivial | assumption,c5⟩) ?_
   cases hl:lateC c i s.on
   ·simp
    refine GCall.fn (aB (zeroE s.off)) (fun _=>⟨by first | trivial | assumption,c6⟩) ?_
    simp
    cases hz:zeroE s.off<;>cases hin:s.init<;>simp[gateE,hl,hz,hin]
   ·simp[gateE,hl]
  ·simp only[hk]
   refine V.draw (fun _=>none) (by kernel_rfl) (by kernel_rfl) (by simp) ?_
   have c7:=refCheckC_fn s.off hx.off (countC c)
   simp
   refine V.draw (fun t=>if t=51 then some (.fn (aI (countC c))) else if t=52 then some (.fn (aI (checkE s.off (countC c)))) else none) (by kernel_rfl) (by kernel_rfl) (by simp) ?_
   simp[c3,c7]
   refine⟨fun h5=>by simp[memE,h5],fun h5=>?_⟩
   refine GCall.fn (aB false) (by simp) ?_
   simp
   refine GCall.fn (aB false) (by simp) ?_
   simp[memE,h5]
  ·simp only[hk]
   refine V.draw (fun _=>none) (by kernel_rfl) (by kernel_rfl) (by simp) ?_
   simp
   refine GCall.fn (aB false) (by simp) ?_
   simp
   refine⟨fun h5=>by simp[timE];omega,fun h5 h6=>?_⟩
   refine GCall.fn (aB (zeroE s.off)) (fun _=>⟨by first | trivial | assumption,c6⟩) ?_
   cases hz:zeroE s.off<;>cases hin:s.init<;>simp[timE,hz,hin]<;>omega
def badP (c:Control) (n:Int):Bool:=decide (n<0)||decide (countC c<=n)
theorem NoF.any {α:Type}{p:α->Bool}{xs:List α}(h:NoF p xs):xs.any p=false:=by
 rw[List.any_eq_false]
 intro x hx
 simp[h x hx]
theorem pilotsR_fn (c:Control) (h:Sm c) (hp:c.plus.length<=1000000) (hm:c.minus.length<=1000000):CallFn Tryz.prog 105 [aC c] (aI (pilotE c)):=by
 refine callFz_of Tryz.func105 rfl Tryz.ntmps105 (rs:=[.tmp 2]) rfl (by kernel_rfl) (by simp) (by kernel_rfl) ?_
 by_cases hpl:(c.plus.length:Int)≠c.actuators∨(c.minus.length:Int)≠c.actuators
 ·simp[pilotE,hpl]
  intro h1 h2
  omega
 ·have h1:(c.plus.length:Int)=c.actuators:=by omega
  have h2:(c.minus.length:Int)=c.actuators:=by omega
  have e':pilotE c=if (c.plus++c.minus).any (badP c) then 6 else 0:=by rw[pilotE,if_neg hpl];rfl
  rw[List.any_append]at e'
  simp[h1,h2]
  refine V.forI (σ:=Unit) 2 [1,24,25] (by simp;exact rfl) (fun i _=>[(26,aI i)]) (fun _ _=>[]) (fun i _=>(1<=i->NoF (badP c) c.plus)∧(2<=i->NoF (badP c) c.minus)) () (by simp) (by simp) ⟨by simp;exact rfl,by simp⟩ ?_ ?_
  ·rintro i-hi hI
   obtain⟨ys,hys,hly,hbad,hgood⟩:∃ys:List Int,([[L.sl (c.plus.map encI)],[L.sl (c.minus.map encI)]]:List (List L))[i]?=some [L.sl (ys.map encI)]∧ys.length<=1000000∧(ys.any (badP c)=true->pilotE c=6) ∧
     (NoF (badP c) ys->(1<=i+1->NoF (badP c) c.plus)∧(2<=i+1->NoF (badP c) c.minus)):=by
    obtain rfl | rfl:i=0∨i=1:=by omega
    ·exact⟨c.plus,rfl,hp,fun h=>by rw[e',h];rfl,fun h=>⟨fun _=>h,fun h=>by omega⟩⟩
    ·exact⟨c.minus,rfl,hm,fun h=>by rw[e',h];simp,fun h=>⟨fun _=>hI.1 (by omega),fun _=>h⟩⟩
   have hi':(i:Int)<2:=by omega
   simp[hi',hys]
   refine V.forI (σ:=Unit) ys.length [1,4,24,25,26,27,28,29] (by simp;exact rfl) (fun j _=>[(5,aI j)]) (fun _ _=>[]) (fun j _=>NoF (badP c) (ys.take j)) () (by simp) (by simp) ⟨by simp;exact rfl,by simp⟩ ?_ ?_
   ·rintro j-hj hJ
    obtain⟨y,hy⟩:∃y,ys[j]=y:=⟨_,rfl⟩
    have hs:=findIdx_step hJ (List.getElem?_eq_getElem hj)
    rw[hy]at hs
    have c3:=lines_fn c h
    simp[hj]
    refine V.draw (fun t=>if t=47 then some (.fn (aI (countC c))) else none) (by kernel_rfl) (by kernel_rfl) (by simp) ?_
    try simp at c3
    simp[hj,hy,c3]
    refine⟨fun hb=>?_,fun hb1 hb2=>⟨by omega,hs.1 (by simp[badP];omega)⟩⟩
    rw[hbad]
    rw[<- List.findIdx?_isSome,hs.2 (by simp[badP];omega)]
    rfl
   ·rintro-hJ
    rw[List.take_length]at hJ
    obtain⟨g1,g2⟩:=hgood hJ
    simp
    refine⟨by omega,g1 (by omega),?_⟩
    intro h
    exact g2 (by omega)
  ·rintro-⟨g1,g2⟩
   rw[e',(g1 (by omega)).any,(g2 (by omega)).any]
   simp
theorem CheckR_fn (c:Control) (hc:OkC c) (hp:c.plus.length<=1000000) (hm:c.minus.length<=1000000):CallFn Tryz.prog 65 [aC c] (aI (checkC c)):=by
 refine callFz_of Tryz.func65 rfl Tryz.ntmps65 (rs:=[.tmp 2]) rfl (by kernel_rfl) (by simp) (by kernel_rfl) ?_
 by_cases ha:c.actuators<1∨c.actuators>6
 ·have e:checkC c=2:=by simp[checkC,ha]
  rw[e]
  simp
  intro h1 h2
  omega
 ·have ha':1<=c.actuators∧c.actuators<=6∧¬c.actuators<1∧¬ 6<c.actuators:=by omega
  by_cases hmx:c.inputs.length>16∨c.signals.length>64
  ·have e:checkC c=5:=by simp only[checkC];rw[if_neg ha,if_pos hmx]
   rw[e]
   simp[ha'.1,ha'.2]
   intro h1 h2
   omega
  ·have hsm:Sm c:=⟨by omega,by omega,by omega⟩
   obtain⟨N,hN⟩:∃N:Nat,c.actuators=N:=⟨c.actuators.toNat,by omega⟩
   have hNN:c.actuators.toNat=N:=by omega
   have hm':(c.inputs.length:Int)<=16∧(c.signals.length:Int)<=64∧¬ 16<(c.inputs.length:Int)∧¬ 64<(c.signals.length:Int):=by omega
   have hcn:countC c=2*c.actuators+c.inputs.length+c.signals.length:=rfl
   have e:checkC c=if firstErr (inpE c) (List.range c.inputs.length)≠0 then firstErr (inpE c) (List.range c.inputs.length)
     else if firstErr (sigE c) (List.range c.signals.length)≠0 then firstErr (sigE c) (List.range c.signals.length) else pilotE c:=by
    simp only[checkC];rw[if_neg ha,if_neg hmx]
   simp[ha'.1,ha'.2,hm'.1,hm'.2]
   refine V.forI (σ:=Unit) c.inputs.length [1] (by simp;exact rfl) (fun i _=>[(3,aI i)]) (fun _ _=>[]) (fun i _=>NoE (inpE c) i) () (NoE.zero _) (by simp) ⟨by simp;exact rfl,by simp⟩ ?_ ?_
   ·rintro i-hi hI
    have c1:=nameR_fn c hsm hc ⟨by omega,by omega⟩ (2*N+i) (by omega)
    have hin:inpE c i=nameE (namedC c (2*N+i:Nat)) (namesB c (2*N+i)):=by rw[inpE,hNN]
    rw[<- hin,show ((2*N+i:Nat):Int)=2*c.actuators+i by omega]at c1
    simp[hi]
    refine⟨by omega,by omega,c1.s ?_⟩
    by_cases hz:inpE c i=0
    ·simp[hz]
     exact⟨by omega,hI.succ hz⟩
    ·have hf:=firstErr_at hI hi hz
     have e':checkC c=inpE c i:=by rw[e,hf,if_pos hz]
     simp[hz,e']
   ·rintro-hI
    have hf:=firstErr_all hI
    rw[hf]at e
    simp at e
    simp
    refine V.forI (σ:=Unit) c.signals.length [1] (by simp;exact rfl) (fun i _=>[(5,aI i)]) (fun _ _=>[]) (fun i _=>NoE (sigE c) i) () (NoE.zero _) (by simp) ⟨by simp;exact rfl,by simp⟩ ?_ ?_
    ·rintro i-hi hI2
     have c1:=signalR_fn c hsm hc ⟨by omega,by omega⟩ i _ (List.getElem?_eq_getElem hi)
     simp[hi]
     refine c1.s ?_
     by_cases hz:sigE c i=0
     ·simp[hz]
      exact⟨by omega,hI2.succ hz⟩
     ·have hf:=firstErr_at hI2 hi hz
      have e':checkC c=sigE c i:=by rw[e,hf,if_neg hz]
      simp[hz,e']
    ·rintro-hI2
     have hf:=firstErr_all hI2
     rw[hf]at e
     simp at e
     rw[e]
     simp
     refine (pilotsR_fn c hsm hp hm).s ?_
     simp
end Go.Proofs.YtpadinblmjlggaaGreatDoor
