/- Texts joined by a program: Sh,Xg,Ga,Xga,Xh,Oq,Ora,Sd,Se,Xi,Xe,Xf,Xj. -/
import Derived.Test.YtafamcbdaeppoaaGreatDoorProg
import Derived.KernelRfl
import Derived.Test.YtafamcbdaeppoaaGreatDoorE27
import Derived.Test.YtafamcbdaeppoaaGreatDoorE28
import Derived.Test.YtafamcbdaeppoaaGreatDoorE12
import Derived.Test.YtafamcbdaeppoaaGreatDoorE13
import Derived.Test.YtafamcbdaeppoaaGreatDoorE26
import Derived.Test.YtafamcbdaeppoaaGreatDoorE25
import Derived.Test.YtafamcbdaeppoaaGreatDoorE16
import Derived.Test.YtafamcbdaeppoaaGreatDoorE17
set_option linter.unusedSimpArgs false
set_option linter.unusedVariables false
set_option maxHeartbeats 8000000
set_option maxRecDepth 100000
namespace Go.Proofs.YtafamcbdaeppoaaGreatDoor
def sortRen:Go.Shelf.Ren:=⟨fun | 125=>152 | 128=>223 | 129=>224 | 189=>79 | 215=>237 | 216=>220 | 257=>151 | 294=>214 | 295=>215 | 296=>216 | 297=>217 | 298=>218 | 299=>219 | 300=>221 | 301=>222 | 328=>297 | 329=>298 | 330=>299 | 331=>300 | 332=>301 | 343=>359 | n=>n,fun | 0=>0 | 3=>3 | 4=>4 | 5=>5 | 9=>9 | 28=>24 | 46=>220 | 51=>295 | 53=>297 | 131=>142 | 182=>287 | 183=>288 | 218=>367 | 222=>371 | 228=>414 | 229=>415 | n=>n,fun n=>n⟩
theorem sortLays:Go.Proofs.Lays.n189 Tryz.prog sortRen:={
 mixed:=by kernel_rfl,
 f125:=by kernel_rfl,
 f128:=by kernel_rfl,
 f129:=by kernel_rfl,
 f189:=by kernel_rfl,
 f215:=by kernel_rfl,
 f216:=by kernel_rfl,
 f257:=by kernel_rfl,
 f294:=by kernel_rfl,
 f295:=by kernel_rfl,
 f296:=by kernel_rfl,
 f297:=by kernel_rfl,
 f298:=by kernel_rfl,
 f299:=by kernel_rfl,
 f300:=by kernel_rfl,
 f301:=by kernel_rfl,
 f328:=by kernel_rfl,
 f329:=by kernel_rfl,
 f330:=by kernel_rfl,
 f331:=by kernel_rfl,
 f332:=by kernel_rfl,
 f343:=by kernel_rfl,
 t0:=Tryz.underlying0,
 a0:=Tryz.isAgg0,
 z0:=Tryz.sizeOf0,
 v0:=Tryz.zeroValue0,
 t3:=Tryz.underlying3,
 a3:=Tryz.isAgg3,
 z3:=Tryz.sizeOf3,
 v3:=Tryz.zeroValue3,
 t4:=Tryz.underlying4,
 a4:=Tryz.isAgg4,
 z4:=Tryz.sizeOf4,
 v4:=Tryz.zeroValue4,
 t5:=Tryz.underlying5,
 a5:=Tryz.isAgg5,
 z5:=Tryz.sizeOf5,
 v5:=Tryz.zeroValue5,
 t9:=Tryz.underlying9,
 a9:=Tryz.isAgg9,
 z9:=Tryz.sizeOf9,
 v9:=Tryz.zeroValue9,
 t28:=Tryz.underlying24,
 a28:=Tryz.isAgg24,
 z28:=Tryz.sizeOf24,
 v28:=Tryz.zeroValue24,
 t46:=Tryz.underlying220,
 a46:=Tryz.isAgg220,
 z46:=Tryz.sizeOf220,
 v46:=Tryz.zeroValue220,
 t51:=Tryz.underlying295,
 a51:=Tryz.isAgg295,
 z51:=Tryz.sizeOf295,
 v51:=Tryz.zeroValue295,
 t53:=Tryz.underlying297,
 a53:=Tryz.isAgg297,
 z53:=Tryz.sizeOf297,
 v53:=Tryz.zeroValue297,
 t131:=Tryz.underlying142,
 a131:=Tryz.isAgg142,
 z131:=Tryz.sizeOf142,
 v131:=Tryz.zeroValue142,
 t182:=Tryz.underlying287,
 a182:=Tryz.isAgg287,
 z182:=Tryz.sizeOf287,
 v182:=Tryz.zeroValue287,
 t183:=Tryz.underlying288,
 a183:=Tryz.isAgg288,
 z183:=Tryz.sizeOf288,
 v183:=Tryz.zeroValue288,
 t218:=Tryz.underlying367,
 a218:=Tryz.isAgg367,
 z218:=Tryz.sizeOf367,
 v218:=Tryz.zeroValue367,
 t222:=Tryz.underlying371,
 a222:=Tryz.isAgg371,
 z222:=Tryz.sizeOf371,
 v222:=Tryz.zeroValue371,
 t228:=Tryz.underlying414,
 a228:=Tryz.isAgg414,
 z228:=Tryz.sizeOf414,
 v228:=Tryz.zeroValue414,
 t229:=Tryz.underlying415,
 a229:=Tryz.isAgg415,
 z229:=Tryz.sizeOf415,
 v229:=Tryz.zeroValue415 }
def compRen:Go.Shelf.Ren:=⟨fun | 20=>80 | n=>n,fun | 0=>0 | 3=>3 | 4=>4 | 22=>24 | n=>n,fun n=>n⟩
theorem compLays:Go.Proofs.Lays2.n20 Tryz.prog compRen:={
 mixed:=by kernel_rfl,
 f20:=by kernel_rfl,
 t0:=Tryz.underlying0,
 a0:=Tryz.isAgg0,
 z0:=Tryz.sizeOf0,
 v0:=Tryz.zeroValue0,
 t3:=Tryz.underlying3,
 a3:=Tryz.isAgg3,
 z3:=Tryz.sizeOf3,
 v3:=Tryz.zeroValue3,
 t4:=Tryz.underlying4,
 a4:=Tryz.isAgg4,
 z4:=Tryz.sizeOf4,
 v4:=Tryz.zeroValue4,
 t22:=Tryz.underlying24,
 a22:=Tryz.isAgg24,
 z22:=Tryz.sizeOf24,
 v22:=Tryz.zeroValue24,
 i3:=by kernel_rfl }
def rstZ (c:Cir):Nat->List Int->List Int->Option (List Int×List Int)
 | 0,_,_=>none
 | k+1,p,acc=>if stepsZ c p c.parts.length=p then some (p,acc++badZ c p c.parts.length) else rstZ c k (stepsZ c p c.parts.length) (acc++badZ c p c.parts.length)
def restQ (c:Cir) (pos:List Int):List Int×List Int×Int:=match rstZ c 65 pos []with
 | some (q,bad)=>(q,compI (sortI bad),0)
 | none=>([],[],21)
theorem stpN_step (c:Cir) (p:List Int):∀n,stpN c (stepsZ c p c.parts.length) n=stpN c p (n+1)
 | 0=>rfl
 | n+1=>by
  show stepsZ c (stpN c (stepsZ c p c.parts.length) n) _=stepsZ c (stpN c p (n+1)) _
  rw[stpN_step c p n]
theorem rstZ_spec {c:Cir}:∀(k:Nat) (p acc q bad:List Int),rstZ c k p acc=some (q,bad)->∃N,q=stpN c p N∧stepsZ c q c.parts.length=q
 | 0,_,_,_,_,h=>by cases h
 | k+1,p,acc,q,bad,h=>by
  unfold rstZ at h
  split at h
  ·rename_i he
   simp only[Option.some.injEq,Prod.mk.injEq]at h
   obtain⟨rfl,_⟩:=h
   exact⟨0,rfl,he⟩
  ·obtain⟨N,h1,h2⟩:=rstZ_spec k _ _ q bad h
   exact⟨N+1,by rw[h1,stpN_step],h2⟩
theorem restQ_spec {c:Cir}{p:List Int}(h:(restQ c p).2.2=0):∃N,(restQ c p).1=stpN c p N∧stepsZ c (restQ c p).1 c.parts.length=(restQ c p).1:=by
 unfold restQ at h ⊢
 cases hr:rstZ c 65 p []with
 | none=>rw[hr]at h;simp at h
 | some x=>
  obtain⟨q,bad⟩:=x
  exact rstZ_spec 65 p [] q bad hr
theorem restQ_err (c:Cir) (p:List Int):(restQ c p).2.2=0∨(restQ c p).2.2=21:=by
 unfold restQ
 split
 ·exact .inl rfl
 ·exact .inr rfl
theorem nextK_lt {k n:Nat}{p m:Bool}(h2:2<=manyK k∨plusK k=[]) (hn:n<manyK k):(nextK k n p m).1<manyK k:=by
 rcases h2 with h | h
 ·unfold nextK
  repeat' split
  all_goals simp only
  all_goals omega
 ·unfold nextK
  rw[if_pos h]
  exact hn
theorem many_plus:∀k,k<14->2<=manyK k∨plusK k=[]:=by decide
theorem PosOK.step {c:Cir}{pos:List Int}(hk:∀p∈c.parts,0<=p.kind∧p.kind<14) (h:PosOK c.parts pos):PosOK c.parts (stepsZ c pos c.parts.length):=by
 refine⟨stepsZ_len _ _ _,fun i hi=>?_⟩
 have hg:(stepsZ c pos c.parts.length).getD i 0=((nxZ c pos i).1:Int):=by
  unfold stepsZ
  rw[List.getD_eq_getElem?_getD,List.getElem?_map,List.getElem?_range hi]
  rfl
 obtain⟨p,hp⟩:∃p,c.parts[i]?=some p:=⟨_,List.getElem?_eq_getElem hi⟩
 have hpk:=hk p (List.mem_of_getElem? hp)
 have hkk:=kindOf_at hp
 rw[hg]
 have:=nextK_lt (k:=kindOf c.parts i) (n:=posN pos i) (p:=actZ c pos i (plusK (kindOf c.parts i))) (m:=actZ c pos i (minusK (kindOf c.parts i))) (many_plus _ (by rw[hkk];omega)) (by have:=h.2 i hi;unfold posN;omega)
 unfold nxZ
 omega
theorem sort_call:Callable Tryz.prog 79:=⟨_,Tryz.func79,by kernel_rfl,by kernel_rfl⟩
theorem comp_call:Callable Tryz.prog 80:=⟨_,Tryz.func80,by kernel_rfl,by kernel_rfl⟩
theorem sort_c {t e:Nat}{h:Value}{zs:List Int}(hz:zs.length<4611686018427387904):CallS Tryz.prog 79 [.own t h] [(t,.seq h e 1 (zs.map rI))] fun r H'=>r=.tuple []∧H'=[(t,.seq h e 1 ((sortI zs).map rI))]:=
 sortI_s sortLays sort_call hz
theorem comp_c {t e:Nat}{h:Value}{zs:List Int}(hz:zs.length<=9223372036854775807):CallS Tryz.prog 80 [.own t h] [(t,.seq h e 1 (zs.map rI))] fun r H'=>∃h2,r=.own t h2∧H'=[(t,.seq h2 e 1 ((compI zs).map rI))]:=
 compI_s compLays comp_call hz
@[simp] theorem metB_zero (p:Nat->Bool):metB 0 p=[]:=by simp[metB]
theorem metB_len (M:Nat) (p:Nat->Bool):(metB M p).length<=M:=by
 unfold metB
 rw[List.length_map]
 exact Nat.le_trans (List.length_filter_le _ _) (by simp)
theorem rstZ_step {c:Cir}{k:Nat}{p acc:List Int}:rstZ c (k+1) p acc=if stepsZ c p c.parts.length=p then some (p,acc++badZ c p c.parts.length) else rstZ c k (stepsZ c p c.parts.length) (acc++badZ c p c.parts.length):=rfl
theorem Rest_fn (c:Cir) (hc:OkCir c) (pos:List Int) (hp:Sh pos) (h0:presE c pos=0):CallFn Tryz.prog 34 [aCi c,aIs pos] (.tuple [aIs (restQ c pos).1,aIs (restQ c pos).2.1,aI (restQ c pos).2.2]):=by
 have ho:=puOf_s c hc pos hp
 simp only[h0,if_true]at ho
 obtain⟨hz,hpos⟩:=presE_pos h0
 have hr:=cirR_of hz
 have hfew:=hr.few
 have hcl:=(cloneI_o pos (by have:=hpos.1;omega)).fn (by simp)
 rw[rowsD_I]at hcl
 unfold restQ
 obtain⟨R,hR⟩:∃R,rstZ c 65 pos []=R:=⟨_,rfl⟩
 rw[hR]
 refine callFz_of Tryz.func34 rfl Tryz.ntmps34 (rs:=[.tmp 4,.tmp 5,.tmp 6]) rfl (by kernel_rfl) (by simp) (by kernel_rfl) ?_
 simp
 refine ho.mono ?_
 rintro r H' ⟨s,rfl,rfl,h1,h2,h3⟩
 have hst:=fun (p:List Int) (hpo:PosOK c.parts p)=>stepD_s (s:=s) (c:=c) (pos:=p) ⟨h1,hr,h2,h3,by rw[h2];exact hpo⟩
 have hkd:=fun (p:Prt) (hp:p∈c.parts)=>partE_kindZ (hr.part p hp)
 simp
 refine hcl.s ?_
 simp
 refine V.forI (σ:=Value×List Int×List Int) 65 [7] (by simp;exact rfl) (fun i p=>[(4,.nils),(5,.nils),(6,aI 0),(9,aIs p.2.1),(10,.own 73 p.1),(24,aI i)]) (fun i p=>(73,.seq p.1 3 1 (p.2.2.map rI))::s.hp) (fun i p=>R=rstZ c (65-i) p.2.1 p.2.2∧PosOK c.parts p.2.1∧p.2.2.length<=64*i) (.slice none 0 0,pos,[]) ⟨hR.symm,hpos,by simp⟩ (by simp) ⟨by simp;exact rfl,by simp⟩ ?_ ?_
 ·rintro i ⟨h,p,acc⟩ hi ⟨hI,hpo,hl⟩
  dsimp only at hI hpo hl ⊢
  obtain⟨k,hk⟩:∃k,65-i=k+1:=⟨64-i,by omega⟩
  rw[hk,rstZ_step]at hI
  have hk2:65-(i+1)=k:=by omega
  have hs:=hst p hpo
  have hpn:=hpo.step hkd
  have hbl:=badZ_len c p c.parts.length
  have hq:=eqI_fn (stepsZ c p c.parts.length) p (by have:=hpn.1;unfold Sh;omega) (by have:=hpo.1;unfold Sh;omega)
  generalize stepsZ c p c.parts.length=P at *
  generalize badZ c p c.parts.length=B at *
  have hi65:(i:Int)<65:=by omega
  simp[hi65]
  refine (hs.mid [(73,_)] []).mono ?_
  rintro r H' ⟨rfl,rfl⟩
  simp
  intro u
  refine⟨by omega,?_⟩
  refine hq.s ?_
  by_cases hP:P=p
  ·rw[if_pos hP]at hI
   rw[hI]
   subst hP
   simp
   rw[<- List.map_append]
   refine (CallS.frame (H1:=s.hp) (sort_c (t:=73) (e:=3) (zs:=acc++B) (by simp;omega))).mono ?_
   rintro r H' ⟨H2,⟨rfl,rfl⟩,rfl⟩
   simp
   refine (CallS.frame (H1:=s.hp) (comp_c (t:=73) (e:=3) (zs:=sortI (acc++B)) (by rw[sortI_len];simp;omega))).mono ?_
   rintro r H' ⟨H2,⟨h2,rfl,rfl⟩,rfl⟩
   simp
  ·rw[if_neg hP]at hI
   simp[hP]
   rw[<- List.map_append]
   have hk3:64-i=k:=by omega
   exact⟨by omega,u,P,acc++B,⟨by rw[hI,hk3],hpn,by simp;omega⟩,by simp⟩
 ·rintro⟨h,p,acc⟩ ⟨hI,hpo,hl⟩
  simp
  have hn:R=none:=hI
  rw[hn]
  exact⟨rfl,rfl,rfl⟩
theorem press_rest:restQ pressZ [0,0,0,1]=([0,0,1,1],[],0):=by decide +kernel
theorem press_ok0:presE pressZ [0,0,0,1]=0:=by decide +kernel
theorem tryPress_fn:CallFn Tryz.prog 27 [] (aB true):=by
 have hok:OkCir pressZ:=⟨fun _=>by decide,by decide,by decide⟩
 have h2:=Rest_fn pressZ hok [0,0,0,1] (by decide) press_ok0
 rw[press_rest]at h2
 have h3:=eqI_fn [0,0,1,1] [0,0,1,1] (by decide) (by decide)
 rw[decide_eq_true rfl]at h3
 refine callFz_of Tryz.func27 rfl Tryz.ntmps27 (rs:=[.tmp 0]) rfl (by kernel_rfl) (by simp) (by kernel_rfl) ?_
 simp
 refine Press_fn.s ?_
 simp
 refine h2.s ?_
 simp
 refine GCall.fn (aB true) (fun h=>⟨h,h3⟩) ?_
 simp
theorem ctlQ_e (c:Cir):(controlQ c).2=buildE c:=by
 unfold controlQ
 split
 ·rename_i h;rw[h]
 ·rfl
def tcB (c:Cir) (s:State):Bool:=fewB c&&(fewS s&&((buildE c==0)&&(rightC (planZ c).ctl s==0)))
def tcQ (c:Cir) (s:State):Control:=if (fewB c&&fewS s)=true then (controlQ c).1 else noCtl
theorem tcQ_ok {c:Cir}{s:State}(h:tcB c s=true):tcQ c s=(planZ c).ctl∧OkCir c∧fewB c=true∧fewS s=true∧buildE c=0∧rightC (planZ c).ctl s=0:=by
 unfold tcB at h
 simp only[Bool.and_eq_true,beq_iff_eq]at h
 obtain⟨h1,h2,h3,h4⟩:=h
 refine⟨?_,(few_ok h1).1,h1,h2,h3,h4⟩
 unfold tcQ controlQ
 rw[if_pos (by simp[h1,h2]),if_pos h3]
theorem tryCircuit_fn (c:Cir) (s:State) (hl:Sh c.parts) (hl2:Sh c.pipes) (hs:OkSt s):CallFn Tryz.prog 26 [aCi c,aSt s] (.tuple [aC (tcQ c s),aB (tcB c s)]):=by
 have hfw:=CirFew_fn c hl hl2
 have hfs:=FewStates_fn s hs
 unfold tcB tcQ
 cases hf:fewB c with
 | false=>
  rw[hf]at hfw
  refine callFz_of Tryz.func26 rfl Tryz.ntmps26 (rs:=[.cell 4 26,.tmp 5]) rfl (by kernel_rfl) (by simp) (by kernel_rfl) ?_
  simp
  intro b4
  refine hfw.s ?_
  simp
  refine GCall.never (fun h=>h) (aB false) ?_
  simp[noCtl,encC]
 | true=>
  rw[hf]at hfw
  obtain⟨hok,_⟩:=few_ok hf
  cases hf2:fewS s with
  | false=>
   rw[hf2]at hfs
   refine callFz_of Tryz.func26 rfl Tryz.ntmps26 (rs:=[.cell 4 26,.tmp 5]) rfl (by kernel_rfl) (by simp) (by kernel_rfl) ?_
   simp
   intro b4
   refine hfw.s ?_
   simp
   refine GCall.fn (aB false) (fun h=>⟨h,hfs⟩) ?_
   simp[noCtl,encC]
  | true=>
   rw[hf2]at hfs
   have hsm:=few_sm hf2
   have hct:=ControlR30_fn c hok
   have he:=ctlQ_e c
   by_cases hb:buildE c=0
   ·obtain⟨hr,hd,hch,hpl,hc0⟩:=build_zero hb
    obtain⟨hpp,hpm,hoc⟩:=ctl_sizes (plR_of hpl)
    have hcq:controlQ c=((planZ c).ctl,0):=by unfold controlQ;rw[if_pos hb]
    rw[hcq]at hct ⊢
    have hrt:=RightR_fn (planZ c).ctl s hoc hpp hpm hsm
    generalize (planZ c).ctl=ct at *
    refine callFz_of Tryz.func26 rfl Tryz.ntmps26 (rs:=[.cell 4 26,.tmp 5]) rfl (by kernel_rfl) (by simp) (by kernel_rfl) ?_
    simp
    intro b4
    refine hfw.s ?_
    simp
    refine GCall.fn (aB true) (fun h=>⟨h,hfs⟩) ?_
    simp
    refine hct.s ?_
    simp
    intro b6
    refine V.drawX (fun t=>if t=28 then some (.fn (aI (rightC ct s))) else none) (by kernel_rfl) (by kernel_rfl) (by simp) ?_
    simp[hb]
    exact hrt
   ·rw[he]at hct
    generalize (controlQ c).1=ct at *
    refine callFz_of Tryz.func26 rfl Tryz.ntmps26 (rs:=[.cell 4 26,.tmp 5]) rfl (by kernel_rfl) (by simp) (by kernel_rfl) ?_
    simp
    intro b4
    refine hfw.s ?_
    simp
    refine GCall.fn (aB true) (fun h=>⟨h,hfs⟩) ?_
    simp
    refine hct.s ?_
    simp
    intro b6
    refine V.drawX (fun t=>if t=28 then some (.fn (aI 0)) else none) (by kernel_rfl) (by kernel_rfl) (by simp) ?_
    simp[hb]
theorem push_prs {c:Cir}(hr:CirR c) (hd:drvE c.parts (netsZ c)=0) {pos:List Int}(h2:∀i,i<c.parts.length->posN pos i<2) {e:Drv}(he:e∈(planZ c).drives) {t:List UInt8}(ht:t=[50]∨t=[52]) :
  Prs c.parts (netsZ c) pos (netW (netsZ c) ((e.1:Int),t))↔Prs c.parts (netsZ c) pos (netW (netsZ c) ((e.2:Int),[49]))∧(if posN pos e.2=1 then [52] else [50])=t:=by
 obtain⟨q1,k1,_,q2,hbb⟩:=mem_drvN hd he
 have k2:=drvB_kind hbb
 unfold drvB at hbb
 simp only[Bool.and_eq_true]at hbb
 have hpz:pairZ (netsZ c) e.1 e.2 t=true:=by
  rcases ht with e' | e'<;>rw[e']
  ·exact hbb.2.1
  ·exact hbb.2.2
 obtain⟨n,l,f1,f2,f3,f4⟩:=pair_mem hpz
 have n1:=netW_at f1 f3
 have n2:=netW_at f1 f4
 have hne:((e.1:Int),t)≠((e.2:Int),t):=fun e'=>by
  simp only[Prod.mk.injEq,and_true]at e'
  have:e.1=e.2:=by omega
  rw[this]at k1
  omega
 have hpass:passK (kindOf c.parts e.2) (posN pos e.2)=[⟨if posN pos e.2=1 then [52] else [50],[[49]],false⟩]:=by
  unfold passK
  rw[if_pos k2]
 have hin:∀(i:Nat) (u:List UInt8),i<c.parts.length->u∈portsK (kindOf c.parts i)->n=netW (netsZ c) ((i:Int),u)->((i:Int),u)=((e.1:Int),t)∨((i:Int),u)=((e.2:Int),t):=fun i u hi hu hn=>by
  obtain⟨l2,g1,g2⟩:=netW_some hr (port_of hi hu)
  rw[<- hn,f1]at g1
  simp only[Option.some.injEq]at g1
  subst g1
  by_cases e':((i:Int),u)=((e.2:Int),t)
  ·exact .inr e'
  ·exact .inl (two_mem f2 g2 f4 f3 e' hne)
 rw[n1]
 constructor
 ·intro hp
  rcases hp.inv with⟨i,hi,hk,hn⟩|⟨i,y,hi,hy,hn,u,hu,hs⟩
  ·exfalso
   rcases hin i [49] hi (by rw[hk];simp[portsK]) hn with a | a<;>simp only[Prod.mk.injEq]at a<;>rcases ht with rfl | rfl<;>cases a.2
  ·have hk:=(pass_to hy).2.2.2.2.2
   have hto:=(pass_to hy).2.2.2.2.1
   rcases hin i y.to hi (pass_port _ hk _ (h2 i hi) y hy) hn with a | a<;>simp only[Prod.mk.injEq]at a
   ·have:i=e.1:=by omega
    rw[this]at hto
    exact absurd k1 hto
   ·have:i=e.2:=by omega
    subst this
    rw[hpass,List.mem_singleton]at hy
    subst hy
    simp only[List.mem_singleton]at hu
    subst hu
    exact⟨hs,a.2⟩
 ·rintro⟨hs,e'⟩
  rw[<- n2]
  have:=Prs.any (ps:=c.parts) (nets:=netsZ c) (pos:=pos) e.2 ⟨if posN pos e.2=1 then [52] else [50],[[49]],false⟩ [49] q2 (by rw[hpass];simp) (by simp) rfl hs
  simp only at this
  rw[e']at this
  exact this
def pushZ (c:Cir) (pos:List Int) (i:Nat):Int:=
 if (statesZ c.parts (netsZ c) pos).getD (netW (netsZ c) ((i:Int),[52])) 0=2∧¬(statesZ c.parts (netsZ c) pos).getD (netW (netsZ c) ((i:Int),[50])) 0=2 then 1
 else if (statesZ c.parts (netsZ c) pos).getD (netW (netsZ c) ((i:Int),[50])) 0=2∧¬(statesZ c.parts (netsZ c) pos).getD (netW (netsZ c) ((i:Int),[52])) 0=2 then -1
 else 0
theorem push_law {c:Cir}(hr:CirR c) (hd:drvE c.parts (netsZ c)=0) {pos:List Int}(h2:∀i,i<c.parts.length->posN pos i<2) {e:Drv}(he:e∈(planZ c).drives) :
  pushZ c pos e.1=if (statesZ c.parts (netsZ c) pos).getD (netW (netsZ c) ((e.2:Int),[49])) 0=2 then 2*(posN pos e.2:Int)-1 else 0:=by
 obtain⟨_,_,_,q2,_⟩:=mem_drvN hd he
 have hv:=h2 e.2 q2
 have a1:=push_prs hr hd h2 he (t:=[52]) (.inr rfl)
 have a2:=push_prs hr hd h2 he (t:=[50]) (.inl rfl)
 rw[<- states_prs hr h2,<- states_prs hr h2]at a1 a2
 unfold pushZ
 generalize (statesZ c.parts (netsZ c) pos).getD (netW (netsZ c) ((e.1:Int),[52])) 0=A at *
 generalize (statesZ c.parts (netsZ c) pos).getD (netW (netsZ c) ((e.1:Int),[50])) 0=B at *
 generalize (statesZ c.parts (netsZ c) pos).getD (netW (netsZ c) ((e.2:Int),[49])) 0=F at *
 by_cases hp:F=2
 ·have:posN pos e.2=0∨posN pos e.2=1:=by omega
  rcases this with e0 | e0<;>rw[e0]at a1 a2 ⊢<;>simp[hp]at a1 a2<;>simp[hp,a1,a2]
 ·simp[hp]at a1 a2
  simp[hp,a1,a2]
theorem after_all {l:List Int}:∀(ds:List Drv) (p:List Int),p.length=l.length->(∀i,i<l.length->(∀d∈ds,d.2≠i)->p.getD i 0=l.getD i 0)->ds.foldl (fun a d=>a.set d.2 (l.getD d.2 0)) p=l
 | [],p,hl,h=>by
  show p=l
  refine List.ext_getElem hl fun i h1 h2=>?_
  have:=h i h2 (by simp)
  rw[List.getD_eq_getElem?_getD,List.getD_eq_getElem?_getD,List.getElem?_eq_getElem h1,List.getElem?_eq_getElem h2]at this
  exact this
 | d::ds,p,hl,h=>by
  rw[List.foldl_cons]
  refine after_all ds _ (by simpa using hl) fun i hi hne=>?_
  rw[List.getD_eq_getElem?_getD,List.getD_eq_getElem?_getD]
  by_cases e:d.2=i
  ·subst e
   rw[List.getElem?_set_self (by omega)]
   rw[List.getD_eq_getElem?_getD]
   rfl
  ·rw[List.getElem?_set_ne e]
   have:=h i hi fun d' hd'=>by
    rcases List.mem_cons.1 hd' with rfl | hd'
    ·exact e
    ·exact hne d' hd'
   rw[List.getD_eq_getElem?_getD,List.getD_eq_getElem?_getD]at this
   exact this
def PosL (l:List Int):Prop:=∀i,l.getD i 0=(posN l i:Nat)
theorem pos_l (p:Pln) (s:State):PosL (p.pos s):=fun i=>by
 unfold posN Pln.pos
 rw[List.getD_eq_getElem?_getD,List.getElem?_map]
 cases h:(List.range p.ps.length)[i]? with
 | none=>rfl
 | some j=>
  simp only[Option.map_some,Option.getD_some,numB]
  split<;>rfl
theorem steps_l (c:Cir) (p:List Int) (n:Nat):PosL (stepsZ c p n):=fun i=>by
 unfold posN stepsZ
 rw[List.getD_eq_getElem?_getD,List.getElem?_map]
 cases h:(List.range n)[i]? with
 | none=>rfl
 | some j=>
  simp only[Option.map_some,Option.getD_some]
  omega
theorem stp_l {c:Cir}{p:List Int}(h:PosL p):∀n,PosL (stpN c p n)
 | 0=>h
 | n+1=>steps_l c _ _
theorem stp_len {c:Cir}{p:List Int}(h:p.length=c.parts.length):∀n,(stpN c p n).length=c.parts.length
 | 0=>h
 | n+1=>by
  show (stepsZ c _ _).length=_
  unfold stepsZ
  simp
theorem pos_len (c:Cir) (s:State):((planZ c).pos s).length=c.parts.length:=by
 unfold Pln.pos
 rw[List.length_map,List.length_range]
 rfl
theorem rest_all {c:Cir}(hb:buildE c=0) {s:State}(hR:rightC (planZ c).ctl s=0) (h12:∀i,i<c.parts.length->kindOf c.parts i≠12) {N M:Nat}(hl:stepsZ c (stpN c ((planZ c).pos s) N) c.parts.length=stpN c ((planZ c).pos s) N)
  (ht:roundS (planZ c).ctl (rndN (planZ c).ctl s M)=rndN (planZ c).ctl s M) :
  (planZ c).drives.foldl (fun a d=>a.set d.2 ((stpN c ((planZ c).pos s) N).getD d.2 0)) ((planZ c).pos (rndN (planZ c).ctl s M))=stpN c ((planZ c).pos s) N:=by
 have hagr:=rest_agr hb hR h12 hl ht
 have hl1:=stp_len (pos_len c s) N
 refine after_all _ _ (by rw[hl1,pos_len]) fun i hi hne=>?_
 rw[hl1]at hi
 rw[pos_l _ _ i,stp_l (pos_l _ _) N i]
 have hdn:drivenZ (planZ c).drives i=none:=by
  unfold drivenZ
  rw[List.findIdx?_eq_none_iff]
  intro d hd
  simpa using hne d hd
 rw[hagr.free i hi hdn]
theorem sh_of {α:Type}{l:List α}(h:l.length<=1000000):Sh l:=by unfold Sh;omega
theorem SameStates_l (a b:State) (ha:SmS a) (hb:SmS b):CallFn Tryz.prog 229 [aSt a,aSt b] (aB (sameSt a b)):=by
 have c1:=eqI_fn a.ends b.ends (sh_of ha.ends) (sh_of hb.ends)
 have c2:=eqB_fn a.valves b.valves (sh_of ha.valves) (sh_of hb.valves)
 have c3:=eqB_fn a.inputs b.inputs (sh_of ha.inputs) (sh_of hb.inputs)
 have c4:=eqB_fn a.values b.values (sh_of ha.values) (sh_of hb.values)
 have c5:=eqI_fn a.timers b.timers (sh_of ha.timers) (sh_of hb.timers)
 refine callFz_of Tryz.func229 rfl Tryz.ntmps229 (rs:=[.tmp 4]) rfl (by kernel_rfl) (by simp) (by kernel_rfl) ?_
 unfold sameSt
 generalize decide (a.ends=b.ends)=b1 at *
 generalize decide (a.valves=b.valves)=b2 at *
 generalize decide (a.inputs=b.inputs)=b3 at *
 generalize decide (a.values=b.values)=b4 at *
 generalize decide (a.timers=b.timers)=b5 at *
 simp
 refine c1.s ?_
 simp
 refine GCall.fn (aB b2) (fun _=>⟨by first | trivial | assumption,c2⟩) ?_
 simp
 refine GCall.fn (aB b3) (fun _=>⟨by first | trivial | assumption,c3⟩) ?_
 simp
 refine GCall.fn (aB b4) (fun _=>⟨by first | trivial | assumption,c4⟩) ?_
 simp
 refine GCall.fn (aB b5) (fun _=>⟨by first | trivial | assumption,c5⟩) ?_
 simp
theorem round_s {bm:Nat}{c:Control}{g:Nat->Value}{s:State}(hc:OkC c) (hf:Fine c) (hsh:shapeS c s):CallS Tryz.prog 154 [.ptr 70 bm 0] (mcH bm c g s)
  fun r H'=>r=.tuple [aB (!decide (roundS c s=s)),aIs (roundB c s)]∧H'=mcH bm c g (roundS c s):=by
 have hsm:=sm_of hf hsh
 have ha:=hf.act
 have hin:=hf.inp
 have hsg:=hf.sig
 have hgs:=gates_shape hsh
 have hgm:=sm_of hf hgs
 refine CallS.dropP (K:=fun r H'=>r=.tuple [aB (!decide (roundS c s=s)),aIs (roundB c s)]∧subP (mcH bm c g (roundS c s)) H') ?_ (fun _ _ h=>⟨_,h.2,h.1,rfl⟩)
 refine CallS.frzKeep (K:=fun r H'=>∃h7:Value,r=.tuple [aB (!decide (roundS c s=s)),.own 72 h7]∧subP ((72,.seq h7 3 1 ((roundB c s).map rI))::mcH bm c g (roundS c s)) H') ?_ ?_
 ·refine callS_of Tryz.func154 rfl Tryz.ntmps154 (rs:=[.tmp 2,.tmp 3]) rfl (by kernel_rfl) (by simp) (by kernel_rfl) ?_
  simp[mcH]
  refine (copied_st s hsm).lend 80 (by simp[hget,packA,encSt]) fun h4=>?_
  simp[stA,stH]
  intro b4
  refine ((CallS.frame (H1:=[(4,.box b4 [.own 80 (h4 0),.own 81 (h4 1),.own 82 (h4 2),.own 83 (h4 3),.own 84 (h4 4)]),(80,.seq (h4 0) 3 1 (s.ends.map rI)),(81,.seq (h4 1) 4 1 (s.valves.map rB)),(82,.seq (h4 2) 4 1 (s.inputs.map rB)),(83,.seq (h4 3) 4 1 (s.values.map rB)),(84,.seq (h4 4) 3 1 (s.timers.map rI))]) (mgates_s (bm:=bm) (g:=g) hc hf hsh)).perm List.perm_append_comm).mono ?_
  rintro r H' ⟨H2,rfl,rfl⟩
  have eR:roundS c s=onceS c (gatesP c s):=rfl
  have eB:roundB c s=onceB c (gatesP c s) c.signals.length:=rfl
  have eE:(gatesP c s).ends=s.ends∧(gatesP c s).valves=s.valves∧(gatesP c s).inputs=s.inputs∧(gatesP c s).timers=s.timers:=⟨rfl,rfl,rfl,rfl⟩
  rw[eR,eB]
  generalize gatesP c s=G at *
  obtain⟨e1,e2,e3,e5⟩:=eE
  simp[mcH]
  refine lines_s (bm:=bm) (c:=c) (g:=g) (s:=G) hgm 71 ⟨[(4,.box b4 [.own 80 (h4 0),.own 81 (h4 1),.own 82 (h4 2),.own 83 (h4 3),.own 84 (h4 4)]),(80,.seq (h4 0) 3 1 (s.ends.map rI)),(81,.seq (h4 1) 4 1 (s.valves.map rB)),(82,.seq (h4 2) 4 1 (s.inputs.map rB)),(83,.seq (h4 3) 4 1 (s.values.map rB)),(84,.seq (h4 4) 3 1 (s.timers.map rI))],by simp⟩ fun h5=>?_
  simp
  refine rules_fn.s ?_
  simp
  intro b6
  have hL:=valuesOf_length hgs
  refine V.forI (σ:=Value) c.signals.length [0,2,3,4,5,6,25,26] (by simp;exact rfl) (fun i h7=>[(27,aI i),(7,.own 72 h7)]) (fun i h7=>[(72,.seq h7 3 1 ((onceB c G i).map rI)),(63,.seq (g 3) 4 1 (((newV c G).take i++G.values.drop i).map rB)),(64,.seq (g 4) 3 1 (((newT c G).take i++G.timers.drop i).map rI))]) (fun _ _=>True) (.slice none 0 0) trivial (by simp) ⟨by simp;exact rfl,by simp[onceB,hget,hdel]⟩ ?_ ?_
  ·rintro i h7 hi -
   have hxo:c.signals[i]?=some c.signals[i]:=List.getElem?_eq_getElem hi
   have hon:=(hf.on hxo).2
   obtain hk | hk | hk:c.signals[i].kind=0∨c.signals[i].kind=1∨c.signals[i].kind=2:=by omega
   ·exact vc_of_part rfl (round_b0 hc hf hgs hxo hk)
   ·exact vc_of_part rfl (round_b1 hc hf hgs hxo hk)
   ·exact vc_of_part rfl (round_b2 hc hf hgs hxo hk)
  ·rintro h7 -
   have e63:(newV c G).take c.signals.length++G.values.drop c.signals.length=newV c G:=by
    rw[List.take_of_length_le (by rw[newV_len];exact Nat.le_refl _),List.drop_of_length_le (by rw[hgs.2.2.2.1];exact Nat.le_refl _),List.append_nil]
   have e64:(newT c G).take c.signals.length++G.timers.drop c.signals.length=newT c G:=by
    rw[List.take_of_length_le (by rw[newT_len];exact Nat.le_refl _),List.drop_of_length_le (by rw[hgs.2.2.2.2];exact Nat.le_refl _),List.append_nil]
   have hss:=SameStates_l s (onceS c G) hsm (sm_of hf (once_shape hgs))
   rw[same_eq]at hss
   have eO:onceS c G=⟨G.ends,G.valves,G.inputs,newV c G,newT c G⟩:=rfl
   have ed:decide (onceS c G=s)=decide (s=onceS c G):=by
    congr 1
    exact propext ⟨Eq.symm,Eq.symm⟩
   rw[ed]
   rw[e63,e64]
   generalize decide (s=onceS c G)=dd at hss
   rw[eO]at hss ⊢
   generalize newV c G=nv at *
   generalize newT c G=nt at *
   simp
   refine V.drawX (fun q=>if q=102 then some (.ro (aB dd)) else none) (by kernel_rfl) (by kernel_rfl) (by simp) ?_
   simp
   refine⟨hss.lend (by simp[hget,packA,encSt]) (by simp) ⟨rfl,rfl⟩,?_⟩
   refine subP_of ?_
   simp[mcH]
 ·rintro r H' ⟨h7,rfl,K,k1,k2⟩
  obtain⟨R,hR⟩:=k1.exists_perm_append
  refine⟨[(72,.seq h7 3 1 ((roundB c s).map rI))],mcH bm c g (roundS c s)++R,?_,?_,?_,_,List.sublist_append_left _ _,List.Perm.refl _⟩
  ·exact ((k2.append_right R).symm.trans hR.symm)
  ·simp[frz]
  ·simp[frz,hget]
theorem courseP_step {c:Control}{k:Nat}{n:Int}{s:State}{acc:List Int}:courseP c (k+1) n s acc=if roundS c s=s then some (s,acc++roundB c s,n) else courseP c k (n+1) (roundS c s) (acc++roundB c s):=rfl
theorem settle_s {bm:Nat}{c:Control}{g:Nat->Value}{s:State}(hc:OkC c) (hf:Fine c) (hsh:shapeS c s):CallS Tryz.prog 82 [.ptr 70 bm 0] (mcH bm c g s)
  fun r H'=>∃s',H'=mcH bm c g s'∧((courseP c 65 0 s []=none∧r=.tuple [aI 0,aIs [],aI 21])∨∃bad n,courseP c 65 0 s []=some (s',bad,n)∧r=.tuple [aI n,aIs (compI (sortI bad)),aI 0]):=by
 have ha:=hf.act
 have hin:=hf.inp
 have hsg:=hf.sig
 obtain⟨R,hR⟩:∃R,courseP c 65 0 s []=R:=⟨_,rfl⟩
 rw[hR]
 refine CallS.dropP (K:=fun r H'=>∃s',((R=none∧r=.tuple [aI 0,aIs [],aI 21])∨∃bad n,R=some (s',bad,n)∧r=.tuple [aI n,aIs (compI (sortI bad)),aI 0])∧subP (mcH bm c g s') H') ?_ (fun r H' h=>by
  obtain⟨s',h1,h2⟩:=h
  exact⟨_,h2,s',rfl,h1⟩)
 refine CallS.frzKeep (K:=fun r H'=>∃s',((R=none∧r=.tuple [aI 0,.nils,aI 21])∧subP (mcH bm c g s') H')∨∃bad n h,R=some (s',bad,n)∧r=.tuple [aI n,.own 73 h,aI 0]∧subP ((73,.seq h 3 1 ((compI (sortI bad)).map rI))::mcH bm c g s') H') ?_ ?_
 ·refine callS_of Tryz.func82 rfl Tryz.ntmps82 (rs:=[.tmp 2,.tmp 3,.tmp 4]) rfl (by kernel_rfl) (by simp) (by kernel_rfl) ?_
  simp
  refine V.forI (σ:=Value×State×List Int) 65 [0] (by simp;exact rfl) (fun i p=>[(2,aI 0),(3,.nils),(4,aI 0),(5,.own 73 p.1),(6,aI i)]) (fun i p=>(73,.seq p.1 3 1 (p.2.2.map rI))::mcH bm c g p.2.1) (fun i p=>R=courseP c (65-i) i p.2.1 p.2.2∧shapeS c p.2.1∧p.2.2.length<=64*i) (.slice none 0 0,s,[]) ⟨hR.symm,hsh,by simp⟩ (by simp) ⟨by simp[mcH];exact rfl,by simp[mcH,hget,hdel]⟩ ?_ ?_
  ·rintro i ⟨h,s1,acc⟩ hi ⟨hI,hs1,hl⟩
   dsimp only at hI hs1 hl ⊢
   obtain⟨k,hk⟩:∃k,65-i=k+1:=⟨64-i,by omega⟩
   rw[hk,courseP_step]at hI
   have hk2:65-(i+1)=k:=by omega
   have hi64:(i:Int)<=64:=by omega
   simp[hi64]
   refine ((CallS.frame (H1:=[(73,.seq h 3 1 (acc.map rI))]) (round_s (bm:=bm) (g:=g) hc hf hs1)).perm List.perm_append_comm).mono ?_
   rintro r H' ⟨H2,⟨rfl,rfl⟩,rfl⟩
   have hrl:=onceB_len c (gatesP c s1) c.signals.length
   rw[show onceB c (gatesP c s1) c.signals.length=roundB c s1 from rfl]at hrl
   have hs2:=round_shape hs1
   by_cases hr:roundS c s1=s1
   ·rw[if_pos hr]at hI
    simp[hr,mcH]
    intro u
    refine⟨by omega,?_⟩
    rw[<- List.map_append]
    refine (CallS.frameL (H1:=mcH bm c g s1) (sort_c (t:=73) (e:=3) (zs:=acc++roundB c s1) (by simp;omega))).mono ?_
    rintro r H' ⟨H2,⟨rfl,rfl⟩,rfl⟩
    simp[mcH]
    refine (CallS.frameL (H1:=mcH bm c g s1) (comp_c (t:=73) (e:=3) (zs:=sortI (acc++roundB c s1)) (by rw[sortI_len];simp;omega))).mono ?_
    rintro r H' ⟨H2,⟨h2,rfl,rfl⟩,rfl⟩
    simp[mcH]
    refine⟨s1,_,_,hI,h2,⟨rfl,rfl⟩,subP_of ?_⟩
    simp
   ·rw[if_neg hr]at hI
    simp[hr,mcH]
    have hk3:64-i=k:=by omega
    rw[hk3]
    exact fun u=>⟨by omega,by omega,u,roundS c s1,acc++roundB c s1,⟨hI,hs2,by simp;omega⟩,rfl,⟨rfl,by simp⟩,rfl,rfl,rfl,rfl,rfl⟩
  ·rintro⟨h,s1,acc⟩ ⟨hI,hs1,hl⟩
   simp
   refine⟨by rw[hI];rfl,s1,subP_of ?_⟩
   simp
 ·rintro r H' ⟨s',⟨⟨h1,rfl⟩,K,k1,k2⟩|⟨bad,n,h,h1,rfl,K,k1,k2⟩⟩
  ·exact⟨[],H',by simp,by simp[frz,frzs],s',.inl ⟨h1,by simp[frz,frzs]⟩,K,k1,k2⟩
  ·obtain⟨R2,hR2⟩:=k1.exists_perm_append
   refine⟨[(73,.seq h 3 1 ((compI (sortI bad)).map rI))],mcH bm c g s'++R2,(k2.append_right R2).symm.trans hR2.symm,by simp[frz,frzs],s',.inr ⟨bad,n,h1,by simp[frz,frzs,hget]⟩,_,List.sublist_append_left _ _,List.Perm.refl _⟩
theorem asc_far {c:Cir}(hr:CirR c):∀(d i:Nat) (p q:Prt),c.parts[i]?=some p->c.parts[i+d+1]?=some q->ltB p.name q.name=true
 | 0,i,p,q,h1,h2=>hr.asc i p q h1 h2
 | d+1,i,p,q,h1,h2=>by
  obtain⟨m,hm⟩:∃m,c.parts[i+d+1]?=some m:=by
   have:=(List.getElem?_eq_some_iff.1 h2).1
   exact⟨_,List.getElem?_eq_getElem (by omega)⟩
  exact ltB_trans (asc_far hr d i p m h1 hm) (hr.asc _ m q hm h2)
theorem find_self {c:Cir}(hr:CirR c) {i:Nat}{q:Prt}(hq:c.parts[i]?=some q):findN c.parts q.name=some i:=by
 obtain⟨hi,he⟩:=List.getElem?_eq_some_iff.1 hq
 unfold findN
 rw[List.findIdx?_eq_some_iff_getElem]
 refine⟨hi,by simp[he],fun j hj=>?_⟩
 have:=asc_far hr (i-j-1) j c.parts[j] q (List.getElem?_eq_getElem (by omega)) (by rw[show j+(i-j-1)+1=i by omega];exact hq)
 intro e
 rw[beq_iff_eq]at e
 rw[e]at this
 have h2:=ltB_asymm this
 rw[this]at h2
 cases h2
theorem rndN_step (ct:Control) (s:State):∀n,rndN ct (roundS ct s) n=rndN ct s (n+1)
 | 0=>rfl
 | n+1=>by
  show roundS ct (rndN ct (roundS ct s) n)=roundS ct (rndN ct s (n+1))
  rw[rndN_step ct s n]
theorem courseP_rnd {ct:Control}:∀(k:Nat) (n:Int) (s:State) (acc:List Int) (x:State) (bad:List Int) (m:Int),courseP ct k n s acc=some (x,bad,m)->∃N,x=rndN ct s N∧roundS ct x=x
 | 0,_,_,_,_,_,_,h=>by cases h
 | k+1,n,s,acc,x,bad,m,h=>by
  rw[courseP_step]at h
  split at h
  ·rename_i he
   simp only[Option.some.injEq,Prod.mk.injEq]at h
   obtain⟨rfl,_⟩:=h
   exact⟨0,rfl,he⟩
  ·obtain⟨N,h1,h2⟩:=courseP_rnd k _ _ _ x bad m h
   exact⟨N+1,by rw[h1,rndN_step],h2⟩
theorem pres_pos {c:Cir}(hb:buildE c=0) {s:State}(hz:rightC (planZ c).ctl s=0):presE c ((planZ c).pos s)=0:=by
 obtain⟨hr,hd,_,_,hc0⟩:=build_zero hb
 have h:=PgI.of hb hz
 have hps:(planZ c).ps=c.parts:=rfl
 refine presE_good hc0 (pos_len c s) fun i hi=>?_
 have h1:=posN_many h hi
 unfold posOkB
 have h2:=pos_l (planZ c) s i
 rw[decide_eq_true_eq]
 omega
def findQ (c:Cir) (t:List UInt8):Int×Int:=if cirE c=0 then (match findN c.parts t with
 | some i=>((i:Int),0)
 | none=>(0,6)) else (0,cirE c)
theorem CirFind_fn (c:Cir) (hc:OkCir c) (t:List UInt8):CallFn Tryz.prog 75 [aCi c,aT t] (.tuple [aI (findQ c t).1,aI (findQ c t).2]):=by
 have hch:=CheckZ_fn c hc.names hc.parts hc.pipes
 have hfi:=findZ_fn c t hc.parts
 unfold findQ
 obtain⟨ps,l⟩:=c
 simp only at hfi ⊢
 refine callFz_of Tryz.func75 rfl Tryz.ntmps75 (rs:=[.tmp 4,.tmp 5]) rfl (by kernel_rfl) (by simp) (by kernel_rfl) ?_
 simp
 refine hch.s ?_
 by_cases h:cirE ⟨ps,l⟩=0
 ·simp[h]
  refine hfi.s ?_
  cases hf:findN ps t with
  | none=>simp[idxI,h]
  | some i=>simp[idxI,h]
 ·simp[h]
theorem indexed1_fn (c:Cir) (a:PortZ) (hx:Sh c.parts):CallFn Tryz.prog 92 [aCi c,.dat (.sl [encPo a])] (aI (if inPort c.parts a=true then 0 else 2)):=by
 obtain⟨ps,l⟩:=c
 simp only at hx ⊢
 unfold inPort
 simp only[decide_eq_true_eq]
 refine callFz_of Tryz.func92 rfl Tryz.ntmps92 (rs:=[.tmp 4]) rfl (by kernel_rfl) (by simp) (by kernel_rfl) ?_
 simp
 refine V.forI (σ:=Unit) 1 [2,7,8] (by simp;exact rfl) (fun i _=>[(4,aI 0),(9,aI i)]) (fun _ _=>[]) (fun i _=>1<=i->0<=a.1∧a.1<ps.length) () (by simp) (by simp) ⟨by simp;exact rfl,by simp⟩ ?_ ?_
 ·rintro i-hi hI
  obtain rfl:i=0:=by omega
  simp
  intros
  omega
 ·rintro-hI
  have:=hI (by omega)
  simp[*]
theorem exists1_fn (c:Cir) (a:PortZ) (hx:Sh c.parts) (hk:∀p∈c.parts,0<=p.kind∧p.kind<14) (ha:inPort c.parts a=true) :
  CallFn Tryz.prog 93 [aCi c,.dat (.sl [encPo a])] (aI (if hasPort c.parts a=true then 0 else 6)):=by
 obtain⟨ps,l⟩:=c
 simp only at hx hk ha ⊢
 obtain⟨a1,a2⟩:=a
 unfold inPort at ha
 simp only[decide_eq_true_eq]at ha
 obtain⟨i,rfl⟩:∃i:Nat,a1=i:=⟨a1.toNat,by omega⟩
 have hi:i<ps.length:=by omega
 obtain⟨p,hp⟩:∃p,ps[i]=p:=⟨_,rfl⟩
 have hpo:ps[i]?=some p:=by rw[List.getElem?_eq_getElem hi,hp]
 have f1:=portsZ_fn p (hk p (List.mem_of_getElem? hpo))
 have g1:=containsP_fn p.kind.toNat a2
 have h1:hasPort ps ((i:Int),a2)=hasK p.kind.toNat a2:=by simp[hasPort,hpo]
 rw[h1]
 generalize hasK p.kind.toNat a2=z1 at *
 generalize portsK p.kind.toNat=F1 at *
 refine callFz_of Tryz.func93 rfl Tryz.ntmps93 (rs:=[.tmp 4]) rfl (by kernel_rfl) (by simp) (by kernel_rfl) ?_
 simp
 refine V.forI (σ:=Unit) 1 [2,7,8] (by simp;exact rfl) (fun i _=>[(4,aI 0),(9,aI i)]) (fun _ _=>[]) (fun i _=>1<=i->z1=true) () (by simp) (by simp) ⟨by simp;exact rfl,by simp⟩ ?_ ?_
 ·rintro n-hn hI
  obtain rfl:n=0:=by omega
  simp
  intro b6
  refine V.drawX (fun t=>if t=19 then some (.fn (aTs F1)) else if t=22 then some (.fn (aB z1)) else none) (by kernel_rfl) (by kernel_rfl) (by simp) ?_
  simp[hi,hp,hpo]
  exact⟨f1,g1⟩
 ·rintro-hI
  have:=hI (by omega)
  simp[*]
theorem net1_fn (l:List PortZ) (p:PortZ) (hx:Sh l):CallFn Tryz.prog 94 [.dat (.sl (l.map encPo)),.rptr (encPo p)] (aB (l.any (p==·))):=by
 have h:=contPo_fn l p hx
 refine callFz_of Tryz.func94 rfl Tryz.ntmps94 (rs:=[.tmp 3]) rfl (by kernel_rfl) (by simp) (by kernel_rfl) ?_
 simp
 refine h.s ?_
 simp
theorem idxNe_fn (ns:List (List PortZ)) (p:List PortZ->Bool) (f:FuncId) (first caps:List A) (hx:Sh ns) (hp:∀l∈ns,CallFn Tryz.prog f (first++[.dat (.sl (l.map encPo))]++caps) (aB (p l))) :
  CallFn Tryz.prog 18 [aNets ns,.fn f first caps] (aI (idxI (ns.findIdx? p))):=by
 refine callFz_of Tryz.func18 rfl Tryz.ntmps18 (rs:=[.tmp 4]) rfl (by kernel_rfl) (by simp) (by kernel_rfl) ?_
 simp
 refine V.forI (σ:=Unit) ns.length [0,1,7] (by simp;exact rfl) (fun i _=>[(8,aI i)]) (fun _ _=>[]) (fun i _=>NoF p (ns.take i)) () (by simp) (by simp) ⟨by simp;exact rfl,by simp⟩ ?_ ?_
 ·rintro i-hi hI
  obtain⟨y,hy⟩:∃y,ns[i]=y:=⟨_,rfl⟩
  have h1:ns[i]?=some y:=by rw[List.getElem?_eq_getElem hi,hy]
  have hs:=findIdx_step (p:=p) hI h1
  have hc:=hp y (List.mem_of_getElem? h1)
  simp only[List.append_assoc,List.singleton_append]at hc
  simp[hi,hy]
  refine hc.s ?_
  cases e:p y
  ·simp
   exact⟨by omega,hs.1 e⟩
  ·rw[hs.2 e]
   simp
 ·rintro-hI
  rw[findIdx_none hI]
  simp
theorem nets_sh {c:Cir}(h:CirR c):(netsZ c).length<=448∧∀l∈netsZ c,l.length<=448:=⟨netsZ_few h,fun l hl=>(netsZ_net h l hl).1⟩
theorem CirNet_fn (c:Cir) (hc:OkCir c) (hz:cirE c=0) (p:PortZ) (hp:p∈allP c.parts):CallFn Tryz.prog 42 [aCi c,.record (encPo p)] (.tuple [aI (netW (netsZ c) p),aI 0]):=by
 have hch:=CheckZ_fn c hc.names hc.parts hc.pipes
 have hr:=cirR_of hz
 have hkinds:∀p∈c.parts,0<=p.kind∧p.kind<14:=fun p hp=>partE_kindZ (hr.part p hp)
 obtain⟨ha1,ha2⟩:=mem_allP.1 hp
 have hix:=indexed1_fn c p hc.parts
 have hex:=exists1_fn c p hc.parts hkinds ha1
 have hnn:=nets_fn c hr
 obtain⟨n1,n2⟩:=nets_sh hr
 have hid:=idxNe_fn (netsZ c) (fun l=>l.any (p==·)) 94 [] [.rptr (encPo p)] (by unfold Sh;omega) fun l hl=>net1_fn l p (by have:=n2 l hl;unfold Sh;omega)
 have hw:(netsZ c).findIdx? (fun l=>l.any (p==·))=some (netW (netsZ c) p):=by
  obtain⟨l,hl,hm⟩:=netW_some hr hp
  unfold netW
  rw[List.findIdx?_eq_guard_findIdx_lt]
  simp only[Option.guard_eq_some_iff]
  exact⟨trivial,by have:=(List.getElem?_eq_some_iff.1 hl).1;simpa [netW]using this⟩
 rw[hz]at hch
 rw[ha1]at hix
 rw[ha2]at hex
 rw[hw]at hid
 generalize netW (netsZ c) p=w at *
 generalize netsZ c=ns at *
 obtain⟨ps,l⟩:=c
 obtain⟨p1,p2⟩:=p
 refine callFz_of Tryz.func42 rfl Tryz.ntmps42 (rs:=[.tmp 4,.tmp 5]) rfl (by kernel_rfl) (by simp) (by kernel_rfl) ?_
 simp
 refine hch.s ?_
 simp
 refine hix.s ?_
 simp
 refine hex.s ?_
 simp
 refine hnn.s ?_
 simp
 refine hid.s ?_
 simp[idxI]
theorem At_fn (c:Cir) (hc:OkCir c) (pos:List Int) (hp:Sh pos) (h0:presE c pos=0) (p:PortZ) (hpp:p∈allP c.parts):CallFn Tryz.prog 31 [aCi c,aIs pos,.record (encPo p)] (.tuple [aI ((statesZ c.parts (netsZ c) pos).getD (netW (netsZ c) p) 0),aI 0]):=by
 have ho:=puOf_s c hc pos hp
 simp only[h0,if_true]at ho
 obtain⟨hz,hpos⟩:=presE_pos h0
 have hr:=cirR_of hz
 have hnet:=CirNet_fn c hc hz p hpp
 have hw:netW (netsZ c) p<(statesZ c.parts (netsZ c) pos).length:=by
  obtain⟨l,hl,_⟩:=netW_some hr hpp
  rw[states_len]
  exact (List.getElem?_eq_some_iff.1 hl).1
 have hst:=fun (s:PuS) (h1:s.OK) (h2:s.ps=c.parts) (h3:s.ns=netsZ c)=>statesD_s (s:=s) (c:=c) (pos:=pos) ⟨h1,hr,h2,h3,by rw[h2];exact hpos⟩
 obtain⟨e1,e2⟩:=getD_at hw
 generalize hW:netW (netsZ c) p=w at *
 have hsl:=states_len c.parts (netsZ c) pos
 have hnf:=netsZ_few hr
 obtain⟨p1,p2⟩:=p
 refine callFz_of Tryz.func31 rfl Tryz.ntmps31 (rs:=[.tmp 6,.tmp 7]) rfl (by kernel_rfl) (by simp) (by kernel_rfl) ?_
 simp
 refine ho.mono ?_
 rintro r H' ⟨s,rfl,rfl,h1,h2,h3⟩
 have hs:=hst s h1 h2 h3
 rw[h2,h3]at hs
 simp
 refine hnet.s ?_
 simp
 refine (hs.mid [] []).mono ?_
 rintro r H' ⟨rfl,rfl⟩
 generalize statesZ c.parts (netsZ c) pos=st at *
 generalize st.getD w 0=z at *
 simp[hw,e1,e2]
theorem Push_fn (c:Cir) (hc:OkCir c) (pos:List Int) (hp:Sh pos) (h0:presE c pos=0) (i:Nat) (q:Prt) (hq:c.parts[i]?=some q) (h1:q.kind=1) (hf:findN c.parts q.name=some i) :
  CallFn Tryz.prog 30 [aCi c,aIs pos,aT q.name] (.tuple [aI (pushZ c pos i),aI 0]):=by
 have ho:=puOf_s c hc pos hp
 simp only[h0,if_true]at ho
 obtain⟨hz,hpos⟩:=presE_pos h0
 have hr:=cirR_of hz
 have hfi:=CirFind_fn c hc q.name
 unfold findQ at hfi
 rw[if_pos hz,hf]at hfi
 simp only at hfi
 obtain⟨hil,hiq⟩:=List.getElem?_eq_some_iff.1 hq
 have hk:kindOf c.parts i=1:=by
  have:=kindOf_at hq
  omega
 have ha:∀t,t=[52]∨t=[50]->((i:Int),t)∈allP c.parts:=fun t ht=>port_of hil (by rw[hk];rcases ht with rfl | rfl<;>decide)
 have hw:∀t,t=[52]∨t=[50]->netW (netsZ c) ((i:Int),t)<(statesZ c.parts (netsZ c) pos).length:=fun t ht=>by
  obtain⟨l,hl,_⟩:=netW_some hr (ha t ht)
  rw[states_len]
  exact (List.getElem?_eq_some_iff.1 hl).1
 have hst:=fun (s:PuS) (h1:s.OK) (h2:s.ps=c.parts) (h3:s.ns=netsZ c)=>statesD_s (s:=s) (c:=c) (pos:=pos) ⟨h1,hr,h2,h3,by rw[h2];exact hpos⟩
 have hnt:=fun (s:PuS) (h1:s.OK) (h2:s.ps=c.parts) (t:List UInt8) (ht:t=[52]∨t=[50])=>puNet_s h1 (i:=i) (t:=t) (by rw[h2];exact ha t ht)
 have w4:=hw [52] (.inl rfl)
 have w2:=hw [50] (.inr rfl)
 obtain⟨a1,a2⟩:=getD_at w4
 obtain⟨b1,b2⟩:=getD_at w2
 have hsl:=states_len c.parts (netsZ c) pos
 have hnf:=netsZ_few hr
 unfold pushZ
 refine callFz_of Tryz.func30 rfl Tryz.ntmps30 (rs:=[.tmp 6,.tmp 7]) rfl (by kernel_rfl) (by simp) (by kernel_rfl) ?_
 simp
 refine ho.mono ?_
 rintro r H' ⟨s,rfl,rfl,h1',h2,h3⟩
 have hs:=hst s h1' h2 h3
 have n4:=hnt s h1' h2 [52] (.inl rfl)
 have n2:=hnt s h1' h2 [50] (.inr rfl)
 rw[h2,h3]at hs
 rw[h3]at n4 n2
 simp
 refine hfi.s ?_
 obtain⟨qk,qn,qd⟩:=q
 simp only at h1
 subst h1
 simp[hil,hiq,hq]
 refine (hs.mid [] []).mono ?_
 rintro r H' ⟨rfl,rfl⟩
 generalize netW (netsZ c) ((i:Int),[52])=x4 at *
 generalize netW (netsZ c) ((i:Int),[50])=x2 at *
 generalize statesZ c.parts (netsZ c) pos=st at *
 generalize st.getD x4 0=z4 at *
 generalize st.getD x2 0=z2 at *
 simp
 refine V.drawX (fun t=>if t=47 then some (.ro (aI x4)) else if t=54 then some (.ro (aI x2)) else none) (by kernel_rfl) (by kernel_rfl) (by simp) ?_
 simp[w4,w2,a1,a2,b1,b2]
 refine⟨n4,n2,?_⟩
 by_cases c4:z4=2<;>by_cases c2:z2=2<;>simp[c4,c2]
theorem positions_ok {c:Cir}(hok:OkCir c) {s:State}(hsm:SmS s) (hb:buildE c=0) (hz:rightC (planZ c).ctl s=0):CallFn Tryz.prog 28 [aCi c,aSt s] (.tuple [aIs ((planZ c).pos s),aI 0]):=by
 have h:=Positions_fn c hok s hsm
 have hpq:positionsQ c s=((planZ c).pos s,0):=by
  unfold positionsQ
  rw[if_neg (by simp[hb]),if_neg (by simp[hz])]
 rwa [hpq]at h
theorem drives_okF {c:Cir}(hok:OkCir c) (hb:buildE c=0):CallFn Tryz.prog 29 [aCi c] (.tuple [.dat (.sl ((planZ c).drives.map encDr)),aI 0]):=by
 have h:=Drives_fn c hok
 obtain⟨hr,hd,hch,hpl,hc0⟩:=build_zero hb
 have hdq:drivesQ c=((planZ c).drives,0):=by
  unfold drivesQ pairE
  rw[if_pos]
  ·rfl
  ·rw[if_neg (by simp[hc0])];exact hd
 rwa [hdq]at h
theorem TopExtractPushes_fn (c:Cir) (s:State) (hl:Sh c.parts) (hl2:Sh c.pipes) (hs:OkSt s):CallFn Tryz.prog 5 [aCi c,aSt s] (aB true):=by
 have htp:=tryPress_fn
 have htc:=tryCircuit_fn c s hl hl2 hs
 by_cases hB:tcB c s=true
 ·obtain⟨e1,hok,hf,hf2,hb,hz⟩:=tcQ_ok hB
  rw[hB]at htc
  have hsm:=few_sm hf2
  obtain⟨hr,hd,hch,hpl,hc0⟩:=build_zero hb
  have hp1:=positions_ok hok hsm hb hz
  have hdv:=drives_okF hok hb
  have hpe:=pres_pos hb hz
  have hplen:=pos_len c s
  have hfew:=hr.few
  have h2:=pos_two (PgI.of hb hz)
  have hpn:=pos_l (planZ c) s
  have hpsh:Sh ((planZ c).pos s):=by unfold Sh;omega
  have hdl:=(planZ_B hr).dl
  have hrow:∀e∈(planZ c).drives,e.1<c.parts.length∧e.2<c.parts.length∧∃q,c.parts[e.1]?=some q∧CallFn Tryz.prog 30 [aCi c,aIs ((planZ c).pos s),aT q.name] (.tuple [aI (pushZ c ((planZ c).pos s) e.1),aI 0]) ∧
    ∃z,CallFn Tryz.prog 31 [aCi c,aIs ((planZ c).pos s),.record (encPo ((e.2:Int),[49]))] (.tuple [aI z,aI 0])∧pushZ c ((planZ c).pos s) e.1=(if z=2 then 2*((planZ c).pos s).getD e.2 0-1 else 0)∧0<=((planZ c).pos s).getD e.2 0∧((planZ c).pos s).getD e.2 0<2:=fun e he=>by
   obtain⟨q1,k1,_,q2,hbb⟩:=mem_drvN hd he
   obtain⟨q,hq⟩:∃q,c.parts[e.1]?=some q:=⟨_,List.getElem?_eq_getElem q1⟩
   have hk:=kindOf_at hq
   have hqk:=partE_kindZ (hr.part q (List.mem_of_getElem? hq))
   have hv:((e.2:Int),[49])∈allP c.parts:=port_of q2 (by rcases drvB_kind hbb with h | h<;>rw[h]<;>decide)
   refine⟨q1,q2,q,hq,Push_fn c hok _ hpsh hpe e.1 q hq (by omega) (find_self hr hq),_,At_fn c hok _ hpsh hpe _ hv,?_⟩
   have:=h2 e.2 q2
   rw[push_law hr hd h2 he,hpn]
   exact⟨rfl,by omega,by omega⟩
  generalize (planZ c).pos s=P at *
  generalize (planZ c).drives=ds at *
  generalize tcQ c s=ct at *
  refine callFz_of Tryz.func5 rfl Tryz.ntmps5 (rs:=[.tmp 4]) rfl (by kernel_rfl) (by simp) (by kernel_rfl) ?_
  simp
  refine htc.s ?_
  simp
  intro b5
  refine hp1.s ?_
  simp
  refine hdv.s ?_
  simp[hplen]
  refine V.forI (σ:=Unit) ds.length [2,7,52,53] (by simp;exact rfl) (fun i _=>[(4,aB false),(54,aI i)]) (fun _ _=>[]) (fun _ _=>True) () trivial (by simp) ⟨by simp;exact rfl,by simp⟩ ?_ ?_
  ·rintro i-hi -
   obtain⟨e,he⟩:∃e,ds[i]=e:=⟨_,rfl⟩
   have heo:ds[i]?=some e:=by rw[List.getElem?_eq_getElem hi,he]
   obtain⟨r1,r2,q,hq,hpu,z,hat,hlaw,hw0,hw1⟩:=hrow e (List.mem_of_getElem? heo)
   obtain⟨hql,hq2⟩:=List.getElem?_eq_some_iff.1 hq
   obtain⟨e0,e9⟩:=e
   simp only at r1 r2 hq hpu hat hlaw hql hq2 hw0 hw1
   obtain⟨w1,w2⟩:=getD_at (st:=P) (n:=e9) (by omega)
   generalize P.getD e9 0=w at *
   generalize pushZ c P e0=pz at *
   simp[hi,he,heo]
   intro b12
   have hP0:e0<P.length:=by omega
   have hP9:e9<P.length:=by omega
   simp[hP0,hP9]
   refine V.drawX (fun t=>if t=90 then some (.fn (.tuple [aI pz,aI 0])) else none) (by kernel_rfl) (by kernel_rfl) (by simp) ?_
   simp[hql,hq2,hq,r1,r2]
   refine⟨hpu,hat.s ?_⟩
   by_cases hz2:z=2
   ·rw[if_pos hz2]at hlaw
    simp[hz2,hP9,w1,w2,hlaw]
    omega
   ·rw[if_neg hz2]at hlaw
    simp[hz2,hlaw]
    omega
  ·rintro - -
   simp
   refine htp.s ?_
   simp
 ·rw[Bool.not_eq_true]at hB
  rw[hB]at htc
  generalize tcQ c s=ct at *
  refine callFz_of Tryz.func5 rfl Tryz.ntmps5 (rs:=[.tmp 4]) rfl (by kernel_rfl) (by simp) (by kernel_rfl) ?_
  simp
  refine htc.s ?_
  simp
  intro b5
  refine htp.s ?_
  simp
end Go.Proofs.YtafamcbdaeppoaaGreatDoor
