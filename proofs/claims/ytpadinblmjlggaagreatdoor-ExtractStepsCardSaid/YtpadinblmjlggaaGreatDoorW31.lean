/- Texts joined by a program: Sfa,Oo. -/
import Derived.Test.YtpadinblmjlggaaGreatDoorW30
import Derived.Test.YtpadinblmjlggaaGreatDoorW22
import Derived.Test.YtpadinblmjlggaaGreatDoorW28
import Derived.Test.YtpadinblmjlggaaGreatDoorW23
import Derived.Test.YtpadinblmjlggaaGreatDoorW17
set_option linter.unusedSimpArgs false
set_option linter.unusedVariables false
set_option maxHeartbeats 8000000
set_option maxRecDepth 10000
namespace Go.Proofs.YtpadinblmjlggaaGreatDoor
def roundR (c:Control) (s:State):State×List Int×Int:=if rightC c s≠0 then (noSt,[],rightC c s) else (roundS c s,roundB c s,0)
theorem Round_fn (c:Control) (s:State) (hc:OkC c) (hs:SmS s):CallFn Tryz.prog 34 [aC c,aSt s] (.tuple [aSt (roundR c s).1,aIs (roundR c s).2.1,aI (roundR c s).2.2]):=by
 refine callFz_of Tryz.func34 rfl Tryz.ntmps34 (rs:=[.cell 4 31,.tmp 5,.tmp 6]) rfl (by kernel_rfl) (by simp) (by kernel_rfl) ?_
 simp
 intro b4
 refine (CallS.frame (of_s c s hc hs)).mono ?_
 rintro r H' ⟨H2,⟨k1,k2⟩,rfl⟩
 by_cases hz:rightC c s=0
 ·obtain⟨z1,z2,z3⟩:=right_zero hz
  obtain⟨bm,g,rfl,rfl⟩:=k1 hz
  simp
  refine (CallS.frame (round_s (bm:=bm) (g:=g) hc (fine_of z1) z2)).mono ?_
  rintro r H' ⟨H2,⟨rfl,rfl⟩,rfl⟩
  simp[mcH,roundR,hz,packA,encSt]
 ·obtain⟨rfl,rfl⟩:=k2 hz
  simp[hz,roundR,noSt,packA,encSt]
theorem steps1_s (y:Drv) (k b:Nat):CallS Tryz.prog 35 [.record (encDr y),.ptr 20 b 0] [(20,.box b [aI k])] fun r H'=>r=aB (y.2==k)∧H'=[(20,.box b [aI k])]:=by
 obtain⟨y1,y2⟩:=y
 refine callS_of Tryz.func35 rfl Tryz.ntmps35 (rs:=[.tmp 3]) rfl (by kernel_rfl) (by simp) (by kernel_rfl) ?_
 simp
 rw[Bool.eq_iff_iff]
 simp only[beq_iff_eq]
 omega
abbrev sxE (c:Cir) (BF NX BD LN AF:List Int) (ds:List Drv):List (Nat×A):=[(2,.rptr (encCi c)),(4,aB false),(7,aIs BF),(9,aIs NX),(10,aIs BD),(13,aIs LN),(15,aIs AF),(17,.dat (.sl (ds.map encDr))),(19,aI 0)]
structure StpI (c:Cir) (BF NX BD LN AF:List Int) (ds:List Drv) (cnt:Nat->Nat):Prop where
 lb:BF.length=c.parts.length
 ln:NX.length=c.parts.length
 la:AF.length=c.parts.length
 same:∀k,k<c.parts.length->(ds.any fun y=>y.2==k)=false->plusK (kindOf c.parts k)=[]->AF[k]?=BF[k]?
 next:∀k,k<c.parts.length->(ds.any fun y=>y.2==k)=false->plusK (kindOf c.parts k)≠[]->kindOf c.parts k≠12->AF[k]?=NX[k]?
 zero:cnt 0=0
 succ:∀k,k<c.parts.length->cnt (k+1)=cnt k+if (ds.any fun y=>y.2==k)=false∧plusK (kindOf c.parts k)≠[]∧kindOf c.parts k≠12∧(k:Int)∈BD then 1 else 0
 all:cnt c.parts.length=LN.length
 le:∀k,cnt k<=k
theorem steps_a {c:Cir}(hr:CirR c) {BF NX BD LN AF:List Int}{ds:List Drv}{cnt:Nat->Nat}(h:StpI c BF NX BD LN AF ds cnt) (hds:ds.length<=64) (hbd:BD.length<=1000) :
  V ⟨Tryz.prog,none,183⟩ (restC Tryz.f7 12) (hdE (sxE c BF NX BD LN AF ds) []) [] (RetV Tryz.prog [.tmp 4] fun r' H'=>(frz H' r').1∧(frz H' r').2=aB true):=by
 have haw:=awake30_fn
 obtain⟨lb,ln,la,hsame,hnext,hzero,hsucc,hall,hle⟩:=h
 have hfew:=hr.few
 refine V.rest rfl ?_
 refine V.of_vcN 1 ?_
 simp
 refine V.forI (σ:=Unit) c.parts.length [7,9,10,13,15,17,118,119] (by simp;exact rfl) (fun i _=>[(4,aB false),(19,aI (cnt i:Nat)),(120,aI i)]) (fun _ _=>[]) (fun _ _=>True) () trivial (by simp[hzero]) ⟨by simp;exact rfl,by simp⟩ ?_ ?_
 ·rintro k-hk -
  obtain⟨p,hpp⟩:∃p,c.parts[k]=p:=⟨_,rfl⟩
  have hpo:c.parts[k]?=some p:=by rw[List.getElem?_eq_getElem hk,hpp]
  have hkk:=kindOf_at hpo
  have hkn:=part_kind (hr.part p (List.mem_of_getElem? hpo))
  have hpil:=Piloted_fn p.kind.toNat (by omega)
  rw[show ((p.kind.toNat:Nat):Int)=p.kind from by omega]at hpil
  have hsame:=hsame k hk
  have hnext:=hnext k hk
  have hsucc:=hsucc k hk
  have hlek:=hle k
  rw[hkk]at hsame hnext hsucc
  rw[hsucc]
  obtain⟨a,ha⟩:∃a,AF[k]?=some a:=⟨_,List.getElem?_eq_getElem (by omega)⟩
  obtain⟨b,hb⟩:∃b,BF[k]?=some b:=⟨_,List.getElem?_eq_getElem (by omega)⟩
  obtain⟨x,hx⟩:∃x,NX[k]?=some x:=⟨_,List.getElem?_eq_getElem (by omega)⟩
  obtain⟨hal,ha1⟩:=List.getElem?_eq_some_iff.1 ha
  obtain⟨hbl,hb1⟩:=List.getElem?_eq_some_iff.1 hb
  obtain⟨hxl,hx1⟩:=List.getElem?_eq_some_iff.1 hx
  rw[ha,hb]at hsame
  rw[ha,hx]at hnext
  simp only[Option.some.injEq]at hsame hnext
  have hcn:=containsI_fn BD k (by unfold Sh;omega)
  have hcd:=fun b20=>contDr_s ds (fun y=>y.2==k) 35 [] [.ptr 20 b20 0] [(20,.box b20 [aI k])] (by unfold Sh;omega) fun y _=>steps1_s y k b20
  generalize (ds.any fun y=>y.2==k)=D at *
  have h12:(p.kind.toNat≠12)↔¬p.kind=12:=by omega
  generalize hpl:plusK p.kind.toNat=pl at *
  simp[hk,hpp,hpo]
  intro b20 b21
  refine ((hcd b20).mid [(21,_)] []).mono ?_
  rintro r H' ⟨rfl,rfl⟩
  simp
  cases D with
  | true=>
   refine hpil.s ?_
   simp[hpl]
   refine V.drawX (fun _=>none) (by kernel_rfl) (by kernel_rfl) (by simp) ?_
   simp[hk,hal,ha,ha1,hbl,hb,hb1]
   omega
  | false=>
   by_cases hpe:pl=[]
   ·refine hpil.s ?_
    simp[hpl,hpe]
    refine V.drawX (fun _=>none) (by kernel_rfl) (by kernel_rfl) (by simp) ?_
    simp[hk,hal,ha,ha1,hbl,hb,hb1,hpe,hsame rfl hpe]
    omega
   ·by_cases h12':p.kind=12
    ·refine hpil.s ?_
     simp[hpl,hpe,h12']
     refine V.drawX (fun _=>none) (by kernel_rfl) (by kernel_rfl) (by simp) ?_
     simp[hk,hal,ha,ha1,hbl,hb,hb1,hpe]
     exact⟨⟨by omega,by omega⟩,by rw[if_neg (fun h=>h.1 (by omega))];simp⟩
    ·refine hpil.s ?_
     simp[hpl,hpe,h12']
     refine V.drawX (fun _=>none) (by kernel_rfl) (by kernel_rfl) (by simp) ?_
     simp[hk,hal,ha,ha1,hxl,hx,hx1,hpe,hnext rfl hpe (h12.2 h12')]
     refine hcn.s ?_
     have h12n:=h12.2 h12'
     by_cases hin:(k:Int)∈BD
     ·simp[hin,h12n]
      exact⟨⟨by omega,by omega⟩,⟨by omega,by omega⟩,by rw[if_neg hpe];rfl⟩
     ·simp[hin,h12n]
      omega
 ·rintro - -
  simp
  refine V.of_vc ?_
  simp[hall]
  refine GCall.fn (aB true) (fun h=>⟨h,haw⟩) ?_
  simp
theorem steps_b {c:Cir}{ct:Control}{T:State}{BF NX BD LN AF:List Int}{ds:List Drv}(hb:BF.length=c.parts.length) (hn:NX.length=c.parts.length) (ha:AF.length=c.parts.length) (b5 b12:Nat)
  (hr2:CallFn Tryz.prog 16 [aC ct,aSt T] (aI 0)) (hp2:CallFn Tryz.prog 17 [aCi c,aSt T] (.tuple [aIs AF,aI 0])) (hdv:CallFn Tryz.prog 26 [aCi c] (.tuple [.dat (.sl (ds.map encDr)),aI 0]))
  (hpa:V ⟨Tryz.prog,none,183⟩ (restC Tryz.f7 12) (hdE (sxE c BF NX BD LN AF ds) []) [] (RetV Tryz.prog [.tmp 4] fun r' H'=>(frz H' r').1∧(frz H' r').2=aB true)) :
  V ⟨Tryz.prog,none,183⟩ (restC Tryz.f7 7) (hdE [(2,.rptr (encCi c)),(4,aB false),(5,.ptr 5 b5 0),(7,aIs BF),(8,aI 0),(9,aIs NX),(10,aIs BD),(11,aI 0),(12,.ptr 12 b12 0),(13,aIs LN),(14,aI 0)] []) [(12,.box b12 ((encSt T).map A.dat)),(5,.box b5 ((encC ct).map A.dat))] (RetV Tryz.prog [.tmp 4] fun r' H'=>(frz H' r').1∧(frz H' r').2=aB true):=by
 refine V.rest rfl ?_
 refine V.of_vcN 5 ?_
 simp
 refine GCall.sure ⟨trivial,hr2.s ?_⟩ trivial
 simp[hb,hn]
 refine hp2.s ?_
 simp
 refine hdv.s ?_
 simp[ha]
 exact V.cutV (Hs:=[]) (sxE c BF NX BD LN AF ds) (by simp) (by simp) (V.of_rest rfl hpa)
theorem drv_any {ds:List Drv}{k:Nat}:(ds.any fun y=>y.2==k)=false↔drivenZ ds k=none:=by
 unfold drivenZ
 rw[<- Option.not_isSome_iff_eq_none,List.findIdx?_isSome,Bool.not_eq_true]
theorem ExtractSteps_fn (c:Cir) (s:State) (hl:Sh c.parts) (hl2:Sh c.pipes) (hs:OkSt s):CallFn Tryz.prog 7 [aCi c,aSt s] (aB true):=by
 have haw:=awake30_fn
 have hgd:=good_fn c hl hl2
 have hfs:=FewStates_fn s hs
 cases hf:goodB c with
 | false=>
  rw[hf]at hgd
  refine callFz_of Tryz.func7 rfl Tryz.ntmps7 (rs:=[.tmp 4]) rfl (by kernel_rfl) (by simp) (by kernel_rfl) ?_
  simp
  refine hgd.s ?_
  simp
  refine GCall.never (fun h=>h) (aB false) ?_
  simp
  refine haw.s ?_
  simp
 | true=>
  rw[hf]at hgd
  unfold goodB at hf
  rw[Bool.and_eq_true,beq_iff_eq]at hf
  obtain⟨hf1,hb⟩:=hf
  obtain⟨hok,_⟩:=few_ok hf1
  cases hf2:fewS s with
  | false=>
   rw[hf2]at hfs
   refine callFz_of Tryz.func7 rfl Tryz.ntmps7 (rs:=[.tmp 4]) rfl (by kernel_rfl) (by simp) (by kernel_rfl) ?_
   simp
   refine hgd.s ?_
   simp
   refine GCall.fn (aB false) (fun h=>⟨h,hfs⟩) ?_
   simp
   refine haw.s ?_
   simp
  | true=>
   rw[hf2]at hfs
   have hsm:=few_sm hf2
   obtain⟨hr,hd,hch,hpl,hc0⟩:=build_zero hb
   obtain⟨hpp,hpm,hoc⟩:=ctl_sizes (plR_of hpl)
   have hct:=ControlR30_fn c hok
   have hcq:controlQ c=((planZ c).ctl,0):=by unfold controlQ;rw[if_pos hb]
   rw[hcq]at hct
   have hrt:=RightR_fn (planZ c).ctl s hoc hpp hpm hsm
   by_cases hz:rightC (planZ c).ctl s=0
   ·have hp1:=Positions_fn c hok s hsm
    have hpq:positionsQ c s=((planZ c).pos s,0):=by
     unfold positionsQ
     rw[if_neg (by simp[hb]),if_neg (by simp[hz])]
    have hpsh:=positionsQ_sh c s hl
    rw[hpq]at hp1 hpsh
    have hpr:presE c ((planZ c).pos s)=0:=by
     have:=netsQ_good hb hz
     unfold netsQ at this
     split at this
     ·assumption
     ·simp only[Prod.mk.injEq]at this
      exact this.2
    have hst:=Step_fn c hok ((planZ c).pos s) hpsh
    have hsq:pstepQ c ((planZ c).pos s)=(stepsZ c ((planZ c).pos s) c.parts.length,badZ c ((planZ c).pos s) c.parts.length,0):=by unfold pstepQ;rw[if_pos hpr]
    rw[hsq]at hst
    have hrd:=Round_fn (planZ c).ctl s hoc hsm
    have hrr:roundR (planZ c).ctl s=(roundS (planZ c).ctl s,roundB (planZ c).ctl s,0):=by unfold roundR;rw[if_neg (by simp[hz])]
    rw[hrr]at hrd
    have hTr:=round_right hz
    obtain⟨_,hsh,_⟩:=right_zero hz
    have hTs:=round_shape hsh
    have hI:=RdI.of hb hz
    obtain⟨g1,g2,g3,g4,g5⟩:=id hsm
    obtain⟨t1,t2,t3,t4,t5⟩:=id hTs
    have hfi:=fine_of hch
    have hT:SmS (roundS (planZ c).ctl s):=⟨by have:=hfi.act;omega,by have:=hfi.act;omega,by have:=hfi.inp;omega,by have:=hfi.sig;omega,by have:=hfi.sig;omega⟩
    have hr2:=RightR_fn (planZ c).ctl _ hoc hpp hpm hT
    rw[hTr]at hr2
    have hp2:=Positions_fn c hok (roundS (planZ c).ctl s) hT
    have hpq2:positionsQ c (roundS (planZ c).ctl s)=((planZ c).pos (roundS (planZ c).ctl s),0):=by
     unfold positionsQ
     rw[if_neg (by simp[hb]),if_neg (by simp[hTr])]
    rw[hpq2]at hp2
    have hdv:=Drives_fn c hok
    have hdq:drivesQ c=((planZ c).drives,0):=by
     unfold drivesQ pairE
     rw[if_pos]
     ·rfl
     ·rw[if_neg (by simp[hc0])];exact hd
    rw[hdq]at hdv
    have hps:(planZ c).ps=c.parts:=rfl
    have hplen:∀st:State,((planZ c).pos st).length=c.parts.length:=fun st=>by
     unfold Pln.pos
     rw[List.length_map,List.length_range,hps]
    have hpat:∀(st:State) (k:Nat),k<c.parts.length->((planZ c).pos st)[k]?=some (numB ((planZ c).posB st k)):=fun st k hk=>by
     unfold Pln.pos
     rw[List.getElem?_map,List.getElem?_range (by rw[hps];exact hk)]
     rfl
    have hstp:StpI c ((planZ c).pos s) (stepsZ c ((planZ c).pos s) c.parts.length) (badZ c ((planZ c).pos s) c.parts.length) (roundB (planZ c).ctl s) ((planZ c).pos (roundS (planZ c).ctl s)) (planZ c).drives (fun k=>((List.range k).filter (cntB c ((planZ c).pos s))).length):=by
     refine⟨hplen s,stepsZ_len _ _ _,hplen _,fun k hk hD hpn=>?_,fun k hk hD hpn h12=>?_,rfl,fun k hk=>?_,(round_lines hI).symm,fun k=>?_⟩
     ·rw[hpat _ k hk,hpat _ k hk,round_same hI hk]
      intro hm
      exact (mem_valvN.1 hm).2.1 hpn
     ·rw[hpat _ k hk,(stepC_same hI hk (drv_any.1 hD) hpn h12).1]
      unfold stepsZ
      rw[List.getElem?_map,List.getElem?_range hk]
      rfl
     ·have hbm:(k:Int)∈badZ c ((planZ c).pos s) c.parts.length↔(nxZ c ((planZ c).pos s) k).2=true:=by
       unfold badZ
       simp only[List.mem_map,List.mem_filter,List.mem_range]
       constructor
       ·rintro⟨j,⟨_,h2⟩,h3⟩
        have:j=k:=by omega
        rwa [this]at h2
       ·intro h2
        exact⟨k,⟨hk,h2⟩,rfl⟩
      rw[List.range_succ,List.filter_append,List.length_append]
      congr 1
      have hcb:cntB c ((planZ c).pos s) k=true↔((planZ c).drives.any fun y=>y.2==k)=false∧plusK (kindOf c.parts k)≠[]∧kindOf c.parts k≠12∧(k:Int)∈badZ c ((planZ c).pos s) c.parts.length:=by
       rw[drv_any,hbm]
       unfold cntB
       simp only[Bool.and_eq_true,bne_iff_ne,ne_eq,Option.isNone_iff_eq_none,Bool.not_eq_true',beq_eq_false_iff_ne]
       constructor
       ·rintro⟨⟨⟨q1,q2⟩,q3⟩,q4⟩;exact⟨q2,q1,q3,q4⟩
       ·rintro⟨q2,q1,q3,q4⟩;exact⟨⟨⟨q1,q2⟩,q3⟩,q4⟩
      by_cases e:cntB c ((planZ c).pos s) k=true
      ·rw[if_pos (hcb.1 e)]
       simp[e]
      ·rw[if_neg (fun h=>e (hcb.2 h))]
       simp[e]
     ·exact Nat.le_trans (List.length_filter_le _ _) (by simp)
    have hpa:=steps_a hr hstp (planZ_B hr).dl (by have:=badZ_len c ((planZ c).pos s) c.parts.length;have:=hr.few;omega)
    have hl1:=hplen s
    have hl2:=hplen (roundS (planZ c).ctl s)
    have hl3:=stepsZ_len c ((planZ c).pos s) c.parts.length
    rw[hz]at hrt
    generalize (planZ c).pos (roundS (planZ c).ctl s)=AF at *
    generalize roundS (planZ c).ctl s=T at *
    generalize roundB (planZ c).ctl s=LN at *
    generalize stepsZ c ((planZ c).pos s) c.parts.length=NX at *
    generalize badZ c ((planZ c).pos s) c.parts.length=BD at *
    generalize (planZ c).pos s=BF at *
    generalize (planZ c).ctl=ct at *
    generalize (planZ c).drives=ds at *
    refine callFz_cut 7 Tryz.func7 rfl Tryz.ntmps7 (rs:=[.tmp 4]) rfl (by kernel_rfl) (by simp) (by kernel_rfl) ?_
    simp
    refine hgd.s ?_
    simp
    refine GCall.fn (aB true) (fun h=>⟨h,hfs⟩) ?_
    simp
    refine hct.s ?_
    simp
    intro b5
    refine hrt.s ?_
    simp
    refine hp1.s ?_
    simp
    refine hst.s ?_
    simp
    refine hrd.s ?_
    simp
    intro b12
    exact V.cutV (Hs:=[(12,.box b12 ((encSt T).map A.dat)),(5,.box b5 ((encC ct).map A.dat))]) [(2,.rptr (encCi c)),(4,aB false),(5,.ptr 5 b5 0),(7,aIs BF),(8,aI 0),(9,aIs NX),(10,aIs BD),(11,aI 0),(12,.ptr 12 b12 0),(13,aIs LN),(14,aI 0)] (by simp) (by simp) (V.of_rest rfl (steps_b hl1 hl3 hl2 b5 b12 hr2 hp2 hdv hpa))
   ·refine callFz_of Tryz.func7 rfl Tryz.ntmps7 (rs:=[.tmp 4]) rfl (by kernel_rfl) (by simp) (by kernel_rfl) ?_
    simp
    refine hgd.s ?_
    simp
    refine GCall.fn (aB true) (fun h=>⟨h,hfs⟩) ?_
    simp
    refine hct.s ?_
    simp
    intro b5
    refine hrt.s ?_
    simp[hz]
    refine haw.s ?_
    simp
end Go.Proofs.YtpadinblmjlggaaGreatDoor
