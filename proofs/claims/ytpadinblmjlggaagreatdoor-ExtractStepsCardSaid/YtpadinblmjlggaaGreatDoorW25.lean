/- Texts joined by a program: Wd,We,Qt,Wf,Wg. -/
import Derived.Test.YtpadinblmjlggaaGreatDoorW24
import Derived.Test.YtpadinblmjlggaaGreatDoorW22
set_option linter.unusedSimpArgs false
set_option linter.unusedVariables false
set_option maxHeartbeats 8000000
set_option maxRecDepth 10000
namespace Go.Proofs.YtpadinblmjlggaaGreatDoor
def nxB (ps:List Prt) (d:List Drv) (nets:List (List PortZ)) (order:List Nat) (i:Nat):Bool:=(countsI ps nets i && !(order.any (i==·)))&&readyZ ps d nets order i
theorem range_find (p:Nat->Bool) (n:Nat):(List.range n).find? p=(List.range n).findIdx? p:=by
 rw[find_idx]
 cases h:(List.range n).findIdx? p with
 | none=>rfl
 | some k=>
  have:=(List.findIdx?_eq_some_iff_getElem.1 h).1
  simp only[List.length_range]at this
  rw[Option.bind_some,List.getElem?_range this]
theorem nextZ_eq (ps:List Prt) (d:List Drv) (nets:List (List PortZ)) (order:List Nat):nextZ ps d nets order=(List.range nets.length).findIdx? (nxB ps d nets order):=by
 rw[<- range_find]
 unfold nextZ restZ
 rw[List.find?_filter]
 congr 1
 funext a
 unfold nxB
 rw[Bool.eq_iff_iff]
 simp
theorem range_step {p:Nat->Bool}{n i:Nat}(hi:i<n) (hI:NoF p (List.range i)):(p i=false->NoF p (List.range (i+1)))∧(p i=true->(List.range n).findIdx? p=some i):=by
 have h1:(List.range n)[i]?=some i:=by rw[List.getElem?_range hi]
 have e:(List.range n).take i=List.range i:=by rw[List.take_range,Nat.min_eq_left (by omega)]
 have e2:(List.range n).take (i+1)=List.range (i+1):=by rw[List.take_range,Nat.min_eq_left (by omega)]
 have:=findIdx_step (p:=p) (by rw[e];exact hI) h1
 rw[e2]at this
 exact this
theorem range_none {p:Nat->Bool}{n:Nat}(hI:NoF p (List.range n)):(List.range n).findIdx? p=none:=
 findIdx_none (by rw[List.length_range,List.take_range,Nat.min_eq_left (Nat.le_refl _)];exact hI)
def cntN (ps:List Prt) (nets:List (List PortZ)) (i:Nat):Nat:=((List.range i).filter (countsI ps nets)).length
theorem cntN_succ (ps:List Prt) (nets:List (List PortZ)) (i:Nat):cntN ps nets (i+1)=cntN ps nets i+if countsI ps nets i=true then 1 else 0:=by
 unfold cntN
 rw[List.range_succ,List.filter_append,List.length_append]
 cases h:countsI ps nets i<;>simp[h]
theorem cntN_le (ps:List Prt) (nets:List (List PortZ)) (i:Nat):cntN ps nets i<=i:=by
 unfold cntN
 exact Nat.le_trans (List.length_filter_le _ _) (by simp)
theorem cntN_all (ps:List Prt) (nets:List (List PortZ)):cntN ps nets nets.length=manyC ps nets:=by
 unfold cntN manyC restZ
 congr 2
 funext i
 simp
theorem Sorted_fn {c:Cir}(hr:CirR c) {d:List Drv}(hd:d.length<=1000) :
  CallFn Tryz.prog 94 [aCi c,.dat (.sl (d.map encDr))] (.tuple [aNs (orderN c.parts d (netsZ c) (manyC c.parts (netsZ c))),aB (decide ((orderN c.parts d (netsZ c) (manyC c.parts (netsZ c))).length=manyC c.parts (netsZ c)))]):=by
 have hj:=Joined_fn c hr
 have hN:=nsOK hr
 have hfew:=hN.few
 have hcn:=fun l hl=>CountsR_fn hr (hN.net l hl).1 (hN.net l hl).2.1 (hN.net l hl).2.2
 have hrd:=fun order ho i hi=>readyR_fn hr hd (order:=order) ho (i:=i) hi
 have hmc:=manyC_le c.parts (netsZ c)
 have hol:=orderN_len c.parts d (netsZ c)
 have hcs:=cntN_succ c.parts (netsZ c)
 have hcl:=cntN_le c.parts (netsZ c)
 have hca:=cntN_all c.parts (netsZ c)
 have hos:∀n,orderN c.parts d (netsZ c) (n+1)=match (List.range (netsZ c).length).findIdx? (nxB c.parts d (netsZ c) (orderN c.parts d (netsZ c) n)) with
  | some i=>orderN c.parts d (netsZ c) n++[i]
  | none=>orderN c.parts d (netsZ c) n:=fun n=>by
   rw[<- nextZ_eq]
   rfl
 have hci:∀i l,(netsZ c)[i]?=some l->countsI c.parts (netsZ c) i=countsZ c.parts l:=fun i l h=>by
  unfold countsI
  rw[List.getD_eq_getElem?_getD,h]
  rfl
 generalize hM:manyC c.parts (netsZ c)=M at *
 refine callFz_of Tryz.func94 rfl Tryz.ntmps94 (rs:=[.tmp 4,.tmp 5]) rfl (by kernel_rfl) (by simp) (by kernel_rfl) ?_
 simp
 refine hj.s ?_
 simp
 refine V.forI (σ:=Unit) (netsZ c).length [1,2,4,5,6,7] (by simp;exact rfl) (fun i _=>[(8,aI (cntN c.parts (netsZ c) i)),(9,aI i)]) (fun _ _=>[]) (fun _ _=>True) () trivial (by simp[cntN]) ⟨by simp;exact rfl,by simp⟩ ?_ ?_
 ·rintro i ⟨⟩ hi -
  obtain⟨l,hl⟩:∃l,(netsZ c)[i]=l:=⟨_,rfl⟩
  have hlo:(netsZ c)[i]?=some l:=by rw[List.getElem?_eq_getElem hi,hl]
  have hc1:=hcn l (List.mem_of_getElem? hlo)
  have hle:=hcl i
  rw[hcs,hci i l hlo]
  generalize countsZ c.parts l=CB at *
  simp[hi,hl,hlo]
  refine V.drawX (fun t=>if t=25 then some (.fn (aB CB)) else none) (by kernel_rfl) (by kernel_rfl) (by simp) ?_
  simp[hi,hl,hlo]
  refine⟨hc1,fun hb=>⟨⟨by omega,by omega⟩,⟨by omega,by omega⟩,by rw[if_pos hb];rfl⟩,fun hb=>⟨⟨by omega,by omega⟩,by rw[if_neg (by simp[hb])];simp⟩⟩
 ·rintro⟨⟩ -
  rw[hca]
  simp
  refine V.forI (σ:=Value) M [1,2,4,5,6,8] (by simp;exact rfl) (fun n g=>[(7,.own 50 g),(10,aI n)]) (fun n g=>[(50,.seq g 3 1 ((orderN c.parts d (netsZ c) n).map rN))]) (fun _ _=>True) (.slice none 0 0) trivial (by simp) ⟨by simp;exact rfl,by simp[orderN]⟩ ?_ ?_
  ·rintro n g hn -
   have hon:=hos n
   have hlen:=hol n
   have hrn:=hrd (orderN c.parts d (netsZ c) n) (by omega)
   generalize orderN c.parts d (netsZ c) n=O at *
   simp[hn]
   refine V.forI (σ:=Unit) (netsZ c).length [1,2,4,5,6,7,8,10] (by simp;exact rfl) (fun i _=>[(11,aI i)]) (fun _ _=>[(50,.seq g 3 1 (O.map rN))]) (fun i _=>NoF (nxB c.parts d (netsZ c) O) (List.range i)) () (by simp) (by simp) ⟨by simp;exact rfl,by simp⟩ ?_ ?_
   ·rintro i ⟨⟩ hi hI
    obtain⟨s1,s2⟩:=range_step hi hI
    obtain⟨l,hl⟩:∃l,(netsZ c)[i]=l:=⟨_,rfl⟩
    have hlo:(netsZ c)[i]?=some l:=by rw[List.getElem?_eq_getElem hi,hl]
    have hc1:=hcn l (List.mem_of_getElem? hlo)
    have hat:=at_fn O i (by unfold Sh;omega)
    have hri:=hrn i hi
    have hnx:nxB c.parts d (netsZ c) O i=((countsZ c.parts l && !(O.findIdx? (i==·)).isSome)&&readyZ c.parts d (netsZ c) O i):=by
     unfold nxB
     rw[hci i l hlo,List.findIdx?_isSome]
    rw[hnx]at s1 s2
    generalize countsZ c.parts l=CB at *
    generalize readyZ c.parts d (netsZ c) O i=RB at *
    generalize O.findIdx? (i==·)=FI at *
    simp[hi,hl,hlo]
    refine V.drawX (fun t=>if t=44 then some (.fn (aB CB)) else if t=48 then some (.ro (aI (idxI FI))) else if t=57 then some (.ro (aB RB)) else none) (by kernel_rfl) (by kernel_rfl) (by simp) ?_
    simp[hi,hl,hlo]
    refine⟨hc1,fun hb=>⟨hb,hat.lend (by simp[frzs,frz]) rfl ⟨rfl,rfl⟩⟩,fun hb hneg=>⟨⟨hb,hneg⟩,hri.lend (by simp[frzs,frz]) rfl ⟨rfl,rfl⟩⟩,fun hb hneg hrb=>?_,fun hno=>⟨⟨by omega,by omega⟩,s1 ?_⟩⟩
    ·have hfn:FI=none:=by
      rw[idxI_neg]at hneg
      exact hneg
     rw[hon,s2 (by rw[hb,hfn,hrb];rfl)]
     refine⟨by omega,⟨by omega,by omega⟩,by simp⟩
    ·cases CB
     ·rfl
     ·cases FI with
      | some z=>rfl
      | none=>
       rw[hno rfl (by simp[idxI])]
       rfl
   ·rintro⟨⟩ hI
    rw[hon,range_none hI]
    simp
    omega
  ·rintro g -
   simp
   rw[Bool.eq_iff_iff]
   simp only[beq_iff_eq,decide_eq_true_eq]
   omega
abbrev encPl (p:Pln) (l:List PipeZ):List L:=[.sl (p.ps.map encPa),.sl (l.map encPi),.sl (p.drives.map encDr),.sl (p.nets.map fun l=>[L.sl (l.map encPo)]),.sl (p.order.map encN)]
def noPln:Pln:=⟨[],[],[],[]⟩
theorem planned_fn (c:Cir) (hc:OkCir c):CallFn Tryz.prog 55 [aCi c] (.tuple [.record (if planE c=0 then encPl (planZ c) c.pipes else encPl noPln []),aI (planE c)]):=by
 have hdr:=DrivesR_fn c hc
 rw[planE_eq]
 unfold drivesQ at hdr
 by_cases h0:pairE c=0
 ·have hcz:cirE c=0:=by
   unfold pairE at h0
   by_cases h:cirE c=0
   ·exact h
   ·rw[if_pos h]at h0
    exact absurd h0 h
  have hr:=cirR_of hcz
  have hj:=Joined_fn c hr
  have hso:=Sorted_fn hr (d:=drvN c.parts (netsZ c) c.parts.length) (by have:=drvN_len c.parts (netsZ c) c.parts.length;have:=hr.few;omega)
  simp only[h0,if_true,ne_eq,not_true,if_false]at hdr ⊢
  have hse:sortE c.parts (drvN c.parts (netsZ c) c.parts.length) (netsZ c)=if (orderN c.parts (drvN c.parts (netsZ c) c.parts.length) (netsZ c) (manyC c.parts (netsZ c))).length=manyC c.parts (netsZ c) then 0 else 20:=rfl
  rw[hse]
  have hpz:planZ c=⟨c.parts,netsZ c,drvN c.parts (netsZ c) c.parts.length,orderN c.parts (drvN c.parts (netsZ c) c.parts.length) (netsZ c) (manyC c.parts (netsZ c))⟩:=rfl
  rw[hpz]
  generalize drvN c.parts (netsZ c) c.parts.length=D at *
  generalize manyC c.parts (netsZ c)=M at *
  generalize orderN c.parts D (netsZ c) M=O at *
  refine callFz_of Tryz.func55 rfl Tryz.ntmps55 (rs:=[.cell 2 120,.tmp 3]) rfl (by kernel_rfl) (by simp) (by kernel_rfl) ?_
  simp
  intro b2
  refine hdr.s ?_
  simp
  refine hso.s ?_
  by_cases e:O.length=M
  ·simp[e]
   refine V.drawX (fun t=>if t=29 then some (.fn (aNets (netsZ c))) else none) (by kernel_rfl) (by kernel_rfl) (by simp) ?_
   simp
   exact⟨hj,fun h=>absurd e h,e⟩
  ·simp[e]
   exact⟨rfl,rfl,rfl,rfl⟩
 ·simp only[h0,if_false,ne_eq,not_false_iff,if_true]at hdr ⊢
  refine callFz_of Tryz.func55 rfl Tryz.ntmps55 (rs:=[.cell 2 120,.tmp 3]) rfl (by kernel_rfl) (by simp) (by kernel_rfl) ?_
  simp
  intro b2
  refine hdr.s ?_
  simp[h0]
  exact⟨rfl,rfl,rfl,rfl⟩
theorem order_rest (ps:List Prt) (d:List Drv) (nets:List (List PortZ)):∀n,(orderN ps d nets n).length+(restZ ps nets (orderN ps d nets n)).length=manyC ps nets
 | 0=>by simp[orderN,manyC]
 | n+1=>by
  have ih:=order_rest ps d nets n
  simp only[orderN]
  cases h:nextZ ps d nets (orderN ps d nets n) with
  | none=>exact ih
  | some i=>
   simp only
   unfold nextZ at h
   rw[find_idx]at h
   cases hk:(restZ ps nets (orderN ps d nets n)).findIdx? (readyZ ps d nets (orderN ps d nets n)) with
   | none=>rw[hk]at h;simp at h
   | some k=>
    rw[hk,Option.bind_some]at h
    obtain⟨hkl,rfl⟩:=List.getElem?_eq_some_iff.1 h
    rw[restZ_app ps nets _ hkl]
    simp only[List.length_append,List.length_singleton,List.length_take,List.length_drop]
    omega
theorem order_full {ps:List Prt}{d:List Drv}{nets:List (List PortZ)}(h:(orderN ps d nets (manyC ps nets)).length=manyC ps nets) {i:Nat}(hi:i<nets.length):i∈orderN ps d nets (manyC ps nets)↔countsI ps nets i=true:=by
 refine⟨fun hm=>(orderN_mem ps d nets _ i hm).2,fun hc=>?_⟩
 have h1:=order_rest ps d nets (manyC ps nets)
 have h2:restZ ps nets (orderN ps d nets (manyC ps nets))=[]:=by
  rw[<- List.length_eq_zero_iff]
  omega
 rw[restZ,List.filter_eq_nil_iff]at h2
 have:=h2 i (List.mem_range.2 hi)
 rw[hc,Bool.true_and]at this
 simpa using this
theorem planE_full {c:Cir}(h:planE c=0) {i:Nat}(hi:i<(netsZ c).length):i∈(planZ c).order↔countsI c.parts (netsZ c) i=true:=by
 rw[planE_eq]at h
 by_cases h0:pairE c=0
 ·rw[if_neg (by simp[h0])]at h
  unfold sortE at h
  split at h
  ·rename_i hl
   exact order_full hl hi
  ·simp at h
 ·rw[if_pos h0]at h
  exact absurd h h0
theorem dig_slice:∀n,n<10->List.drop n (48::List.take n [49,50,51,52,53,54,55,56,57])=[UInt8.ofNat (48+n)]:=by decide
theorem name_fn (t:List UInt8) (ht:t.length<=1000):∀n:Nat,n<=1000000->CallFn Tryz.prog 157 [aT t,aI n] (aT (t++decN n)):=by
 intro n
 induction n using Nat.strongRecOn with
 | _ n ih=>
  intro hn
  by_cases h:n<10
  ·have hd:decN n=[UInt8.ofNat (48+n)]:=by
    unfold decN Go.Lib.decDigits
    rw[dif_pos h]
   have h':(n:Int)<10:=by omega
   refine callFz_of Tryz.func157 rfl Tryz.ntmps157 (rs:=[.tmp 4]) rfl (by kernel_rfl) (by simp) (by kernel_rfl) ?_
   simp[h']
   refine⟨⟨by omega,by omega⟩,by omega,by omega,?_⟩
   rw[hd,<- dig_slice n h]
  ·have hd:decN n=decN (n / 10)++[UInt8.ofNat (48+n % 10)]:=by
    unfold decN
    conv=>lhs;unfold Go.Lib.decDigits
    rw[dif_neg h]
   have h':¬(n:Int)<10:=by omega
   have hi:=ih (n / 10) (by omega) (by omega)
   have hl:=decN_len2 (n / 10)
   rw[hd]
   have hq:(n:Int) / 10=((n / 10:Nat):Int):=by omega
   have hm:(n:Int).tmod 10=((n % 10:Nat):Int):=by rw[Int.tmod_eq_emod_of_nonneg (by omega)];omega
   have hm10:n % 10<10:=Nat.mod_lt _ (by omega)
   generalize n / 10=q at *
   generalize n % 10=m at *
   refine callFz_of Tryz.func157 rfl Tryz.ntmps157 (rs:=[.tmp 4]) rfl (by kernel_rfl) (by simp) (by kernel_rfl) ?_
   simp[h']
   refine V.drawX (fun k=>if k=16 then some (.fn (aT (t++decN q))) else none) (by kernel_rfl) (by kernel_rfl) (by simp) ?_
   simp[hq,hm]
   refine⟨by omega,hi,⟨by omega,by omega⟩,by omega,by omega,?_⟩
   rw[dig_slice m hm10]
   simp
theorem Counts_at {c:Cir}(hr:CirR c) {w:Nat}(hw:w<(netsZ c).length):∃l,(netsZ c)[w]?=some l∧CallFn Tryz.prog 71 [aCi c,.dat (.sl (l.map encPo))] (aB (countsI c.parts (netsZ c) w)):=by
 have hN:=nsOK hr
 refine⟨(netsZ c)[w],List.getElem?_eq_getElem hw,?_⟩
 have hm:=List.getElem_mem hw
 have:=CountsR_fn hr (hN.net _ hm).1 (hN.net _ hm).2.1 (hN.net _ hm).2.2
 unfold countsI
 rw[List.getD_eq_getElem?_getD,List.getElem?_eq_getElem hw]
 exact this
structure PlR (c:Cir):Prop where
 cir:CirR c
 drv:drvE c.parts (netsZ c)=0
 pln:planE c=0
theorem plR_of {c:Cir}(h:planE c=0):PlR c:=by
 have h1:=h
 rw[planE_eq]at h1
 by_cases h3:pairE c=0
 ·have h4:=h3
  unfold pairE at h4
  by_cases h5:cirE c=0
  ·rw[if_neg (by simp[h5])]at h4
   exact⟨cirR_of h5,h4,h⟩
  ·rw[if_pos h5]at h4
   exact absurd h4 h5
 ·rw[if_pos h3]at h1
  exact absurd h1 h3
theorem firstR_fn {c:Cir}(h:PlR c):CallFn Tryz.prog 60 [.record (encPl (planZ c) c.pipes)] (aI (planZ c).first):=by
 have hb:=Buttons_o h.cir
 have hB:=planZ_B h.cir
 have h1:=hB.dl
 have h2:=hB.bl
 have hbu:(planZ c).butt=buttN c.parts c.parts.length:=rfl
 rw[<- hbu]at hb
 unfold Pln.first
 have hps:(planZ c).ps=c.parts:=rfl
 generalize (planZ c).butt=bu at *
 refine callFz_of Tryz.func60 rfl Tryz.ntmps60 (rs:=[.tmp 2]) rfl (by kernel_rfl) (by simp) (by kernel_rfl) ?_
 simp
 refine V.drawX (fun t=>if t=9 then some (.fn (aNs bu)) else none) (by kernel_rfl) (by kernel_rfl) (by simp) ?_
 simp[hps]
 exact⟨⟨by omega,by omega⟩,hb,by omega,by omega⟩
theorem gateR_fn {c:Cir}(h:PlR c) {i:Nat}{t:List UInt8}(hp:((i:Int),t)∈allP c.parts):CallFn Tryz.prog 102 [.record (encPl (planZ c) c.pipes),.record (encPo ((i:Int),t))] (aE ((planZ c).gate i t)):=by
 have hN:=nsOK h.cir
 have hw:=WhichN_fn hN hp
 have hlt:=hN.of _ hp
 have hf:=firstR_fn h
 have hB:=planZ_B h.cir
 have hfl:=hB.fl
 have hol:=hB.ol
 rw[Pln.gate_eq]
 have hns:(planZ c).nets=netsZ c:=rfl
 have hps:(planZ c).ps=c.parts:=rfl
 rw[hns]
 generalize netW (netsZ c) ((i:Int),t)=w at *
 obtain⟨l,hlo,hcn⟩:=Counts_at h.cir hlt
 obtain⟨hl1,hl⟩:=List.getElem?_eq_some_iff.1 hlo
 have hat:=at_fn (planZ c).order w (by unfold Sh;omega)
 have hfu:=planE_full h.pln hlt
 refine callFz_of Tryz.func102 rfl Tryz.ntmps102 (rs:=[.cell 4 98]) rfl (by kernel_rfl) (by simp) (by kernel_rfl) ?_
 simp
 intro b4
 refine hw.s ?_
 simp
 cases hc:countsI c.parts (netsZ c) w with
 | false=>
  rw[hc]at hcn
  have hno:(planZ c).order.findIdx? (w==·)=none:=by
   rw[List.findIdx?_eq_none_iff]
   intro x hx
   simp only[beq_eq_false_iff_ne,ne_eq]
   rintro rfl
   have:=hfu.1 hx
   rw[hc]at this
   cases this
  have hge:(planZ c).gateW w=nulE:=by unfold Pln.gateW;rw[hno]
  rw[hge]
  refine V.drawX (fun t=>if t=17 then some (.fn (aB false)) else none) (by kernel_rfl) (by kernel_rfl) (by simp) ?_
  simp[hps,hns,hl1,hl,hlo]
  exact⟨hcn,rfl,rfl,rfl⟩
 | true=>
  rw[hc]at hcn
  have hm:=hfu.2 hc
  obtain⟨k,hk⟩:∃k,(planZ c).order.findIdx? (w==·)=some k:=by
   rw[<- Option.isSome_iff_exists,List.findIdx?_isSome,List.any_eq_true]
   exact⟨w,hm,by simp⟩
  have hkl:=(List.findIdx?_eq_some_iff_getElem.1 hk).1
  have hge:(planZ c).gateW w=varE ((planZ c).first+k:Nat):=by unfold Pln.gateW;rw[hk]
  rw[hge]
  rw[hk]at hat
  have hv:=variableR_fn (((planZ c).first:Int)+k)
  refine V.drawX (fun t=>if t=17 then some (.fn (aB true)) else none) (by kernel_rfl) (by kernel_rfl) (by simp) ?_
  simp[hps,hns,hl1,hl,hlo]
  refine⟨hcn,?_⟩
  refine V.drawX (fun t=>if t=21 then some (.fn (aI (planZ c).first)) else if t=25 then some (.fn (aI k)) else if t=27 then some (.fn (aE (varE (((planZ c).first:Int)+k)))) else none) (by kernel_rfl) (by kernel_rfl) (by simp) ?_
  simp[hps,hns]
  exact⟨hf,hat,⟨by omega,by omega⟩,hv⟩
def onP (pos:List Int) (i:Nat):Bool:=pos.getD i 0==1
def Pln.stStep (p:Pln) (ct:Control) (pos ends:List Int) (s:State) (i:Nat):Except Int State:=
 match drivenZ p.drives i with
 | some k=>.ok { s with valves:=s.valves.set k (onP pos i) }
 | none=>match p.line i with
  | none=>.ok s
  | some n=>
   if kindOf p.ps i=7 then .ok { s with inputs:=s.inputs.set (n-2*p.drives.length) (onP pos i) }
   else if kindOf p.ps i=6 then (if (ends.getD (n / 2) 0==(if n % 2=0 then 0 else 2))=onP pos i then .ok s else .error 16)
   else .ok { s with values:=s.values.set (n-p.first) (onP pos i),timers:=if onP pos i=true∧(ct.signals[n-p.first]?).map (·.kind)=some 2 then s.timers.set (n-p.first) 2 else s.timers }
def Pln.stFold (p:Pln) (ct:Control) (pos ends:List Int) (s0:State):Nat->Except Int State
 | 0=>.ok s0
 | i+1=>match p.stFold ct pos ends s0 i with
  | .ok s=>p.stStep ct pos ends s i
  | .error e=>.error e
theorem stFold_err {p:Pln}{ct:Control}{pos ends:List Int}{s0:State}{e:Int}{i:Nat}(h:p.stFold ct pos ends s0 i=.error e):∀n,i<=n->p.stFold ct pos ends s0 n=.error e
 | 0,hn=>by rw[<- h,show i=0 by omega]
 | n+1,hn=>by
  by_cases e1:i=n+1
  ·rw[<- e1,h]
  ·have:=stFold_err h n (by omega)
   simp[Pln.stFold,this]
structure StS (p:Pln) (ct:Control) (ends:List Int) (s:State):Prop where
 valves:s.valves.length=p.drives.length
 inputs:s.inputs.length=p.butt.length
 values:s.values.length=ct.signals.length
 timers:s.timers.length=ct.signals.length
 ends:s.ends=ends
theorem StS.step {p:Pln}{ct:Control}{pos ends:List Int}{s t:State}{i:Nat}(h:StS p ct ends s) (ht:p.stStep ct pos ends s i=.ok t):StS p ct ends t:=by
 obtain⟨h1,h2,h3,h4,h5⟩:=h
 unfold Pln.stStep at ht
 split at ht
 ·cases ht
  exact⟨by simpa using h1,h2,h3,h4,h5⟩
 ·split at ht
  ·cases ht
   exact⟨h1,h2,h3,h4,h5⟩
  ·split at ht
   ·cases ht
    exact⟨h1,by simpa using h2,h3,h4,h5⟩
   ·split at ht
    ·have hcase:∀(b:Prop) [Decidable b],(if b then (.ok s:Except Int State) else .error 16)=.ok t->s=t:=by
      intro b _ h
      split at h<;>cases h
      rfl
     have:=hcase _ ht
     subst this
     exact⟨h1,h2,h3,h4,h5⟩
    ·cases ht
     refine⟨h1,h2,by simpa using h3,?_,h5⟩
     show (if _ then _ else _:List Int).length=_
     split
     ·simpa using h4
     ·exact h4
theorem line_cases {p:Pln}(hlim:∀x∈p.ps,x.kind=6->(∃q b,x.name=q++[b]∧(b=48∨b=49)∧∃k,p.drives.findIdx? (fun d=>(p.ps.getD d.1 x).name==q)=some k)) {i n:Nat}(h:p.line i=some n) :
  (kindOf p.ps i=7∧i∈p.butt∧n=2*p.drives.length+p.butt.idxOf i)∨(kindOf p.ps i=6∧n<2*p.drives.length)∨(kindOf p.ps i≠7∧kindOf p.ps i≠6∧i∈p.valv∧n=p.first+p.order.length+p.valv.idxOf i):=by
 unfold Pln.line at h
 cases hx:p.ps[i]? with
 | none=>rw[hx]at h;simp at h
 | some x=>
  rw[hx]at h
  simp only at h
  obtain⟨hi,hxe⟩:=List.getElem?_eq_some_iff.1 hx
  have hko:=kindOf_at hx
  split at h
  ·rename_i h7
   simp only[Option.some.injEq]at h
   have hk7:kindOf p.ps i=7:=by rw[hko,h7];rfl
   exact .inl ⟨hk7,mem_buttN.2 ⟨hi,hk7⟩,h.symm⟩
  ·rename_i h7
   split at h
   ·rename_i h6
    simp only[Option.some.injEq]at h
    obtain⟨q,b,hq,_,k,hk⟩:=hlim x (List.mem_of_getElem? hx) h6
    rw[hq]at h
    simp only[List.dropLast_concat]at h
    have hkl:=(List.findIdx?_eq_some_iff_getElem.1 hk).1
    rw[List.findIdx?_eq_some_iff_findIdx_eq]at hk
    rw[hk.2]at h
    refine .inr (.inl ⟨by rw[hko,h6];rfl,?_⟩)
    split at h<;>omega
   ·split at h
    ·rename_i h6 hm
     simp only[Option.some.injEq]at h
     have hpk:=(mem_valvN.1 hm).2.1
     refine .inr (.inr ⟨fun e=>?_,fun e=>?_,hm,h.symm⟩)
     ·rw[e]at hpk;exact hpk rfl
     ·rw[e]at hpk;exact hpk rfl
    ·simp at h
abbrev stHp (ss:PlS) (ct:Control) (b6 b9 b12:Nat) (g h1 h2 h3 h4:Value) (s:State):Heap:=
 (65,.seq g 3 1 (s.ends.map rI))::(61,.seq h1 4 1 (s.valves.map rB))::(62,.seq h2 4 1 (s.inputs.map rB))::(63,.seq h3 4 1 (s.values.map rB))::(64,.seq h4 3 1 (s.timers.map rI)) ::
 (12,.box b12 [.own 65 g,.own 61 h1,.own 62 h2,.own 63 h3,.own 64 h4])::(9,.box b9 ((encC ct).map A.dat))::(6,.box b6 [.nils,.nils,.nils,.nils,.nils])::ss.hp
abbrev stEnv (c:Cir) (pos ends:List Int) (ss:PlS) (b6 b9 b12:Nat):List (Nat×A):=[(1,aIs pos),(2,aIs ends),(3,.rptr (encCi c)),(6,.ptr 6 b6 0),(7,aI 0),(8,.ptr 170 ss.b 0),(9,.ptr 9 b9 0),(12,.ptr 12 b12 0)]
def stEnd (p:Pln) (ct:Control) (pos ends:List Int) (s0:State) (n:Nat):State×Int:=match p.stFold ct pos ends s0 n with
 | .error e=>(noSt,e)
 | .ok s=>gatesR ct s
theorem state_d {c:Cir}{ss:PlS}(hA:ss.At (planZ c)) (hr:CirR c) (hd:drvE c.parts (netsZ c)=0) {ct:Control}(hok:OkC ct) (hsig:(planZ c).order.length+(planZ c).valv.length<=ct.signals.length) (hsl:ct.signals.length<=1000000) {pos ends:List Int}(hpos:pos.length=c.parts.length) (hends:ends.length=(planZ c).drives.length)
  (b6 b9 b12:Nat) (g h1 h2 h3 h4:Value) {s0:State}(hs0:StS (planZ c) ct ends s0) :
  V ⟨Tryz.prog,none,164⟩ (restC Tryz.f10 9) (hdE (stEnv c pos ends ss b6 b9 b12) []) (stHp ss ct b6 b9 b12 g h1 h2 h3 h4 s0)
   (RetV Tryz.prog [.cell 6 31,.tmp 7] fun r' H'=>(frz H' r').1∧(frz H' r').2=.tuple [aSt (stEnd (planZ c) ct pos ends s0 c.parts.length).1,aI (stEnd (planZ c) ct pos ends s0 c.parts.length).2]):=by
 have hps:(planZ c).ps=c.parts:=rfl
 have hpl:c.parts.length<=64:=hr.few
 have hdl:(planZ c).drives.length<=64:=(planZ_B hr).dl
 have hbl:(planZ c).butt.length<=64:=(planZ_B hr).bl
 have hlim:=planZ_lim hr
 have hfirst:(planZ c).first=2*(planZ c).drives.length+(planZ c).butt.length:=rfl
 have hdr:=hA.dr
 generalize hR:stEnd (planZ c) ct pos ends s0 c.parts.length=R
 refine V.rest rfl ?_
 refine V.of_vcN 1 ?_
 simp
 refine V.forI (σ:=State) c.parts.length [1,2,6,7,8,9,12,62] (by simp;exact rfl) (fun i _=>[(63,aI i)]) (fun _ s=>stHp ss ct b6 b9 b12 g h1 h2 h3 h4 s) (fun i s=>(planZ c).stFold ct pos ends s0 i=.ok s∧StS (planZ c) ct ends s) s0 ⟨rfl,hs0⟩ (by simp) ⟨by simp;exact rfl,by simp⟩ ?_ ?_
 ·rintro i ⟨s1,s2,s3,s4,s5⟩ hi ⟨hI,hS⟩
  have hSn:=fun t=>hS.step (pos:=pos) (i:=i) (t:=t)
  obtain⟨z1,z2,z3,z4,z5⟩:=hS
  simp only at z1 z2 z3 z4 z5
  subst z5
  have hip:i<pos.length:=by omega
  obtain⟨z,hz⟩:∃z,pos[i]=z:=⟨_,rfl⟩
  have hzo:pos[i]?=some z:=by rw[List.getElem?_eq_getElem hip,hz]
  have hon:onP pos i=(z==1):=by unfold onP;rw[List.getD_eq_getElem?_getD,hzo];rfl
  have hdv:=driven_s hA.ok hA.dr (by omega) i
  have hkk:=hA.kind (i:=i) hi
  have hff:=first_s hA
  have hl:=hA.line i
  have hfold:(planZ c).stFold ct pos s1 s0 (i+1)=(planZ c).stStep ct pos s1 ⟨s1,s2,s3,s4,s5⟩ i:=by simp only[Pln.stFold,hI]
  have herr:∀e,(planZ c).stStep ct pos s1 ⟨s1,s2,s3,s4,s5⟩ i=.error e->R=(noSt,e):=fun e he=>by
   rw[<- hR]
   unfold stEnd
   rw[stFold_err (i:=i+1) (by rw[hfold,he]) c.parts.length (by omega)]
  rw[hfold]
  generalize hT:(planZ c).stStep ct pos s1 ⟨s1,s2,s3,s4,s5⟩ i=T at *
  unfold Pln.stStep at hT
  simp only at hT
  rw[hon]at hT
  simp[hi,hip,hz,hzo]
  refine (hdv.mid [(65,_),(61,_),(62,_),(63,_),(64,_),(12,_),(9,_),(6,_)] []).mono ?_
  rintro r H' ⟨rfl,rfl⟩
  generalize hb:(z==1)=on at *
  cases hz2:drivenZ (planZ c).drives i with
  | some k=>
   have hkl:=drivenZ_lt hz2
   rw[hz2]at hT
   simp only at hT
   subst hT
   have hk2:k<s2.length:=by omega
   obtain⟨y,hy⟩:∃y,s2[k]=y:=⟨_,rfl⟩
   have hyo:s2[k]?=some y:=by rw[List.getElem?_eq_getElem hk2,hy]
   have hnx:=hSn _ rfl
   simp[idxI,hk2,hy,hyo]
   exact⟨⟨by omega,by omega⟩,⟨s1,s2.set k on,s3,s4,s5⟩,⟨rfl,hnx⟩,rfl,by simp,rfl,rfl,rfl⟩
  | none=>
   rw[hz2]at hT
   simp only at hT
   cases hn:(planZ c).line i with
   | none=>
    rw[hn]at hl hT
    simp only at hT
    subst hT
    have hnx:=hSn _ rfl
    simp[idxI,hl]
    exact⟨⟨by omega,by omega⟩,⟨s1,s2,s3,s4,s5⟩,⟨rfl,hnx⟩,rfl,rfl,rfl,rfl,rfl⟩
   | some n=>
    rw[hn]at hl hT
    simp only at hT
    have hkm:=hkk.mid [(65,.seq g 3 1 (s1.map rI)),(61,.seq h1 4 1 (s2.map rB)),(62,.seq h2 4 1 (s3.map rB)),(63,.seq h3 4 1 (s4.map rB)),(64,.seq h4 3 1 (s5.map rI)),(12,.box b12 [.own 65 g,.own 61 h1,.own 62 h2,.own 63 h3,.own 64 h4]),(9,.box b9 ((encC ct).map A.dat)),(6,.box b6 [.nils,.nils,.nils,.nils,.nils])] []
    have hfm:=first_s hA
    rcases line_cases hlim hn with⟨hk,hm,hne⟩|⟨hk,hne⟩|⟨hk7,hk6,hm,hne⟩
    ·have hj:=List.idxOf_lt_length_of_mem hm
     generalize (planZ c).butt.idxOf i=j at *
     subst hne
     rw[if_pos hk,show 2*(planZ c).drives.length+j-2*(planZ c).drives.length=j by omega]at hT
     subst hT
     have hnx:=hSn _ rfl
     have hj3:j<s3.length:=by omega
     obtain⟨y,hy⟩:∃y,s3[j]=y:=⟨_,rfl⟩
     have hyo:s3[j]?=some y:=by rw[List.getElem?_eq_getElem hj3,hy]
     simp[idxI,hl]
     refine hkm.mono ?_
     rintro r H' ⟨rfl,rfl⟩
     rw[hk]
     simp
     refine V.drawX (fun _=>none) (by kernel_rfl) (by kernel_rfl) (by simp) ?_
     simp[hdr,hl,hj3,hy,hyo,show (2*((planZ c).drives.length:Int)+(j:Int)-2*((planZ c).drives.length:Int))=(j:Int) by omega]
     exact⟨⟨by omega,by omega⟩,by omega,by kernel_rfl,⟨by omega,by omega⟩,⟨s1,s2,s3.set j on,s4,s5⟩,⟨rfl,hnx⟩,rfl,rfl,by simp,rfl,rfl⟩
    ·rw[if_neg (by omega),if_pos hk]at hT
     simp[idxI,hl]
     refine hkm.mono ?_
     rintro r H' ⟨rfl,rfl⟩
     rw[hk]
     simp
     refine hkm.mono ?_
     rintro r H' ⟨rfl,rfl⟩
     rw[hk]
     simp
     obtain⟨k,hk2⟩:∃k,n / 2=k:=⟨_,rfl⟩
     have hq0:(n:Int) / 2=(k:Int):=by omega
     have hk3:k<s1.length:=by omega
     obtain⟨y,hy⟩:∃y,s1[k]=y:=⟨_,rfl⟩
     have hyo:s1[k]?=some y:=by rw[List.getElem?_eq_getElem hk3,hy]
     rw[hk2,show s1.getD k 0=y by rw[List.getD_eq_getElem?_getD,hyo];rfl]at hT
     rcases (show n % 2=0∨n % 2=1 by omega) with hm | hm
     ·have hr0:(n:Int).tmod 2=0:=by rw[Int.tmod_eq_emod_of_nonneg (by omega)];omega
      rw[if_pos hm]at hT
      refine V.drawX (fun _=>none) (by kernel_rfl) (by kernel_rfl) (by simp) ?_
      simp[hl,hq0,hr0,hk3,hy,hyo]
      refine⟨by omega,fun hne=>?_,fun heq=>?_⟩
      ·rw[if_neg hne]at hT
       have:=herr 16 hT.symm
       rw[this]
       simp[noSt]
      ·rw[if_pos heq]at hT
       exact⟨⟨by omega,by omega⟩,⟨s1,s2,s3,s4,s5⟩,⟨hT.symm,hSn _ hT.symm⟩,rfl,rfl,rfl,rfl,rfl⟩
     ·have hr0:(n:Int).tmod 2=1:=by rw[Int.tmod_eq_emod_of_nonneg (by omega)];omega
      rw[if_neg (by omega:¬n % 2=0)]at hT
      refine V.drawX (fun _=>none) (by kernel_rfl) (by kernel_rfl) (by simp) ?_
      simp[hl,hq0,hr0,hk3,hy,hyo]
      refine⟨by omega,fun hne=>?_,fun heq=>?_⟩
      ·rw[if_neg hne]at hT
       have:=herr 16 hT.symm
       rw[this]
       simp[noSt]
      ·rw[if_pos heq]at hT
       exact⟨⟨by omega,by omega⟩,⟨s1,s2,s3,s4,s5⟩,⟨hT.symm,hSn _ hT.symm⟩,rfl,rfl,rfl,rfl,rfl⟩
    ·rw[if_neg hk7,if_neg hk6]at hT
     have hk7':¬((kindOf (planZ c).ps i:Nat):Int)=7:=by omega
     have hk6':¬((kindOf (planZ c).ps i:Nat):Int)=6:=by omega
     simp[idxI,hl]
     refine hkm.mono ?_
     rintro r H' ⟨rfl,rfl⟩
     simp[hk7']
     refine hkm.mono ?_
     rintro r H' ⟨rfl,rfl⟩
     simp[hk6']
     have hj:=List.idxOf_lt_length_of_mem hm
     obtain⟨m,hnm⟩:∃m,n=(planZ c).first+m:=⟨(planZ c).order.length+(planZ c).valv.idxOf i,by omega⟩
     have hms:m<ct.signals.length:=by omega
     have hfl:(planZ c).first<=200:=by omega
     subst hnm
     rw[show (planZ c).first+m-(planZ c).first=m by omega]at hT
     generalize (planZ c).first=F at *
     obtain⟨x,hx⟩:∃x,ct.signals[m]=x:=⟨_,rfl⟩
     have hxo:ct.signals[m]?=some x:=by rw[List.getElem?_eq_getElem hms,hx]
     obtain⟨y,hy⟩:∃y,s4[m]'(by omega)=y:=⟨_,rfl⟩
     have hyo:s4[m]?=some y:=by rw[List.getElem?_eq_getElem (by omega),hy]
     obtain⟨w,hw⟩:∃w,s5[m]'(by omega)=w:=⟨_,rfl⟩
     have hwo:s5[m]?=some w:=by rw[List.getElem?_eq_getElem (by omega),hw]
     have hm4:m<s4.length:=by omega
     have hm5:m<s5.length:=by omega
     have hFm:(F:Int)+(m:Int)-(F:Int)=(m:Int):=by omega
     rw[hxo]at hT
     simp only[Option.map_some,Option.some.injEq]at hT
     refine V.drawX (fun t=>if t=87 then some (.ro (aI F)) else none) (by kernel_rfl) (by kernel_rfl) (by simp) ?_
     simp[hl,hFm,hm4,hy,hyo]
     refine⟨hfm,?_⟩
     simp
     refine⟨by omega,by kernel_rfl,?_⟩
     refine V.drawX (fun t=>if t=97 then some (.ro (aI F)) else none) (by kernel_rfl) (by kernel_rfl) (by simp) ?_
     cases on
     ·rw[if_neg (by simp)]at hT
      simp[hl,hFm,hms,hx,hxo]
      exact⟨⟨by omega,by omega⟩,⟨s1,s2,s3,s4.set m false,s5⟩,⟨hT.symm,hSn _ hT.symm⟩,rfl,rfl,rfl,by simp,rfl⟩
     ·simp[hl,hFm,hms,hx,hxo]
      refine⟨hfm,?_⟩
      simp
      refine⟨by omega,fun hk2=>?_,fun hk2=>?_⟩
      ·rw[if_pos ⟨rfl,hk2⟩]at hT
       refine V.drawX (fun t=>if t=108 then some (.ro (aI F)) else none) (by kernel_rfl) (by kernel_rfl) (by simp) ?_
       simp[hl,hFm,hm5,hw,hwo]
       refine⟨hfm,?_⟩
       simp
       exact⟨by omega,by kernel_rfl,⟨by omega,by omega⟩,⟨s1,s2,s3,s4.set m true,s5.set m 2⟩,⟨hT.symm,hSn _ hT.symm⟩,rfl,rfl,rfl,by simp,by simp⟩
      ·rw[if_neg (fun h=>hk2 h.2)]at hT
       exact⟨⟨by omega,by omega⟩,⟨s1,s2,s3,s4.set m true,s5⟩,⟨hT.symm,hSn _ hT.symm⟩,rfl,rfl,rfl,by simp,rfl⟩
 ·rintro⟨s1,s2,s3,s4,s5⟩ ⟨hI,hS⟩
  obtain⟨z1,z2,z3,z4,z5⟩:=hS
  simp only at z1 z2 z3 z4 z5
  subst z5
  have hsm:SmS ⟨s1,s2,s3,s4,s5⟩:=⟨by simp only;omega,by simp only;omega,by simp only;omega,by simp only;omega,by simp only;omega⟩
  have hgt:=Gates_fn ct ⟨s1,s2,s3,s4,s5⟩ hok hsm
  have hRe:R=gatesR ct ⟨s1,s2,s3,s4,s5⟩:=by rw[<- hR];unfold stEnd;rw[hI]
  rw[<- hRe]at hgt
  simp
  refine V.of_vc ?_
  simp
  refine hgt.give (Hc:=[(65,_),(61,_),(62,_),(63,_),(64,_)]) (Hr:=(12,.box b12 [.own 65 g,.own 61 h1,.own 62 h2,.own 63 h3,.own 64 h4])::(9,.box b9 ((encC ct).map A.dat))::(6,.box b6 [.nils,.nils,.nils,.nils,.nils])::ss.hp) rfl (by simp[frzs,frz,rowsD,allD,isD]) ?_
  simp
theorem idx_find {l:List Nat}{i:Nat}(h:i∈l):l.findIdx? (i==·)=some (l.idxOf i):=by
 rw[List.findIdx?_eq_some_iff_findIdx_eq]
 refine⟨List.idxOf_lt_length_of_mem h,?_⟩
 unfold List.idxOf
 congr 1
 funext x
 rw[Bool.eq_iff_iff]
 simp only[beq_iff_eq]
 exact eq_comm
theorem placeR_fn {c:Cir}(h:PlR c) {i n:Nat}(hn:(planZ c).line i=some n) (hi:i<c.parts.length):CallFn Tryz.prog 58 [.record (encPl (planZ c) c.pipes),aI i] (aI n):=by
 have hB:=planZ_B h.cir
 have hf:=firstR_fn h
 have hbu:=Buttons_o h.cir
 have hva:=Valves_fn h.cir (d:=(planZ c).drives) (by have:=hB.dl;omega)
 have hdl:=hB.dl
 have hol:=hB.ol
 have hbl:=hB.bl
 have hvl:=hB.vl
 have hfl:=hB.fl
 have hlim:=planZ_lim h.cir
 have hps:(planZ c).ps=c.parts:=rfl
 have hdm:=fun d (hd:d∈(planZ c).drives)=>(mem_drvN h.drv hd).1
 obtain⟨x,hx⟩:∃x,c.parts[i]=x:=⟨_,rfl⟩
 have hxo:c.parts[i]?=some x:=by rw[List.getElem?_eq_getElem hi,hx]
 obtain⟨hk,hk14⟩:=kind_of h.cir hxo
 have hxm:=List.mem_of_getElem? hxo
 have hxl:=(part_len (h.cir.part x hxm)).1
 change CallFn _ _ _ (aNs (planZ c).butt) at hbu
 change CallFn _ _ _ (aNs (planZ c).valv) at hva
 rcases line_cases hlim hn with⟨hk7,hm,hne⟩|⟨hk6,hne⟩|⟨hk7,hk6,hm,hne⟩
 ·change kindOf c.parts i=7 at hk7
  have hx7:x.kind=7:=by omega
  have hat:=at_fn (planZ c).butt i (by unfold Sh;omega)
  have hj:=List.idxOf_lt_length_of_mem hm
  have hje:(planZ c).butt.findIdx? (i==·)=some ((planZ c).butt.idxOf i):=idx_find hm
  rw[hje]at hat
  generalize (planZ c).butt.idxOf i=j at *
  generalize (planZ c).butt=bu at *
  subst hne
  refine callFz_of Tryz.func58 rfl Tryz.ntmps58 (rs:=[.tmp 4]) rfl (by kernel_rfl) (by simp) (by kernel_rfl) ?_
  simp[hps,hi,hx,hxo,hx7]
  intro b5
  refine V.drawX (fun t=>if t=23 then some (.fn (aNs bu)) else if t=25 then some (.fn (aI j)) else none) (by kernel_rfl) (by kernel_rfl) (by simp) ?_
  simp[hps]
  exact⟨⟨by omega,by omega⟩,hbu,hat,by omega,by omega⟩
 ·change kindOf c.parts i=6 at hk6
  have hx6:x.kind=6:=by omega
  obtain⟨q,b,hq,hb,kx,hkx⟩:=hlim x hxm hx6
  have hline:(planZ c).line i=some (2*kx+if b=49 then 1 else 0):=by
   unfold Pln.line
   rw[hps,hxo]
   simp only
   rw[if_neg (by omega),if_pos hx6,hq]
   simp only[List.dropLast_concat,List.getLast?_append,List.getLast?_singleton,Option.some_or,Option.some.injEq]
   rw[List.findIdx?_eq_some_iff_findIdx_eq]at hkx
   rw[hkx.2]
  rw[hline]at hn
  simp only[Option.some.injEq]at hn
  subst hn
  have hpd:=fun d (hd:d∈(planZ c).drives)=>hdm d hd
  generalize hDR:(planZ c).drives=DR at *
  obtain⟨x1,x2,x3⟩:=x
  simp only at hx6 hq hxl
  subst hx6
  subst hq
  simp at hxl
  refine callFz_of Tryz.func58 rfl Tryz.ntmps58 (rs:=[.tmp 4]) rfl (by kernel_rfl) (by simp) (by kernel_rfl) ?_
  simp[hps,hi,hx,hxo,hDR]
  intro b5
  refine V.forI (σ:=Unit) DR.length [2,4,5,6] (by simp;exact rfl) (fun n _=>[(7,aI n)]) (fun _ _=>[(5,.box b5 [aI 6,aT (q++[b]),aI x3])]) (fun n _=>NoF (fun d:Drv=>(c.parts.getD d.1 ⟨6,q++[b],x3⟩).name==q) (DR.take n)) () (by simp) (by simp) ⟨by simp;exact rfl,by simp⟩ ?_ ?_
  ·rintro n ⟨⟩ hn hI
   obtain⟨d,hd⟩:∃d,DR[n]=d:=⟨_,rfl⟩
   have hdo:DR[n]?=some d:=by rw[List.getElem?_eq_getElem hn,hd]
   have hs:=findIdx_step (p:=fun d:Drv=>(c.parts.getD d.1 ⟨6,q++[b],x3⟩).name==q) hI hdo
   have hdl1:=hpd d (List.mem_of_getElem? hdo)
   obtain⟨y,hy⟩:∃y,c.parts[d.1]=y:=⟨_,rfl⟩
   have hyo:c.parts[d.1]?=some y:=by rw[List.getElem?_eq_getElem hdl1,hy]
   rw[List.getD_eq_getElem?_getD,hyo,Option.getD_some]at hs
   simp[hn,hd,hdo,hDR]
   refine V.drawX (fun _=>none) (by kernel_rfl) (by kernel_rfl) (by simp) ?_
   simp[hps,hn,hd,hdo,hDR,hdl1,hy,hyo]
   refine⟨by omega,fun e=>?_,fun e=>⟨⟨by omega,by omega⟩,?_⟩⟩
   ·have h1:=hs.2 (by rw[e];simp)
    rw[hkx]at h1
    cases h1
    rcases hb with rfl | rfl
    ·refine⟨⟨by omega,by omega⟩,by omega,by omega,⟨by decide,by decide⟩,⟨by decide,by decide⟩,⟨by simp;omega,by simp;omega⟩,by simp⟩
    ·refine⟨⟨by omega,by omega⟩,by omega,by omega,⟨by decide,by decide⟩,⟨by decide,by decide⟩,⟨by simp;omega,by simp;omega⟩,by simp⟩
   ·have:=hs.1 (by simpa using e)
    simpa using this
  ·rintro⟨⟩ hI
   have:=findIdx_none hI
   rw[hkx]at this
   cases this
 ·change kindOf c.parts i≠7 at hk7
  change kindOf c.parts i≠6 at hk6
  have hx7:¬x.kind=7:=by omega
  have hx6:¬x.kind=6:=by omega
  have hat:=at_fn (planZ c).valv i (by unfold Sh;omega)
  have hj:=List.idxOf_lt_length_of_mem hm
  have hje:(planZ c).valv.findIdx? (i==·)=some ((planZ c).valv.idxOf i):=idx_find hm
  rw[hje]at hat
  generalize (planZ c).valv.idxOf i=j at *
  generalize (planZ c).valv=va at *
  subst hne
  refine callFz_of Tryz.func58 rfl Tryz.ntmps58 (rs:=[.tmp 4]) rfl (by kernel_rfl) (by simp) (by kernel_rfl) ?_
  simp[hps,hi,hx,hxo,hx7,hx6]
  intro b5
  refine V.drawX (fun t=>if t=31 then some (.fn (aI (planZ c).first)) else if t=40 then some (.fn (aNs va)) else if t=42 then some (.fn (aI j)) else none) (by kernel_rfl) (by kernel_rfl) (by simp) ?_
  simp[hps]
  exact⟨hf,⟨by omega,by omega⟩,hva,hat,by omega,by omega⟩
theorem manyK_line {c:Cir}(h:PlR c) {i:Nat}(hi:i<c.parts.length) (hm:1<manyK (kindOf c.parts i)) (hd:drivenZ (planZ c).drives i=none):∃n,(planZ c).line i=some n:=by
 obtain⟨x,hx⟩:∃x,c.parts[i]=x:=⟨_,rfl⟩
 have hxo:c.parts[i]?=some x:=by rw[List.getElem?_eq_getElem hi,hx]
 obtain⟨hk,hk14⟩:=kind_of h.cir hxo
 have hps:(planZ c).ps=c.parts:=rfl
 unfold Pln.line
 rw[hps,hxo]
 simp only
 by_cases h7:x.kind=7
 ·rw[if_pos h7];exact⟨_,rfl⟩
 ·rw[if_neg h7]
  by_cases h6:x.kind=6
  ·rw[if_pos h6];exact⟨_,rfl⟩
  ·rw[if_neg h6]
   have hp:plusK (kindOf c.parts i)≠[]:=by
    have h7':kindOf c.parts i≠7:=by omega
    have h6':kindOf c.parts i≠6:=by omega
    revert hm h7' h6'
    generalize kindOf c.parts i=k at hk14
    revert k
    refine k_cases ⟨?_,?_,?_,?_,?_,?_,?_,?_,?_,?_,?_,?_,?_,?_⟩<;>decide
   have hmv:i∈(planZ c).valv:=mem_valvN.2 ⟨hi,hp,hd⟩
   rw[if_pos hmv]
   exact⟨_,rfl⟩
theorem term_d {c:Cir}(g:Gift) (b4:Nat) (u v:Value) (Ls Ms:List Expr) (hL:Ls.length<=2) (hM:Ms.length<=2):V ⟨Tryz.prog,none,73⟩ (restC Tryz.f229 4)
  (hdE [(2,.rptr (encPl (planZ c) c.pipes)),(3,.rptr (encGf g)),(4,.ptr 4 b4 0),(5,.own 32 u),(6,.own 54 v)] []) [(54,.seq v 98 3 (Ms.map rE)),(32,.seq u 98 3 (Ls.map rE)),(4,.box b4 [aI 0,aI 0,.nils])]
  (RetV Tryz.prog [.cell 4 98] fun r' H'=>(frz H' r').1∧(frz H' r').2=aE (sevE 3 (Ls++(if g.pass.all=true then Ms else [sevE 4 Ms])))):=by
 have h4:=joinedR_fn 4 Ms (by omega)
 have h3:=joinedR_fn 3 (Ls++(if g.pass.all=true then Ms else [sevE 4 Ms])) (by split<;>simp<;>omega)
 obtain⟨Z,hZ⟩:∃Z,sevE 3 (Ls++(if g.pass.all=true then Ms else [sevE 4 Ms]))=Z:=⟨_,rfl⟩
 rw[hZ]at h3 ⊢
 refine V.rest rfl ?_
 refine V.frz1 (τ:=54) (h:=v) (e:=98) (sz:=3) (rows:=Ms.map rE) 6 rfl rfl (allD_E _) ?_
 rw[rowsD_E]
 refine V.of_vc ?_
 simp
 refine⟨fun hc u'=>?_,fun hall hlen=>?_⟩
 ·have e:(if g.pass.all=true then Ms else [sevE 4 Ms])=Ms:=by
   cases hall:g.pass.all with
   | true=>rfl
   | false=>
    rw[hall]at hc
    simp at hc
    cases Ms with
    | nil=>simp at hc
    | cons m Ms=>
     cases Ms with
     | nil=>rfl
     | cons m2 Ms=>
      simp at hc
      omega
  rw[e]at h3
  rw[mapE]
  refine⟨⟨?_,by omega⟩,h3.give (Hc:=[(32,_)]) (Hr:=[(4,.box b4 [aI 0,aI 0,.nils])]) rfl (by simp[frzs,frz]) ?_⟩
  ·intro y hy
   obtain⟨x,_,rfl⟩:=List.mem_map.1 hy
   simp[encE_eq]
  ·simp
 ·rw[if_neg (by simp[hall])]at h3
  obtain⟨x,hx⟩:∃x,sevE 4 Ms=x:=⟨_,rfl⟩
  rw[hx]at h4 h3
  refine h4.s ?_
  simp
  intro u'
  refine⟨by omega,h3.give (Hc:=[(32,_)]) (Hr:=[(4,.box b4 [aI 0,aI 0,.nils])]) rfl (by simp[frzs,frz,encE_eq]) ?_⟩
  simp
theorem term_e {c:Cir}(h:PlR c) {g:Gift}(hsl:g.pass.src.length<=2) (hsrc:∀t∈g.pass.src,((g.part:Int),t)∈allP c.parts) (b4:Nat) (u:Value) (Ls:List Expr) (hL:Ls.length<=2):V ⟨Tryz.prog,none,73⟩ (restC Tryz.f229 3)
  (hdE [(2,.rptr (encPl (planZ c) c.pipes)),(3,.rptr (encGf g)),(4,.ptr 4 b4 0),(5,.own 32 u),(6,.nils)] []) [(32,.seq u 98 3 (Ls.map rE)),(4,.box b4 [aI 0,aI 0,.nils])]
  (RetV Tryz.prog [.cell 4 98] fun r' H'=>(frz H' r').1∧(frz H' r').2=aE (sevE 3 (Ls++(if g.pass.all=true then g.pass.src.map ((planZ c).gate g.part) else [sevE 4 (g.pass.src.map ((planZ c).gate g.part))])))):=by
 have hgt:=fun t ht=>gateR_fn h (i:=g.part) (t:=t) (hsrc t ht)
 refine V.rest rfl ?_
 refine V.of_vcN 1 ?_
 simp
 refine V.forI (σ:=Value) g.pass.src.length [2,3,4,5] (by simp;exact rfl) (fun i v=>[(6,.own 54 v),(8,aI i)]) (fun i v=>[(54,.seq v 98 3 (((g.pass.src.take i).map ((planZ c).gate g.part)).map rE)),(32,.seq u 98 3 (Ls.map rE)),(4,.box b4 [aI 0,aI 0,.nils])]) (fun _ _=>True) (.slice none 0 0) trivial (by simp) ⟨by simp;exact rfl,by simp⟩ ?_ ?_
 ·rintro i v hi -
  obtain⟨t,ht⟩:∃t,g.pass.src[i]=t:=⟨_,rfl⟩
  have hto:g.pass.src[i]?=some t:=by rw[List.getElem?_eq_getElem hi,ht]
  have hg:=hgt t (List.mem_of_getElem? hto)
  have e1:((g.pass.src.take (i+1)).map ((planZ c).gate g.part))=(g.pass.src.take i).map ((planZ c).gate g.part)++[(planZ c).gate g.part t]:=by
   rw[List.take_add_one,hto,List.map_append]
   rfl
  have hW:((g.pass.src.take i).map ((planZ c).gate g.part)).length<=2:=by rw[List.length_map,List.length_take];omega
  rw[e1]
  generalize (g.pass.src.take i).map ((planZ c).gate g.part)=W at *
  generalize (planZ c).gate g.part t=G at *
  simp[hi,ht,hto]
  refine V.drawX (fun k=>if k=52 then some (.fn (aE G)) else none) (by kernel_rfl) (by kernel_rfl) (by simp) ?_
  simp[hi,ht,hto]
  exact⟨hg,by omega,by omega,by omega⟩
 ·rintro v -
  rw[List.take_length]
  simp
  exact V.cutV (Hs:=[(54,.seq v 98 3 ((g.pass.src.map ((planZ c).gate g.part)).map rE)),(32,.seq u 98 3 (Ls.map rE)),(4,.box b4 [aI 0,aI 0,.nils])]) [(2,.rptr (encPl (planZ c) c.pipes)),(3,.rptr (encGf g)),(4,.ptr 4 b4 0),(5,.own 32 u),(6,.own 54 v)] (by simp) (by simp) (V.of_rest rfl (term_d (c:=c) g b4 u v Ls (g.pass.src.map ((planZ c).gate g.part)) hL (by simpa using hsl)))
theorem termR_fn {c:Cir}(h:PlR c) {g:Gift}(hg:g.part<c.parts.length) (hd:drivenZ (planZ c).drives g.part=none) (hsl:g.pass.src.length<=2) (hsrc:∀t∈g.pass.src,((g.part:Int),t)∈allP c.parts) :
  CallFn Tryz.prog 229 [.record (encPl (planZ c) c.pipes),.record (encGf g)] (aE ((planZ c).term g)):=by
 obtain⟨x,hx⟩:∃x,c.parts[g.part]=x:=⟨_,rfl⟩
 have hxo:c.parts[g.part]?=some x:=by rw[List.getElem?_eq_getElem hg,hx]
 obtain⟨hk,hk14⟩:=kind_of h.cir hxo
 have hmy:=Many_fn (kindOf c.parts g.part) hk14
 rw[<- hk]at hmy
 have hgt:=fun t ht=>gateR_fn h (i:=g.part) (t:=t) (hsrc t ht)
 have hps:(planZ c).ps=c.parts:=rfl
 have hmt:(planZ c).term g=sevE 3 ((planZ c).posL g++(if g.pass.all=true then g.pass.src.map ((planZ c).gate g.part) else [sevE 4 (g.pass.src.map ((planZ c).gate g.part))])):=rfl
 rw[hmt]
 have hrest:=fun b4 u Ls hL=>term_e h hsl hsrc b4 u Ls hL
 generalize (if g.pass.all=true then g.pass.src.map ((planZ c).gate g.part) else [sevE 4 (g.pass.src.map ((planZ c).gate g.part))])=T at hrest ⊢
 refine callFz_cut 3 Tryz.func229 rfl Tryz.ntmps229 (rs:=[.cell 4 98]) rfl (by kernel_rfl) (by simp) (by kernel_rfl) ?_
 simp[hps,hg,hx,hxo]
 intro b4
 refine hmy.s ?_
 simp
 refine⟨fun hm=>?_,fun hm=>?_⟩
 ·obtain⟨n,hn⟩:=manyK_line h hg (by omega) hd
  have hpl:=placeR_fn h hn hg
  have hp:(planZ c).posL g=[if g.pos=0 then notE (varE ((n:Nat):Int)) else varE ((n:Nat):Int)]:=by
   unfold Pln.posL
   rw[hps,if_pos (by omega),hn]
   rfl
  rw[hp]
  obtain⟨y,hy⟩:∃y,varE (n:Int)=y:=⟨_,rfl⟩
  have hv:=variableR_fn n
  have hop:=turned_fn y
  rw[hy]at hv ⊢
  refine hpl.s ?_
  simp
  refine hv.s ?_
  simp
  intro b7
  refine⟨fun h0=>?_,fun h0=>?_⟩
  ·refine hop.s ?_
   rw[if_pos h0]
   obtain⟨z,hz⟩:∃z,notE y=z:=⟨_,rfl⟩
   rw[hz]
   simp
   intro u
   exact V.cutV (Hs:=[(32,.seq u 98 3 ([z].map rE)),(4,.box b4 [aI 0,aI 0,.nils])]) [(2,.rptr (encPl (planZ c) c.pipes)),(3,.rptr (encGf g)),(4,.ptr 4 b4 0),(5,.own 32 u),(6,.nils)] (by simp) (by simp) (V.of_rest rfl (hrest b4 u [z] (by simp)))
  ·rw[if_neg h0]
   simp
   intro u
   exact V.cutV (Hs:=[(32,.seq u 98 3 ([y].map rE)),(4,.box b4 [aI 0,aI 0,.nils])]) [(2,.rptr (encPl (planZ c) c.pipes)),(3,.rptr (encGf g)),(4,.ptr 4 b4 0),(5,.own 32 u),(6,.nils)] (by simp) (by simp) (V.of_rest rfl (hrest b4 u [y] (by simp)))
 ·have hp:(planZ c).posL g=[]:=by
   unfold Pln.posL
   rw[hps,if_neg (by omega)]
  rw[hp]
  exact V.cutV (Hs:=[(32,.seq (.slice none 0 0) 98 3 (([]:List Expr).map rE)),(4,.box b4 [aI 0,aI 0,.nils])]) [(2,.rptr (encPl (planZ c) c.pipes)),(3,.rptr (encGf g)),(4,.ptr 4 b4 0),(5,.own 32 (.slice none 0 0)),(6,.nils)] (by simp) (by simp) (V.of_rest rfl (hrest b4 (.slice none 0 0) [] (by simp)))
theorem drvd_gifts {ps:List Prt}{d:List Drv}{x:PortZ}{g:Gift}(h:g∈giftsZ ps d x):drivenZ d x.1.toNat=none:=by
 unfold giftsZ at h
 split at h
 ·simp at h
 ·rename_i hn
  cases e:drivenZ d x.1.toNat with
  | none=>rfl
  | some k=>rw[e]at hn;simp at hn
theorem fedR_fn {c:Cir}(h:PlR c) {i:Nat}(hi:i<(netsZ c).length):CallFn Tryz.prog 158 [.record (encPl (planZ c) c.pipes),aI i] (aE ((planZ c).fed i)):=by
 have hN:=nsOK h.cir
 have hB:=planZ_B h.cir
 obtain⟨l,hl⟩:∃l,(netsZ c)[i]=l:=⟨_,rfl⟩
 have hlo:(netsZ c)[i]?=some l:=by rw[List.getElem?_eq_getElem hi,hl]
 obtain⟨n1,n2,n3⟩:=hN.net l (List.mem_of_getElem? hlo)
 have hps:(planZ c).ps=c.parts:=rfl
 have hns:(planZ c).nets=netsZ c:=rfl
 have hfe:(planZ c).fed i=sevE 4 ((planZ c).fedL l):=by
  unfold Pln.fed
  rw[hns,List.getD_eq_getElem?_getD,hlo]
  rfl
 have hfl:=fedL_len (planZ c)
 have hgv:=fun j t hj=>gives_fn h.cir (d:=(planZ c).drives) (by have:=hB.dl;omega) (j:=j) (t:=t) hj
 have hjn:=joinedR_fn 4 ((planZ c).fedL l) (by have:=hfl l;omega)
 rw[hfe]
 obtain⟨Z,hZ⟩:∃Z,sevE 4 ((planZ c).fedL l)=Z:=⟨_,rfl⟩
 rw[hZ]at hjn ⊢
 refine callFz_of Tryz.func158 rfl Tryz.ntmps158 (rs:=[.cell 4 98]) rfl (by kernel_rfl) (by simp) (by kernel_rfl) ?_
 simp[hns,hi,hl,hlo]
 intro b4
 refine V.forI (σ:=Value) l.length [1,2,4] (by simp;exact rfl) (fun n v=>[(5,.own 50 v),(6,aI n)]) (fun n v=>[(50,.seq v 98 3 (((planZ c).fedL (l.take n)).map rE)),(4,.box b4 [aI 0,aI 0,.nils])]) (fun _ _=>True) (.slice none 0 0) trivial (by simp) ⟨by simp;exact rfl,by simp[Pln.fedL]⟩ ?_ ?_
 ·rintro n v hn -
  obtain⟨x,hx⟩:∃x,l[n]=x:=⟨_,rfl⟩
  have hxo:l[n]?=some x:=by rw[List.getElem?_eq_getElem hn,hx]
  obtain⟨j,q,hj,hq,hx1,hx2⟩:=mem_allN.1 (n3 x (List.mem_of_getElem? hxo))
  obtain⟨x1,x2⟩:=x
  simp only at hx1
  subst hx1
  obtain⟨hk,hk14⟩:=kind_of h.cir hq
  obtain⟨hjl,hqe⟩:=List.getElem?_eq_some_iff.1 hq
  have hgj:=hgv j x2 hj
  have hst:(planZ c).fedL (l.take (n+1))=(planZ c).fedL (l.take n)++((if kindOf c.parts j=0 then [⟨0,1,[]⟩] else [])++(giftsZ c.parts (planZ c).drives ((j:Int),x2)).map (planZ c).term):=by
   rw[List.take_add_one,hxo]
   simp[Pln.fedL,hps]
  have hll:((planZ c).fedL (l.take n)).length<=3*448:=by
   have:=hfl (l.take n)
   rw[List.length_take]at this
   omega
  have hgt:∀G∈giftsZ c.parts (planZ c).drives ((j:Int),x2),CallFn Tryz.prog 229 [.record (encPl (planZ c) c.pipes),.record (encGf G)] (aE ((planZ c).term G)):=fun G hG=>by
   have hm:=given_mem (gifts_mem hG)
   have hd:=drvd_gifts hG
   simp only[Int.toNat_natCast]at hm hd
   refine termR_fn h (by rw[hm.1];exact hj) (by rw[hm.1];exact hd) (passK_srcl _ _ _ hm.2.2) fun t ht=>?_
   rw[hm.1]
   exact port_of hj (passK_src hk14 (by have:=manyK_le (kindOf c.parts j);omega) hm.2.2 ht)
  have hgl:(giftsZ c.parts (planZ c).drives ((j:Int),x2)).length<=2:=by
   unfold giftsZ
   split
   ·simp
   ·exact Nat.le_trans (gvN_len _ _ _ _) (manyK_le _)
  rw[hst]
  generalize giftsZ c.parts (planZ c).drives ((j:Int),x2)=GS at *
  generalize (planZ c).fedL (l.take n)=W at *
  obtain⟨q1,q2,q3⟩:=q
  simp only at hk
  have hin:∀(v:Value) (B:List Expr),B.length<=3*448+1->True:=fun _ _ _=>trivial
  simp[hns,hps,hi,hl,hlo,hn,hx,hxo]
  intro b7
  simp[hps,hjl,hq,hqe]
  by_cases h0:kindOf c.parts j=0
  ·have hk0:q1=0:=by omega
   rw[if_pos h0]
   obtain⟨B,hB⟩:∃B,W++[(⟨0,1,[]⟩:Expr)]=B:=⟨_,rfl⟩
   have hBl:B.length=W.length+1:=by rw[<- hB];simp
   have hBr:B.map rE=W.map rE++[rE ⟨0,1,[]⟩]:=by rw[<- hB,List.map_append];rfl
   rw[show W++([(⟨0,1,[]⟩:Expr)]++GS.map (planZ c).term)=B++GS.map (planZ c).term by rw[<- hB];simp]
   simp[hk0]
   intro u
   refine⟨by omega,?_⟩
   refine hgj.s ?_
   simp
   refine V.forI (σ:=Value) GS.length [1,2,4,6,7,8] (by simp;exact rfl) (fun m w=>[(5,.own 50 w),(9,aI m)]) (fun m w=>[(50,.seq w 98 3 ((B++(GS.take m).map (planZ c).term).map rE)),(7,.box b7 [aI j,aT x2]),(4,.box b4 [aI 0,aI 0,.nils])]) (fun _ _=>True) u trivial (by simp) ⟨by simp;exact rfl,by simp[hBr]⟩ ?_ ?_
   ·rintro m w hm -
    obtain⟨G,hG⟩:∃G,GS[m]=G:=⟨_,rfl⟩
    have hGo:GS[m]?=some G:=by rw[List.getElem?_eq_getElem hm,hG]
    have htm:=hgt G (List.mem_of_getElem? hGo)
    have e1:B++(GS.take (m+1)).map (planZ c).term=(B++(GS.take m).map (planZ c).term)++[(planZ c).term G]:=by
     rw[List.take_add_one,hGo]
     simp
    have hWl:(B++(GS.take m).map (planZ c).term).length<=3*448+3:=by
     rw[List.length_append,List.length_map,List.length_take]
     omega
    rw[e1]
    generalize B++(GS.take m).map (planZ c).term=X at *
    generalize (planZ c).term G=tx at *
    simp[hm,hG,hGo]
    refine V.drawX (fun t=>if t=59 then some (.fn (aE tx)) else none) (by kernel_rfl) (by kernel_rfl) (by simp) ?_
    simp[hm,hG,hGo]
    exact⟨htm,by omega,by omega,by omega⟩
   ·rintro w -
    rw[List.take_length]
    simp
    omega
  ·have hk0:¬q1=0:=by omega
   rw[if_neg h0,List.nil_append]
   simp[hk0]
   refine hgj.s ?_
   simp
   refine V.forI (σ:=Value) GS.length [1,2,4,6,7,8] (by simp;exact rfl) (fun m w=>[(5,.own 50 w),(9,aI m)]) (fun m w=>[(50,.seq w 98 3 ((W++(GS.take m).map (planZ c).term).map rE)),(7,.box b7 [aI j,aT x2]),(4,.box b4 [aI 0,aI 0,.nils])]) (fun _ _=>True) v trivial (by simp) ⟨by simp;exact rfl,by simp⟩ ?_ ?_
   ·rintro m w hm -
    obtain⟨G,hG⟩:∃G,GS[m]=G:=⟨_,rfl⟩
    have hGo:GS[m]?=some G:=by rw[List.getElem?_eq_getElem hm,hG]
    have htm:=hgt G (List.mem_of_getElem? hGo)
    have e1:W++(GS.take (m+1)).map (planZ c).term=(W++(GS.take m).map (planZ c).term)++[(planZ c).term G]:=by
     rw[List.take_add_one,hGo]
     simp
    have hWl:(W++(GS.take m).map (planZ c).term).length<=3*448+3:=by
     rw[List.length_append,List.length_map,List.length_take]
     omega
    rw[e1]
    generalize W++(GS.take m).map (planZ c).term=X at *
    generalize (planZ c).term G=tx at *
    simp[hm,hG,hGo]
    refine V.drawX (fun t=>if t=59 then some (.fn (aE tx)) else none) (by kernel_rfl) (by kernel_rfl) (by simp) ?_
    simp[hm,hG,hGo]
    exact⟨htm,by omega,by omega,by omega⟩
   ·rintro w -
    rw[List.take_length]
    simp
    omega
 ·rintro v -
  rw[List.take_length]
  simp[hns,hi,hl,hlo]
  refine hjn.give (Hc:=[(50,_)]) (Hr:=[(4,.box b4 [aI 0,aI 0,.nils])]) rfl (by simp[frzs,frz]) ?_
  simp
end Go.Proofs.YtpadinblmjlggaaGreatDoor
