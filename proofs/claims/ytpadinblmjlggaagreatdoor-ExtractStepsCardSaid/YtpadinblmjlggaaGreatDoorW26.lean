/- Texts joined by a program: Wh,Wi,Wj,Qu,Eha,Wk,Wl,Ei,Pk,Pb,Wm,Wn,Wo,Wp. -/
import Derived.Shelf.Slices.Delete
import Derived.Test.YtpadinblmjlggaaGreatDoorW25
import Derived.Test.YtpadinblmjlggaaGreatDoorW21
import Derived.Test.YtpadinblmjlggaaGreatDoorW22
import Derived.Test.YtpadinblmjlggaaGreatDoorW14
import Derived.Test.YtpadinblmjlggaaGreatDoorW18
import Derived.Test.YtpadinblmjlggaaGreatDoorW17
set_option linter.unusedSimpArgs false
set_option linter.unusedVariables false
set_option maxHeartbeats 8000000
set_option maxRecDepth 1000000
namespace Go.Proofs.YtpadinblmjlggaaGreatDoor
abbrev sgQ (c:Cir):A->Heap->Prop:=fun r' H'=>(frz H' r').1∧(frz H' r').2=.dat (.sl ((planZ c).ctl.signals.map encS))
theorem rowsD_S (xs:List Signal):rowsD (xs.map rSg)=xs.map encS:=by unfold rowsD;rw[List.map_map];congr 1
theorem allD_S (xs:List Signal):allD (xs.map rSg)=true:=by simp[allD,isD]
theorem pil_sp {p:Pln}{n:Nat}{d:Drv}(hd:p.drives[n]?=some d):(p.pil (n+1)).2.2=if kindOf p.ps d.2=2 then (p.pil n).2.2 else (p.pil n).2.2++[p.sprS d.2]:=by
 rw[p.pil_succ hd]
 rfl
theorem sg_d {c:Cir}(h:PlR c) (g:Value):V ⟨Tryz.prog,none,136⟩ (restC Tryz.f101 5) (hdE [(1,.rptr (encPl (planZ c) c.pipes)),(2,.nils),(3,.own 50 g)] []) [(50,.seq g 100 10 ((planZ c).sig0.map rSg))] (RetV Tryz.prog [.tmp 2] (sgQ c)):=by
 have hB:=planZ_B h.cir
 have hD:=planZ_D h.drv
 have hps:(planZ c).ps=c.parts:=rfl
 have hs0:(planZ c).sig0.length<=512:=by
  have:=hB.ol
  have:=hB.vl
  unfold Pln.sig0
  simp only[List.length_append,List.length_map]
  omega
 have hdl:=hB.dl
 refine V.rest rfl ?_
 refine V.of_vcN 1 ?_
 simp
 refine V.forI (σ:=Value) (planZ c).drives.length [1,2] (by simp;exact rfl) (fun n v=>[(3,.own 50 v),(11,aI n)]) (fun n v=>[(50,.seq v 100 10 (((planZ c).pil n).2.2.map rSg))]) (fun _ _=>True) g trivial (by simp) ⟨by simp;exact rfl,by simp[Pln.pil]⟩ ?_ ?_
 ·rintro n v hn -
  obtain⟨d,hd⟩:∃d,(planZ c).drives[n]=d:=⟨_,rfl⟩
  have hdo:(planZ c).drives[n]?=some d:=by rw[List.getElem?_eq_getElem hn,hd]
  have hkd:kindOf c.parts d.2=2∨kindOf c.parts d.2=3:=hD.val d (List.mem_of_getElem? hdo)
  have hd2:d.2<c.parts.length:=kindOf_lt (by omega)
  obtain⟨x,hx⟩:∃x,c.parts[d.2]=x:=⟨_,rfl⟩
  have hxo:c.parts[d.2]?=some x:=by rw[List.getElem?_eq_getElem hd2,hx]
  obtain⟨hk,hk14⟩:=kind_of h.cir hxo
  have hf:=h.cir.few
  have hnm:=name_fn [119] (by simp) d.2 (by omega)
  have hg:=gateR_fn h (i:=d.2) (t:=[49,52]) (port_of hd2 (by rcases hkd with e | e<;>rw[e]<;>decide))
  obtain⟨_,_,a3,a4,_⟩:=hB.pil (fun d hd=>kindOf_lt (by have:=hD.val d hd;omega)) n (by omega)
  rw[pil_sp hdo,hps]
  have hsp:(planZ c).sprS d.2=⟨119::decN d.2,0,notE ((planZ c).gate d.2 [49,52]),nulE,0,false⟩:=rfl
  rw[hsp]
  generalize ((planZ c).pil n).2.2=S at *
  generalize (planZ c).gate d.2 [49,52]=ga at *
  have htu:=turned_fn ga
  generalize notE ga=ng at *
  have hdn:=decN_len2 d.2
  simp[hn,hd,hdo,hps,hd2,hx,hxo]
  rcases hkd with hkd | hkd
  ·have hx2:¬x.kind=3:=by omega
   rw[if_pos hkd]
   simp[hx2]
   omega
  ·have hx2:x.kind=3:=by omega
   rw[if_neg (by omega)]
   simp[hx2]
   refine V.drawX (fun t=>if t=126 then some (.fn (aT ([119]++decN d.2))) else if t=130 then some (.fn (aE ga)) else if t=131 then some (.fn (aE ng)) else none) (by kernel_rfl) (by kernel_rfl) (by simp) ?_
   simp
   exact⟨hnm,hg,htu,by omega,⟨by omega,by omega⟩,rfl,rfl,rfl⟩
 ·rintro v -
  simp
  refine V.of_vc ?_
  simp
  refine⟨?_,?_⟩
  ·simp[frz,hget,allD_S]
  ·simp[frz,hget,rowsD_S]
   rfl
theorem sg_c {c:Cir}(h:PlR c) (g:Value):V ⟨Tryz.prog,none,136⟩ (restC Tryz.f101 4) (hdE [(1,.rptr (encPl (planZ c) c.pipes)),(2,.nils),(3,.own 50 g),(5,aNs (planZ c).valv)] []) [(50,.seq g 100 10 (((planZ c).order.map (planZ c).netS).map rSg))] (RetV Tryz.prog [.tmp 2] (sgQ c)):=by
 have hB:=planZ_B h.cir
 have hps:(planZ c).ps=c.parts:=rfl
 have hol:=hB.ol
 have hvl:=hB.vl
 have hf:=h.cir.few
 refine V.rest rfl ?_
 refine V.of_vcN 1 ?_
 simp
 refine V.forI (σ:=Value) (planZ c).valv.length [1,2,5] (by simp;exact rfl) (fun n v=>[(3,.own 50 v),(6,aI n)]) (fun n v=>[(50,.seq v 100 10 (((planZ c).order.map (planZ c).netS++((planZ c).valv.take n).map (planZ c).movS).map rSg))]) (fun _ _=>True) g trivial (by simp) ⟨by simp;exact rfl,by simp⟩ ?_ ?_
 ·rintro n v hn -
  obtain⟨i,hi⟩:∃i,(planZ c).valv[n]=i:=⟨_,rfl⟩
  have hio:(planZ c).valv[n]?=some i:=by rw[List.getElem?_eq_getElem hn,hi]
  obtain⟨hi1,hi2,hi3⟩:=mem_valvN.1 (List.mem_of_getElem? hio)
  have hi1:i<c.parts.length:=hi1
  obtain⟨x,hx⟩:∃x,c.parts[i]=x:=⟨_,rfl⟩
  have hxo:c.parts[i]?=some x:=by rw[List.getElem?_eq_getElem hi1,hx]
  obtain⟨hk,hk14⟩:=kind_of h.cir hxo
  have hi2:plusK (kindOf c.parts i)≠[]:=hi2
  have hpi:=Piloted_fn (kindOf c.parts i) hk14
  have hnm:=name_fn [118] (by simp) i (by omega)
  have hg1:=gateR_fn h (i:=i) (t:=plusK (kindOf c.parts i)) (port_of hi1 (plusK_port _ hk14 hi2))
  have hg2:=fun hm=>gateR_fn h (i:=i) (t:=minusK (kindOf c.parts i)) (port_of hi1 (minusK_port _ hk14 hm))
  have hst:(planZ c).order.map (planZ c).netS++((planZ c).valv.take (n+1)).map (planZ c).movS=((planZ c).order.map (planZ c).netS++((planZ c).valv.take n).map (planZ c).movS)++[(planZ c).movS i]:=by
   rw[List.take_add_one,hio,List.map_append,List.append_assoc]
   rfl
  have hSl:((planZ c).order.map (planZ c).netS++((planZ c).valv.take n).map (planZ c).movS).length<=512:=by
   simp only[List.length_append,List.length_map,List.length_take]
   omega
  have hmo:(planZ c).movS i=⟨118::decN i,if kindOf c.parts i=12 then 2 else 1,(planZ c).gate i (plusK (kindOf c.parts i)),
   if kindOf c.parts i=12 then nulE else if minusK (kindOf c.parts i)≠[] then (planZ c).gate i (minusK (kindOf c.parts i)) else notE ((planZ c).gate i (plusK (kindOf c.parts i))),
   if kindOf c.parts i=12 then x.delay else 0,false⟩:=by
   unfold Pln.movS
   rw[hps,hxo]
   rfl
  rw[hst,hmo]
  rw[<- hk]at hpi
  generalize (planZ c).order.map (planZ c).netS++((planZ c).valv.take n).map (planZ c).movS=S at *
  generalize (planZ c).gate i (plusK (kindOf c.parts i))=gp at *
  generalize (planZ c).gate i (minusK (kindOf c.parts i))=gm at *
  generalize plusK (kindOf c.parts i)=pl at *
  generalize minusK (kindOf c.parts i)=mi at *
  have htu:=turned_fn gp
  generalize notE gp=ng at *
  have hdn:=decN_len2 i
  simp[hn,hi,hio]
  refine V.drawX (fun _=>none) (by kernel_rfl) (by kernel_rfl) (by simp) ?_
  simp[hn,hi,hio,hps,hi1,hx,hxo]
  intro b7
  refine⟨by kernel_rfl,hpi.s ?_⟩
  simp
  refine V.drawX (fun t=>if t=67 then some (.fn (aT ([118]++decN i))) else if t=75 then some (.fn (aE gp)) else none) (by kernel_rfl) (by kernel_rfl) (by simp) ?_
  simp[hn,hi,hio]
  refine⟨hnm,hg1,fun b10=>⟨by kernel_rfl,?_⟩⟩
  by_cases h12:kindOf c.parts i=12
  ·have hx12:x.kind=12:=by omega
   simp[h12,hx12]
   refine V.drawX (fun _=>none) (by kernel_rfl) (by kernel_rfl) (by simp) ?_
   simp[h12]
   exact⟨by kernel_rfl,by omega,⟨by omega,by omega⟩,rfl,rfl,rfl⟩
  ·have hx12:¬x.kind=12:=by omega
   simp[h12,hx12]
   refine⟨fun hmi=>?_,fun hmi=>?_⟩
   ·refine V.drawX (fun t=>if t=93 then some (.fn (aE gm)) else none) (by kernel_rfl) (by kernel_rfl) (by simp) ?_
    simp[hn,hi,hio,hmi]
    refine⟨hg2 hmi,by omega,⟨by omega,by omega⟩,h12,?_⟩
    simp[h12]
   ·refine htu.s ?_
    simp[hmi]
    refine⟨by omega,⟨by omega,by omega⟩,h12,?_⟩
    simp[h12]
 ·rintro v -
  rw[List.take_length]
  simp
  exact V.cutV (Hs:=[(50,.seq v 100 10 ((planZ c).sig0.map rSg))]) [(1,.rptr (encPl (planZ c) c.pipes)),(2,.nils),(3,.own 50 v)] (by simp) (by simp[Pln.sig0]) (V.of_rest rfl (sg_d h v))
theorem signals30_fn {c:Cir}(h:PlR c):CallFn Tryz.prog 101 [.record (encPl (planZ c) c.pipes)] (.dat (.sl ((planZ c).ctl.signals.map encS))):=by
 have hB:=planZ_B h.cir
 have hD:=planZ_D h.drv
 have hps:(planZ c).ps=c.parts:=rfl
 have hol:=hB.ol
 have hva:=Valves_fn h.cir (d:=(planZ c).drives) (by have:=hB.dl;omega)
 change CallFn _ _ _ (aNs (planZ c).valv) at hva
 have hrest:=fun g=>sg_c h g
 refine callFz_cut 3 Tryz.func101 rfl Tryz.ntmps101 (rs:=[.tmp 2]) rfl (by kernel_rfl) (by simp) (by kernel_rfl) ?_
 simp
 refine V.forI (σ:=Value) (planZ c).order.length [1,2] (by simp;exact rfl) (fun n v=>[(3,.own 50 v),(4,aI n)]) (fun n v=>[(50,.seq v 100 10 ((((planZ c).order.take n).map (planZ c).netS).map rSg))]) (fun _ _=>True) (.slice none 0 0) trivial (by simp) ⟨by simp;exact rfl,by simp⟩ ?_ ?_
 ·rintro n v hn -
  obtain⟨i,hi⟩:∃i,(planZ c).order[n]=i:=⟨_,rfl⟩
  have hio:(planZ c).order[n]?=some i:=by rw[List.getElem?_eq_getElem hn,hi]
  have him:=hD.ord i (List.mem_of_getElem? hio)
  have hsm:=hB.small i (List.mem_of_getElem? hio)
  have hfd:=fedR_fn h (i:=i) him
  have hnm:=name_fn [110] (by simp) i (by omega)
  have hdn:=decN_len2 i
  have hst:((planZ c).order.take (n+1)).map (planZ c).netS=((planZ c).order.take n).map (planZ c).netS++[⟨110::decN i,0,(planZ c).fed i,nulE,0,false⟩]:=by
   rw[List.take_add_one,hio,List.map_append]
   rfl
  have hSl:(((planZ c).order.take n).map (planZ c).netS).length<=448:=by
   simp only[List.length_map,List.length_take]
   omega
  rw[hst]
  generalize ((planZ c).order.take n).map (planZ c).netS=S at *
  generalize (planZ c).fed i=x at *
  simp[hn,hi,hio]
  refine V.drawX (fun t=>if t=26 then some (.fn (aT ([110]++decN i))) else if t=33 then some (.fn (aE x)) else none) (by kernel_rfl) (by kernel_rfl) (by simp) ?_
  simp[hn,hi,hio]
  exact⟨hnm,hfd,by omega,⟨by omega,by omega⟩,rfl,rfl,rfl⟩
 ·rintro v -
  rw[List.take_length]
  simp
  refine V.of_vcN 1 ?_
  simp
  refine hva.s ?_
  simp
  exact V.cutV (Hs:=[(50,.seq v 100 10 (((planZ c).order.map (planZ c).netS).map rSg))]) [(1,.rptr (encPl (planZ c) c.pipes)),(2,.nils),(3,.own 50 v),(5,aNs (planZ c).valv)] (by simp) (by simp) (V.of_rest rfl (hrest v))
structure CtW where
 vi:Value
 vp:Value
 vm:Value
 I:List (List UInt8)
 P:List Int
 M:List Int
abbrev CtW.hp (q:CtW) (S:List Signal) (n:Int) (b2 b3:Nat):Heap:=[(61,.seq q.vi 9 1 (q.I.map rTx)),(63,.seq q.vp 3 1 (q.P.map rIn)),(64,.seq q.vm 3 1 (q.M.map rIn)),
 (3,.box b3 [aI n,.own 61 q.vi,.dat (.sl (S.map encS)),.own 63 q.vp,.own 64 q.vm]),(2,.box b2 [aI 0,.nils,.nils,.nils,.nils])]
abbrev ctWE (c:Cir) (b2 b3:Nat):List (Nat×A):=[(1,.rptr (encPl (planZ c) c.pipes)),(2,.ptr 2 b2 0),(3,.ptr 3 b3 0)]
abbrev CtWQ (c:Cir):A->Heap->Prop:=fun r' H'=>(frz H' r').1∧(frz H' r').2=aC (planZ c).ctl
theorem built_d {c:Cir}(h:PlR c) (b2 b3:Nat) (q:CtW) (hI:q.I=(planZ c).butt.map fun i=>(((planZ c).ps[i]?).map (·.name)).getD []) (hP:q.P=[]) (hM:q.M=[]) :
  V ⟨Tryz.prog,none,102⟩ (restC Tryz.f64 5) (hdE (ctWE c b2 b3++[(6,aI ((planZ c).first+(planZ c).sig0.length:Nat))]) []) (q.hp (planZ c).ctl.signals (planZ c).drives.length b2 b3) (RetV Tryz.prog [.cell 2 44] (CtWQ c)):=by
 have hB:=planZ_B h.cir
 have hD:=planZ_D h.drv
 have hps:(planZ c).ps=c.parts:=rfl
 have hdl:=hB.dl
 have hfl:=hB.fl
 have hs0:(planZ c).sig0.length<=512:=by
  have:=hB.ol
  have:=hB.vl
  unfold Pln.sig0
  simp only[List.length_append,List.length_map]
  omega
 refine V.rest rfl ?_
 refine V.of_vcN 1 ?_
 simp
 refine V.forI (σ:=CtW) (planZ c).drives.length [1,2,3] (by simp;exact rfl) (fun n _=>[(6,aI ((planZ c).first+((planZ c).pil n).2.2.length:Nat)),(7,aI n)]) (fun _ q=>q.hp (planZ c).ctl.signals (planZ c).drives.length b2 b3) (fun n q=>q.I=((planZ c).butt.map fun i=>(((planZ c).ps[i]?).map (·.name)).getD [])∧q.P=((planZ c).pil n).1∧q.M=((planZ c).pil n).2.1) q ⟨hI,by rw[hP];rfl,by rw[hM];rfl⟩ (by simp[Pln.pil]) ⟨by simp;exact rfl,by simp⟩ ?_ ?_
 ·rintro n ⟨vi,vp,vm,I,P,M⟩ hn ⟨hI,hP,hM⟩
  simp only at hI hP hM
  obtain⟨d,hd⟩:∃d,(planZ c).drives[n]=d:=⟨_,rfl⟩
  have hdo:(planZ c).drives[n]?=some d:=by rw[List.getElem?_eq_getElem hn,hd]
  have hkd:kindOf c.parts d.2=2∨kindOf c.parts d.2=3:=hD.val d (List.mem_of_getElem? hdo)
  have hd2:d.2<c.parts.length:=kindOf_lt (by omega)
  obtain⟨x,hx⟩:∃x,c.parts[d.2]=x:=⟨_,rfl⟩
  have hxo:c.parts[d.2]?=some x:=by rw[List.getElem?_eq_getElem hd2,hx]
  obtain⟨hk,hk14⟩:=kind_of h.cir hxo
  have hg:=gateR_fn h (i:=d.2) (t:=[49,52]) (port_of hd2 (by rcases hkd with e | e<;>rw[e]<;>decide))
  have hg2:=fun e:kindOf c.parts d.2=2=>gateR_fn h (i:=d.2) (t:=[49,50]) (port_of hd2 (by rw[e];decide))
  obtain⟨a1,a2,a3,a4,_⟩:=hB.pil (fun d hd=>kindOf_lt (by have:=hD.val d hd;omega)) n (by omega)
  rw[<- hP]at a1
  rw[<- hM]at a2
  have hsu:=(planZ c).pil_succ hdo
  unfold Pln.drvS at hsu
  rw[<- hP,<- hM]at hsu
  rw[hsu]
  generalize ((planZ c).pil n).2.2=S at *
  generalize (planZ c).ctl.signals=CS at *
  generalize (planZ c).first=F at *
  generalize (planZ c).gate d.2 [49,52]=ga at *
  generalize (planZ c).gate d.2 [49,50]=gb at *
  simp[hn,hd,hdo]
  refine V.drawX (fun t=>if t=70 then some (.fn (aE ga)) else none) (by kernel_rfl) (by kernel_rfl) (by simp) ?_
  simp[hps,hd2,hx,hxo]
  refine⟨hg,fun u=>⟨by omega,by kernel_rfl,?_⟩⟩
  rcases hkd with hkd | hkd
  ·have hx3:¬x.kind=3:=by omega
   have hkp:kindOf (planZ c).ps d.2=2:=hkd
   have hg2:=hg2 hkd
   rw[if_pos hkp,if_pos hkp]
   simp[hx3]
   refine V.drawX (fun t=>if t=96 then some (.fn (aE gb)) else none) (by kernel_rfl) (by kernel_rfl) (by simp) ?_
   simp
   refine⟨hg2,fun u1=>⟨by omega,by kernel_rfl,⟨by omega,by omega⟩,⟨vi,u,u1,I,P++[ga.index],M++[gb.index]⟩,⟨hI,rfl,rfl⟩,?_⟩⟩
   simp
  ·have hx3:x.kind=3:=by omega
   have hkp:¬kindOf (planZ c).ps d.2=2:=by rw[hps];omega
   rw[if_neg hkp,if_neg hkp]
   simp[hx3]
   have hkc:¬kindOf c.parts d.2=2:=by omega
   refine fun u1=>⟨by omega,⟨by omega,by omega⟩,⟨by omega,by omega⟩,⟨vi,u,u1,I,P++[ga.index],M++[(F:Int)+S.length]⟩,⟨hI,rfl,by rw[if_neg hkc]⟩,?_⟩
   simp[hkc]
   omega
 ·rintro⟨vi,vp,vm,I,P,M⟩ ⟨hI,hP,hM⟩
  simp only at hI hP hM
  simp
  refine V.of_vc ?_
  simp
  have hct:(planZ c).ctl=⟨(planZ c).drives.length,(planZ c).butt.map fun i=>(((planZ c).ps[i]?).map (·.name)).getD [],(planZ c).ctl.signals,((planZ c).pil (planZ c).drives.length).1,((planZ c).pil (planZ c).drives.length).2.1⟩:=rfl
  rw[<- hI,<- hP,<- hM]at hct
  refine⟨?_,?_⟩
  ·simp[frz,hget,frzs,allD,isD]
  ·rw[hct]
   simp[frz,hget,frzs,rowsD]
theorem built_c {c:Cir}(h:PlR c) (b2 b3:Nat) (q:CtW) (hI:q.I=[]) (hP:q.P=[]) (hM:q.M=[]) :
  V ⟨Tryz.prog,none,102⟩ (restC Tryz.f64 3) (hdE (ctWE c b2 b3++[(4,aNs (planZ c).butt)]) []) (q.hp (planZ c).ctl.signals (planZ c).drives.length b2 b3) (RetV Tryz.prog [.cell 2 44] (CtWQ c)):=by
 have hB:=planZ_B h.cir
 have hps:(planZ c).ps=c.parts:=rfl
 have hbl:=hB.bl
 have hol:=hB.ol
 have hvl:=hB.vl
 have hfl:=hB.fl
 have hf:=firstR_fn h
 have hva:=Valves_fn h.cir (d:=(planZ c).drives) (by have:=hB.dl;omega)
 change CallFn _ _ _ (aNs (planZ c).valv) at hva
 have hrest:=fun q hI hP hM=>built_d h b2 b3 q hI hP hM
 have hs0:(planZ c).sig0.length=(planZ c).order.length+(planZ c).valv.length:=by
  unfold Pln.sig0
  simp only[List.length_append,List.length_map]
 rw[hs0]at hrest
 generalize (planZ c).ctl.signals=CS at *
 refine V.rest rfl ?_
 refine V.of_vcN 1 ?_
 simp
 refine V.forI (σ:=CtW) (planZ c).butt.length [1,2,3,4] (by simp;exact rfl) (fun n _=>[(5,aI n)]) (fun _ q=>q.hp CS (planZ c).drives.length b2 b3) (fun n q=>q.I=(((planZ c).butt.take n).map fun i=>(((planZ c).ps[i]?).map (·.name)).getD [])∧q.P=[]∧q.M=[]) q ⟨by simpa using hI,hP,hM⟩ (by simp) ⟨by simp;exact rfl,by simp⟩ ?_ ?_
 ·rintro n ⟨vi,vp,vm,I,P,M⟩ hn ⟨hI,hP,hM⟩
  simp only at hI hP hM
  obtain⟨i,hi⟩:∃i,(planZ c).butt[n]=i:=⟨_,rfl⟩
  have hio:(planZ c).butt[n]?=some i:=by rw[List.getElem?_eq_getElem hn,hi]
  have him:i<c.parts.length:=(mem_buttN.1 (List.mem_of_getElem? hio)).1
  obtain⟨x,hx⟩:∃x,c.parts[i]=x:=⟨_,rfl⟩
  have hxo:c.parts[i]?=some x:=by rw[List.getElem?_eq_getElem him,hx]
  have hIl:I.length<=64:=by
   rw[hI]
   simp only[List.length_map,List.length_take]
   omega
  rw[List.take_add_one,hio]
  have hI2:I++[x.name]=((planZ c).butt.take n++[i]).map fun i=>(((planZ c).ps[i]?).map (·.name)).getD []:=by
   rw[hI,List.map_append]
   simp[hps,hxo]
  simp only[Option.toList_some]
  rw[<- hI2]
  simp[hn,hi,hio]
  refine V.drawX (fun _=>none) (by kernel_rfl) (by kernel_rfl) (by simp) ?_
  simp[hps,hn,hi,hio,him,hx,hxo]
  intro u
  refine⟨by omega,by kernel_rfl,⟨by omega,by omega⟩,⟨u,vp,vm,I++[x.name],P,M⟩,⟨rfl,hP,hM⟩,?_⟩
  simp
 ·rintro⟨vi,vp,vm,I,P,M⟩ ⟨hI,hP,hM⟩
  simp only at hI hP hM
  rw[List.take_length]at hI
  simp
  refine V.of_vcN 1 ?_
  simp
  refine V.drawX (fun t=>if t=40 then some (.fn (aI (planZ c).first)) else if t=49 then some (.fn (aNs (planZ c).valv)) else none) (by kernel_rfl) (by kernel_rfl) (by simp) ?_
  simp
  refine⟨hf,⟨by omega,by omega⟩,hva,⟨by omega,by omega⟩,?_⟩
  exact V.cutV (Hs:=CtW.hp ⟨vi,vp,vm,I,P,M⟩ CS (planZ c).drives.length b2 b3) (ctWE c b2 b3++[(6,aI ((planZ c).first+((planZ c).order.length+(planZ c).valv.length):Nat))]) (by simp;omega) (by simp) (V.of_rest rfl (hrest ⟨vi,vp,vm,I,P,M⟩ hI hP hM))
theorem built_fn {c:Cir}(h:PlR c):CallFn Tryz.prog 64 [.record (encPl (planZ c) c.pipes)] (aC (planZ c).ctl):=by
 have hb:=Buttons_o h.cir
 change CallFn _ _ _ (aNs (planZ c).butt) at hb
 have hs:=signals30_fn h
 have hrest:=fun b2 b3 q hI hP hM=>built_c h b2 b3 q hI hP hM
 unfold CtWQ at hrest
 generalize (planZ c).ctl.signals=CS at *
 generalize (planZ c).ctl=CT at *
 refine callFz_cut 3 Tryz.func64 rfl Tryz.ntmps64 (rs:=[.cell 2 44]) rfl (by kernel_rfl) (by simp) (by kernel_rfl) ?_
 simp
 intro b2
 refine V.drawX (fun t=>if t=13 then some (.fn (.dat (.sl (CS.map encS)))) else none) (by kernel_rfl) (by kernel_rfl) (by simp) ?_
 simp
 refine⟨hs,fun b3=>⟨by kernel_rfl,hb.s ?_⟩⟩
 simp
 refine V.inv (H':=CtW.hp ⟨.slice none 0 0,.slice none 0 0,.slice none 0 0,[],[],[]⟩ CS (planZ c).drives.length b2 b3) (fun x H0 hi=>?_) (V.cutV (Hs:=CtW.hp ⟨.slice none 0 0,.slice none 0 0,.slice none 0 0,[],[],[]⟩ CS (planZ c).drives.length b2 b3) (ctWE c b2 b3++[(4,aNs (planZ c).butt)]) (by simp) (by simp) (V.of_rest rfl (hrest b2 b3 ⟨.slice none 0 0,.slice none 0 0,.slice none 0 0,[],[],[]⟩ rfl rfl rfl)))
 refine Inv.nil (t:=61) (e:=.seq (.slice none 0 0) 9 1 []) (Inv.nil (t:=63) (e:=.seq (.slice none 0 0) 3 1 []) (Inv.nil (t:=64) (e:=.seq (.slice none 0 0) 3 1 []) ?_ ⟨rfl,rfl⟩) ⟨rfl,rfl⟩) ⟨rfl,rfl⟩
 exact Inv.swap (g:=3) (H:=[(3,.box b3 [aI (planZ c).drives.length,.nils,.dat (.sl (CS.map encS)),.nils,.nils]),(2,.box b2 [aI 0,.nils,.nils,.nils,.nils])]) (e:=.box b3 [aI (planZ c).drives.length,.nils,.dat (.sl (CS.map encS)),.nils,.nils]) (e':=.box b3 [aI (planZ c).drives.length,.own 61 (.slice none 0 0),.dat (.sl (CS.map encS)),.own 63 (.slice none 0 0),.own 64 (.slice none 0 0)]) rfl (box_sat (Ds_c D_i (Ds_c D_nilo (Ds_c D_i (Ds_c D_nilo (Ds_c D_nilo Ds_i)))))) (fun b hb=>hb) hi
theorem ctl_sizes {c:Cir}(h:PlR c):(planZ c).ctl.plus.length<=1000000∧(planZ c).ctl.minus.length<=1000000∧OkC (planZ c).ctl:=by
 have hB:=planZ_B h.cir
 have hD:=planZ_D h.drv
 obtain⟨a1,a2,_⟩:=hB.pil (fun d hd=>kindOf_lt (by have:=hD.val d hd;omega)) (planZ c).drives.length (Nat.le_refl _)
 have hdl:=hB.dl
 refine⟨?_,?_,hB.okC fun d hd=>(mem_drvN h.drv hd).2.2.2.1⟩
 ·show ((planZ c).pil _).1.length<=_
  omega
 ·show ((planZ c).pil _).2.1.length<=_
  omega
theorem ControlR30_fn (c:Cir) (hc:OkCir c):CallFn Tryz.prog 15 [aCi c] (.tuple [aC (controlQ c).1,aI (controlQ c).2]):=by
 have hp:=planned_fn c hc
 generalize hR:controlQ c=R
 unfold controlQ buildE at hR
 by_cases h0:planE c=0
 ·have h:=plR_of h0
  obtain⟨q1,q2,q3⟩:=ctl_sizes h
  have hb:=built_fn h
  have hch:=CheckR_fn (planZ c).ctl q3 q1 q2
  rw[h0]at hp
  rw[if_pos rfl]at hp
  simp only[h0,ne_eq,not_true,if_false]at hR
  generalize (planZ c).ctl=ct at *
  refine callFz_of Tryz.func15 rfl Tryz.ntmps15 (rs:=[.cell 2 44,.tmp 3]) rfl (by kernel_rfl) (by simp) (by kernel_rfl) ?_
  simp
  intro b2
  refine hp.s ?_
  simp
  intro b4
  refine hb.s ?_
  simp
  intro b6
  refine hch.s ?_
  by_cases hz:checkC ct=0
  ·rw[if_pos hz]at hR
   rw[<- hR]
   simp[hz]
  ·rw[if_neg hz]at hR
   rw[<- hR]
   simp[hz,noCtl]
 ·rw[if_neg h0]at hp
  simp only[h0,ne_eq,not_false_iff,if_true,if_false]at hR
  rw[<- hR]
  refine callFz_of Tryz.func15 rfl Tryz.ntmps15 (rs:=[.cell 2 44,.tmp 3]) rfl (by kernel_rfl) (by simp) (by kernel_rfl) ?_
  simp
  intro b2
  refine hp.s ?_
  simp[h0,noCtl]
def stateQ (c:Cir) (pos ends:List Int):State×Int:=
 if buildE c≠0 then (noSt,buildE c)
 else if presE c pos≠0 then (noSt,presE c pos)
 else if ends.length≠(planZ c).drives.length then (noSt,8)
 else if ends.any (outR 4)=true then (noSt,1)
 else stEnd (planZ c) (planZ c).ctl pos ends { firstSt (planZ c).ctl with ends:=ends } c.parts.length
theorem state1_fn (n:Int):CallFn Tryz.prog 48 [aI n] (aB (outR 4 n)):=by
 refine callFz_of Tryz.func48 rfl Tryz.ntmps48 (rs:=[.tmp 2]) rfl (by kernel_rfl) (by simp) (by kernel_rfl) ?_
 simp[outR]
theorem gatesP_shape {c:Control}{s:State}(h:shapeS c s):shapeS c (gatesP c s):=by
 obtain⟨h1,h2,h3,h4,h5⟩:=h
 exact⟨h1,h2,h3,by simp only[gatesP,gvals_length];exact h4,h5⟩
theorem State_fn (c:Cir) (hc:OkCir c) (pos ends:List Int) (hpos:Sh pos) (hends:ends.length<=1000000):CallFn Tryz.prog 10 [aCi c,aIs pos,aIs ends] (.tuple [aSt (stateQ c pos ends).1,aI (stateQ c pos ends).2]):=by
 have hp:=build_s c hc.names hc.parts hc.pipes
 have hpc:=presCheck_fn c hc pos hpos
 have hcf:=containsF_fn ends (outR 4) 48 [] [] (by unfold Sh;omega) fun n _=>state1_fn n
 have hcl:=cloneI_o ends (by omega)
 generalize hSQ:stateQ c pos ends=SQ
 unfold stateQ at hSQ
 by_cases h0:buildE c=0
 ·simp only[h0,if_true]at hp
  rw[if_neg (by simp[h0])]at hSQ
  obtain⟨hr,hd,hch,_,hc0⟩:=build_zero h0
  have hok:=build_okC h0
  have hB:=planZ_B hr
  have hD:=planZ_D hd
  obtain⟨hs1,hs2⟩:=pil_sig hB hD
  have hF:=First_o (planZ c).ctl hok hch
  have hact:(planZ c).ctl.actuators=(planZ c).drives.length:=rfl
  have hinp:(planZ c).ctl.inputs.length=(planZ c).butt.length:=by
   show ((planZ c).butt.map _).length=_
   rw[List.length_map]
  have hfi:=fine_of hch
  have hsd:=fun b6 b9 b12 g h1 h2 h3 h4 s0 (hA:PlS) (hAt:hA.At (planZ c)) hpl hel hst=>state_d (pos:=pos) (ends:=ends) hAt hr hd hok hs2 (by have:=hfi.sig;omega) hpl hel b6 b9 b12 g h1 h2 h3 h4 (s0:=s0) hst
  have hsh:=gatesP_shape (newSt_shape hfi)
  generalize (planZ c).ctl=ct at *
  refine callFz_cut 9 Tryz.func10 rfl Tryz.ntmps10 (rs:=[.cell 6 31,.tmp 7]) rfl (by kernel_rfl) (by simp) (by kernel_rfl) ?_
  simp
  intro b6
  refine (hp.frameL (H1:=[(6,_)])).mono ?_
  rintro r H' ⟨_,⟨ss,rfl,rfl,hA⟩,rfl⟩
  simp
  intro b9
  refine hpc.s ?_
  by_cases hz:presE c pos=0
  ·have hpl:pos.length=c.parts.length:=by
    unfold presE at hz
    rw[if_neg (by simp[hc0])]at hz
    split at hz
    ·simp at hz
    ·rename_i h;exact Classical.not_not.1 h
   rw[if_neg (by simp[hz])]at hSQ
   rw[hz]
   simp[hA.dr]
   by_cases hel:ends.length=(planZ c).drives.length
   ·have hez:((ends.length:Nat):Int)=(planZ c).drives.length:=by omega
    rw[if_neg (by simp[hel])]at hSQ
    simp[hel]
    refine hcf.s ?_
    cases hany:ends.any (outR 4)
    ·rw[if_neg (by simp[hany])]at hSQ
     simp[hany]
     refine (hF.frame (H1:=_)).mono ?_
     rintro r H' ⟨_,⟨hd,rfl,rfl⟩,rfl⟩
     simp[stA,stH]
     intro b12
     refine hcl.s 65 fun g=>?_
     simp[hel]
     rw[<- hSQ]
     have hst:StS (planZ c) ct ends { firstSt ct with ends:=ends }:=by
      obtain⟨q1,q2,q3,q4,q5⟩:=hsh
      exact⟨by simp only[firstSt];omega,by simp only[firstSt];omega,by simp only[firstSt];omega,by simp only[firstSt];omega,rfl⟩
     exact V.cutV (Hs:=stHp ss ct b6 b9 b12 g (hd 1) (hd 2) (hd 3) (hd 4) { firstSt ct with ends:=ends }) (stEnv c pos ends ss b6 b9 b12) (by simp) (by simp) (V.of_rest rfl (hsd b6 b9 b12 g _ _ _ _ _ ss hA hpl hel hst))
    ·rw[if_pos hany]at hSQ
     rw[<- hSQ]
     simp[hany,noSt]
   ·have hez:¬((ends.length:Nat):Int)=(planZ c).drives.length:=by omega
    rw[if_pos (by simpa using hel)]at hSQ
    rw[<- hSQ]
    simp[hez,hel,noSt]
  ·rw[if_pos (by simpa using hz)]at hSQ
   rw[<- hSQ]
   simp[hz,noSt]
 ·simp only[h0,if_false]at hp
  rw[if_pos (by simpa using h0)]at hSQ
  rw[<- hSQ]
  refine callFz_of Tryz.func10 rfl Tryz.ntmps10 (rs:=[.cell 6 31,.tmp 7]) rfl (by kernel_rfl) (by simp) (by kernel_rfl) ?_
  simp
  intro b6
  refine (hp.frameL (H1:=[(6,_)])).mono ?_
  rintro r H' ⟨_,⟨rfl,rfl⟩,rfl⟩
  simp[h0,noSt]



def sameSt (a b:State):Bool:=decide (a.ends=b.ends)&&decide (a.valves=b.valves)&&decide (a.inputs=b.inputs)&&decide (a.values=b.values)&&decide (a.timers=b.timers)
def fewS (s:State):Bool:=decide ((s.ends.length:Int)<=40)&&decide ((s.valves.length:Int)<=40)&&decide ((s.inputs.length:Int)<=200)&&decide ((s.values.length:Int)<=200)&&decide ((s.timers.length:Int)<=200)
theorem FewStates_fn (s:State) (hs:OkSt s):CallFn Tryz.prog 14 [aSt s] (aB (fewS s)):=by
 have h1:=hs.ends
 have h2:=hs.valves
 have h3:=hs.inputs
 have h4:=hs.values
 have h5:=hs.timers
 refine callFz_of Tryz.func14 rfl Tryz.ntmps14 (rs:=[.tmp 2]) rfl (by kernel_rfl) (by simp) (by kernel_rfl) ?_
 simp[fewS]
theorem few_sm {s:State}(h:fewS s=true):SmS s:=by
 simp only[fewS,Bool.and_eq_true,decide_eq_true_eq]at h
 exact⟨by omega,by omega,by omega,by omega,by omega⟩
theorem sm_of {c:Control}{s:State}(hf:Fine c) (h:shapeS c s):SmS s:=by
 obtain⟨h1,h2,h3,h4,h5⟩:=h
 have:=hf.act
 have:=hf.inp
 have:=hf.sig
 exact⟨by omega,by omega,by omega,by omega,by omega⟩
theorem evalE_congr {vs ws:List Bool}:∀(N:Nat) (x:Expr),SizeOf.sizeOf x<N->(∀k∈varsE x,vs[k.toNat]?=ws[k.toNat]?)->evalE x vs=evalE x ws
 | 0,_,h,_=>absurd h (Nat.not_lt_zero _)
 | N+1,x,hN,h=>by
  have hL:∀l:List Expr,(∀y∈l,y∈x.args)->(∀k∈varsL l,vs[k.toNat]?=ws[k.toNat]?)->evalL l vs=evalL l ws:=by
   intro l
   induction l with
   | nil=>intro _ _;rfl
   | cons y l ih=>
    intro hl hk
    have hm:=hl y (by simp)
    simp only[evalL]
    rw[ih (fun z hz=>hl z (by simp[hz])) (fun k hkk=>hk k (by simp[varsL,hkk])),evalE_congr N y (by have:=Expr.lt_of_mem hm;omega) (fun k hkk=>hk k (by simp[varsL,hkk]))]
  rw[evalE_eq,evalE_eq,hL x.args (fun _ h=>h) (fun k hk=>h k (by rw[varsE_eq];simp[hk]))]
  by_cases hop:x.op=1
  ·have:=h x.index (by rw[varsE_eq];simp[hop])
   simp[hop,List.getD_eq_getElem?_getD,this]
  ·simp[hop]
theorem gvals_keep {c:Control}{s:State}{k:Nat}:∀j:Nat,(kindAt c k≠0∨j<=k∨c.signals.length<=k)->(gvals c s j)[k]?=s.values[k]?
 | 0,_=>rfl
 | j+1,h=>by
  simp only[gvals]
  split
  ·rename_i x hx
   split
   ·rename_i hk0
    have hne:j≠k:=by
     rintro rfl
     obtain⟨hlt,_⟩:=List.getElem?_eq_some_iff.1 hx
     rcases h with h | h | h
     ·apply h;simp[kindAt,hx,hk0]
     ·omega
     ·omega
    rw[List.getElem?_set_ne hne]
    exact gvals_keep j (by rcases h with h | h | h;exact .inl h;exact .inr (.inl (by omega));exact .inr (.inr h))
   ·exact gvals_keep j (by rcases h with h | h | h;exact .inl h;exact .inr (.inl (by omega));exact .inr (.inr h))
  ·exact gvals_keep j (by rcases h with h | h | h;exact .inl h;exact .inr (.inl (by omega));exact .inr (.inr h))
theorem gvals_stay {c:Control}{s:State}{k:Nat}:∀j:Nat,k<j->(gvals c s j)[k]?=(gvals c s (k+1))[k]?
 | 0,h=>absurd h (Nat.not_lt_zero _)
 | j+1,h=>by
  rcases Nat.lt_or_ge k j with h1 | h1
  ·rw[<- gvals_stay j h1]
   conv=>lhs;unfold gvals
   split
   ·split
    ·rw[List.getElem?_set_ne (by omega)]
    ·rfl
   ·rfl
  ·obtain rfl:k=j:=by omega
   rfl
theorem late_not {c:Control}(hf:Fine c) {i:Nat}{x:Signal}(hx:c.signals[i]?=some x) (hk:x.kind=0):∀n∈varsE x.on,n-firstC c<i∨kindAt c (n-firstC c)≠0:=by
 have h:=hf.sigs i x hx
 unfold signalE at h
 split at h
 ·rename_i h1;exact absurd h h1
 ·split at h
  ·cases h
  ·split at h
   ·rename_i h1;exact absurd h h1
   ·have hl:lateC c i x.on=false:=by
     cases hl:lateC c i x.on
     ·rfl
     ·simp[gateE,hl,hk]at h
    intro n hn
    rw[lateC_any,List.any_eq_false]at hl
    have:=hl n hn
    simp only[Bool.and_eq_true,decide_eq_true_eq,beq_iff_eq,not_and]at this
    rcases Classical.em (n-firstC c<i) with h | h
    ·exact .inl h
    ·exact .inr (this (by omega))
theorem gate_same {c:Control}(hf:Fine c) {s:State}(hsh:shapeS c s) {i:Nat}{x:Signal}(hx:c.signals[i]?=some x) (hk:x.kind=0) {m:Nat}(hm:i<=m) :
  evalE x.on (preV s++gvals c s i)=evalE x.on (preV s++gvals c s m):=by
 have hpl:=preV_length hsh
 refine evalE_congr (SizeOf.sizeOf x.on+1) x.on (by omega) fun k hk2=>?_
 have hv:=vars_check (hf.on hx).1 k hk2
 have hl:=late_not hf hx hk k hk2
 by_cases h1:k.toNat<(preV s).length
 ·rw[List.getElem?_append_left h1,List.getElem?_append_left h1]
 ·rw[List.getElem?_append_right (by omega),List.getElem?_append_right (by omega)]
  obtain⟨q,hq⟩:∃q:Nat,k-firstC c=q:=⟨(k-firstC c).toNat,by omega⟩
  have e:k.toNat-(preV s).length=q:=by omega
  rw[e]
  rw[hq]at hl
  by_cases h2:kindAt c q≠0
  ·rw[gvals_keep i (.inl h2),gvals_keep m (.inl h2)]
  ·have h3:q<i:=by rcases hl with h | h;omega;exact absurd h h2
   rw[gvals_stay i h3,gvals_stay m (by omega)]
theorem gates_gate {c:Control}(hf:Fine c) {s:State}(hsh:shapeS c s) {i:Nat}{x:Signal}(hx:c.signals[i]?=some x) (hk:x.kind=0):(gatesP c s).values[i]?=some (evalE x.on (valuesOf (gatesP c s))):=by
 obtain⟨hlt,_⟩:=List.getElem?_eq_some_iff.1 hx
 show (gvals c s c.signals.length)[i]?=some (evalE x.on (preV s++gvals c s c.signals.length))
 rw[gvals_stay _ hlt,gvals_at hx,if_pos hk,<- gate_same hf hsh hx hk (Nat.le_of_lt hlt),valuesOf_with]
 rw[List.getElem?_set_self]
 rw[gvals_length,hsh.2.2.2.1]
 exact hlt
theorem gates_keep {c:Control}{s:State}{i:Nat}(h:kindAt c i≠0):(gatesP c s).values[i]?=s.values[i]?:=gvals_keep _ (.inl h)
theorem gates_shape {c:Control}{s:State}(hsh:shapeS c s):shapeS c (gatesP c s):=by
 obtain⟨h1,h2,h3,h4,h5⟩:=hsh
 exact⟨h1,h2,h3,by simp only[gatesP,gvals_length];exact h4,h5⟩
theorem gates_right {c:Control}{s:State}(h:rightC c s=0):rightC c (gatesP c s)=0:=by
 obtain⟨z1,z2,z3⟩:=right_zero h
 have hsh:=gates_shape z2
 unfold fitsSt at z3
 rw[if_neg (by simpa using z2)]at z3
 split at z3
 ·cases z3
 ·rename_i hout
  have hz:=firstErr_zero z3
  have e:fitsSt c (gatesP c s)=firstErr (tsE c (gatesP c s)) (List.range s.timers.length):=by
   unfold fitsSt
   rw[if_neg (by simpa using hsh)]
   exact if_neg hout
  have hn:NoE (tsE c (gatesP c s)) s.timers.length:=by
   intro i hi
   have h0:=hz i hi
   unfold tsE at h0 ⊢
   obtain⟨hlv,hlt⟩:s.values.length=c.signals.length∧s.timers.length=c.signals.length:=⟨z2.2.2.2.1,z2.2.2.2.2⟩
   have hx:c.signals[i]?=some c.signals[i]:=List.getElem?_eq_getElem (by omega)
   have hv:s.values[i]?=some s.values[i]:=List.getElem?_eq_getElem (by omega)
   have ht:s.timers[i]?=some s.timers[i]:=List.getElem?_eq_getElem (by omega)
   rw[hx,hv,ht]at h0
   have ht':(gatesP c s).timers[i]?=some s.timers[i]:=ht
   have hlg:(gatesP c s).values.length=c.signals.length:=hsh.2.2.2.1
   have hv':(gatesP c s).values[i]?=some (gatesP c s).values[i]:=List.getElem?_eq_getElem (by omega)
   rw[hx,hv',ht']
   simp only at h0 ⊢
   unfold tstE at h0 ⊢
   by_cases hk:c.signals[i].kind=2
   ·have hka:kindAt c i≠0:=by simp[kindAt,hx,hk]
    have hg:=gates_keep (s:=s) hka
    rw[hv',hv]at hg
    rw[Option.some.inj hg]
    exact h0
   ·simp only[hk,ne_eq,not_false_eq_true,true_and,false_and,or_false]at h0 ⊢
    exact h0
  rw[rightC,if_neg (by simpa using z1),e]
  exact firstErr_all hn
structure TmOK (ct:Control) (s:State):Prop where
 vals:∀(i:Nat) (x:Signal) (v:Bool) (t:Int),ct.signals[i]?=some x->s.values[i]?=some v->s.timers[i]?=some t->(x.kind≠2->t=0)∧(x.kind=2->v=(t==2))
 rng:∀t∈s.timers,t=0∨t=2
structure TmJ (p:Pln) (ct:Control) (s:State) (i:Nat):Prop where
 ok:TmOK ct s
 tch:∀m,s.timers[m]?=some 2->∃j,j<i∧j∈p.valv∧p.line j=some (p.first+m)
def pressP:List Prt:=[⟨1,[65],0⟩,⟨0,[83],0⟩,⟨3,[86],0⟩,⟨7,[115,116,97,114,116],0⟩]
def pressL:List PipeZ:=[((0,[50]),(2,[50])),((0,[52]),(2,[52])),((1,[49]),(2,[49])),((1,[49]),(3,[49])),((2,[49,52]),(3,[50]))]
def pressM:List PipeZ:=[((0,[50]),(2,[50])),((1,[49]),(2,[49])),((1,[49]),(3,[49])),((2,[49,52]),(3,[50]))]
def pressZ:Cir:=⟨pressP,pressL⟩
def pressB:Cir:=⟨pressP,pressM⟩
def pressS:State:=⟨[1],[true],[true],[false,false,true,true,false],[0,0,0,0,0]⟩
theorem press_drives:drivesQ pressZ=([(0,2)],0):=by decide +kernel
theorem press_bad:drivesQ pressB=([],14):=by decide +kernel
theorem press_err:buildE pressZ=0:=by decide +kernel
theorem press_order:(orderQ pressZ).2=0∧(orderQ pressZ).1.length=4:=by decide +kernel
theorem press_inputs:(planZ pressZ).ctl.inputs=[[115,116,97,114,116]]:=by decide +kernel
theorem press_pm:(planZ pressZ).ctl.plus=[6]∧(planZ pressZ).ctl.minus=[7]:=by decide +kernel
theorem press_sigs:(planZ pressZ).ctl.signals.map (·.name)=[[110,48],[110,49],[110,50],[110,51],[119,50]]:=by decide +kernel
theorem press_state:stateQ pressZ [0,0,1,1] [1]=(pressS,0):=by decide +kernel
theorem press_pos:positionsQ pressZ pressS=([0,0,1,1],0):=by decide +kernel
section
open Go.Shelf Go.RowKit Go.Lib Go.Sort
abbrev rPi (p:PipeZ):List A:=(encPi p).map A.dat
abbrev pzero:List Value:=[.int .i64 0,.string { data:=#[] },.int .i64 0,.string { data:=#[] }]
theorem pi_und:(Tryz.prog).underlying 23=some (.slice 93):=by kernel_rfl
theorem pi_info:((Tryz.prog).info? 93).map (fun i=>i.size)=some 4:=by kernel_rfl
theorem clearP_run (w:World) (ty:TypeId) (b o c:Nat) (hc:∀j,j<4->(w.cell? ⟨b,o+j,none⟩).isSome=true) (hf:∀j,j<4->w.frozen? ⟨b,o+j,none⟩=false) :
  (Builtin.clear_ #[23] ty #[.slice (some ⟨b,o,none⟩) 1 c]).run Tryz.prog w=.ok (.tuple #[]) (w.setCells b o pzero):=by
 have hst:=run_storeCells_cells (P:=Tryz.prog) b o pzero 0 w (by simpa using hc) (by simpa using hf) (by intro v hv;simp at hv;rcases hv with rfl | rfl | rfl | rfl<;>rfl)
 simp only[Nat.add_zero]at hst
 have hv:=Tryz.zeroValue93 w
 have hz:(Builtin.zeroCells (Value.agg #[.int .i64 0,.string { data:=#[] },.int .i64 0,.string { data:=#[] }]).cells 1).toList=pzero:=by kernel_rfl
 simp[Builtin.clear_,run_underlying pi_und,hv,hz,hst]
theorem deleteP_arr (blk cap:Nat) (d:Array Value) (hd:d.size=20) (h1c:∀u∈d,u.oneCell'=true) (w:World) (hH:Holds id w blk 0 d) (hcap:5<=cap) (hm:cap<=9223372036854775807) :
  Calls Tryz.prog 42 #[.slice (some ⟨blk,0,none⟩) 5 cap,.int .i64 1,.int .i64 2] w fun e w'=>e=.returned (.slice (some ⟨blk,0,none⟩) 4 cap)∧∃q,w'=putRow id (Sort.ahead w q) blk 0 (lay (lay d 4 (d.toList.drop 8)) 16 pzero):=by
 obtain⟨i0,hi0,hz1⟩:=Option.map_eq_some_iff.1 pi_info
 obtain⟨news,hnews⟩:∃news,news=d.toList.drop 8:=⟨_,rfl⟩
 have hlen:news.length=12:=by rw[hnews];simp;omega
 have hget:∀t,t<12->news[t]?=some d[8+t]!:=by
  intro t ht
  rw[hnews,List.getElem?_drop,Array.getElem?_toList,getElem!_pos d (8+t) (by omega),Array.getElem?_eq_getElem (by omega)]
 have hsrc:Hid (∀t u,news[t]?=some u->w.drew.cell? ((⟨blk,8,none⟩:Addr).add t)=some u):=by
  intro t u hu
  have ht:t<12:=by
   have:=(List.getElem?_eq_some_iff.1 hu).1
   rwa [hlen]at this
  rw[hget t ht]at hu
  rw[Addr.add_lit]
  have:=(hH (8+t) (by omega)).1
  rw[Nat.zero_add]at this
  exact this.trans hu
 have s1:Hid (news.length=3*4):=hlen
 have s2:Hid (∀u∈news,u.oneCell'=true):=by
  intro u hu
  rw[hnews]at hu
  exact h1c u (by simpa using List.mem_of_mem_drop hu)
 have s3:Hid (∀t,t<news.length->(w.drew.cell? ⟨blk,0+1*4+t,none⟩).isSome=true∧w.drew.frozen? ⟨blk,0+1*4+t,none⟩=false):=by
  intro t ht
  rw[hlen]at ht
  have:=hH (4+t) (by omega)
  rw[show 0+(4+t)=0+1*4+t by omega]at this
  exact⟨by show (w.cell? _).isSome=true;rw[this.1];rfl,this.2⟩
 obtain⟨W1,hW1⟩:∃W1,W1=w.drew.setCells blk (0+1*4) news:=⟨_,rfl⟩
 have hW1':W1=putRow id (Sort.ahead w 1) blk 0 (lay d 4 (d.toList.drop 8)):=by
  rw[hW1,hnews]
  have h:=putRow_setCells id (Sort.ahead w 1) blk 0 (d.toList.drop 8) d 4 (by simp;omega)
  rw[putRow_self id (Sort.ahead w 1) blk 0 d (holds_ahead id w 1 blk 0 d hH),List.map_id]at h
  exact h
 have hH1:Holds id W1 blk 0 (lay d 4 (d.toList.drop 8)):=by rw[hW1'];exact holds_putRow id _ blk 0 d _ (holds_ahead id w 1 blk 0 d hH) (lay_size _ _ _)
 have hcl:∀ty,(Builtin.clear_ #[23] ty #[.slice (some ⟨blk,16,none⟩) 1 (cap-4)]).run Tryz.prog W1=.ok (.tuple #[]) (W1.setCells blk 16 pzero):=fun ty=>
  clearP_run W1 ty blk 16 _ (fun j hj=>by
   have:=hH1 (16+j) (by rw[lay_size];omega)
   rw[Nat.zero_add]at this
   rw[this.1];rfl) (fun j hj=>by
   have:=hH1 (16+j) (by rw[lay_size];omega)
   rw[Nat.zero_add]at this
   exact this.2)
 have X:Aside (W1=putRow id (Sort.ahead w 1) blk 0 (lay d 4 (d.toList.drop 8))):=hW1'
 have hW:Hid (W1=w.drew.setCells blk (0+1*4) news):=hW1
 clear hW1 hW1' hH1 hH hget hnews hlen
 go_enter Tryz.func42,Tryz.ntmps42
 have mixed:(Tryz.prog).follows .mixedOrders=true:=by kernel_rfl
 have t0:=Tryz.underlying0;have a0:=Tryz.isAgg0;have z0:=Tryz.sizeOf0;have v0:=Tryz.zeroValue0
 have t3:=Tryz.underlying3;have a3:=Tryz.isAgg3;have z3:=Tryz.sizeOf3;have v3:=Tryz.zeroValue3
 have t4:=Tryz.underlying4;have a4:=Tryz.isAgg4;have z4:=Tryz.sizeOf4;have v4:=Tryz.zeroValue4
 have t23:=Tryz.underlying23;have a23:=Tryz.isAgg23;have z23:=Tryz.sizeOf23;have v23:=Tryz.zeroValue23
 have z93:=Tryz.sizeOf93
 have hic:1<=cap:=by omega
 have hic2:(1:Int)<=(cap:Int):=by omega
 have hjc2:(2:Int)<=(cap:Int):=by omega
 have hjc:2<=cap:=by omega
 have hc2:¬cap=2:=by omega
 have hc2':¬cap-2=0:=by omega
 go_wp2_with fail
 go_region_law_o (refine step_append_room rfl (.tmp 22) (.tmp 25) 23 rfl 93 i0 4 pi_und hi0 hz1 blk 0 1 cap (by simp[Act.eval,Act.put]) ⟨blk,8,none⟩ 3 (cap-2) news (by simp[Act.eval,Act.put]) s1.out hsrc.out s2.out (by omega) s3.out ?_;rw[<- hW.out])
 go_wp2
 go_ret
 refine⟨rfl,1,?_⟩
 have h:=putRow_setCells id (Sort.ahead w 1) blk 0 pzero (lay d 4 (d.toList.drop 8)) 16 (by rw[lay_size];simp;omega)
 rw[List.map_id,<- X.out,Nat.zero_add]at h
 exact h
abbrev pvP (p:PipeZ):List Value:=[.int .i64 p.1.1,.string ⟨p.1.2.toArray⟩,.int .i64 p.2.1,.string ⟨p.2.2.toArray⟩]
theorem Ds_two {x:X}:∀(l:List PipeZ) (xs:List Value),Ds x (l.map rPi).flatten xs->xs=(l.map pvP).flatten
 | [],xs,h=>by
  cases xs with
  | nil=>rfl
  | cons v xs=>simp[Ds]at h
 | p::l,xs,h=>by
  rcases xs with _ | ⟨a,_ | ⟨b,_ | ⟨c,_ | ⟨d,xs⟩⟩⟩⟩<;>simp[Ds,D,RdL]at h
  obtain⟨rfl,rfl,rfl,rfl,h⟩:=h
  have:=Ds_two l xs h
  subst this
  simp
theorem blockV {w:World}{g n:Nat}{cur:Array Value}{e:TypeId}(h5:w.heap[g]?=some (.cells cur e (0,0))) (d:Array Value) :
  (putRow id (Sort.ahead w n) g 0 d).heap[g]?=some (.cells (putCells id 0 d cur) e (0,0))∧(putRow id (Sort.ahead w n) g 0 d).heap.size=w.heap.size∧∀k,k<w.heap.size->k≠g->(putRow id (Sort.ahead w n) g 0 d).heap[k]?=w.heap[k]?:=by
 refine⟨?_,?_,?_⟩
 ·simp[putRow,mapBlock,Sort.ahead,Array.getElem?_modify,h5,onCells]
 ·simp[putRow,mapBlock,Sort.ahead]
 ·intro k hk hne
  simp[putRow,mapBlock,Sort.ahead,Array.getElem?_modify,Ne.symm hne]
theorem takeV (d:Array Value) (cur:Array Value) (m:Nat) (hm:m<=d.size) (hd:d.size<=cur.size):(putCells id 0 d cur).toList.take m=d.toList.take m:=by
 apply List.ext_getElem?
 intro k
 rw[List.getElem?_take,List.getElem?_take]
 split
 ·rename_i hk
  have h1:k<cur.size:=by omega
  have h2:k<d.size:=by omega
  simp[putCells,h1,h2]
 ·rfl
theorem holdsV {w:World}{g:Nat}{cur:Array Value}{e:TypeId}{xs:List Value}(h5:w.heap[g]?=some (.cells cur e (0,0))) (h9:cur.toList.take xs.length=xs):Holds id w g 0 xs.toArray:=by
 intro j hj
 have hj':j<xs.length:=by simpa using hj
 have hc:cur[j]?=some xs[j]:=by
  have:(cur.toList.take xs.length)[j]?=some xs[j]:=by rw[h9];simp[hj']
  rw[List.getElem?_take]at this
  simpa [hj']using this
 constructor
 ·have hz:xs.toArray[j]! = xs[j]:=by simp[hj']
  rw[hz]
  simp[World.cell?,h5,hc]
 ·simp[World.frozen?,h5]
theorem deleteP_s {e t:Nat}{h:Value}{p0 p1 p2 p3 p4:PipeZ} :
  CallS Tryz.prog 42 [.own t h,aI 1,aI 2] [(t,.seq h e 4 ([p0,p1,p2,p3,p4].map rPi))] fun r H'=>∃h2,r=.own t h2∧H'=[(t,.seq h2 e 4 ([p0,p2,p3,p4].map rPi))]:=by
 refine⟨⟨_,Tryz.func42,by kernel_rfl,by kernel_rfl⟩,fun x args H0 hi hd=>?_⟩
 obtain rfl:=Ds_three hd
 obtain⟨xs,⟨h1,h2⟩,h3,h4⟩:=hi.sat _ (List.mem_cons_self)
 obtain rfl:=Ds_two _ _ h4
 rcases h2 with⟨rfl,h0⟩|⟨g,cap,cur,rfl,_,h5,h6,h7,h8,h9⟩
 ·simp at h0
 ·obtain⟨xs,hxs⟩:∃xs,([p0,p1,p2,p3,p4].map pvP).flatten=xs:=⟨_,rfl⟩
  rw[hxs]at h9
  have hxl:xs.length=20:=by rw[<- hxs];rfl
  simp only[List.length_map,List.length_cons,List.length_nil,Nat.zero_add,Nat.reduceAdd,Nat.reduceMul]at h6 h8 h9 hi ⊢
  have hHo:=holdsV h5 (by rw[hxl];exact h9)
  have h1c:∀u∈xs.toArray,u.oneCell'=true:=by
   intro u hu
   rw[<- hxs]at hu
   simp at hu
   rcases hu with rfl | rfl | rfl | rfl | rfl | rfl | rfl | rfl | rfl | rfl | rfl | rfl | rfl | rfl | rfl | rfl | rfl | rfl | rfl | rfl<;>rfl
  refine (deleteP_arr g cap xs.toArray (by simpa using hxl) h1c x.w hHo h6 (Nat.le_trans h7 (by decide))).mono ?_
  rintro _ _ ⟨rfl,q,rfl⟩
  obtain⟨d,hd⟩:∃d,lay (lay xs.toArray 4 (xs.toArray.toList.drop 8)) 16 pzero=d:=⟨_,rfl⟩
  rw[hd]
  have hds:d.size=20:=by rw[<- hd,lay_size,lay_size];simpa using hxl
  have hdt0:d.toList.take 16=xs.take 4++xs.drop 8:=by
   rw[<- hd]
   apply List.ext_getElem?
   intro k
   rw[List.getElem?_take]
   by_cases hk:k<16
   ·rw[if_pos hk,Array.getElem?_toList,lay_get? _ _ _ _ (by rw[lay_size];simp;omega),if_neg (by omega),lay_get? _ _ _ _ (by simp;omega)]
    by_cases h4:4<=k
    ·rw[if_pos ⟨h4,by simp;omega⟩,List.getElem?_append_right (by simp;omega)]
     simp[hxl]
    ·rw[if_neg (by omega),List.getElem?_append_left (by simp;omega),List.getElem?_take,if_pos (by omega)]
     simp
   ·rw[if_neg hk,List.getElem?_eq_none]
    simp
    omega
  have hdt:d.toList.take 16=([p0,p2,p3,p4].map pvP).flatten:=by
   rw[hdt0,<- hxs]
   rfl
  clear hdt0 hd
  obtain⟨b1,b2,b3⟩:=blockV (n:=q) h5 d
  have hlt:=(Array.getElem?_eq_some_iff.1 h5).1
  have htk:=takeV d cur 16 (by omega) (by omega)
  let y:X:=⟨putRow id (Sort.ahead x.w q) g 0 d,x.ok⟩
  have hfin:x.le y∧Inv y ((t,.seq (.slice (some ⟨g,0,none⟩) 4 cap) e 4 ([p0,p2,p3,p4].map rPi))::H0):=by
   refine hi.ofOwn (y:=y) (g':=t) (h':=.slice (some ⟨g,0,none⟩) 4 cap) (rows':=[p0,p2,p3,p4].map rPi) rfl ?_ ?_ ?_ ?_
   ·refine⟨([p0,p2,p3,p4].map pvP).flatten,⟨rfl,.inr ⟨g,cap,_,rfl,Nat.zero_le _,b1,by simp;omega,h7,by simp[putCells,h8],?_⟩⟩,?_,?_⟩
    ·rw[<- hdt]
     exact htk
    ·intro r hr
     obtain⟨p,_,rfl⟩:=List.mem_map.1 hr
     rfl
    ·simp[Ds,D,RdL]
   ·refine⟨rfl,rfl,rfl,by show _<=_;rw[b2];exact Nat.le_refl _,?_⟩
    intro k hk hne
    exact b3 k hk fun e=>hne (by simp[Value.ownBlock,e])
   ·show x.w.drawn<=(putRow id (Sort.ahead x.w q) g 0 d).drawn
    simp[putRow,mapBlock,Sort.ahead]
   ·intro k hk
    simp only[Value.ownBlock,Option.some.injEq]at hk
    subst hk
    exact⟨.inl rfl,by show g<_;rw[b2];exact hlt⟩
  exact⟨y,_,.own t (.slice (some ⟨g,0,none⟩) 4 cap),_,rfl,rfl,hfin.1,hfin.2,by simp[D],_,rfl,rfl⟩
end
theorem press1_fn (n:Nat) (t:List UInt8):CallFn Tryz.prog 84 [aI n,aT t] (.record (encPo ((n:Int),t))):=by
 refine callFz_of Tryz.func84 rfl Tryz.ntmps84 (rs:=[.cell 4 73]) rfl (by kernel_rfl) (by simp) (by kernel_rfl) ?_
 simp
theorem Press_fn:CallFn Tryz.prog 38 [] (aCi pressZ):=by
 have a0:=press1_fn 0 [50]
 have a1:=press1_fn 2 [50]
 have a2:=press1_fn 0 [52]
 have a3:=press1_fn 2 [52]
 have a4:=press1_fn 1 [49]
 have a5:=press1_fn 2 [49]
 have a6:=press1_fn 3 [49]
 have a7:=press1_fn 2 [49,52]
 have a8:=press1_fn 3 [50]
 refine callFz_of Tryz.func38 rfl Tryz.ntmps38 (rs:=[.cell 0 25]) rfl (by kernel_rfl) (by simp) (by kernel_rfl) ?_
 simp
 intro b0
 refine a0.s ?_
 simp
 refine a1.s ?_
 simp
 refine a2.s ?_
 simp
 refine a3.s ?_
 simp
 refine a4.s ?_
 simp
 refine a5.s ?_
 simp
 refine a4.s ?_
 simp
 refine a6.s ?_
 simp
 refine a7.s ?_
 simp
 refine a8.s ?_
 simp[pressZ,pressP,pressL]
theorem clonePi_o (xs:List PipeZ) (hx:xs.length<=1000000):CallOwn Tryz.prog 43 [.dat (.sl (xs.map encPi))] 93 4 (xs.map rPi):=by
 refine CallS.nilcase (az:=[]) (bz:=[]) ?_ ?_
 ·intro hn
  have hn:xs=[]:=by simpa using hn
  subst hn
  refine callO_of Tryz.func43 rfl Tryz.ntmps43 (rs:=[.tmp 2]) rfl (by kernel_rfl) (by simp) (by kernel_rfl) ?_
  simp
 ·refine callO_of Tryz.func43 rfl Tryz.ntmps43 (rs:=[.tmp 2]) rfl (by kernel_rfl) (by simp) (by kernel_rfl) ?_
  simp
  omega
abbrev awEnv (b1 b2 b8:Nat) (O:List Nat):List (Nat×A):=[(0,aB false),(1,.ptr 1 b1 0),(2,.ptr 2 b2 0),(3,aI 0),(4,.dat (.sl [encDr (0,2)])),(5,aI 0),(6,aNs O),(7,aI 0),(8,.ptr 8 b8 0),(9,aI 0),(10,aIs [0,0,1,1]),(11,aI 0)]
abbrev awHp (b1 b2 b8:Nat) (c:Cir) (ct:Control) (s:State):Heap:=[(8,.box b8 ((encSt s).map A.dat)),(2,.box b2 ((encC ct).map A.dat)),(1,.box b1 ((encCi c).map A.dat))]
theorem awake30_d {b1 b2 b8:Nat}{O:List Nat}(hO:O.length=4) {ct:Control}(h4:ct.signals.map (·.name)=[[110,48],[110,49],[110,50],[110,51],[119,50]]) (hsl:ct.signals.length=5) :
  V ⟨Tryz.prog,none,128⟩ (restC Tryz.f9 9) (hdE (awEnv b1 b2 b8 O) []) (awHp b1 b2 b8 pressB ct pressS) (RetV Tryz.prog [.tmp 0] fun r' H'=>(frz H' r').1∧(frz H' r').2=aB true):=by
 have hok:OkCir pressB:=⟨fun _=>by decide,by decide,by decide⟩
 have hd:=Drives_fn pressB hok
 rw[press_bad]at hd
 have q1:=eqI_fn [0,0,1,1] [0,0,1,1] (by decide) (by decide)
 have q2:=eqB_fn [false,false,true,true,false] [false,false,true,true,false] (by decide) (by decide)
 rw[decide_eq_true rfl]at q1 q2
 obtain⟨x,hx⟩:∃x,ct.signals[4]=x:=⟨_,rfl⟩
 have hxo:ct.signals[4]?=some x:=by rw[List.getElem?_eq_getElem (by omega),hx]
 have hxn:x.name=[119,50]:=by
  have:=congrArg (fun l=>l[4]?) h4
  simp only[List.getElem?_map,hxo]at this
  simpa using this
 refine V.rest rfl ?_
 refine V.of_vc ?_
 simp
 refine hd.s ?_
 simp[hO]
 refine GCall.fn (aB true) (fun h=>⟨h,q1⟩) ?_
 simp[pressS]
 refine GCall.fn (aB true) (fun h=>⟨h,q2⟩) ?_
 simp[hsl,hx,hxo,hxn]
theorem awake30_c {b1 b2 b8:Nat}{O:List Nat}(hO:O.length=4) {ct:Control}(h4:ct.signals.map (·.name)=[[110,48],[110,49],[110,50],[110,51],[119,50]]) (hsl:ct.signals.length=5) :
  V ⟨Tryz.prog,none,128⟩ (restC Tryz.f9 8) (hdE (awEnv b1 b2 b8 O) []) (awHp b1 b2 b8 pressZ ct pressS) (RetV Tryz.prog [.tmp 0] fun r' H'=>(frz H' r').1∧(frz H' r').2=aB true):=by
 have hcl:=clonePi_o pressL (by decide)
 have hdl:=fun e t h=>deleteP_s (e:=e) (t:=t) (h:=h) (p0:=((0,[50]),(2,[50]))) (p1:=((0,[52]),(2,[52]))) (p2:=((1,[49]),(2,[49]))) (p3:=((1,[49]),(3,[49]))) (p4:=((2,[49,52]),(3,[50])))
 refine V.rest rfl ?_
 refine V.of_vcN 1 ?_
 simp
 refine hcl.s 70 fun g=>?_
 simp
 refine ((hdl 93 70 g).frame (H1:=awHp b1 b2 b8 pressZ ct pressS)).mono ?_
 rintro r H' ⟨_,⟨g2,rfl,rfl⟩,rfl⟩
 simp
 refine V.ofG ?_
 refine Gh.frzBox (g:=1) (τ:=70) (j:=1) (t:=70) rfl rfl rfl rfl ?_
 refine Gh.here ?_
 exact V.cutV (Hs:=awHp b1 b2 b8 pressB ct pressS) (awEnv b1 b2 b8 O) (by simp) (by simp[rowsD,pressB,pressM,pressZ]) (V.of_rest rfl (awake30_d hO h4 hsl))
theorem awake30_b {b1 b2 b8:Nat}{O:List Nat}(hO:O.length=4) {ct:Control}(h1:ct.inputs=[[115,116,97,114,116]]) (h2:ct.plus=[6]) (h3:ct.minus=[7]) (h4:ct.signals.map (·.name)=[[110,48],[110,49],[110,50],[110,51],[119,50]]) :
  V ⟨Tryz.prog,none,128⟩ (restC Tryz.f9 7) (hdE (awEnv b1 b2 b8 O) []) (awHp b1 b2 b8 pressZ ct pressS) (RetV Tryz.prog [.tmp 0] fun r' H'=>(frz H' r').1∧(frz H' r').2=aB true):=by
 have hsl:ct.signals.length=5:=by
  have:=congrArg List.length h4
  simpa using this
 have q1:=eqT_fn [[115,116,97,114,116]] [[115,116,97,114,116]] (by decide) (by decide)
 have q2:=eqI_fn [6] [6] (by decide) (by decide)
 have q3:=eqI_fn [7] [7] (by decide) (by decide)
 rw[decide_eq_true rfl]at q1 q2 q3
 have hrest:=awake30_c (b1:=b1) (b2:=b2) (b8:=b8) hO h4 hsl
 refine V.rest rfl ?_
 refine V.of_vcN 1 ?_
 simp[hsl,h1,h2,h3]
 refine GCall.fn (aB true) (fun h=>⟨h,q1⟩) ?_
 simp[h1,h2,h3]
 refine GCall.fn (aB true) (fun h=>⟨h,q2⟩) ?_
 simp[h1,h2,h3]
 refine GCall.fn (aB true) (fun h=>⟨h,q3⟩) ?_
 simp
 exact V.cutV (Hs:=awHp b1 b2 b8 pressZ ct pressS) (awEnv b1 b2 b8 O) (by simp) (by simp) (V.of_rest rfl hrest)
theorem awake30_fn:CallFn Tryz.prog 9 [] (aB true):=by
 have hok:OkCir pressZ:=⟨fun _=>by decide,by decide,by decide⟩
 have hc:=Control_fn pressZ hok
 have hd:=Drives_fn pressZ hok
 have ho:=Order_fn pressZ hok
 have hs:=State_fn pressZ hok [0,0,1,1] [1] (by decide) (by decide)
 have hp:=Positions_fn pressZ hok pressS ⟨by decide,by decide,by decide,by decide,by decide⟩
 have e1:=press_inputs
 obtain⟨e2,e3⟩:=press_pm
 have e4:=press_sigs
 obtain⟨o1,o2⟩:=press_order
 have hcq:controlQ pressZ=((planZ pressZ).ctl,0):=by unfold controlQ;rw[if_pos press_err]
 rw[hcq]at hc
 rw[press_drives]at hd
 rw[press_state]at hs
 rw[press_pos]at hp
 rw[o1]at ho
 have hrest:=fun b1 b2 b8=>awake30_b (b1:=b1) (b2:=b2) (b8:=b8) o2 e1 e2 e3 e4
 generalize (planZ pressZ).ctl=ct at *
 generalize (orderQ pressZ).1=O at *
 refine callFz_cut 7 Tryz.func9 rfl Tryz.ntmps9 (rs:=[.tmp 0]) rfl (by kernel_rfl) (by simp) (by kernel_rfl) ?_
 simp
 refine Press_fn.s ?_
 simp
 intro b1
 refine hc.s ?_
 simp
 intro b2
 refine hd.s ?_
 simp
 refine ho.s ?_
 simp
 refine hs.s ?_
 simp
 intro b8
 refine hp.s ?_
 simp
 exact V.cutV (Hs:=awHp b1 b2 b8 pressZ ct pressS) (awEnv b1 b2 b8 O) (by simp) (by simp) (V.of_rest rfl (hrest b1 b2 b8))
end Go.Proofs.YtpadinblmjlggaaGreatDoor
