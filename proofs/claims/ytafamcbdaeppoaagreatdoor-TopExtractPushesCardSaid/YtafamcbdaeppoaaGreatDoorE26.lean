/- Texts joined by a program: Wg,Wh,Wi,Wj,Qu,Eha,Wk,Wl,Ei,Pk,Pb,Wm,Wn,Wo,Wp,Wq,Vca,Wr. -/
import Derived.Shelf.Slices.Delete
import Derived.Test.YtafamcbdaeppoaaGreatDoorE25
import Derived.Test.YtafamcbdaeppoaaGreatDoorE23
import Derived.Test.YtafamcbdaeppoaaGreatDoorE13
import Derived.Test.YtafamcbdaeppoaaGreatDoorE21
import Derived.Test.YtafamcbdaeppoaaGreatDoorE16
set_option linter.unusedSimpArgs false
set_option linter.unusedVariables false
set_option maxHeartbeats 8000000
set_option maxRecDepth 1000000
namespace Go.Proofs.YtafamcbdaeppoaaGreatDoor
theorem drvd_gifts {ps:List Prt}{d:List Drv}{x:PortZ}{g:Gift}(h:g∈giftsZ ps d x):drivenZ d x.1.toNat=none:=by
 unfold giftsZ at h
 split at h
 ·simp at h
 ·rename_i hn
  cases e:drivenZ d x.1.toNat with
  | none=>rfl
  | some k=>rw[e]at hn;simp at hn
theorem fedR_fn {c:Cir}(h:PlR c) {i:Nat}(hi:i<(netsZ c).length):CallFn Tryz.prog 281 [.record (encPl (planZ c) c.pipes),aI i] (aE ((planZ c).fed i)):=by
 have hN:=nsOK h.cir
 have hB:=planZ_B h.cir
 obtain⟨l,hl⟩:∃l,(netsZ c)[i]=l:=⟨_,rfl⟩
 have hlo:(netsZ c)[i]?=some l:=by rw[List.getElem?_eq_getElem hi,hl]
 obtain⟨n1,n2,n3⟩:=hN.net l (List.mem_of_getElem? hlo)
 have hps:(planZ c).ps=c.parts:=rfl
 have hns:(planZ c).nets=netsZ c:=rfl
 have hfe:(planZ c).fed i=sevE 4 ((planZ c).fedL l):=by
  unfold Pln.fed
  rw[hns,List.getD_eq_getElem?_getD,hlo]
  rfl
 have hfl:=fedL_len (planZ c)
 have hgv:=fun j t hj=>gives_fn h.cir (d:=(planZ c).drives) (by have:=hB.dl;omega) (j:=j) (t:=t) hj
 have hjn:=joinedR_fn 4 ((planZ c).fedL l) (by have:=hfl l;omega)
 rw[hfe]
 obtain⟨Z,hZ⟩:∃Z,sevE 4 ((planZ c).fedL l)=Z:=⟨_,rfl⟩
 rw[hZ]at hjn ⊢
 refine callFz_of Tryz.func281 rfl Tryz.ntmps281 (rs:=[.cell 4 61]) rfl (by kernel_rfl) (by simp) (by kernel_rfl) ?_
 simp[hns,hi,hl,hlo]
 intro b4
 refine V.forI (σ:=Value) l.length [1,2,4] (by simp;exact rfl) (fun n v=>[(5,.own 50 v),(6,aI n)]) (fun n v=>[(50,.seq v 61 3 (((planZ c).fedL (l.take n)).map rE)),(4,.box b4 [aI 0,aI 0,.nils])]) (fun _ _=>True) (.slice none 0 0) trivial (by simp) ⟨by simp;exact rfl,by simp[Pln.fedL]⟩ ?_ ?_
 ·rintro n v hn -
  obtain⟨x,hx⟩:∃x,l[n]=x:=⟨_,rfl⟩
  have hxo:l[n]?=some x:=by rw[List.getElem?_eq_getElem hn,hx]
  obtain⟨j,q,hj,hq,hx1,hx2⟩:=mem_allN.1 (n3 x (List.mem_of_getElem? hxo))
  obtain⟨x1,x2⟩:=x
  simp only at hx1
  subst hx1
  obtain⟨hk,hk14⟩:=kind_of h.cir hq
  obtain⟨hjl,hqe⟩:=List.getElem?_eq_some_iff.1 hq
  have hgj:=hgv j x2 hj
  have hst:(planZ c).fedL (l.take (n+1))=(planZ c).fedL (l.take n)++((if kindOf c.parts j=0 then [⟨0,1,[]⟩] else [])++(giftsZ c.parts (planZ c).drives ((j:Int),x2)).map (planZ c).term):=by
   rw[List.take_add_one,hxo]
   simp[Pln.fedL,hps]
  have hll:((planZ c).fedL (l.take n)).length<=3*448:=by
   have:=hfl (l.take n)
   rw[List.length_take]at this
   omega
  have hgt:∀G∈giftsZ c.parts (planZ c).drives ((j:Int),x2),CallFn Tryz.prog 354 [.record (encPl (planZ c) c.pipes),.record (encGf G)] (aE ((planZ c).term G)):=fun G hG=>by
   have hm:=given_mem (gifts_mem hG)
   have hd:=drvd_gifts hG
   simp only[Int.toNat_natCast]at hm hd
   refine termR_fn h (by rw[hm.1];exact hj) (by rw[hm.1];exact hd) (passK_srcl _ _ _ hm.2.2) fun t ht=>?_
   rw[hm.1]
   exact port_of hj (passK_src hk14 (by have:=manyK_le (kindOf c.parts j);omega) hm.2.2 ht)
  have hgl:(giftsZ c.parts (planZ c).drives ((j:Int),x2)).length<=2:=by
   unfold giftsZ
   split
   ·simp
   ·exact Nat.le_trans (gvN_len _ _ _ _) (manyK_le _)
  rw[hst]
  generalize giftsZ c.parts (planZ c).drives ((j:Int),x2)=GS at *
  generalize (planZ c).fedL (l.take n)=W at *
  obtain⟨q1,q2,q3⟩:=q
  simp only at hk
  have hin:∀(v:Value) (B:List Expr),B.length<=3*448+1->True:=fun _ _ _=>trivial
  simp[hns,hps,hi,hl,hlo,hn,hx,hxo]
  intro b7
  simp[hps,hjl,hq,hqe]
  by_cases h0:kindOf c.parts j=0
  ·have hk0:q1=0:=by omega
   rw[if_pos h0]
   obtain⟨B,hB⟩:∃B,W++[(⟨0,1,[]⟩:Expr)]=B:=⟨_,rfl⟩
   have hBl:B.length=W.length+1:=by rw[<- hB];simp
   have hBr:B.map rE=W.map rE++[rE ⟨0,1,[]⟩]:=by rw[<- hB,List.map_append];rfl
   rw[show W++([(⟨0,1,[]⟩:Expr)]++GS.map (planZ c).term)=B++GS.map (planZ c).term by rw[<- hB];simp]
   simp[hk0]
   intro u
   refine⟨by omega,?_⟩
   refine hgj.s ?_
   simp
   refine V.forI (σ:=Value) GS.length [1,2,4,6,7,8] (by simp;exact rfl) (fun m w=>[(5,.own 50 w),(9,aI m)]) (fun m w=>[(50,.seq w 61 3 ((B++(GS.take m).map (planZ c).term).map rE)),(7,.box b7 [aI j,aT x2]),(4,.box b4 [aI 0,aI 0,.nils])]) (fun _ _=>True) u trivial (by simp) ⟨by simp;exact rfl,by simp[hBr]⟩ ?_ ?_
   ·rintro m w hm -
    obtain⟨G,hG⟩:∃G,GS[m]=G:=⟨_,rfl⟩
    have hGo:GS[m]?=some G:=by rw[List.getElem?_eq_getElem hm,hG]
    have htm:=hgt G (List.mem_of_getElem? hGo)
    have e1:B++(GS.take (m+1)).map (planZ c).term=(B++(GS.take m).map (planZ c).term)++[(planZ c).term G]:=by
     rw[List.take_add_one,hGo]
     simp
    have hWl:(B++(GS.take m).map (planZ c).term).length<=3*448+3:=by
     rw[List.length_append,List.length_map,List.length_take]
     omega
    rw[e1]
    generalize B++(GS.take m).map (planZ c).term=X at *
    generalize (planZ c).term G=tx at *
    simp[hm,hG,hGo]
    refine V.drawX (fun t=>if t=59 then some (.fn (aE tx)) else none) (by kernel_rfl) (by kernel_rfl) (by simp) ?_
    simp[hm,hG,hGo]
    exact⟨htm,by omega,by omega,by omega⟩
   ·rintro w -
    rw[List.take_length]
    simp
    omega
  ·have hk0:¬q1=0:=by omega
   rw[if_neg h0,List.nil_append]
   simp[hk0]
   refine hgj.s ?_
   simp
   refine V.forI (σ:=Value) GS.length [1,2,4,6,7,8] (by simp;exact rfl) (fun m w=>[(5,.own 50 w),(9,aI m)]) (fun m w=>[(50,.seq w 61 3 ((W++(GS.take m).map (planZ c).term).map rE)),(7,.box b7 [aI j,aT x2]),(4,.box b4 [aI 0,aI 0,.nils])]) (fun _ _=>True) v trivial (by simp) ⟨by simp;exact rfl,by simp⟩ ?_ ?_
   ·rintro m w hm -
    obtain⟨G,hG⟩:∃G,GS[m]=G:=⟨_,rfl⟩
    have hGo:GS[m]?=some G:=by rw[List.getElem?_eq_getElem hm,hG]
    have htm:=hgt G (List.mem_of_getElem? hGo)
    have e1:W++(GS.take (m+1)).map (planZ c).term=(W++(GS.take m).map (planZ c).term)++[(planZ c).term G]:=by
     rw[List.take_add_one,hGo]
     simp
    have hWl:(W++(GS.take m).map (planZ c).term).length<=3*448+3:=by
     rw[List.length_append,List.length_map,List.length_take]
     omega
    rw[e1]
    generalize W++(GS.take m).map (planZ c).term=X at *
    generalize (planZ c).term G=tx at *
    simp[hm,hG,hGo]
    refine V.drawX (fun t=>if t=59 then some (.fn (aE tx)) else none) (by kernel_rfl) (by kernel_rfl) (by simp) ?_
    simp[hm,hG,hGo]
    exact⟨htm,by omega,by omega,by omega⟩
   ·rintro w -
    rw[List.take_length]
    simp
    omega
 ·rintro v -
  rw[List.take_length]
  simp[hns,hi,hl,hlo]
  refine hjn.give (Hc:=[(50,_)]) (Hr:=[(4,.box b4 [aI 0,aI 0,.nils])]) rfl (by simp[frzs,frz]) ?_
  simp
abbrev sgQ (c:Cir):A->Heap->Prop:=fun r' H'=>(frz H' r').1∧(frz H' r').2=.dat (.sl ((planZ c).ctl.signals.map encS))
theorem rowsD_S (xs:List Signal):rowsD (xs.map rSg)=xs.map encS:=by unfold rowsD;rw[List.map_map];congr 1
theorem allD_S (xs:List Signal):allD (xs.map rSg)=true:=by simp[allD,isD]
theorem pil_sp {p:Pln}{n:Nat}{d:Drv}(hd:p.drives[n]?=some d):(p.pil (n+1)).2.2=if kindOf p.ps d.2=2 then (p.pil n).2.2 else (p.pil n).2.2++[p.sprS d.2]:=by
 rw[p.pil_succ hd]
 rfl
theorem sg_d {c:Cir}(h:PlR c) (g:Value):V ⟨Tryz.prog,none,136⟩ (restC Tryz.f198 5) (hdE [(1,.rptr (encPl (planZ c) c.pipes)),(2,.nils),(3,.own 50 g)] []) [(50,.seq g 63 10 ((planZ c).sig0.map rSg))] (RetV Tryz.prog [.tmp 2] (sgQ c)):=by
 have hB:=planZ_B h.cir
 have hD:=planZ_D h.drv
 have hps:(planZ c).ps=c.parts:=rfl
 have hs0:(planZ c).sig0.length<=512:=by
  have:=hB.ol
  have:=hB.vl
  unfold Pln.sig0
  simp only[List.length_append,List.length_map]
  omega
 have hdl:=hB.dl
 refine V.rest rfl ?_
 refine V.of_vcN 1 ?_
 simp
 refine V.forI (σ:=Value) (planZ c).drives.length [1,2] (by simp;exact rfl) (fun n v=>[(3,.own 50 v),(11,aI n)]) (fun n v=>[(50,.seq v 63 10 (((planZ c).pil n).2.2.map rSg))]) (fun _ _=>True) g trivial (by simp) ⟨by simp;exact rfl,by simp[Pln.pil]⟩ ?_ ?_
 ·rintro n v hn -
  obtain⟨d,hd⟩:∃d,(planZ c).drives[n]=d:=⟨_,rfl⟩
  have hdo:(planZ c).drives[n]?=some d:=by rw[List.getElem?_eq_getElem hn,hd]
  have hkd:kindOf c.parts d.2=2∨kindOf c.parts d.2=3:=hD.val d (List.mem_of_getElem? hdo)
  have hd2:d.2<c.parts.length:=kindOf_lt (by omega)
  obtain⟨x,hx⟩:∃x,c.parts[d.2]=x:=⟨_,rfl⟩
  have hxo:c.parts[d.2]?=some x:=by rw[List.getElem?_eq_getElem hd2,hx]
  obtain⟨hk,hk14⟩:=kind_of h.cir hxo
  have hf:=h.cir.few
  have hnm:=name_fn [119] (by simp) d.2 (by omega)
  have hg:=gateR_fn h (i:=d.2) (t:=[49,52]) (port_of hd2 (by rcases hkd with e | e<;>rw[e]<;>decide))
  obtain⟨_,_,a3,a4,_⟩:=hB.pil (fun d hd=>kindOf_lt (by have:=hD.val d hd;omega)) n (by omega)
  rw[pil_sp hdo,hps]
  have hsp:(planZ c).sprS d.2=⟨119::decN d.2,0,notE ((planZ c).gate d.2 [49,52]),nulE,0,false⟩:=rfl
  rw[hsp]
  generalize ((planZ c).pil n).2.2=S at *
  generalize (planZ c).gate d.2 [49,52]=ga at *
  have htu:=turned_fn ga
  generalize notE ga=ng at *
  have hdn:=decN_len2 d.2
  simp[hn,hd,hdo,hps,hd2,hx,hxo]
  rcases hkd with hkd | hkd
  ·have hx2:¬x.kind=3:=by omega
   rw[if_pos hkd]
   simp[hx2]
   omega
  ·have hx2:x.kind=3:=by omega
   rw[if_neg (by omega)]
   simp[hx2]
   refine V.drawX (fun t=>if t=126 then some (.fn (aT ([119]++decN d.2))) else if t=130 then some (.fn (aE ga)) else if t=131 then some (.fn (aE ng)) else none) (by kernel_rfl) (by kernel_rfl) (by simp) ?_
   simp
   exact⟨hnm,hg,htu,by omega,⟨by omega,by omega⟩,rfl,rfl,rfl⟩
 ·rintro v -
  simp
  refine V.of_vc ?_
  simp
  refine⟨?_,?_⟩
  ·simp[frz,hget,allD_S]
  ·simp[frz,hget,rowsD_S]
   rfl
theorem sg_c {c:Cir}(h:PlR c) (g:Value):V ⟨Tryz.prog,none,136⟩ (restC Tryz.f198 4) (hdE [(1,.rptr (encPl (planZ c) c.pipes)),(2,.nils),(3,.own 50 g),(5,aNs (planZ c).valv)] []) [(50,.seq g 63 10 (((planZ c).order.map (planZ c).netS).map rSg))] (RetV Tryz.prog [.tmp 2] (sgQ c)):=by
 have hB:=planZ_B h.cir
 have hps:(planZ c).ps=c.parts:=rfl
 have hol:=hB.ol
 have hvl:=hB.vl
 have hf:=h.cir.few
 refine V.rest rfl ?_
 refine V.of_vcN 1 ?_
 simp
 refine V.forI (σ:=Value) (planZ c).valv.length [1,2,5] (by simp;exact rfl) (fun n v=>[(3,.own 50 v),(6,aI n)]) (fun n v=>[(50,.seq v 63 10 (((planZ c).order.map (planZ c).netS++((planZ c).valv.take n).map (planZ c).movS).map rSg))]) (fun _ _=>True) g trivial (by simp) ⟨by simp;exact rfl,by simp⟩ ?_ ?_
 ·rintro n v hn -
  obtain⟨i,hi⟩:∃i,(planZ c).valv[n]=i:=⟨_,rfl⟩
  have hio:(planZ c).valv[n]?=some i:=by rw[List.getElem?_eq_getElem hn,hi]
  obtain⟨hi1,hi2,hi3⟩:=mem_valvN.1 (List.mem_of_getElem? hio)
  have hi1:i<c.parts.length:=hi1
  obtain⟨x,hx⟩:∃x,c.parts[i]=x:=⟨_,rfl⟩
  have hxo:c.parts[i]?=some x:=by rw[List.getElem?_eq_getElem hi1,hx]
  obtain⟨hk,hk14⟩:=kind_of h.cir hxo
  have hi2:plusK (kindOf c.parts i)≠[]:=hi2
  have hpi:=Piloted_fn (kindOf c.parts i) hk14
  have hnm:=name_fn [118] (by simp) i (by omega)
  have hg1:=gateR_fn h (i:=i) (t:=plusK (kindOf c.parts i)) (port_of hi1 (plusK_port _ hk14 hi2))
  have hg2:=fun hm=>gateR_fn h (i:=i) (t:=minusK (kindOf c.parts i)) (port_of hi1 (minusK_port _ hk14 hm))
  have hst:(planZ c).order.map (planZ c).netS++((planZ c).valv.take (n+1)).map (planZ c).movS=((planZ c).order.map (planZ c).netS++((planZ c).valv.take n).map (planZ c).movS)++[(planZ c).movS i]:=by
   rw[List.take_add_one,hio,List.map_append,List.append_assoc]
   rfl
  have hSl:((planZ c).order.map (planZ c).netS++((planZ c).valv.take n).map (planZ c).movS).length<=512:=by
   simp only[List.length_append,List.length_map,List.length_take]
   omega
  have hmo:(planZ c).movS i=⟨118::decN i,if kindOf c.parts i=12 then 2 else 1,(planZ c).gate i (plusK (kindOf c.parts i)),
   if kindOf c.parts i=12 then nulE else if minusK (kindOf c.parts i)≠[] then (planZ c).gate i (minusK (kindOf c.parts i)) else notE ((planZ c).gate i (plusK (kindOf c.parts i))),
   if kindOf c.parts i=12 then x.delay else 0,false⟩:=by
   unfold Pln.movS
   rw[hps,hxo]
   rfl
  rw[hst,hmo]
  rw[<- hk]at hpi
  generalize (planZ c).order.map (planZ c).netS++((planZ c).valv.take n).map (planZ c).movS=S at *
  generalize (planZ c).gate i (plusK (kindOf c.parts i))=gp at *
  generalize (planZ c).gate i (minusK (kindOf c.parts i))=gm at *
  generalize plusK (kindOf c.parts i)=pl at *
  generalize minusK (kindOf c.parts i)=mi at *
  have htu:=turned_fn gp
  generalize notE gp=ng at *
  have hdn:=decN_len2 i
  simp[hn,hi,hio]
  refine V.drawX (fun _=>none) (by kernel_rfl) (by kernel_rfl) (by simp) ?_
  simp[hn,hi,hio,hps,hi1,hx,hxo]
  intro b7
  refine⟨by kernel_rfl,hpi.s ?_⟩
  simp
  refine V.drawX (fun t=>if t=67 then some (.fn (aT ([118]++decN i))) else if t=75 then some (.fn (aE gp)) else none) (by kernel_rfl) (by kernel_rfl) (by simp) ?_
  simp[hn,hi,hio]
  refine⟨hnm,hg1,fun b10=>⟨by kernel_rfl,?_⟩⟩
  by_cases h12:kindOf c.parts i=12
  ·have hx12:x.kind=12:=by omega
   simp[h12,hx12]
   refine V.drawX (fun _=>none) (by kernel_rfl) (by kernel_rfl) (by simp) ?_
   simp[h12]
   exact⟨by kernel_rfl,by omega,⟨by omega,by omega⟩,rfl,rfl,rfl⟩
  ·have hx12:¬x.kind=12:=by omega
   simp[h12,hx12]
   refine⟨fun hmi=>?_,fun hmi=>?_⟩
   ·refine V.drawX (fun t=>if t=93 then some (.fn (aE gm)) else none) (by kernel_rfl) (by kernel_rfl) (by simp) ?_
    simp[hn,hi,hio,hmi]
    refine⟨hg2 hmi,by omega,⟨by omega,by omega⟩,h12,?_⟩
    simp[h12]
   ·refine htu.s ?_
    simp[hmi]
    refine⟨by omega,⟨by omega,by omega⟩,h12,?_⟩
    simp[h12]
 ·rintro v -
  rw[List.take_length]
  simp
  exact V.cutV (Hs:=[(50,.seq v 63 10 ((planZ c).sig0.map rSg))]) [(1,.rptr (encPl (planZ c) c.pipes)),(2,.nils),(3,.own 50 v)] (by simp) (by simp[Pln.sig0]) (V.of_rest rfl (sg_d h v))
theorem signals30_fn {c:Cir}(h:PlR c):CallFn Tryz.prog 198 [.record (encPl (planZ c) c.pipes)] (.dat (.sl ((planZ c).ctl.signals.map encS))):=by
 have hB:=planZ_B h.cir
 have hD:=planZ_D h.drv
 have hps:(planZ c).ps=c.parts:=rfl
 have hol:=hB.ol
 have hva:=Valves_fn h.cir (d:=(planZ c).drives) (by have:=hB.dl;omega)
 change CallFn _ _ _ (aNs (planZ c).valv) at hva
 have hrest:=fun g=>sg_c h g
 refine callFz_cut 3 Tryz.func198 rfl Tryz.ntmps198 (rs:=[.tmp 2]) rfl (by kernel_rfl) (by simp) (by kernel_rfl) ?_
 simp
 refine V.forI (σ:=Value) (planZ c).order.length [1,2] (by simp;exact rfl) (fun n v=>[(3,.own 50 v),(4,aI n)]) (fun n v=>[(50,.seq v 63 10 ((((planZ c).order.take n).map (planZ c).netS).map rSg))]) (fun _ _=>True) (.slice none 0 0) trivial (by simp) ⟨by simp;exact rfl,by simp⟩ ?_ ?_
 ·rintro n v hn -
  obtain⟨i,hi⟩:∃i,(planZ c).order[n]=i:=⟨_,rfl⟩
  have hio:(planZ c).order[n]?=some i:=by rw[List.getElem?_eq_getElem hn,hi]
  have him:=hD.ord i (List.mem_of_getElem? hio)
  have hsm:=hB.small i (List.mem_of_getElem? hio)
  have hfd:=fedR_fn h (i:=i) him
  have hnm:=name_fn [110] (by simp) i (by omega)
  have hdn:=decN_len2 i
  have hst:((planZ c).order.take (n+1)).map (planZ c).netS=((planZ c).order.take n).map (planZ c).netS++[⟨110::decN i,0,(planZ c).fed i,nulE,0,false⟩]:=by
   rw[List.take_add_one,hio,List.map_append]
   rfl
  have hSl:(((planZ c).order.take n).map (planZ c).netS).length<=448:=by
   simp only[List.length_map,List.length_take]
   omega
  rw[hst]
  generalize ((planZ c).order.take n).map (planZ c).netS=S at *
  generalize (planZ c).fed i=x at *
  simp[hn,hi,hio]
  refine V.drawX (fun t=>if t=26 then some (.fn (aT ([110]++decN i))) else if t=33 then some (.fn (aE x)) else none) (by kernel_rfl) (by kernel_rfl) (by simp) ?_
  simp[hn,hi,hio]
  exact⟨hnm,hfd,by omega,⟨by omega,by omega⟩,rfl,rfl,rfl⟩
 ·rintro v -
  rw[List.take_length]
  simp
  refine V.of_vcN 1 ?_
  simp
  refine hva.s ?_
  simp
  exact V.cutV (Hs:=[(50,.seq v 63 10 (((planZ c).order.map (planZ c).netS).map rSg))]) [(1,.rptr (encPl (planZ c) c.pipes)),(2,.nils),(3,.own 50 v),(5,aNs (planZ c).valv)] (by simp) (by simp) (V.of_rest rfl (hrest v))
structure CtW where
 vi:Value
 vp:Value
 vm:Value
 I:List (List UInt8)
 P:List Int
 M:List Int
abbrev CtW.hp (q:CtW) (S:List Signal) (n:Int) (b2 b3:Nat):Heap:=[(61,.seq q.vi 9 1 (q.I.map rTx)),(63,.seq q.vp 3 1 (q.P.map rIn)),(64,.seq q.vm 3 1 (q.M.map rIn)),
 (3,.box b3 [aI n,.own 61 q.vi,.dat (.sl (S.map encS)),.own 63 q.vp,.own 64 q.vm]),(2,.box b2 [aI 0,.nils,.nils,.nils,.nils])]
abbrev ctWE (c:Cir) (b2 b3:Nat):List (Nat×A):=[(1,.rptr (encPl (planZ c) c.pipes)),(2,.ptr 2 b2 0),(3,.ptr 3 b3 0)]
abbrev CtWQ (c:Cir):A->Heap->Prop:=fun r' H'=>(frz H' r').1∧(frz H' r').2=aC (planZ c).ctl
theorem built_d {c:Cir}(h:PlR c) (b2 b3:Nat) (q:CtW) (hI:q.I=(planZ c).butt.map fun i=>(((planZ c).ps[i]?).map (·.name)).getD []) (hP:q.P=[]) (hM:q.M=[]) :
  V ⟨Tryz.prog,none,102⟩ (restC Tryz.f142 5) (hdE (ctWE c b2 b3++[(6,aI ((planZ c).first+(planZ c).sig0.length:Nat))]) []) (q.hp (planZ c).ctl.signals (planZ c).drives.length b2 b3) (RetV Tryz.prog [.cell 2 26] (CtWQ c)):=by
 have hB:=planZ_B h.cir
 have hD:=planZ_D h.drv
 have hps:(planZ c).ps=c.parts:=rfl
 have hdl:=hB.dl
 have hfl:=hB.fl
 have hs0:(planZ c).sig0.length<=512:=by
  have:=hB.ol
  have:=hB.vl
  unfold Pln.sig0
  simp only[List.length_append,List.length_map]
  omega
 refine V.rest rfl ?_
 refine V.of_vcN 1 ?_
 simp
 refine V.forI (σ:=CtW) (planZ c).drives.length [1,2,3] (by simp;exact rfl) (fun n _=>[(6,aI ((planZ c).first+((planZ c).pil n).2.2.length:Nat)),(7,aI n)]) (fun _ q=>q.hp (planZ c).ctl.signals (planZ c).drives.length b2 b3) (fun n q=>q.I=((planZ c).butt.map fun i=>(((planZ c).ps[i]?).map (·.name)).getD [])∧q.P=((planZ c).pil n).1∧q.M=((planZ c).pil n).2.1) q ⟨hI,by rw[hP];rfl,by rw[hM];rfl⟩ (by simp[Pln.pil]) ⟨by simp;exact rfl,by simp⟩ ?_ ?_
 ·rintro n ⟨vi,vp,vm,I,P,M⟩ hn ⟨hI,hP,hM⟩
  simp only at hI hP hM
  obtain⟨d,hd⟩:∃d,(planZ c).drives[n]=d:=⟨_,rfl⟩
  have hdo:(planZ c).drives[n]?=some d:=by rw[List.getElem?_eq_getElem hn,hd]
  have hkd:kindOf c.parts d.2=2∨kindOf c.parts d.2=3:=hD.val d (List.mem_of_getElem? hdo)
  have hd2:d.2<c.parts.length:=kindOf_lt (by omega)
  obtain⟨x,hx⟩:∃x,c.parts[d.2]=x:=⟨_,rfl⟩
  have hxo:c.parts[d.2]?=some x:=by rw[List.getElem?_eq_getElem hd2,hx]
  obtain⟨hk,hk14⟩:=kind_of h.cir hxo
  have hg:=gateR_fn h (i:=d.2) (t:=[49,52]) (port_of hd2 (by rcases hkd with e | e<;>rw[e]<;>decide))
  have hg2:=fun e:kindOf c.parts d.2=2=>gateR_fn h (i:=d.2) (t:=[49,50]) (port_of hd2 (by rw[e];decide))
  obtain⟨a1,a2,a3,a4,_⟩:=hB.pil (fun d hd=>kindOf_lt (by have:=hD.val d hd;omega)) n (by omega)
  rw[<- hP]at a1
  rw[<- hM]at a2
  have hsu:=(planZ c).pil_succ hdo
  unfold Pln.drvS at hsu
  rw[<- hP,<- hM]at hsu
  rw[hsu]
  generalize ((planZ c).pil n).2.2=S at *
  generalize (planZ c).ctl.signals=CS at *
  generalize (planZ c).first=F at *
  generalize (planZ c).gate d.2 [49,52]=ga at *
  generalize (planZ c).gate d.2 [49,50]=gb at *
  simp[hn,hd,hdo]
  refine V.drawX (fun t=>if t=70 then some (.fn (aE ga)) else none) (by kernel_rfl) (by kernel_rfl) (by simp) ?_
  simp[hps,hd2,hx,hxo]
  refine⟨hg,fun u=>⟨by omega,by kernel_rfl,?_⟩⟩
  rcases hkd with hkd | hkd
  ·have hx3:¬x.kind=3:=by omega
   have hkp:kindOf (planZ c).ps d.2=2:=hkd
   have hg2:=hg2 hkd
   rw[if_pos hkp,if_pos hkp]
   simp[hx3]
   refine V.drawX (fun t=>if t=96 then some (.fn (aE gb)) else none) (by kernel_rfl) (by kernel_rfl) (by simp) ?_
   simp
   refine⟨hg2,fun u1=>⟨by omega,by kernel_rfl,⟨by omega,by omega⟩,⟨vi,u,u1,I,P++[ga.index],M++[gb.index]⟩,⟨hI,rfl,rfl⟩,?_⟩⟩
   simp
  ·have hx3:x.kind=3:=by omega
   have hkp:¬kindOf (planZ c).ps d.2=2:=by rw[hps];omega
   rw[if_neg hkp,if_neg hkp]
   simp[hx3]
   have hkc:¬kindOf c.parts d.2=2:=by omega
   refine fun u1=>⟨by omega,⟨by omega,by omega⟩,⟨by omega,by omega⟩,⟨vi,u,u1,I,P++[ga.index],M++[(F:Int)+S.length]⟩,⟨hI,rfl,by rw[if_neg hkc]⟩,?_⟩
   simp[hkc]
   omega
 ·rintro⟨vi,vp,vm,I,P,M⟩ ⟨hI,hP,hM⟩
  simp only at hI hP hM
  simp
  refine V.of_vc ?_
  simp
  have hct:(planZ c).ctl=⟨(planZ c).drives.length,(planZ c).butt.map fun i=>(((planZ c).ps[i]?).map (·.name)).getD [],(planZ c).ctl.signals,((planZ c).pil (planZ c).drives.length).1,((planZ c).pil (planZ c).drives.length).2.1⟩:=rfl
  rw[<- hI,<- hP,<- hM]at hct
  refine⟨?_,?_⟩
  ·simp[frz,hget,frzs,allD,isD]
  ·rw[hct]
   simp[frz,hget,frzs,rowsD]
theorem built_c {c:Cir}(h:PlR c) (b2 b3:Nat) (q:CtW) (hI:q.I=[]) (hP:q.P=[]) (hM:q.M=[]) :
  V ⟨Tryz.prog,none,102⟩ (restC Tryz.f142 3) (hdE (ctWE c b2 b3++[(4,aNs (planZ c).butt)]) []) (q.hp (planZ c).ctl.signals (planZ c).drives.length b2 b3) (RetV Tryz.prog [.cell 2 26] (CtWQ c)):=by
 have hB:=planZ_B h.cir
 have hps:(planZ c).ps=c.parts:=rfl
 have hbl:=hB.bl
 have hol:=hB.ol
 have hvl:=hB.vl
 have hfl:=hB.fl
 have hf:=firstR_fn h
 have hva:=Valves_fn h.cir (d:=(planZ c).drives) (by have:=hB.dl;omega)
 change CallFn _ _ _ (aNs (planZ c).valv) at hva
 have hrest:=fun q hI hP hM=>built_d h b2 b3 q hI hP hM
 have hs0:(planZ c).sig0.length=(planZ c).order.length+(planZ c).valv.length:=by
  unfold Pln.sig0
  simp only[List.length_append,List.length_map]
 rw[hs0]at hrest
 generalize (planZ c).ctl.signals=CS at *
 refine V.rest rfl ?_
 refine V.of_vcN 1 ?_
 simp
 refine V.forI (σ:=CtW) (planZ c).butt.length [1,2,3,4] (by simp;exact rfl) (fun n _=>[(5,aI n)]) (fun _ q=>q.hp CS (planZ c).drives.length b2 b3) (fun n q=>q.I=(((planZ c).butt.take n).map fun i=>(((planZ c).ps[i]?).map (·.name)).getD [])∧q.P=[]∧q.M=[]) q ⟨by simpa using hI,hP,hM⟩ (by simp) ⟨by simp;exact rfl,by simp⟩ ?_ ?_
 ·rintro n ⟨vi,vp,vm,I,P,M⟩ hn ⟨hI,hP,hM⟩
  simp only at hI hP hM
  obtain⟨i,hi⟩:∃i,(planZ c).butt[n]=i:=⟨_,rfl⟩
  have hio:(planZ c).butt[n]?=some i:=by rw[List.getElem?_eq_getElem hn,hi]
  have him:i<c.parts.length:=(mem_buttN.1 (List.mem_of_getElem? hio)).1
  obtain⟨x,hx⟩:∃x,c.parts[i]=x:=⟨_,rfl⟩
  have hxo:c.parts[i]?=some x:=by rw[List.getElem?_eq_getElem him,hx]
  have hIl:I.length<=64:=by
   rw[hI]
   simp only[List.length_map,List.length_take]
   omega
  rw[List.take_add_one,hio]
  have hI2:I++[x.name]=((planZ c).butt.take n++[i]).map fun i=>(((planZ c).ps[i]?).map (·.name)).getD []:=by
   rw[hI,List.map_append]
   simp[hps,hxo]
  simp only[Option.toList_some]
  rw[<- hI2]
  simp[hn,hi,hio]
  refine V.drawX (fun _=>none) (by kernel_rfl) (by kernel_rfl) (by simp) ?_
  simp[hps,hn,hi,hio,him,hx,hxo]
  intro u
  refine⟨by omega,by kernel_rfl,⟨by omega,by omega⟩,⟨u,vp,vm,I++[x.name],P,M⟩,⟨rfl,hP,hM⟩,?_⟩
  simp
 ·rintro⟨vi,vp,vm,I,P,M⟩ ⟨hI,hP,hM⟩
  simp only at hI hP hM
  rw[List.take_length]at hI
  simp
  refine V.of_vcN 1 ?_
  simp
  refine V.drawX (fun t=>if t=40 then some (.fn (aI (planZ c).first)) else if t=49 then some (.fn (aNs (planZ c).valv)) else none) (by kernel_rfl) (by kernel_rfl) (by simp) ?_
  simp
  refine⟨hf,⟨by omega,by omega⟩,hva,⟨by omega,by omega⟩,?_⟩
  exact V.cutV (Hs:=CtW.hp ⟨vi,vp,vm,I,P,M⟩ CS (planZ c).drives.length b2 b3) (ctWE c b2 b3++[(6,aI ((planZ c).first+((planZ c).order.length+(planZ c).valv.length):Nat))]) (by simp;omega) (by simp) (V.of_rest rfl (hrest ⟨vi,vp,vm,I,P,M⟩ hI hP hM))
theorem built_fn {c:Cir}(h:PlR c):CallFn Tryz.prog 142 [.record (encPl (planZ c) c.pipes)] (aC (planZ c).ctl):=by
 have hb:=Buttons_o h.cir
 change CallFn _ _ _ (aNs (planZ c).butt) at hb
 have hs:=signals30_fn h
 have hrest:=fun b2 b3 q hI hP hM=>built_c h b2 b3 q hI hP hM
 unfold CtWQ at hrest
 generalize (planZ c).ctl.signals=CS at *
 generalize (planZ c).ctl=CT at *
 refine callFz_cut 3 Tryz.func142 rfl Tryz.ntmps142 (rs:=[.cell 2 26]) rfl (by kernel_rfl) (by simp) (by kernel_rfl) ?_
 simp
 intro b2
 refine V.drawX (fun t=>if t=13 then some (.fn (.dat (.sl (CS.map encS)))) else none) (by kernel_rfl) (by kernel_rfl) (by simp) ?_
 simp
 refine⟨hs,fun b3=>⟨by kernel_rfl,hb.s ?_⟩⟩
 simp
 refine V.inv (H':=CtW.hp ⟨.slice none 0 0,.slice none 0 0,.slice none 0 0,[],[],[]⟩ CS (planZ c).drives.length b2 b3) (fun x H0 hi=>?_) (V.cutV (Hs:=CtW.hp ⟨.slice none 0 0,.slice none 0 0,.slice none 0 0,[],[],[]⟩ CS (planZ c).drives.length b2 b3) (ctWE c b2 b3++[(4,aNs (planZ c).butt)]) (by simp) (by simp) (V.of_rest rfl (hrest b2 b3 ⟨.slice none 0 0,.slice none 0 0,.slice none 0 0,[],[],[]⟩ rfl rfl rfl)))
 refine Inv.nil (t:=61) (e:=.seq (.slice none 0 0) 9 1 []) (Inv.nil (t:=63) (e:=.seq (.slice none 0 0) 3 1 []) (Inv.nil (t:=64) (e:=.seq (.slice none 0 0) 3 1 []) ?_ ⟨rfl,rfl⟩) ⟨rfl,rfl⟩) ⟨rfl,rfl⟩
 exact Inv.swap (g:=3) (H:=[(3,.box b3 [aI (planZ c).drives.length,.nils,.dat (.sl (CS.map encS)),.nils,.nils]),(2,.box b2 [aI 0,.nils,.nils,.nils,.nils])]) (e:=.box b3 [aI (planZ c).drives.length,.nils,.dat (.sl (CS.map encS)),.nils,.nils]) (e':=.box b3 [aI (planZ c).drives.length,.own 61 (.slice none 0 0),.dat (.sl (CS.map encS)),.own 63 (.slice none 0 0),.own 64 (.slice none 0 0)]) rfl (box_sat (Ds_c D_i (Ds_c D_nilo (Ds_c D_i (Ds_c D_nilo (Ds_c D_nilo Ds_i)))))) (fun b hb=>hb) hi
theorem ctl_sizes {c:Cir}(h:PlR c):(planZ c).ctl.plus.length<=1000000∧(planZ c).ctl.minus.length<=1000000∧OkC (planZ c).ctl:=by
 have hB:=planZ_B h.cir
 have hD:=planZ_D h.drv
 obtain⟨a1,a2,_⟩:=hB.pil (fun d hd=>kindOf_lt (by have:=hD.val d hd;omega)) (planZ c).drives.length (Nat.le_refl _)
 have hdl:=hB.dl
 refine⟨?_,?_,hB.okC fun d hd=>(mem_drvN h.drv hd).2.2.2.1⟩
 ·show ((planZ c).pil _).1.length<=_
  omega
 ·show ((planZ c).pil _).2.1.length<=_
  omega
theorem ControlR30_fn (c:Cir) (hc:OkCir c):CallFn Tryz.prog 70 [aCi c] (.tuple [aC (controlQ c).1,aI (controlQ c).2]):=by
 have hp:=planned_fn c hc
 generalize hR:controlQ c=R
 unfold controlQ buildE at hR
 by_cases h0:planE c=0
 ·have h:=plR_of h0
  obtain⟨q1,q2,q3⟩:=ctl_sizes h
  have hb:=built_fn h
  have hch:=CheckR_fn (planZ c).ctl q3 q1 q2
  rw[h0]at hp
  rw[if_pos rfl]at hp
  simp only[h0,ne_eq,not_true,if_false]at hR
  generalize (planZ c).ctl=ct at *
  refine callFz_of Tryz.func70 rfl Tryz.ntmps70 (rs:=[.cell 2 26,.tmp 3]) rfl (by kernel_rfl) (by simp) (by kernel_rfl) ?_
  simp
  intro b2
  refine hp.s ?_
  simp
  intro b4
  refine hb.s ?_
  simp
  intro b6
  refine hch.s ?_
  by_cases hz:checkC ct=0
  ·rw[if_pos hz]at hR
   rw[<- hR]
   simp[hz]
  ·rw[if_neg hz]at hR
   rw[<- hR]
   simp[hz,noCtl]
 ·rw[if_neg h0]at hp
  simp only[h0,ne_eq,not_false_iff,if_true,if_false]at hR
  rw[<- hR]
  refine callFz_of Tryz.func70 rfl Tryz.ntmps70 (rs:=[.cell 2 26,.tmp 3]) rfl (by kernel_rfl) (by simp) (by kernel_rfl) ?_
  simp
  intro b2
  refine hp.s ?_
  simp[h0,noCtl]




def sameSt (a b:State):Bool:=decide (a.ends=b.ends)&&decide (a.valves=b.valves)&&decide (a.inputs=b.inputs)&&decide (a.values=b.values)&&decide (a.timers=b.timers)
def fewS (s:State):Bool:=decide ((s.ends.length:Int)<=40)&&decide ((s.valves.length:Int)<=40)&&decide ((s.inputs.length:Int)<=200)&&decide ((s.values.length:Int)<=200)&&decide ((s.timers.length:Int)<=200)
theorem FewStates_fn (s:State) (hs:OkSt s):CallFn Tryz.prog 45 [aSt s] (aB (fewS s)):=by
 have h1:=hs.ends
 have h2:=hs.valves
 have h3:=hs.inputs
 have h4:=hs.values
 have h5:=hs.timers
 refine callFz_of Tryz.func45 rfl Tryz.ntmps45 (rs:=[.tmp 2]) rfl (by kernel_rfl) (by simp) (by kernel_rfl) ?_
 simp[fewS]
theorem few_sm {s:State}(h:fewS s=true):SmS s:=by
 simp only[fewS,Bool.and_eq_true,decide_eq_true_eq]at h
 exact⟨by omega,by omega,by omega,by omega,by omega⟩
theorem sm_of {c:Control}{s:State}(hf:Fine c) (h:shapeS c s):SmS s:=by
 obtain⟨h1,h2,h3,h4,h5⟩:=h
 have:=hf.act
 have:=hf.inp
 have:=hf.sig
 exact⟨by omega,by omega,by omega,by omega,by omega⟩
theorem evalE_congr {vs ws:List Bool}:∀(N:Nat) (x:Expr),SizeOf.sizeOf x<N->(∀k∈varsE x,vs[k.toNat]?=ws[k.toNat]?)->evalE x vs=evalE x ws
 | 0,_,h,_=>absurd h (Nat.not_lt_zero _)
 | N+1,x,hN,h=>by
  have hL:∀l:List Expr,(∀y∈l,y∈x.args)->(∀k∈varsL l,vs[k.toNat]?=ws[k.toNat]?)->evalL l vs=evalL l ws:=by
   intro l
   induction l with
   | nil=>intro _ _;rfl
   | cons y l ih=>
    intro hl hk
    have hm:=hl y (by simp)
    simp only[evalL]
    rw[ih (fun z hz=>hl z (by simp[hz])) (fun k hkk=>hk k (by simp[varsL,hkk])),evalE_congr N y (by have:=Expr.lt_of_mem hm;omega) (fun k hkk=>hk k (by simp[varsL,hkk]))]
  rw[evalE_eq,evalE_eq,hL x.args (fun _ h=>h) (fun k hk=>h k (by rw[varsE_eq];simp[hk]))]
  by_cases hop:x.op=1
  ·have:=h x.index (by rw[varsE_eq];simp[hop])
   simp[hop,List.getD_eq_getElem?_getD,this]
  ·simp[hop]
theorem gvals_keep {c:Control}{s:State}{k:Nat}:∀j:Nat,(kindAt c k≠0∨j<=k∨c.signals.length<=k)->(gvals c s j)[k]?=s.values[k]?
 | 0,_=>rfl
 | j+1,h=>by
  simp only[gvals]
  split
  ·rename_i x hx
   split
   ·rename_i hk0
    have hne:j≠k:=by
     rintro rfl
     obtain⟨hlt,_⟩:=List.getElem?_eq_some_iff.1 hx
     rcases h with h | h | h
     ·apply h;simp[kindAt,hx,hk0]
     ·omega
     ·omega
    rw[List.getElem?_set_ne hne]
    exact gvals_keep j (by rcases h with h | h | h;exact .inl h;exact .inr (.inl (by omega));exact .inr (.inr h))
   ·exact gvals_keep j (by rcases h with h | h | h;exact .inl h;exact .inr (.inl (by omega));exact .inr (.inr h))
  ·exact gvals_keep j (by rcases h with h | h | h;exact .inl h;exact .inr (.inl (by omega));exact .inr (.inr h))
theorem gvals_stay {c:Control}{s:State}{k:Nat}:∀j:Nat,k<j->(gvals c s j)[k]?=(gvals c s (k+1))[k]?
 | 0,h=>absurd h (Nat.not_lt_zero _)
 | j+1,h=>by
  rcases Nat.lt_or_ge k j with h1 | h1
  ·rw[<- gvals_stay j h1]
   conv=>lhs;unfold gvals
   split
   ·split
    ·rw[List.getElem?_set_ne (by omega)]
    ·rfl
   ·rfl
  ·obtain rfl:k=j:=by omega
   rfl
theorem late_not {c:Control}(hf:Fine c) {i:Nat}{x:Signal}(hx:c.signals[i]?=some x) (hk:x.kind=0):∀n∈varsE x.on,n-firstC c<i∨kindAt c (n-firstC c)≠0:=by
 have h:=hf.sigs i x hx
 unfold signalE at h
 split at h
 ·rename_i h1;exact absurd h h1
 ·split at h
  ·cases h
  ·split at h
   ·rename_i h1;exact absurd h h1
   ·have hl:lateC c i x.on=false:=by
     cases hl:lateC c i x.on
     ·rfl
     ·simp[gateE,hl,hk]at h
    intro n hn
    rw[lateC_any,List.any_eq_false]at hl
    have:=hl n hn
    simp only[Bool.and_eq_true,decide_eq_true_eq,beq_iff_eq,not_and]at this
    rcases Classical.em (n-firstC c<i) with h | h
    ·exact .inl h
    ·exact .inr (this (by omega))
theorem gate_same {c:Control}(hf:Fine c) {s:State}(hsh:shapeS c s) {i:Nat}{x:Signal}(hx:c.signals[i]?=some x) (hk:x.kind=0) {m:Nat}(hm:i<=m) :
  evalE x.on (preV s++gvals c s i)=evalE x.on (preV s++gvals c s m):=by
 have hpl:=preV_length hsh
 refine evalE_congr (SizeOf.sizeOf x.on+1) x.on (by omega) fun k hk2=>?_
 have hv:=vars_check (hf.on hx).1 k hk2
 have hl:=late_not hf hx hk k hk2
 by_cases h1:k.toNat<(preV s).length
 ·rw[List.getElem?_append_left h1,List.getElem?_append_left h1]
 ·rw[List.getElem?_append_right (by omega),List.getElem?_append_right (by omega)]
  obtain⟨q,hq⟩:∃q:Nat,k-firstC c=q:=⟨(k-firstC c).toNat,by omega⟩
  have e:k.toNat-(preV s).length=q:=by omega
  rw[e]
  rw[hq]at hl
  by_cases h2:kindAt c q≠0
  ·rw[gvals_keep i (.inl h2),gvals_keep m (.inl h2)]
  ·have h3:q<i:=by rcases hl with h | h;omega;exact absurd h h2
   rw[gvals_stay i h3,gvals_stay m (by omega)]
theorem gates_gate {c:Control}(hf:Fine c) {s:State}(hsh:shapeS c s) {i:Nat}{x:Signal}(hx:c.signals[i]?=some x) (hk:x.kind=0):(gatesP c s).values[i]?=some (evalE x.on (valuesOf (gatesP c s))):=by
 obtain⟨hlt,_⟩:=List.getElem?_eq_some_iff.1 hx
 show (gvals c s c.signals.length)[i]?=some (evalE x.on (preV s++gvals c s c.signals.length))
 rw[gvals_stay _ hlt,gvals_at hx,if_pos hk,<- gate_same hf hsh hx hk (Nat.le_of_lt hlt),valuesOf_with]
 rw[List.getElem?_set_self]
 rw[gvals_length,hsh.2.2.2.1]
 exact hlt
theorem gates_keep {c:Control}{s:State}{i:Nat}(h:kindAt c i≠0):(gatesP c s).values[i]?=s.values[i]?:=gvals_keep _ (.inl h)
theorem gates_shape {c:Control}{s:State}(hsh:shapeS c s):shapeS c (gatesP c s):=by
 obtain⟨h1,h2,h3,h4,h5⟩:=hsh
 exact⟨h1,h2,h3,by simp only[gatesP,gvals_length];exact h4,h5⟩
theorem gates_right {c:Control}{s:State}(h:rightC c s=0):rightC c (gatesP c s)=0:=by
 obtain⟨z1,z2,z3⟩:=right_zero h
 have hsh:=gates_shape z2
 unfold fitsSt at z3
 rw[if_neg (by simpa using z2)]at z3
 split at z3
 ·cases z3
 ·rename_i hout
  have hz:=firstErr_zero z3
  have e:fitsSt c (gatesP c s)=firstErr (tsE c (gatesP c s)) (List.range s.timers.length):=by
   unfold fitsSt
   rw[if_neg (by simpa using hsh)]
   exact if_neg hout
  have hn:NoE (tsE c (gatesP c s)) s.timers.length:=by
   intro i hi
   have h0:=hz i hi
   unfold tsE at h0 ⊢
   obtain⟨hlv,hlt⟩:s.values.length=c.signals.length∧s.timers.length=c.signals.length:=⟨z2.2.2.2.1,z2.2.2.2.2⟩
   have hx:c.signals[i]?=some c.signals[i]:=List.getElem?_eq_getElem (by omega)
   have hv:s.values[i]?=some s.values[i]:=List.getElem?_eq_getElem (by omega)
   have ht:s.timers[i]?=some s.timers[i]:=List.getElem?_eq_getElem (by omega)
   rw[hx,hv,ht]at h0
   have ht':(gatesP c s).timers[i]?=some s.timers[i]:=ht
   have hlg:(gatesP c s).values.length=c.signals.length:=hsh.2.2.2.1
   have hv':(gatesP c s).values[i]?=some (gatesP c s).values[i]:=List.getElem?_eq_getElem (by omega)
   rw[hx,hv',ht']
   simp only at h0 ⊢
   unfold tstE at h0 ⊢
   by_cases hk:c.signals[i].kind=2
   ·have hka:kindAt c i≠0:=by simp[kindAt,hx,hk]
    have hg:=gates_keep (s:=s) hka
    rw[hv',hv]at hg
    rw[Option.some.inj hg]
    exact h0
   ·simp only[hk,ne_eq,not_false_eq_true,true_and,false_and,or_false]at h0 ⊢
    exact h0
  rw[rightC,if_neg (by simpa using z1),e]
  exact firstErr_all hn
structure TmOK (ct:Control) (s:State):Prop where
 vals:∀(i:Nat) (x:Signal) (v:Bool) (t:Int),ct.signals[i]?=some x->s.values[i]?=some v->s.timers[i]?=some t->(x.kind≠2->t=0)∧(x.kind=2->v=(t==2))
 rng:∀t∈s.timers,t=0∨t=2
structure TmJ (p:Pln) (ct:Control) (s:State) (i:Nat):Prop where
 ok:TmOK ct s
 tch:∀m,s.timers[m]?=some 2->∃j,j<i∧j∈p.valv∧p.line j=some (p.first+m)
def pressP:List Prt:=[⟨1,[65],0⟩,⟨0,[83],0⟩,⟨3,[86],0⟩,⟨7,[115,116,97,114,116],0⟩]
def pressL:List PipeZ:=[((0,[50]),(2,[50])),((0,[52]),(2,[52])),((1,[49]),(2,[49])),((1,[49]),(3,[49])),((2,[49,52]),(3,[50]))]
def pressZ:Cir:=⟨pressP,pressL⟩
section
open Go.Shelf Go.RowKit Go.Lib Go.Sort
theorem blockV {w:World}{g n:Nat}{cur:Array Value}{e:TypeId}(h5:w.heap[g]?=some (.cells cur e (0,0))) (d:Array Value) :
  (putRow id (Sort.ahead w n) g 0 d).heap[g]?=some (.cells (putCells id 0 d cur) e (0,0))∧(putRow id (Sort.ahead w n) g 0 d).heap.size=w.heap.size∧∀k,k<w.heap.size->k≠g->(putRow id (Sort.ahead w n) g 0 d).heap[k]?=w.heap[k]?:=by
 refine⟨?_,?_,?_⟩
 ·simp[putRow,mapBlock,Sort.ahead,Array.getElem?_modify,h5,onCells]
 ·simp[putRow,mapBlock,Sort.ahead]
 ·intro k hk hne
  simp[putRow,mapBlock,Sort.ahead,Array.getElem?_modify,Ne.symm hne]
end
theorem press1_fn (n:Nat) (t:List UInt8):CallFn Tryz.prog 143 [aI n,aT t] (.record (encPo ((n:Int),t))):=by
 refine callFz_of Tryz.func143 rfl Tryz.ntmps143 (rs:=[.cell 4 50]) rfl (by kernel_rfl) (by simp) (by kernel_rfl) ?_
 simp
theorem Press_fn:CallFn Tryz.prog 71 [] (aCi pressZ):=by
 have a0:=press1_fn 0 [50]
 have a1:=press1_fn 2 [50]
 have a2:=press1_fn 0 [52]
 have a3:=press1_fn 2 [52]
 have a4:=press1_fn 1 [49]
 have a5:=press1_fn 2 [49]
 have a6:=press1_fn 3 [49]
 have a7:=press1_fn 2 [49,52]
 have a8:=press1_fn 3 [50]
 refine callFz_of Tryz.func71 rfl Tryz.ntmps71 (rs:=[.cell 0 35]) rfl (by kernel_rfl) (by simp) (by kernel_rfl) ?_
 simp
 intro b0
 refine a0.s ?_
 simp
 refine a1.s ?_
 simp
 refine a2.s ?_
 simp
 refine a3.s ?_
 simp
 refine a4.s ?_
 simp
 refine a5.s ?_
 simp
 refine a4.s ?_
 simp
 refine a6.s ?_
 simp
 refine a7.s ?_
 simp
 refine a8.s ?_
 simp[pressZ,pressP,pressL]
theorem few_ok {c:Cir}(h:fewB c=true):OkCir c∧c.parts.length<128:=by
 unfold fewB at h
 simp only[Bool.and_eq_true,Bool.or_eq_true,decide_eq_true_eq]at h
 obtain⟨⟨⟨h1,h2⟩,h3⟩,h4⟩:=h
 refine⟨⟨fun h64 p hp=>?_,by unfold Sh;omega,by unfold Sh;omega⟩,by omega⟩
 have h12:c.parts.length<=12:=by omega
 rw[List.take_of_length_le h12]at h1
 have:=List.all_eq_true.1 h1 p hp
 simp only[decide_eq_true_eq]at this
 omega

theorem net_has {nets:List (List PortZ)}{p:PortZ}(h:nets.getD (netW nets p) []≠[]):nets[netW nets p]?=some (nets.getD (netW nets p) [])∧p∈nets.getD (netW nets p) []:=by
 rw[List.getD_eq_getElem?_getD]at h ⊢
 have hlt:netW nets p<nets.length:=by
  rcases Nat.lt_or_ge (netW nets p) nets.length with h1 | h1
  ·exact h1
  ·rw[List.getElem?_eq_none h1]at h
   exact absurd rfl h
 rw[List.getElem?_eq_getElem hlt]
 refine⟨rfl,?_⟩
 have:=List.findIdx_getElem (w:=(hlt:List.findIdx _ nets<nets.length))
 obtain⟨q,hq,he⟩:=List.any_eq_true.1 this
 show p∈nets[netW nets p]
 have e:=eq_of_beq he
 exact e▸hq
theorem pair_mem {c:Cir}{a b:Nat}{t:List UInt8}(h:pairZ (netsZ c) a b t=true):∃(n:Nat) (l:List PortZ),(netsZ c)[n]?=some l∧l.length=2∧((a:Int),t)∈l∧((b:Int),t)∈l:=by
 unfold pairZ at h
 rw[Bool.and_eq_true,decide_eq_true_eq]at h
 obtain⟨h1,h2⟩:=h
 have hne:(netsZ c).getD (netW (netsZ c) ((a:Int),t)) []≠[]:=fun e=>by rw[e]at h1;cases h1
 obtain⟨g1,g2⟩:=net_has hne
 obtain⟨q,hq,he⟩:=List.any_eq_true.1 h2
 exact⟨_,_,g1,h1,g2,by rw[eq_of_beq he];exact hq⟩
theorem two_mem {α:Type}{l:List α}{a b c:α}(hl:l.length=2) (ha:a∈l) (hb:b∈l) (hc:c∈l) (h1:a≠b) (h2:c≠b):a=c:=by
 rcases l with _ | ⟨x,_ | ⟨y,_ | ⟨z,l⟩⟩⟩<;>simp only[List.length_nil,List.length_cons]at hl<;>try omega
 simp only[List.mem_cons,List.not_mem_nil,or_false]at ha hb hc
 rcases ha with rfl | rfl<;>rcases hb with rfl | rfl<;>rcases hc with rfl | rfl<;>first | rfl | exact absurd rfl h1 | exact absurd rfl h2
structure RtJ (p:Pln) (s t:State) (i:Nat):Prop where
 val:∀j k,j<i->drivenZ p.drives j=some k->t.valves[k]?=s.valves[k]?
 inp:∀j,j<i->j∈p.butt->t.inputs[p.butt.idxOf j]?=s.inputs[p.butt.idxOf j]?
 vs:∀j,j<i->j∈p.valv->t.values[p.order.length+p.valv.idxOf j]?=s.values[p.order.length+p.valv.idxOf j]?
theorem vals_at {s:State}{nd nb:Nat}(he:s.ends.length=nd) (hb:s.inputs.length=nb):(∀n,n<2*nd->(valuesOf s)[n]?=(endsV s.ends)[n]?)∧(∀n,n<nb->(valuesOf s)[2*nd+n]?=s.inputs[n]?)∧∀n,(valuesOf s)[2*nd+nb+n]?=s.values[n]?:=by
 have hl:=endsV_length s.ends
 unfold valuesOf
 refine⟨fun n hn=>?_,fun n hn=>?_,fun n=>?_⟩
 ·rw[List.getElem?_append_left (by rw[List.length_append];omega),List.getElem?_append_left (by omega)]
 ·rw[List.getElem?_append_left (by rw[List.length_append];omega),List.getElem?_append_right (by omega)]
  congr 1
  omega
 ·rw[List.getElem?_append_right (by rw[List.length_append];omega)]
  congr 1
  rw[List.length_append]
  omega
theorem valv_line {p:Pln}{j:Nat}(h:j∈p.valv):p.line j=some (p.first+p.order.length+p.valv.idxOf j):=by
 rw[Pln.line_eq,valv_lineB h]
 simp only[h,if_true]
theorem driven_kind {p:Pln}(hD:p.D) {i k:Nat}(h:drivenZ p.drives i=some k):kindOf p.ps i=2∨kindOf p.ps i=3:=by
 obtain⟨h1,h2,_⟩:=List.findIdx?_eq_some_iff_getElem.1 h
 have:=hD.val _ (List.getElem_mem h1)
 rwa [eq_of_beq h2]at this
theorem pil_kind (p:Pln):∀n,∃X:List Signal,(p.pil n).2.2=p.sig0++X∧∀x∈X,x.kind=0
 | 0=>⟨[],by simp[Pln.pil],by simp⟩
 | n+1=>by
  obtain⟨X,h1,h2⟩:=pil_kind p n
  cases hd:p.drives[n]? with
  | none=>
   refine⟨X,?_,h2⟩
   rw[<- h1]
   unfold Pln.pil
   rw[List.take_of_length_le (List.getElem?_eq_none_iff.1 hd),List.take_of_length_le (Nat.le_trans (List.getElem?_eq_none_iff.1 hd) (by omega))]
  | some d=>
   rw[Pln.pil_succ p hd]
   unfold Pln.drvS
   by_cases hk:kindOf p.ps d.2=2
   ·exact⟨X,by simp only[hk,if_true];exact h1,h2⟩
   ·refine⟨X++[p.sprS d.2],by simp only[hk,if_false];rw[h1,List.append_assoc],fun x hx=>?_⟩
    rcases List.mem_append.1 hx with h | h
    ·exact h2 x h
    ·rw[List.mem_singleton.1 h];rfl
theorem valv_kind {p:Pln}{j:Nat}(hj:j∈p.valv):kindAt p.ctl (p.order.length+p.valv.idxOf j)≠0:=by
 obtain⟨X,h1,h2⟩:=pil_kind p p.drives.length
 have hsg:p.ctl.signals=p.order.map p.netS++p.valv.map p.movS++X:=h1
 have hil:=List.idxOf_lt_length_of_mem hj
 unfold kindAt
 rw[hsg,show ((p.order.length:Int)+(p.valv.idxOf j:Int)).toNat=p.order.length+p.valv.idxOf j by omega,List.getElem?_append_left (by simp;omega),List.getElem?_append_right (by simp),List.getElem?_map]
 simp only[List.length_map,Nat.add_sub_cancel_left]
 rw[List.getElem?_eq_getElem hil]
 simp only[Option.map_some,Option.getD_some,Pln.movS]
 split<;>decide
theorem posB_many {c:Cir}(hr:CirR c) (hd:drvE c.parts (netsZ c)=0) (s:State) (i:Nat) (h:(planZ c).posB s i=true):manyK (kindOf c.parts i)=2:=by
 unfold Pln.posB at h
 cases hz:drivenZ (planZ c).drives i with
 | some k=>
  rcases driven_kind (planZ_D hd) hz with e | e
  ·have e2:kindOf c.parts i=2:=e
   rw[e2];rfl
  ·have e2:kindOf c.parts i=3:=e
   rw[e2];rfl
 | none=>
  rw[hz]at h
  simp only at h
  cases hn:(planZ c).line i with
  | none=>rw[hn]at h;simp at h
  | some n=>
   rcases line_cases (planZ_lim hr) hn with⟨hk,_,_⟩|⟨hk,_⟩|⟨_,_,hm,_⟩
   ·have e2:kindOf c.parts i=7:=hk
    rw[e2];rfl
   ·have e2:kindOf c.parts i=6:=hk
    rw[e2];rfl
   ·have:=(mem_valvN.1 hm).2.1
    have e2:plusK (kindOf c.parts i)≠[]:=this
    unfold plusK at e2
    unfold manyK
    split at e2<;>first | simp_all | (exfalso;exact e2 rfl)
end Go.Proofs.YtafamcbdaeppoaaGreatDoor
