/- Texts joined by a program: Wg,Wh,Wi,Wj,Qu,Eha. -/
import Derived.Test.YtpadinblmjlggaaGreatDoorP25
import Derived.Test.YtpadinblmjlggaaGreatDoorP23
import Derived.Test.YtpadinblmjlggaaGreatDoorP24
import Derived.Test.YtpadinblmjlggaaGreatDoorP11
set_option linter.unusedSimpArgs false
set_option linter.unusedVariables false

section
namespace Go.Proofs.YtpadinblmjlggaaGreatDoor
set_option maxHeartbeats 8000000
set_option maxRecDepth 10000
theorem drvd_gifts {ps : List Prt} {d : List Drv} {x : PortZ} {g : Gift} (h : g ∈ giftsZ ps d x) : drivenZ d x.1.toNat = none:=by
 unfold giftsZ at h
 split at h
 ·simp at h
 ·rename_i hn
  cases e : drivenZ d x.1.toNat with
  | none=>rfl
  | some k=>rw [e] at hn; simp at hn
theorem fedR_fn {c : Cir} (h : PlR c) {i : Nat} (hi : i < (netsZ c).length) : CallFn Tryz.prog 158 [.record (encPl (planZ c) c.pipes),aI i] (aE ((planZ c).fed i)):=by
 have hN:=nsOK h.cir
 have hB:=planZ_B h.cir
 obtain ⟨l,hl⟩ : ∃ l,(netsZ c)[i] = l:=⟨_,rfl⟩
 have hlo : (netsZ c)[i]? = some l:=by rw [List.getElem?_eq_getElem hi,hl]
 obtain ⟨n1,n2,n3⟩:=hN.net l (List.mem_of_getElem? hlo)
 have hps : (planZ c).ps = c.parts:=rfl
 have hns : (planZ c).nets = netsZ c:=rfl
 have hfe : (planZ c).fed i = sevE 4 ((planZ c).fedL l):=by
  unfold Pln.fed
  rw [hns,List.getD_eq_getElem?_getD,hlo]
  rfl
 have hfl:=fedL_len (planZ c)
 have hgv:=fun j t hj=>gives_fn h.cir (d:=(planZ c).drives) (by have:=hB.dl; omega) (j:=j) (t:=t) hj
 have hjn:=joinedR_fn 4 ((planZ c).fedL l) (by have:=hfl l; omega)
 rw [hfe]
 obtain ⟨Z,hZ⟩ : ∃ Z,sevE 4 ((planZ c).fedL l) = Z:=⟨_,rfl⟩
 rw [hZ] at hjn ⊢
 refine callFz_of Tryz.func158 rfl Tryz.ntmps158 (rs:=[.cell 4 98]) rfl (by kernel_rfl) (by simp) (by kernel_rfl) ?_
 simp [hns,hi,hl,hlo]
 intro b4
 refine V.forI (σ:=Value) l.length [1,2,4] (by simp; exact rfl) (fun n v=>[(5,.own 50 v),(6,aI n)]) (fun n v=>[(50,.seq v 98 3 (((planZ c).fedL (l.take n)).map rE)),(4,.box b4 [aI 0,aI 0,.nils])]) (fun _ _=>True) (.slice none 0 0) trivial (by simp) ⟨by simp; exact rfl,by simp [Pln.fedL]⟩ ?_ ?_
 ·rintro n v hn -
  obtain ⟨x,hx⟩ : ∃ x,l[n] = x:=⟨_,rfl⟩
  have hxo : l[n]? = some x:=by rw [List.getElem?_eq_getElem hn,hx]
  obtain ⟨j,q,hj,hq,hx1,hx2⟩:=mem_allN.1 (n3 x (List.mem_of_getElem? hxo))
  obtain ⟨x1,x2⟩:=x
  simp only at hx1
  subst hx1
  obtain ⟨hk,hk14⟩:=kind_of h.cir hq
  obtain ⟨hjl,hqe⟩:=List.getElem?_eq_some_iff.1 hq
  have hgj:=hgv j x2 hj
  have hst : (planZ c).fedL (l.take (n + 1)) = (planZ c).fedL (l.take n) ++ ((if kindOf c.parts j = 0 then [⟨0,1,[]⟩] else []) ++ (giftsZ c.parts (planZ c).drives ((j : Int),x2)).map (planZ c).term):=by
   rw [List.take_add_one,hxo]
   simp [Pln.fedL,hps]
  have hll : ((planZ c).fedL (l.take n)).length ≤ 3 * 448:=by
   have:=hfl (l.take n)
   rw [List.length_take] at this
   omega
  have hgt : ∀ G ∈ giftsZ c.parts (planZ c).drives ((j : Int),x2),CallFn Tryz.prog 229 [.record (encPl (planZ c) c.pipes),.record (encGf G)] (aE ((planZ c).term G)):=fun G hG=>by
   have hm:=given_mem (gifts_mem hG)
   have hd:=drvd_gifts hG
   simp only [Int.toNat_natCast] at hm hd
   refine termR_fn h (by rw [hm.1]; exact hj) (by rw [hm.1]; exact hd) (passK_srcl _ _ _ hm.2.2) fun t ht=>?_
   rw [hm.1]
   exact port_of hj (passK_src hk14 (by have:=manyK_le (kindOf c.parts j); omega) hm.2.2 ht)
  have hgl : (giftsZ c.parts (planZ c).drives ((j : Int),x2)).length ≤ 2:=by
   unfold giftsZ
   split
   ·simp
   ·exact Nat.le_trans (gvN_len _ _ _ _) (manyK_le _)
  rw [hst]
  generalize giftsZ c.parts (planZ c).drives ((j : Int),x2) = GS at *
  generalize (planZ c).fedL (l.take n) = W at *
  obtain ⟨q1,q2,q3⟩:=q
  simp only at hk
  have hin : ∀ (v : Value) (B : List Expr),B.length ≤ 3 * 448 + 1 → True:=fun _ _ _=>trivial
  simp [hns,hps,hi,hl,hlo,hn,hx,hxo]
  intro b7
  simp [hps,hjl,hq,hqe]
  by_cases h0 : kindOf c.parts j = 0
  ·have hk0 : q1 = 0:=by omega
   rw [if_pos h0]
   obtain ⟨B,hB⟩ : ∃ B,W ++ [(⟨0,1,[]⟩ : Expr)] = B:=⟨_,rfl⟩
   have hBl : B.length = W.length + 1:=by rw [← hB]; simp
   have hBr : B.map rE = W.map rE ++ [rE ⟨0,1,[]⟩]:=by rw [← hB,List.map_append]; rfl
   rw [show W ++ ([(⟨0,1,[]⟩ : Expr)] ++ GS.map (planZ c).term) = B ++ GS.map (planZ c).term by rw [← hB]; simp]
   simp [hk0]
   intro u
   refine ⟨by omega,?_⟩
   refine hgj.s ?_
   simp
   refine V.forI (σ:=Value) GS.length [1,2,4,6,7,8] (by simp; exact rfl) (fun m w=>[(5,.own 50 w),(9,aI m)]) (fun m w=>[(50,.seq w 98 3 ((B ++ (GS.take m).map (planZ c).term).map rE)),(7,.box b7 [aI j,aT x2]),(4,.box b4 [aI 0,aI 0,.nils])]) (fun _ _=>True) u trivial (by simp) ⟨by simp; exact rfl,by simp [hBr]⟩ ?_ ?_
   ·rintro m w hm -
    obtain ⟨G,hG⟩ : ∃ G,GS[m] = G:=⟨_,rfl⟩
    have hGo : GS[m]? = some G:=by rw [List.getElem?_eq_getElem hm,hG]
    have htm:=hgt G (List.mem_of_getElem? hGo)
    have e1 : B ++ (GS.take (m + 1)).map (planZ c).term = (B ++ (GS.take m).map (planZ c).term) ++ [(planZ c).term G]:=by
     rw [List.take_add_one,hGo]
     simp
    have hWl : (B ++ (GS.take m).map (planZ c).term).length ≤ 3 * 448 + 3:=by
     rw [List.length_append,List.length_map,List.length_take]
     omega
    rw [e1]
    generalize B ++ (GS.take m).map (planZ c).term = X at *
    generalize (planZ c).term G = tx at *
    simp [hm,hG,hGo]
    refine V.drawX (fun t=>if t = 59 then some (.fn (aE tx)) else none) (by kernel_rfl) (by kernel_rfl) (by simp) ?_
    simp [hm,hG,hGo]
    exact ⟨htm,by omega,by omega,by omega⟩
   ·rintro w -
    rw [List.take_length]
    simp
    omega
  ·have hk0 : ¬ q1 = 0:=by omega
   rw [if_neg h0,List.nil_append]
   simp [hk0]
   refine hgj.s ?_
   simp
   refine V.forI (σ:=Value) GS.length [1,2,4,6,7,8] (by simp; exact rfl) (fun m w=>[(5,.own 50 w),(9,aI m)]) (fun m w=>[(50,.seq w 98 3 ((W ++ (GS.take m).map (planZ c).term).map rE)),(7,.box b7 [aI j,aT x2]),(4,.box b4 [aI 0,aI 0,.nils])]) (fun _ _=>True) v trivial (by simp) ⟨by simp; exact rfl,by simp⟩ ?_ ?_
   ·rintro m w hm -
    obtain ⟨G,hG⟩ : ∃ G,GS[m] = G:=⟨_,rfl⟩
    have hGo : GS[m]? = some G:=by rw [List.getElem?_eq_getElem hm,hG]
    have htm:=hgt G (List.mem_of_getElem? hGo)
    have e1 : W ++ (GS.take (m + 1)).map (planZ c).term = (W ++ (GS.take m).map (planZ c).term) ++ [(planZ c).term G]:=by
     rw [List.take_add_one,hGo]
     simp
    have hWl : (W ++ (GS.take m).map (planZ c).term).length ≤ 3 * 448 + 3:=by
     rw [List.length_append,List.length_map,List.length_take]
     omega
    rw [e1]
    generalize W ++ (GS.take m).map (planZ c).term = X at *
    generalize (planZ c).term G = tx at *
    simp [hm,hG,hGo]
    refine V.drawX (fun t=>if t = 59 then some (.fn (aE tx)) else none) (by kernel_rfl) (by kernel_rfl) (by simp) ?_
    simp [hm,hG,hGo]
    exact ⟨htm,by omega,by omega,by omega⟩
   ·rintro w -
    rw [List.take_length]
    simp
    omega
 ·rintro v -
  rw [List.take_length]
  simp [hns,hi,hl,hlo]
  refine hjn.give (Hc:=[(50,_)]) (Hr:=[(4,.box b4 [aI 0,aI 0,.nils])]) rfl (by simp [frzs,frz]) ?_
  simp
end Go.Proofs.YtpadinblmjlggaaGreatDoor
end

section
namespace Go.Proofs.YtpadinblmjlggaaGreatDoor
set_option maxHeartbeats 8000000
set_option maxRecDepth 10000
abbrev sgQ (c : Cir) : A → Heap → Prop:=fun r' H'=>(frz H' r').1 ∧ (frz H' r').2 = .dat (.sl ((planZ c).ctl.signals.map encS))
theorem rowsD_S (xs : List Signal) : rowsD (xs.map rSg) = xs.map encS:=by unfold rowsD; rw [List.map_map]; congr 1
theorem allD_S (xs : List Signal) : allD (xs.map rSg) = true:=by simp [allD,isD]
theorem pil_sp {p : Pln} {n : Nat} {d : Drv} (hd : p.drives[n]? = some d) : (p.pil (n + 1)).2.2 = if kindOf p.ps d.2 = 2 then (p.pil n).2.2 else (p.pil n).2.2 ++ [p.sprS d.2]:=by
 rw [p.pil_succ hd]
 rfl
theorem sg_d {c : Cir} (h : PlR c) (g : Value) : V ⟨Tryz.prog,none,136⟩ (restC Tryz.f101 5) (hdE [(1,.rptr (encPl (planZ c) c.pipes)),(2,.nils),(3,.own 50 g)] []) [(50,.seq g 100 10 ((planZ c).sig0.map rSg))] (RetV Tryz.prog [.tmp 2] (sgQ c)):=by
 have hB:=planZ_B h.cir
 have hD:=planZ_D h.drv
 have hps : (planZ c).ps = c.parts:=rfl
 have hs0 : (planZ c).sig0.length ≤ 512:=by
  have:=hB.ol
  have:=hB.vl
  unfold Pln.sig0
  simp only [List.length_append,List.length_map]
  omega
 have hdl:=hB.dl
 refine V.rest rfl ?_
 refine V.of_vcN 1 ?_
 simp
 refine V.forI (σ:=Value) (planZ c).drives.length [1,2] (by simp; exact rfl) (fun n v=>[(3,.own 50 v),(11,aI n)]) (fun n v=>[(50,.seq v 100 10 (((planZ c).pil n).2.2.map rSg))]) (fun _ _=>True) g trivial (by simp) ⟨by simp; exact rfl,by simp [Pln.pil]⟩ ?_ ?_
 ·rintro n v hn -
  obtain ⟨d,hd⟩ : ∃ d,(planZ c).drives[n] = d:=⟨_,rfl⟩
  have hdo : (planZ c).drives[n]? = some d:=by rw [List.getElem?_eq_getElem hn,hd]
  have hkd : kindOf c.parts d.2 = 2 ∨ kindOf c.parts d.2 = 3:=hD.val d (List.mem_of_getElem? hdo)
  have hd2 : d.2 < c.parts.length:=kindOf_lt (by omega)
  obtain ⟨x,hx⟩ : ∃ x,c.parts[d.2] = x:=⟨_,rfl⟩
  have hxo : c.parts[d.2]? = some x:=by rw [List.getElem?_eq_getElem hd2,hx]
  obtain ⟨hk,hk14⟩:=kind_of h.cir hxo
  have hf:=h.cir.few
  have hnm:=name_fn [119] (by simp) d.2 (by omega)
  have hg:=gateR_fn h (i:=d.2) (t:=[49,52]) (port_of hd2 (by rcases hkd with e | e <;> rw [e] <;> decide))
  obtain ⟨_,_,a3,a4,_⟩:=hB.pil (fun d hd=>kindOf_lt (by have:=hD.val d hd; omega)) n (by omega)
  rw [pil_sp hdo,hps]
  have hsp : (planZ c).sprS d.2 = ⟨119 :: decN d.2,0,notE ((planZ c).gate d.2 [49,52]),nulE,0,false⟩:=rfl
  rw [hsp]
  generalize ((planZ c).pil n).2.2 = S at *
  generalize (planZ c).gate d.2 [49,52] = ga at *
  have htu:=turned_fn ga
  generalize notE ga = ng at *
  have hdn:=decN_len2 d.2
  simp [hn,hd,hdo,hps,hd2,hx,hxo]
  rcases hkd with hkd | hkd
  ·have hx2 : ¬ x.kind = 3:=by omega
   rw [if_pos hkd]
   simp [hx2]
   omega
  ·have hx2 : x.kind = 3:=by omega
   rw [if_neg (by omega)]
   simp [hx2]
   refine V.drawX (fun t=>if t = 126 then some (.fn (aT ([119] ++ decN d.2))) else if t = 130 then some (.fn (aE ga)) else if t = 131 then some (.fn (aE ng)) else none) (by kernel_rfl) (by kernel_rfl) (by simp) ?_
   simp
   exact ⟨hnm,hg,htu,by omega,⟨by omega,by omega⟩,rfl,rfl,rfl⟩
 ·rintro v -
  simp
  refine V.of_vc ?_
  simp
  refine ⟨?_,?_⟩
  ·simp [frz,hget,allD_S]
  ·simp [frz,hget,rowsD_S]
   rfl
theorem sg_c {c : Cir} (h : PlR c) (g : Value) : V ⟨Tryz.prog,none,136⟩ (restC Tryz.f101 4) (hdE [(1,.rptr (encPl (planZ c) c.pipes)),(2,.nils),(3,.own 50 g),(5,aNs (planZ c).valv)] []) [(50,.seq g 100 10 (((planZ c).order.map (planZ c).netS).map rSg))] (RetV Tryz.prog [.tmp 2] (sgQ c)):=by
 have hB:=planZ_B h.cir
 have hps : (planZ c).ps = c.parts:=rfl
 have hol:=hB.ol
 have hvl:=hB.vl
 have hf:=h.cir.few
 refine V.rest rfl ?_
 refine V.of_vcN 1 ?_
 simp
 refine V.forI (σ:=Value) (planZ c).valv.length [1,2,5] (by simp; exact rfl) (fun n v=>[(3,.own 50 v),(6,aI n)]) (fun n v=>[(50,.seq v 100 10 (((planZ c).order.map (planZ c).netS ++ ((planZ c).valv.take n).map (planZ c).movS).map rSg))]) (fun _ _=>True) g trivial (by simp) ⟨by simp; exact rfl,by simp⟩ ?_ ?_
 ·rintro n v hn -
  obtain ⟨i,hi⟩ : ∃ i,(planZ c).valv[n] = i:=⟨_,rfl⟩
  have hio : (planZ c).valv[n]? = some i:=by rw [List.getElem?_eq_getElem hn,hi]
  obtain ⟨hi1,hi2,hi3⟩:=mem_valvN.1 (List.mem_of_getElem? hio)
  have hi1 : i < c.parts.length:=hi1
  obtain ⟨x,hx⟩ : ∃ x,c.parts[i] = x:=⟨_,rfl⟩
  have hxo : c.parts[i]? = some x:=by rw [List.getElem?_eq_getElem hi1,hx]
  obtain ⟨hk,hk14⟩:=kind_of h.cir hxo
  have hi2 : plusK (kindOf c.parts i) ≠ []:=hi2
  have hpi:=Piloted_fn (kindOf c.parts i) hk14
  have hnm:=name_fn [118] (by simp) i (by omega)
  have hg1:=gateR_fn h (i:=i) (t:=plusK (kindOf c.parts i)) (port_of hi1 (plusK_port _ hk14 hi2))
  have hg2:=fun hm=>gateR_fn h (i:=i) (t:=minusK (kindOf c.parts i)) (port_of hi1 (minusK_port _ hk14 hm))
  have hst : (planZ c).order.map (planZ c).netS ++ ((planZ c).valv.take (n + 1)).map (planZ c).movS = ((planZ c).order.map (planZ c).netS ++ ((planZ c).valv.take n).map (planZ c).movS) ++ [(planZ c).movS i]:=by
   rw [List.take_add_one,hio,List.map_append,List.append_assoc]
   rfl
  have hSl : ((planZ c).order.map (planZ c).netS ++ ((planZ c).valv.take n).map (planZ c).movS).length ≤ 512:=by
   simp only [List.length_append,List.length_map,List.length_take]
   omega
  have hmo : (planZ c).movS i = ⟨118 :: decN i,if kindOf c.parts i = 12 then 2 else 1,(planZ c).gate i (plusK (kindOf c.parts i)),
   if kindOf c.parts i = 12 then nulE else if minusK (kindOf c.parts i) ≠ [] then (planZ c).gate i (minusK (kindOf c.parts i)) else notE ((planZ c).gate i (plusK (kindOf c.parts i))),
   if kindOf c.parts i = 12 then x.delay else 0,false⟩:=by
   unfold Pln.movS
   rw [hps,hxo]
   rfl
  rw [hst,hmo]
  rw [← hk] at hpi
  generalize (planZ c).order.map (planZ c).netS ++ ((planZ c).valv.take n).map (planZ c).movS = S at *
  generalize (planZ c).gate i (plusK (kindOf c.parts i)) = gp at *
  generalize (planZ c).gate i (minusK (kindOf c.parts i)) = gm at *
  generalize plusK (kindOf c.parts i) = pl at *
  generalize minusK (kindOf c.parts i) = mi at *
  have htu:=turned_fn gp
  generalize notE gp = ng at *
  have hdn:=decN_len2 i
  simp [hn,hi,hio]
  refine V.drawX (fun _=>none) (by kernel_rfl) (by kernel_rfl) (by simp) ?_
  simp [hn,hi,hio,hps,hi1,hx,hxo]
  intro b7
  refine ⟨by kernel_rfl,hpi.s ?_⟩
  simp
  refine V.drawX (fun t=>if t = 67 then some (.fn (aT ([118] ++ decN i))) else if t = 75 then some (.fn (aE gp)) else none) (by kernel_rfl) (by kernel_rfl) (by simp) ?_
  simp [hn,hi,hio]
  refine ⟨hnm,hg1,fun b10=>⟨by kernel_rfl,?_⟩⟩
  by_cases h12 : kindOf c.parts i = 12
  ·have hx12 : x.kind = 12:=by omega
   simp [h12,hx12]
   refine V.drawX (fun _=>none) (by kernel_rfl) (by kernel_rfl) (by simp) ?_
   simp [h12]
   exact ⟨by kernel_rfl,by omega,⟨by omega,by omega⟩,rfl,rfl,rfl⟩
  ·have hx12 : ¬ x.kind = 12:=by omega
   simp [h12,hx12]
   refine ⟨fun hmi=>?_,fun hmi=>?_⟩
   ·refine V.drawX (fun t=>if t = 93 then some (.fn (aE gm)) else none) (by kernel_rfl) (by kernel_rfl) (by simp) ?_
    simp [hn,hi,hio,hmi]
    refine ⟨hg2 hmi,by omega,⟨by omega,by omega⟩,h12,?_⟩
    simp [h12]
   ·refine htu.s ?_
    simp [hmi]
    refine ⟨by omega,⟨by omega,by omega⟩,h12,?_⟩
    simp [h12]
 ·rintro v -
  rw [List.take_length]
  simp
  exact V.cutV (Hs:=[(50,.seq v 100 10 ((planZ c).sig0.map rSg))]) [(1,.rptr (encPl (planZ c) c.pipes)),(2,.nils),(3,.own 50 v)] (by simp) (by simp [Pln.sig0]) (V.of_rest rfl (sg_d h v))
theorem signals30_fn {c : Cir} (h : PlR c) : CallFn Tryz.prog 101 [.record (encPl (planZ c) c.pipes)] (.dat (.sl ((planZ c).ctl.signals.map encS))):=by
 have hB:=planZ_B h.cir
 have hD:=planZ_D h.drv
 have hps : (planZ c).ps = c.parts:=rfl
 have hol:=hB.ol
 have hva:=Valves_fn h.cir (d:=(planZ c).drives) (by have:=hB.dl; omega)
 change CallFn _ _ _ (aNs (planZ c).valv) at hva
 have hrest:=fun g=>sg_c h g
 refine callFz_cut 3 Tryz.func101 rfl Tryz.ntmps101 (rs:=[.tmp 2]) rfl (by kernel_rfl) (by simp) (by kernel_rfl) ?_
 simp
 refine V.forI (σ:=Value) (planZ c).order.length [1,2] (by simp; exact rfl) (fun n v=>[(3,.own 50 v),(4,aI n)]) (fun n v=>[(50,.seq v 100 10 ((((planZ c).order.take n).map (planZ c).netS).map rSg))]) (fun _ _=>True) (.slice none 0 0) trivial (by simp) ⟨by simp; exact rfl,by simp⟩ ?_ ?_
 ·rintro n v hn -
  obtain ⟨i,hi⟩ : ∃ i,(planZ c).order[n] = i:=⟨_,rfl⟩
  have hio : (planZ c).order[n]? = some i:=by rw [List.getElem?_eq_getElem hn,hi]
  have him:=hD.ord i (List.mem_of_getElem? hio)
  have hsm:=hB.small i (List.mem_of_getElem? hio)
  have hfd:=fedR_fn h (i:=i) him
  have hnm:=name_fn [110] (by simp) i (by omega)
  have hdn:=decN_len2 i
  have hst : ((planZ c).order.take (n + 1)).map (planZ c).netS = ((planZ c).order.take n).map (planZ c).netS ++ [⟨110 :: decN i,0,(planZ c).fed i,nulE,0,false⟩]:=by
   rw [List.take_add_one,hio,List.map_append]
   rfl
  have hSl : (((planZ c).order.take n).map (planZ c).netS).length ≤ 448:=by
   simp only [List.length_map,List.length_take]
   omega
  rw [hst]
  generalize ((planZ c).order.take n).map (planZ c).netS = S at *
  generalize (planZ c).fed i = x at *
  simp [hn,hi,hio]
  refine V.drawX (fun t=>if t = 26 then some (.fn (aT ([110] ++ decN i))) else if t = 33 then some (.fn (aE x)) else none) (by kernel_rfl) (by kernel_rfl) (by simp) ?_
  simp [hn,hi,hio]
  exact ⟨hnm,hfd,by omega,⟨by omega,by omega⟩,rfl,rfl,rfl⟩
 ·rintro v -
  rw [List.take_length]
  simp
  refine V.of_vcN 1 ?_
  simp
  refine hva.s ?_
  simp
  exact V.cutV (Hs:=[(50,.seq v 100 10 (((planZ c).order.map (planZ c).netS).map rSg))]) [(1,.rptr (encPl (planZ c) c.pipes)),(2,.nils),(3,.own 50 v),(5,aNs (planZ c).valv)] (by simp) (by simp) (V.of_rest rfl (hrest v))
end Go.Proofs.YtpadinblmjlggaaGreatDoor
end

section
namespace Go.Proofs.YtpadinblmjlggaaGreatDoor
set_option maxHeartbeats 8000000
set_option maxRecDepth 10000
structure CtW where
 vi : Value
 vp : Value
 vm : Value
 I : List (List UInt8)
 P : List Int
 M : List Int
abbrev CtW.hp (q : CtW) (S : List Signal) (n : Int) (b2 b3 : Nat) : Heap:=[(61,.seq q.vi 9 1 (q.I.map rTx)),(63,.seq q.vp 3 1 (q.P.map rIn)),(64,.seq q.vm 3 1 (q.M.map rIn)),
 (3,.box b3 [aI n,.own 61 q.vi,.dat (.sl (S.map encS)),.own 63 q.vp,.own 64 q.vm]),(2,.box b2 [aI 0,.nils,.nils,.nils,.nils])]
abbrev ctWE (c : Cir) (b2 b3 : Nat) : List (Nat × A):=[(1,.rptr (encPl (planZ c) c.pipes)),(2,.ptr 2 b2 0),(3,.ptr 3 b3 0)]
abbrev CtWQ (c : Cir) : A → Heap → Prop:=fun r' H'=>(frz H' r').1 ∧ (frz H' r').2 = aC (planZ c).ctl
theorem built_d {c : Cir} (h : PlR c) (b2 b3 : Nat) (q : CtW) (hI : q.I = (planZ c).butt.map fun i=>(((planZ c).ps[i]?).map (·.name)).getD []) (hP : q.P = []) (hM : q.M = []) :
  V ⟨Tryz.prog,none,102⟩ (restC Tryz.f64 5) (hdE (ctWE c b2 b3 ++ [(6,aI ((planZ c).first + (planZ c).sig0.length : Nat))]) []) (q.hp (planZ c).ctl.signals (planZ c).drives.length b2 b3) (RetV Tryz.prog [.cell 2 44] (CtWQ c)):=by
 have hB:=planZ_B h.cir
 have hD:=planZ_D h.drv
 have hps : (planZ c).ps = c.parts:=rfl
 have hdl:=hB.dl
 have hfl:=hB.fl
 have hs0 : (planZ c).sig0.length ≤ 512:=by
  have:=hB.ol
  have:=hB.vl
  unfold Pln.sig0
  simp only [List.length_append,List.length_map]
  omega
 refine V.rest rfl ?_
 refine V.of_vcN 1 ?_
 simp
 refine V.forI (σ:=CtW) (planZ c).drives.length [1,2,3] (by simp; exact rfl) (fun n _=>[(6,aI ((planZ c).first + ((planZ c).pil n).2.2.length : Nat)),(7,aI n)]) (fun _ q=>q.hp (planZ c).ctl.signals (planZ c).drives.length b2 b3) (fun n q=>q.I = ((planZ c).butt.map fun i=>(((planZ c).ps[i]?).map (·.name)).getD []) ∧ q.P = ((planZ c).pil n).1 ∧ q.M = ((planZ c).pil n).2.1) q ⟨hI,by rw [hP]; rfl,by rw [hM]; rfl⟩ (by simp [Pln.pil]) ⟨by simp; exact rfl,by simp⟩ ?_ ?_
 ·rintro n ⟨vi,vp,vm,I,P,M⟩ hn ⟨hI,hP,hM⟩
  simp only at hI hP hM
  obtain ⟨d,hd⟩ : ∃ d,(planZ c).drives[n] = d:=⟨_,rfl⟩
  have hdo : (planZ c).drives[n]? = some d:=by rw [List.getElem?_eq_getElem hn,hd]
  have hkd : kindOf c.parts d.2 = 2 ∨ kindOf c.parts d.2 = 3:=hD.val d (List.mem_of_getElem? hdo)
  have hd2 : d.2 < c.parts.length:=kindOf_lt (by omega)
  obtain ⟨x,hx⟩ : ∃ x,c.parts[d.2] = x:=⟨_,rfl⟩
  have hxo : c.parts[d.2]? = some x:=by rw [List.getElem?_eq_getElem hd2,hx]
  obtain ⟨hk,hk14⟩:=kind_of h.cir hxo
  have hg:=gateR_fn h (i:=d.2) (t:=[49,52]) (port_of hd2 (by rcases hkd with e | e <;> rw [e] <;> decide))
  have hg2:=fun e : kindOf c.parts d.2 = 2=>gateR_fn h (i:=d.2) (t:=[49,50]) (port_of hd2 (by rw [e]; decide))
  obtain ⟨a1,a2,a3,a4,_⟩:=hB.pil (fun d hd=>kindOf_lt (by have:=hD.val d hd; omega)) n (by omega)
  rw [← hP] at a1
  rw [← hM] at a2
  have hsu:=(planZ c).pil_succ hdo
  unfold Pln.drvS at hsu
  rw [← hP,← hM] at hsu
  rw [hsu]
  generalize ((planZ c).pil n).2.2 = S at *
  generalize (planZ c).ctl.signals = CS at *
  generalize (planZ c).first = F at *
  generalize (planZ c).gate d.2 [49,52] = ga at *
  generalize (planZ c).gate d.2 [49,50] = gb at *
  simp [hn,hd,hdo]
  refine V.drawX (fun t=>if t = 70 then some (.fn (aE ga)) else none) (by kernel_rfl) (by kernel_rfl) (by simp) ?_
  simp [hps,hd2,hx,hxo]
  refine ⟨hg,fun u=>⟨by omega,by kernel_rfl,?_⟩⟩
  rcases hkd with hkd | hkd
  ·have hx3 : ¬ x.kind = 3:=by omega
   have hkp : kindOf (planZ c).ps d.2 = 2:=hkd
   have hg2:=hg2 hkd
   rw [if_pos hkp,if_pos hkp]
   simp [hx3]
   refine V.drawX (fun t=>if t = 96 then some (.fn (aE gb)) else none) (by kernel_rfl) (by kernel_rfl) (by simp) ?_
   simp
   refine ⟨hg2,fun u1=>⟨by omega,by kernel_rfl,⟨by omega,by omega⟩,⟨vi,u,u1,I,P ++ [ga.index],M ++ [gb.index]⟩,⟨hI,rfl,rfl⟩,?_⟩⟩
   simp
  ·have hx3 : x.kind = 3:=by omega
   have hkp : ¬ kindOf (planZ c).ps d.2 = 2:=by rw [hps]; omega
   rw [if_neg hkp,if_neg hkp]
   simp [hx3]
   have hkc : ¬ kindOf c.parts d.2 = 2:=by omega
   refine fun u1=>⟨by omega,⟨by omega,by omega⟩,⟨by omega,by omega⟩,⟨vi,u,u1,I,P ++ [ga.index],M ++ [(F : Int) + S.length]⟩,⟨hI,rfl,by rw [if_neg hkc]⟩,?_⟩
   simp [hkc]
   omega
 ·rintro ⟨vi,vp,vm,I,P,M⟩ ⟨hI,hP,hM⟩
  simp only at hI hP hM
  simp
  refine V.of_vc ?_
  simp
  have hct : (planZ c).ctl = ⟨(planZ c).drives.length,(planZ c).butt.map fun i=>(((planZ c).ps[i]?).map (·.name)).getD [],(planZ c).ctl.signals,((planZ c).pil (planZ c).drives.length).1,((planZ c).pil (planZ c).drives.length).2.1⟩:=rfl
  rw [← hI,← hP,← hM] at hct
  refine ⟨?_,?_⟩
  ·simp [frz,hget,frzs,allD,isD]
  ·rw [hct]
   simp [frz,hget,frzs,rowsD]
theorem built_c {c : Cir} (h : PlR c) (b2 b3 : Nat) (q : CtW) (hI : q.I = []) (hP : q.P = []) (hM : q.M = []) :
  V ⟨Tryz.prog,none,102⟩ (restC Tryz.f64 3) (hdE (ctWE c b2 b3 ++ [(4,aNs (planZ c).butt)]) []) (q.hp (planZ c).ctl.signals (planZ c).drives.length b2 b3) (RetV Tryz.prog [.cell 2 44] (CtWQ c)):=by
 have hB:=planZ_B h.cir
 have hps : (planZ c).ps = c.parts:=rfl
 have hbl:=hB.bl
 have hol:=hB.ol
 have hvl:=hB.vl
 have hfl:=hB.fl
 have hf:=firstR_fn h
 have hva:=Valves_fn h.cir (d:=(planZ c).drives) (by have:=hB.dl; omega)
 change CallFn _ _ _ (aNs (planZ c).valv) at hva
 have hrest:=fun q hI hP hM=>built_d h b2 b3 q hI hP hM
 have hs0 : (planZ c).sig0.length = (planZ c).order.length + (planZ c).valv.length:=by
  unfold Pln.sig0
  simp only [List.length_append,List.length_map]
 rw [hs0] at hrest
 generalize (planZ c).ctl.signals = CS at *
 refine V.rest rfl ?_
 refine V.of_vcN 1 ?_
 simp
 refine V.forI (σ:=CtW) (planZ c).butt.length [1,2,3,4] (by simp; exact rfl) (fun n _=>[(5,aI n)]) (fun _ q=>q.hp CS (planZ c).drives.length b2 b3) (fun n q=>q.I = (((planZ c).butt.take n).map fun i=>(((planZ c).ps[i]?).map (·.name)).getD []) ∧ q.P = [] ∧ q.M = []) q ⟨by simpa using hI,hP,hM⟩ (by simp) ⟨by simp; exact rfl,by simp⟩ ?_ ?_
 ·rintro n ⟨vi,vp,vm,I,P,M⟩ hn ⟨hI,hP,hM⟩
  simp only at hI hP hM
  obtain ⟨i,hi⟩ : ∃ i,(planZ c).butt[n] = i:=⟨_,rfl⟩
  have hio : (planZ c).butt[n]? = some i:=by rw [List.getElem?_eq_getElem hn,hi]
  have him : i < c.parts.length:=(mem_buttN.1 (List.mem_of_getElem? hio)).1
  obtain ⟨x,hx⟩ : ∃ x,c.parts[i] = x:=⟨_,rfl⟩
  have hxo : c.parts[i]? = some x:=by rw [List.getElem?_eq_getElem him,hx]
  have hIl : I.length ≤ 64:=by
   rw [hI]
   simp only [List.length_map,List.length_take]
   omega
  rw [List.take_add_one,hio]
  have hI2 : I ++ [x.name] = ((planZ c).butt.take n ++ [i]).map fun i=>(((planZ c).ps[i]?).map (·.name)).getD []:=by
   rw [hI,List.map_append]
   simp [hps,hxo]
  simp only [Option.toList_some]
  rw [← hI2]
  simp [hn,hi,hio]
  refine V.drawX (fun _=>none) (by kernel_rfl) (by kernel_rfl) (by simp) ?_
  simp [hps,hn,hi,hio,him,hx,hxo]
  intro u
  refine ⟨by omega,by kernel_rfl,⟨by omega,by omega⟩,⟨u,vp,vm,I ++ [x.name],P,M⟩,⟨rfl,hP,hM⟩,?_⟩
  simp
 ·rintro ⟨vi,vp,vm,I,P,M⟩ ⟨hI,hP,hM⟩
  simp only at hI hP hM
  rw [List.take_length] at hI
  simp
  refine V.of_vcN 1 ?_
  simp
  refine V.drawX (fun t=>if t = 40 then some (.fn (aI (planZ c).first)) else if t = 49 then some (.fn (aNs (planZ c).valv)) else none) (by kernel_rfl) (by kernel_rfl) (by simp) ?_
  simp
  refine ⟨hf,⟨by omega,by omega⟩,hva,⟨by omega,by omega⟩,?_⟩
  exact V.cutV (Hs:=CtW.hp ⟨vi,vp,vm,I,P,M⟩ CS (planZ c).drives.length b2 b3) (ctWE c b2 b3 ++ [(6,aI ((planZ c).first + ((planZ c).order.length + (planZ c).valv.length) : Nat))]) (by simp; omega) (by simp) (V.of_rest rfl (hrest ⟨vi,vp,vm,I,P,M⟩ hI hP hM))
theorem built_fn {c : Cir} (h : PlR c) : CallFn Tryz.prog 64 [.record (encPl (planZ c) c.pipes)] (aC (planZ c).ctl):=by
 have hb:=Buttons_o h.cir
 change CallFn _ _ _ (aNs (planZ c).butt) at hb
 have hs:=signals30_fn h
 have hrest:=fun b2 b3 q hI hP hM=>built_c h b2 b3 q hI hP hM
 unfold CtWQ at hrest
 generalize (planZ c).ctl.signals = CS at *
 generalize (planZ c).ctl = CT at *
 refine callFz_cut 3 Tryz.func64 rfl Tryz.ntmps64 (rs:=[.cell 2 44]) rfl (by kernel_rfl) (by simp) (by kernel_rfl) ?_
 simp
 intro b2
 refine V.drawX (fun t=>if t = 13 then some (.fn (.dat (.sl (CS.map encS)))) else none) (by kernel_rfl) (by kernel_rfl) (by simp) ?_
 simp
 refine ⟨hs,fun b3=>⟨by kernel_rfl,hb.s ?_⟩⟩
 simp
 refine V.inv (H':=CtW.hp ⟨.slice none 0 0,.slice none 0 0,.slice none 0 0,[],[],[]⟩ CS (planZ c).drives.length b2 b3) (fun x H0 hi=>?_) (V.cutV (Hs:=CtW.hp ⟨.slice none 0 0,.slice none 0 0,.slice none 0 0,[],[],[]⟩ CS (planZ c).drives.length b2 b3) (ctWE c b2 b3 ++ [(4,aNs (planZ c).butt)]) (by simp) (by simp) (V.of_rest rfl (hrest b2 b3 ⟨.slice none 0 0,.slice none 0 0,.slice none 0 0,[],[],[]⟩ rfl rfl rfl)))
 refine Inv.nil (t:=61) (e:=.seq (.slice none 0 0) 9 1 []) (Inv.nil (t:=63) (e:=.seq (.slice none 0 0) 3 1 []) (Inv.nil (t:=64) (e:=.seq (.slice none 0 0) 3 1 []) ?_ ⟨rfl,rfl⟩) ⟨rfl,rfl⟩) ⟨rfl,rfl⟩
 exact Inv.swap (g:=3) (H:=[(3,.box b3 [aI (planZ c).drives.length,.nils,.dat (.sl (CS.map encS)),.nils,.nils]),(2,.box b2 [aI 0,.nils,.nils,.nils,.nils])]) (e:=.box b3 [aI (planZ c).drives.length,.nils,.dat (.sl (CS.map encS)),.nils,.nils]) (e':=.box b3 [aI (planZ c).drives.length,.own 61 (.slice none 0 0),.dat (.sl (CS.map encS)),.own 63 (.slice none 0 0),.own 64 (.slice none 0 0)]) rfl (box_sat (Ds_c D_i (Ds_c D_nilo (Ds_c D_i (Ds_c D_nilo (Ds_c D_nilo Ds_i)))))) (fun b hb=>hb) hi
end Go.Proofs.YtpadinblmjlggaaGreatDoor
end

section
namespace Go.Proofs.YtpadinblmjlggaaGreatDoor
set_option maxHeartbeats 8000000
set_option maxRecDepth 10000
theorem ctl_sizes {c : Cir} (h : PlR c) : (planZ c).ctl.plus.length ≤ 1000000 ∧ (planZ c).ctl.minus.length ≤ 1000000 ∧ OkC (planZ c).ctl:=by
 have hB:=planZ_B h.cir
 have hD:=planZ_D h.drv
 obtain ⟨a1,a2,_⟩:=hB.pil (fun d hd=>kindOf_lt (by have:=hD.val d hd; omega)) (planZ c).drives.length (Nat.le_refl _)
 have hdl:=hB.dl
 refine ⟨?_,?_,hB.okC fun d hd=>(mem_drvN h.drv hd).2.2.2.1⟩
 ·show ((planZ c).pil _).1.length ≤ _
  omega
 ·show ((planZ c).pil _).2.1.length ≤ _
  omega
theorem ControlR30_fn (c : Cir) (hc : OkCir c) : CallFn Tryz.prog 15 [aCi c] (.tuple [aC (controlQ c).1,aI (controlQ c).2]):=by
 have hp:=planned_fn c hc
 generalize hR : controlQ c = R
 unfold controlQ buildE at hR
 by_cases h0 : planE c = 0
 ·have h:=plR_of h0
  obtain ⟨q1,q2,q3⟩:=ctl_sizes h
  have hb:=built_fn h
  have hch:=CheckR_fn (planZ c).ctl q3 q1 q2
  rw [h0] at hp
  rw [if_pos rfl] at hp
  simp only [h0,ne_eq,not_true,if_false] at hR
  generalize (planZ c).ctl = ct at *
  refine callFz_of Tryz.func15 rfl Tryz.ntmps15 (rs:=[.cell 2 44,.tmp 3]) rfl (by kernel_rfl) (by simp) (by kernel_rfl) ?_
  simp
  intro b2
  refine hp.s ?_
  simp
  intro b4
  refine hb.s ?_
  simp
  intro b6
  refine hch.s ?_
  by_cases hz : checkC ct = 0
  ·rw [if_pos hz] at hR
   rw [← hR]
   simp [hz]
  ·rw [if_neg hz] at hR
   rw [← hR]
   simp [hz,noCtl]
 ·rw [if_neg h0] at hp
  simp only [h0,ne_eq,not_false_iff,if_true,if_false] at hR
  rw [← hR]
  refine callFz_of Tryz.func15 rfl Tryz.ntmps15 (rs:=[.cell 2 44,.tmp 3]) rfl (by kernel_rfl) (by simp) (by kernel_rfl) ?_
  simp
  intro b2
  refine hp.s ?_
  simp [h0,noCtl]
theorem plR_build {c : Cir} (h : buildE c = 0) : PlR c:=by
 obtain ⟨h1,h2,_,h4,_⟩:=build_zero h
 exact ⟨h1,h2,h4⟩
theorem LineR30_fn (c : Cir) (hc : OkCir c) (net : Int) : CallFn Tryz.prog 22 [aCi c,aI net] (.tuple [aI (lineQ c net).1,aI (lineQ c net).2]):=by
 have hct:=ControlR30_fn c hc
 have hp:=planned_fn c hc
 generalize hR : lineQ c net = R
 unfold lineQ at hR
 unfold controlQ at hct
 by_cases h0 : buildE c = 0
 ·have h:=plR_build h0
  have hB:=planZ_B h.cir
  have hf:=firstR_fn h
  have hns : (planZ c).nets = netsZ c:=rfl
  have hol:=hB.ol
  have hfl:=hB.fl
  have hoz : orderZ c = (planZ c).order:=rfl
  rw [h.pln,if_pos rfl] at hp
  simp only [h0,if_true] at hct
  simp only [h0,ne_eq,not_true,if_false] at hR
  generalize (planZ c).ctl = ct at *
  rw [hoz] at hR
  refine callFz_of Tryz.func22 rfl Tryz.ntmps22 (rs:=[.tmp 4,.tmp 5]) rfl (by kernel_rfl) (by simp) (by kernel_rfl) ?_
  simp
  refine hct.s ?_
  simp
  intro b6
  refine hp.s ?_
  simp [hns]
  intro b8
  refine ⟨fun hb=>?_,fun h1 h2=>?_⟩
  ·rw [if_pos hb] at hR
   rw [← hR]
   exact ⟨rfl,rfl⟩
  ·rw [if_neg (by omega)] at hR
   obtain ⟨n,rfl⟩:=Int.eq_ofNat_of_zero_le h1
   simp only [Int.toNat_natCast] at hR
   have hn : n < (netsZ c).length:=by omega
   obtain ⟨l,hlo,hcn⟩:=Counts_at h.cir hn
   obtain ⟨hl1,hl⟩:=List.getElem?_eq_some_iff.1 hlo
   have hfu:=planE_full h.pln hn
   have hat:=at_fn (planZ c).order n (by unfold Sh; omega)
   cases hcc : countsI c.parts (netsZ c) n with
   | false=>
    rw [hcc] at hcn
    have hno : (planZ c).order.findIdx? (n == ·) = none:=by
     rw [List.findIdx?_eq_none_iff]
     intro x hx
     simp only [beq_eq_false_iff_ne,ne_eq]
     rintro rfl
     have:=hfu.1 hx
     rw [hcc] at this
     cases this
    rw [hno] at hR
    rw [← hR]
    refine V.drawX (fun t=>if t = 38 then some (.fn (aB false)) else none) (by kernel_rfl) (by kernel_rfl) (by simp) ?_
    simp [hn,hl,hlo]
    exact hcn
   | true=>
    rw [hcc] at hcn
    have hm:=hfu.2 hcc
    obtain ⟨k,hk⟩ : ∃ k,(planZ c).order.findIdx? (n == ·) = some k:=by
     rw [← Option.isSome_iff_exists,List.findIdx?_isSome,List.any_eq_true]
     exact ⟨n,hm,by simp⟩
    have hkl:=(List.findIdx?_eq_some_iff_getElem.1 hk).1
    rw [hk] at hR hat
    rw [← hR]
    refine V.drawX (fun t=>if t = 38 then some (.fn (aB true)) else none) (by kernel_rfl) (by kernel_rfl) (by simp) ?_
    simp [hn,hl,hlo]
    refine ⟨hcn,?_⟩
    refine V.drawX (fun t=>if t = 41 then some (.fn (aI (planZ c).first)) else if t = 45 then some (.fn (aI k)) else none) (by kernel_rfl) (by kernel_rfl) (by simp) ?_
    simp [hns]
    exact ⟨hf,hat,by omega,by omega⟩
 ·simp only [h0,if_false] at hct
  simp only [h0,ne_eq,not_false_iff,if_true] at hR
  rw [← hR]
  refine callFz_of Tryz.func22 rfl Tryz.ntmps22 (rs:=[.tmp 4,.tmp 5]) rfl (by kernel_rfl) (by simp) (by kernel_rfl) ?_
  simp
  refine hct.s ?_
  simp [h0,noCtl]
theorem line_none {c : Cir} (h : PlR c) {i : Nat} (hi : i < c.parts.length) (hm : manyK (kindOf c.parts i) = 1) : (planZ c).line i = none:=by
 obtain ⟨x,hx⟩ : ∃ x,c.parts[i] = x:=⟨_,rfl⟩
 have hxo : c.parts[i]? = some x:=by rw [List.getElem?_eq_getElem hi,hx]
 obtain ⟨hk,hk14⟩:=kind_of h.cir hxo
 have hps : (planZ c).ps = c.parts:=rfl
 have hz : kindOf c.parts i ≠ 7 ∧ kindOf c.parts i ≠ 6 ∧ plusK (kindOf c.parts i) = []:=by
  revert hm
  generalize kindOf c.parts i = k at hk14
  revert k
  refine k_cases ⟨?_,?_,?_,?_,?_,?_,?_,?_,?_,?_,?_,?_,?_,?_⟩ <;> decide
 unfold Pln.line
 rw [hps,hxo]
 simp only
 rw [if_neg (by omega),if_neg (by omega),if_neg]
 intro hv
 exact (mem_valvN.1 hv).2.1 hz.2.2
theorem PositionsR30_fn (c : Cir) (hc : OkCir c) (s : State) (hs : SmS s) : CallFn Tryz.prog 23 [aCi c,aSt s] (.tuple [aIs (positionsQ c s).1,aI (positionsQ c s).2]):=by
 have hct:=ControlR30_fn c hc
 have hp:=planned_fn c hc
 generalize hR : positionsQ c s = R
 unfold positionsQ at hR
 unfold controlQ at hct
 by_cases h0 : buildE c = 0
 ·have h:=plR_build h0
  obtain ⟨hr,hd,hch,_,_⟩:=build_zero h0
  have hB:=planZ_B h.cir
  have hok:=build_okC h0
  obtain ⟨q1,q2,_⟩:=ctl_sizes h
  have hrt:=RightR_fn (planZ c).ctl s hok q1 q2 hs
  have hfew:=h.cir.few
  have hdl:=hB.dl
  rw [h.pln,if_pos rfl] at hp
  simp only [h0,if_true] at hct
  simp only [h0,ne_eq,not_true,if_false] at hR
  have hact : (planZ c).ctl.actuators = (planZ c).drives.length:=rfl
  have hln:=fun i n=>line_lt hr hd (i:=i) (n:=n)
  have hval:=ValuesR_fn (planZ c).ctl s hs
  have hps : (planZ c).ps = c.parts:=rfl
  generalize (planZ c).ctl = ct at *
  refine callFz_of Tryz.func23 rfl Tryz.ntmps23 (rs:=[.tmp 4,.tmp 5]) rfl (by kernel_rfl) (by simp) (by kernel_rfl) ?_
  simp
  refine hct.s ?_
  simp
  intro b6
  refine hrt.s ?_
  by_cases hz : rightC ct s = 0
  ·rw [if_neg (by simp [hz])] at hR
   have hsh:=(right_zero hz).2.1
   have hvl:=valuesOf_length hsh
   have hval:=hval (by have:=hsh.1; omega)
   have hvv : (planZ c).drives.length ≤ s.valves.length:=by
    have:=hsh.2.1
    omega
   rw [hz]
   simp
   refine hp.s ?_
   simp
   intro b9
   refine hval.s ?_
   simp
   rw [← hR]
   have hmy:=fun i (hi : i < c.parts.length) x (hx : c.parts[i]? = some x)=>Many_fn (kindOf c.parts i) (kind_of h.cir hx).2
   refine V.forI (σ:=Value) c.parts.length [2,3,4,5,9,11] (by simp; exact rfl) (fun i g=>[(12,.own 50 g),(13,aI i)]) (fun i g=>[(50,.seq g 3 1 (((List.range i).map fun j=>numB ((planZ c).posB s j)).map rI)),(9,.box b9 ((encPl (planZ c) c.pipes).map A.dat))]) (fun _ _=>True) (.slice none 0 0) trivial (by simp) ⟨by simp; exact rfl,by simp⟩ ?_ ?_
   ·rintro i g hi -
    obtain ⟨x,hx⟩ : ∃ x,c.parts[i] = x:=⟨_,rfl⟩
    have hxo : c.parts[i]? = some x:=by rw [List.getElem?_eq_getElem hi,hx]
    obtain ⟨hk,hk14⟩:=kind_of h.cir hxo
    have hmi:=hmy i hi x hxo
    rw [← hk] at hmi
    have hdr:=drivenR_fn (planZ c).drives i (by unfold Sh; omega)
    have hpb : (planZ c).posB s i = match drivenZ (planZ c).drives i with
     | some k=>s.valves.getD k false
     | none=>match (planZ c).line i with
      | some n=>(valuesOf s)[n]?.getD false
      | none=>false:=rfl
    have hOl : ((List.range i).map fun j=>numB ((planZ c).posB s j)).length = i:=by simp
    rw [List.range_succ,List.map_append]
    simp only [List.map_cons,List.map_nil]
    generalize ((List.range i).map fun j=>numB ((planZ c).posB s j)) = O at *
    simp [hi]
    refine hdr.s ?_
    cases hz2 : drivenZ (planZ c).drives i with
    | some k=>
     rw [hz2] at hpb
     have hkl:=drivenZ_lt hz2
     have hvk : k < s.valves.length:=by omega
     obtain ⟨v,hv⟩ : ∃ v,s.valves[k] = v:=⟨_,rfl⟩
     have hvo : s.valves[k]? = some v:=by rw [List.getElem?_eq_getElem hvk,hv]
     have hpb : (planZ c).posB s i = v:=by rw [hpb]; simp only [List.getD_eq_getElem?_getD,hvo,Option.getD_some]
     have hnu:=number_fn2 v
     rw [hpb]
     simp [idxI,hv,hvo,hvk]
     refine hnu.s ?_
     simp
     exact ⟨by omega,⟨by omega,by omega⟩,rfl⟩
    | none=>
     rw [hz2] at hpb
     simp [idxI,hi,hx,hxo]
     refine hmi.s ?_
     by_cases hm1 : manyK (kindOf c.parts i) = 1
     ·rw [line_none h hi hm1] at hpb
      rw [hpb,hm1]
      simp
      exact ⟨by omega,⟨by omega,by omega⟩,rfl⟩
     ·obtain ⟨n,hn⟩:=manyK_line h hi (by rcases manyK_or _ hk14 with e | e <;> omega) hz2
      have hpl:=placeR_fn h hn hi
      have hnl:=hln i n hn
      rw [hn] at hpb
      have hnv : n < (valuesOf s).length:=by omega
      obtain ⟨v,hv⟩ : ∃ v,(valuesOf s)[n] = v:=⟨_,rfl⟩
      have hvo : (valuesOf s)[n]? = some v:=by rw [List.getElem?_eq_getElem hnv,hv]
      simp only [hvo,Option.getD_some] at hpb
      rw [hpb]
      have hnu:=number_fn2 v
      have hm1' : ¬ ((manyK (kindOf c.parts i) : Nat) : Int) = 1:=by omega
      simp [hm1']
      refine hpl.s ?_
      simp [hnv,hv,hvo]
      refine hnu.s ?_
      simp
      exact ⟨by omega,⟨by omega,by omega⟩,rfl⟩
   ·rintro g -
    simp
    refine ⟨by simp [allD,isD],?_⟩
    unfold Pln.pos rowsD
    rw [List.map_map,List.map_map]
    rfl
  ·rw [if_pos (by simpa using hz)] at hR
   rw [← hR]
   simp [hz]
 ·simp only [h0,if_false] at hct
  simp only [h0,ne_eq,not_false_iff,if_true] at hR
  rw [← hR]
  refine callFz_of Tryz.func23 rfl Tryz.ntmps23 (rs:=[.tmp 4,.tmp 5]) rfl (by kernel_rfl) (by simp) (by kernel_rfl) ?_
  simp
  refine hct.s ?_
  simp [h0,noCtl]
end Go.Proofs.YtpadinblmjlggaaGreatDoor
end

section
namespace Go.Proofs.YtpadinblmjlggaaGreatDoor
set_option maxHeartbeats 8000000
set_option maxRecDepth 10000
def stateQ (c : Cir) (pos ends : List Int) : State × Int:=
 if buildE c ≠ 0 then (noSt,buildE c)
 else if presE c pos ≠ 0 then (noSt,presE c pos)
 else if ends.length ≠ (planZ c).drives.length then (noSt,8)
 else if ends.any (outR 4) = true then (noSt,1)
 else stEnd (planZ c) (planZ c).ctl pos ends { firstSt (planZ c).ctl with ends:=ends } c.parts.length
theorem state1_fn (n : Int) : CallFn Tryz.prog 48 [aI n] (aB (outR 4 n)):=by
 refine callFz_of Tryz.func48 rfl Tryz.ntmps48 (rs:=[.tmp 2]) rfl (by kernel_rfl) (by simp) (by kernel_rfl) ?_
 simp [outR]
theorem gatesP_shape {c : Control} {s : State} (h : shapeS c s) : shapeS c (gatesP c s):=by
 obtain ⟨h1,h2,h3,h4,h5⟩:=h
 exact ⟨h1,h2,h3,by simp only [gatesP,gvals_length]; exact h4,h5⟩
theorem State_fn (c : Cir) (hc : OkCir c) (pos ends : List Int) (hpos : Sh pos) (hends : ends.length ≤ 1000000) : CallFn Tryz.prog 10 [aCi c,aIs pos,aIs ends] (.tuple [aSt (stateQ c pos ends).1,aI (stateQ c pos ends).2]):=by
 have hp:=build_s c hc.names hc.parts hc.pipes
 have hpc:=presCheck_fn c hc pos hpos
 have hcf:=containsF_fn ends (outR 4) 48 [] [] (by unfold Sh; omega) fun n _=>state1_fn n
 have hcl:=cloneI_o ends (by omega)
 generalize hSQ : stateQ c pos ends = SQ
 unfold stateQ at hSQ
 by_cases h0 : buildE c = 0
 ·simp only [h0,if_true] at hp
  rw [if_neg (by simp [h0])] at hSQ
  obtain ⟨hr,hd,hch,_,hc0⟩:=build_zero h0
  have hok:=build_okC h0
  have hB:=planZ_B hr
  have hD:=planZ_D hd
  obtain ⟨hs1,hs2⟩:=pil_sig hB hD
  have hF:=First_o (planZ c).ctl hok hch
  have hact : (planZ c).ctl.actuators = (planZ c).drives.length:=rfl
  have hinp : (planZ c).ctl.inputs.length = (planZ c).butt.length:=by
   show ((planZ c).butt.map _).length = _
   rw [List.length_map]
  have hfi:=fine_of hch
  have hsd:=fun b6 b9 b12 g h1 h2 h3 h4 s0 (hA : PlS) (hAt : hA.At (planZ c)) hpl hel hst=>state_d (pos:=pos) (ends:=ends) hAt hr hd hok hs2 (by have:=hfi.sig; omega) hpl hel b6 b9 b12 g h1 h2 h3 h4 (s0:=s0) hst
  have hsh:=gatesP_shape (newSt_shape hfi)
  generalize (planZ c).ctl = ct at *
  refine callFz_cut 9 Tryz.func10 rfl Tryz.ntmps10 (rs:=[.cell 6 31,.tmp 7]) rfl (by kernel_rfl) (by simp) (by kernel_rfl) ?_
  simp
  intro b6
  refine (hp.frameL (H1:=[(6,_)])).mono ?_
  rintro r H' ⟨_,⟨ss,rfl,rfl,hA⟩,rfl⟩
  simp
  intro b9
  refine hpc.s ?_
  by_cases hz : presE c pos = 0
  ·have hpl : pos.length = c.parts.length:=by
    unfold presE at hz
    rw [if_neg (by simp [hc0])] at hz
    split at hz
    ·simp at hz
    ·rename_i h; exact Classical.not_not.1 h
   rw [if_neg (by simp [hz])] at hSQ
   rw [hz]
   simp [hA.dr]
   by_cases hel : ends.length = (planZ c).drives.length
   ·have hez : ((ends.length : Nat) : Int) = (planZ c).drives.length:=by omega
    rw [if_neg (by simp [hel])] at hSQ
    simp [hel]
    refine hcf.s ?_
    cases hany : ends.any (outR 4)
    ·rw [if_neg (by simp [hany])] at hSQ
     simp [hany]
     refine (hF.frame (H1:=_)).mono ?_
     rintro r H' ⟨_,⟨hd,rfl,rfl⟩,rfl⟩
     simp [stA,stH]
     intro b12
     refine hcl.s 65 fun g=>?_
     simp [hel]
     rw [← hSQ]
     have hst : StS (planZ c) ct ends { firstSt ct with ends:=ends }:=by
      obtain ⟨q1,q2,q3,q4,q5⟩:=hsh
      exact ⟨by simp only [firstSt]; omega,by simp only [firstSt]; omega,by simp only [firstSt]; omega,by simp only [firstSt]; omega,rfl⟩
     exact V.cutV (Hs:=stHp ss ct b6 b9 b12 g (hd 1) (hd 2) (hd 3) (hd 4) { firstSt ct with ends:=ends }) (stEnv c pos ends ss b6 b9 b12) (by simp) (by simp) (V.of_rest rfl (hsd b6 b9 b12 g _ _ _ _ _ ss hA hpl hel hst))
    ·rw [if_pos hany] at hSQ
     rw [← hSQ]
     simp [hany,noSt]
   ·have hez : ¬ ((ends.length : Nat) : Int) = (planZ c).drives.length:=by omega
    rw [if_pos (by simpa using hel)] at hSQ
    rw [← hSQ]
    simp [hez,hel,noSt]
  ·rw [if_pos (by simpa using hz)] at hSQ
   rw [← hSQ]
   simp [hz,noSt]
 ·simp only [h0,if_false] at hp
  rw [if_pos (by simpa using h0)] at hSQ
  rw [← hSQ]
  refine callFz_of Tryz.func10 rfl Tryz.ntmps10 (rs:=[.cell 6 31,.tmp 7]) rfl (by kernel_rfl) (by simp) (by kernel_rfl) ?_
  simp
  intro b6
  refine (hp.frameL (H1:=[(6,_)])).mono ?_
  rintro r H' ⟨_,⟨rfl,rfl⟩,rfl⟩
  simp [h0,noSt]
end Go.Proofs.YtpadinblmjlggaaGreatDoor
end

section
namespace Go.Proofs.YtpadinblmjlggaaGreatDoor
set_option maxHeartbeats 4000000
set_option maxRecDepth 10000
theorem beginR_o (c : Control) (hc : OkC c) (hf : Fine c) : CallSt 56 [aC c] (firstSt c):=by
 have hcs:=hf.sig
 have hsm:=hf.sm
 have ha:=hf.act
 have hin:=hf.inp
 refine CallSt.of (callS_of Tryz.func56 rfl Tryz.ntmps56 (rs:=[.cell 2 31]) rfl (by kernel_rfl) (by simp) (by kernel_rfl) ?_)
 simp
 intro b2
 refine V.draw (fun _=>none) (by kernel_rfl) (by kernel_rfl) (by simp) ?_
 simp
 intro u0
 refine ⟨by omega,fun u1=>⟨by omega,fun u2=>⟨by omega,fun u3=>⟨by omega,fun u4=>⟨by omega,?_⟩⟩⟩⟩⟩
 intro b3
 refine V.forI (σ:=Unit) c.signals.length [1,2,3] (by simp; exact rfl) (fun i _=>[(4,aI i)]) (fun i _=>[(18,.seq u3 4 1 ((initV c i).map rB))]) (fun _ _=>True) () trivial (by simp) ⟨by simp; exact rfl,by simp [hget,hdel,initV,rB]⟩ ?_ ?_
 ·rintro i - hi -
  obtain ⟨x,hx⟩ : ∃ x,c.signals[i] = x:=⟨_,rfl⟩
  have hxo : c.signals[i]? = some x:=by rw [List.getElem?_eq_getElem hi,hx]
  rw [← initV_set hxo]
  have hl:=initV_length c i (by omega)
  generalize initV c i = l at hl ⊢
  have hil : i < l.length:=by omega
  have hgi : l[i]? = some l[i]:=List.getElem?_eq_getElem hil
  simp [hi,hx]
  refine V.draw (fun _=>none) (by kernel_rfl) (by kernel_rfl) (by simp) ?_
  simp [hi,hx,hil,hgi,rB]
  omega
 ·rintro - -
  simp
  refine (computedR_o c (newSt c c.signals.length) hc hf (newSt_sm hf) (newSt_shape hf)).lend 60 ?_ ?_
  ·simp [hget,packA,encSt,newSt]
  ·intro hd
   simp [stA,stH,stAt,hget,hdel,firstSt]
end Go.Proofs.YtpadinblmjlggaaGreatDoor
end
