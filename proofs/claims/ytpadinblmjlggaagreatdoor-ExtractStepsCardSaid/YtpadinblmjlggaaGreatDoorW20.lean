/- Texts joined by a program: Qk,Qo,Dc,Dd,De. -/
import Derived.Test.YtpadinblmjlggaaGreatDoorW19
import Derived.Test.YtpadinblmjlggaaGreatDoorW12
import Derived.Test.YtpadinblmjlggaaGreatDoorW16
set_option linter.unusedSimpArgs false
set_option linter.unusedVariables false
set_option maxHeartbeats 8000000
set_option maxRecDepth 10000
namespace Go.Proofs.YtpadinblmjlggaaGreatDoor
abbrev rTx (t:List UInt8):List A:=[.dat (.str t)]
abbrev rSg (x:Signal):List A:=(encS x).map A.dat
abbrev rIn (n:Int):List A:=[.dat (.int .i64 n)]
structure CtV where
 vi:Value
 vs:Value
 vp:Value
 vm:Value
 I:List (List UInt8)
 S:List Signal
 P:List Int
 M:List Int
abbrev CtV.hp (q:CtV) (s:PlS) (n:Int) (b2 b3:Nat):Heap:=(61,.seq q.vi 9 1 (q.I.map rTx))::(62,.seq q.vs 100 10 (q.S.map rSg))::(63,.seq q.vp 3 1 (q.P.map rIn))::(64,.seq q.vm 3 1 (q.M.map rIn)) ::
 (3,.box b3 [aI n,.own 61 q.vi,.own 62 q.vs,.own 63 q.vp,.own 64 q.vm])::(2,.box b2 [aI 0,.nils,.nils,.nils,.nils])::s.hp
abbrev CtV.top (q:CtV) (s:PlS):Heap:=(61,.seq q.vi 9 1 (q.I.map rTx))::(62,.seq q.vs 100 10 (q.S.map rSg))::(63,.seq q.vp 3 1 (q.P.map rIn))::(64,.seq q.vm 3 1 (q.M.map rIn))::s.hp
abbrev ctE (s:PlS) (b2 b3:Nat):List (Nat×A):=[(0,.ptr 170 s.b 0),(2,.ptr 2 b2 0),(3,.ptr 3 b3 0)]
abbrev CtQ (s:PlS) (p:Pln):A->Heap->Prop:=fun r H'=>∃q:CtV,r=.agg [aI p.drives.length,.own 61 q.vi,.own 62 q.vs,.own 63 q.vp,.own 64 q.vm]∧subP (q.top s) H'∧(⟨p.drives.length,q.I,q.S,q.P,q.M⟩:Control)=p.ctl
structure Pln.D (p:Pln):Prop where
 val:∀d∈p.drives,kindOf p.ps d.2=2∨kindOf p.ps d.2=3
 ord:∀n∈p.order,n<p.nets.length
theorem control_d {s:PlS}{p:Pln}(h:s.At p) (hD:p.D) (hB:p.B) (b2 b3:Nat) (q:CtV) (hI:q.I=p.butt.map fun i=>((p.ps[i]?).map (·.name)).getD []) (hS:q.S=p.sig0) (hP:q.P=[]) (hM:q.M=[]) :
  V ⟨Tryz.prog,none,143⟩ (restC Tryz.f87 5) (hdE (ctE s b2 b3) []) (q.hp s p.drives.length b2 b3) (RetV Tryz.prog [.cell 2 44] (CtQ s p)):=by
 have hdr:=h.dr
 have hdl:=h.dl
 refine V.rest rfl ?_
 refine V.of_vcN 1 ?_
 simp[hdr]
 refine V.forI (σ:=CtV) p.drives.length [0,2,3,86,87] (by simp;exact rfl) (fun n _=>[(88,aI n)]) (fun _ q=>q.hp s p.drives.length b2 b3) (fun n q=>q.I=(p.butt.map fun i=>((p.ps[i]?).map (·.name)).getD [])∧p.pil n=(q.P,q.M,q.S)) q ⟨hI,by rw[hS,hP,hM];rfl⟩ (by simp) ⟨by simp;exact rfl,by simp⟩ ?_ ?_
 ·rintro n ⟨vi,vs,vp,vm,I,S,P,M⟩ hn ⟨hI,hJ⟩
  simp only at hI hJ
  obtain⟨d,hd⟩:∃d,p.drives[n]=d:=⟨_,rfl⟩
  have hdo:p.drives[n]?=some d:=by rw[List.getElem?_eq_getElem hn,hd]
  have hsu:=p.pil_succ hdo
  rw[hJ]at hsu
  have hkd:=hD.val d (List.mem_of_getElem? hdo)
  have hdl2:d.2<p.ps.length:=kindOf_lt (by omega)
  have hg1:=netGate_s h (i:=d.2) (t:=[49,52]) (port_of hdl2 (by rcases hkd with e | e<;>rw[e]<;>decide))
  have hg2:=fun e:kindOf p.ps d.2=2=>netGate_s h (i:=d.2) (t:=[49,50]) (port_of hdl2 (by rw[e];decide))
  have hkk:=h.kind hdl2
  have hf:=first_s h
  have hpl:=h.pl
  have hit:=ItoaD_fn d.2 (by omega)
  have hdn:=decN_len2 d.2
  have hb:=hB.pil (fun d hd=>kindOf_lt (by have:=hD.val d hd;omega)) n (by omega)
  rw[hJ]at hb
  obtain⟨a1,a2,a3,a4,a5,a6,a7⟩:=hb
  simp only at a1 a2 a3 a4 a5 a6 a7
  have hs0:p.sig0.length<=512:=by
   have:=hB.ol
   have:=hB.vl
   unfold Pln.sig0
   simp only[List.length_append,List.length_map]
   omega
  have hfl:=hB.fl
  unfold Pln.drvS at hsu
  simp only at hsu
  rw[hsu]
  simp[hn,hd,hdo]
  intro b11
  refine (hg1.mid [(11,_),(61,_),(62,_),(63,_),(64,_),(3,_),(2,_)] []).mono ?_
  rintro r H' ⟨rfl,rfl⟩
  obtain⟨g1,hg1e⟩:∃g,p.gate d.2 [49,52]=g:=⟨_,rfl⟩
  rw[hg1e]
  simp
  intro b12 u
  refine⟨by omega,(hkk.mid [(12,_),(11,_),(61,_),(62,_),(63,_),(64,_),(3,_),(2,_)] []).mono ?_⟩
  rintro r H' ⟨rfl,rfl⟩
  rcases hkd with hkd | hkd
  ·rw[if_pos hkd,if_pos hkd]
   have hg2:=hg2 hkd
   obtain⟨g2,hg2e⟩:∃g,p.gate d.2 [49,50]=g:=⟨_,rfl⟩
   rw[hg2e]at hg2 ⊢
   simp[hkd]
   refine V.drawX (fun t=>if t=113 then some (.ro (aE g2)) else none) (by kernel_rfl) (by kernel_rfl) (by simp) ?_
   simp
   refine⟨hg2,?_⟩
   simp
   intro u1
   refine⟨by omega,by kernel_rfl,⟨by omega,by omega⟩,⟨⟨vi,vs,u,u1,I,S,P++[g1.index],M++[g2.index]⟩,⟨hI,rfl,rfl,rfl⟩,?_⟩⟩
   simp
  ·rw[if_neg (by omega),if_neg (by omega)]
   simp[hkd]
   refine V.drawX (fun t=>if t=121 then some (.ro (aI p.first)) else none) (by kernel_rfl) (by kernel_rfl) (by simp) ?_
   simp
   refine⟨hf,?_⟩
   have hop:=opposite_fn g1
   have hng:p.sprS d.2=⟨119::decN d.2,0,notE g1,nulE,0,false⟩:=by unfold Pln.sprS;rw[hg1e]
   rw[hng]
   generalize notE g1=ng at *
   simp
   refine⟨⟨by omega,by omega⟩,fun u1=>⟨by omega,by kernel_rfl,?_⟩⟩
   refine V.drawX (fun t=>if t=133 then some (.fn (.dat (.str (Go.Lib.decDigits d.2)))) else if t=136 then some (.fn (aE ng)) else none) (by kernel_rfl) (by kernel_rfl) (by simp) ?_
   simp
   refine⟨hit,by unfold decN at hdn;omega,hop,fun u2=>⟨by omega,by kernel_rfl,⟨by omega,by omega⟩,⟨⟨vi,u2,u,u1,I,S++[⟨119::decN d.2,0,ng,nulE,0,false⟩],P++[g1.index],M++[(p.first:Int)+S.length]⟩,⟨hI,rfl,rfl,rfl⟩,?_⟩⟩⟩
   simp[nulE,decN]
 ·rintro⟨vi,vs,vp,vm,I,S,P,M⟩ ⟨hI,hJ⟩
  simp only at hI hJ
  simp
  refine V.of_vc ?_
  simp
  refine⟨⟨vi,vs,vp,vm,I,S,P,M⟩,rfl,?_,?_⟩
  ·exact ((((((subP.refl _).c _).c _).cc _).cc _).cc _).cc _
  ·unfold Pln.ctl
   rw[hJ,hI]
theorem control_c {s:PlS}{p:Pln}(h:s.At p) (hD:p.D) (hB:p.B) (b2 b3:Nat) (q:CtV) (hI:q.I=p.butt.map fun i=>((p.ps[i]?).map (·.name)).getD []) (hS:q.S=p.order.map p.netS) (hP:q.P=[]) (hM:q.M=[]) :
  V ⟨Tryz.prog,none,143⟩ (restC Tryz.f87 4) (hdE (ctE s b2 b3) []) (q.hp s p.drives.length b2 b3) (RetV Tryz.prog [.cell 2 44] (CtQ s p)):=by
 have hva:=h.va
 have hvl:=h.vl
 have hol:=h.ol
 refine V.rest rfl ?_
 refine V.of_vcN 1 ?_
 simp[hva]
 refine V.forI (σ:=CtV) p.valv.length [0,2,3,68,69] (by simp;exact rfl) (fun n _=>[(70,aI n)]) (fun _ q=>q.hp s p.drives.length b2 b3) (fun n q=>q.I=(p.butt.map fun i=>((p.ps[i]?).map (·.name)).getD [])∧q.S=p.order.map p.netS++(p.valv.take n).map p.movS∧q.P=[]∧q.M=[]) q ⟨hI,by simpa using hS,hP,hM⟩ (by simp) ⟨by simp;exact rfl,by simp⟩ ?_ ?_
 ·rintro n ⟨vi,vs,vp,vm,I,S,P,M⟩ hn ⟨hI,hS,hP,hM⟩
  simp only at hI hS hP hM
  obtain⟨i,hi⟩:∃i,p.valv[n]=i:=⟨_,rfl⟩
  have hio:p.valv[n]?=some i:=by rw[List.getElem?_eq_getElem hn,hi]
  have hmv:=moved_s h (List.mem_of_getElem? hio)
  have hSl:S.length<=512:=by
   rw[hS]
   simp only[List.length_append,List.length_map,List.length_take]
   omega
  rw[List.take_add_one,hio]
  obtain⟨m,hm⟩:∃m,p.movS i=m:=⟨_,rfl⟩
  rw[hm]at hmv
  have hS2:S++[m]=p.order.map p.netS++(p.valv.take n++[i]).map p.movS:=by rw[hS,List.map_append,List.append_assoc];simp[hm]
  simp only[Option.toList_some]
  rw[<- hS2]
  simp[hn,hi,hio]
  refine V.drawX (fun t=>if t=78 then some (.ro (.record (encS m))) else none) (by kernel_rfl) (by kernel_rfl) (by simp) ?_
  simp
  refine⟨hmv,fun u=>⟨by omega,by kernel_rfl,⟨by omega,by omega⟩,⟨vi,u,vp,vm,I,S++[m],P,M⟩,⟨hI,rfl,hP,hM⟩,?_⟩⟩
  simp
 ·rintro⟨vi,vs,vp,vm,I,S,P,M⟩ ⟨hI,hS,hP,hM⟩
  simp only at hI hS hP hM
  rw[List.take_length]at hS
  simp
  exact V.cutV (Hs:=CtV.hp ⟨vi,vs,vp,vm,I,S,P,M⟩ s p.drives.length b2 b3) (ctE s b2 b3) (by simp) (by simp) (V.of_rest rfl (control_d h hD hB b2 b3 ⟨vi,vs,vp,vm,I,S,P,M⟩ hI hS hP hM))
theorem control_b {s:PlS}{p:Pln}(h:s.At p) (hD:p.D) (hB:p.B) (b2 b3:Nat) (q:CtV) (hI:q.I=p.butt.map fun i=>((p.ps[i]?).map (·.name)).getD []) (hS:q.S=[]) (hP:q.P=[]) (hM:q.M=[]) :
  V ⟨Tryz.prog,none,143⟩ (restC Tryz.f87 3) (hdE (ctE s b2 b3) []) (q.hp s p.drives.length b2 b3) (RetV Tryz.prog [.cell 2 44] (CtQ s p)):=by
 have hod:=h.od
 have hol:=h.ol
 refine V.rest rfl ?_
 refine V.of_vcN 1 ?_
 simp[hod]
 refine V.forI (σ:=CtV) p.order.length [0,2,3,46,47] (by simp;exact rfl) (fun n _=>[(48,aI n)]) (fun _ q=>q.hp s p.drives.length b2 b3) (fun n q=>q.I=(p.butt.map fun i=>((p.ps[i]?).map (·.name)).getD [])∧q.S=(p.order.take n).map p.netS∧q.P=[]∧q.M=[]) q ⟨hI,by simpa using hS,hP,hM⟩ (by simp) ⟨by simp;exact rfl,by simp⟩ ?_ ?_
 ·rintro n ⟨vi,vs,vp,vm,I,S,P,M⟩ hn ⟨hI,hS,hP,hM⟩
  simp only at hI hS hP hM
  obtain⟨i,hi⟩:∃i,p.order[n]=i:=⟨_,rfl⟩
  have hio:p.order[n]?=some i:=by rw[List.getElem?_eq_getElem hn,hi]
  have him:=hD.ord i (List.mem_of_getElem? hio)
  have hfd:=fed_s h him
  have hsm:=hB.small i (List.mem_of_getElem? hio)
  have hit:=ItoaD_fn i (by omega)
  have hdn:=decN_len2 i
  have hSl:S.length<=448:=by
   rw[hS]
   simp only[List.length_map,List.length_take]
   omega
  rw[List.take_add_one,hio]
  obtain⟨x,hx⟩:∃x,p.fed i=x:=⟨_,rfl⟩
  rw[hx]at hfd
  have hS2:S++[⟨110::decN i,0,x,nulE,0,false⟩]=(p.order.take n++[i]).map p.netS:=by
   rw[hS,List.map_append,<- hx]
   rfl
  simp only[Option.toList_some]
  rw[<- hS2]
  simp[hn,hi,hio]
  refine V.drawX (fun t=>if t=55 then some (.fn (.dat (.str (Go.Lib.decDigits i)))) else if t=59 then some (.ro (aE x)) else none) (by kernel_rfl) (by kernel_rfl) (by simp) ?_
  simp
  refine⟨hit,by unfold decN at hdn;omega,hfd,fun u=>⟨by omega,by kernel_rfl,⟨by omega,by omega⟩,⟨vi,u,vp,vm,I,S++[⟨110::decN i,0,x,nulE,0,false⟩],P,M⟩,⟨hI,rfl,hP,hM⟩,?_⟩⟩
  simp[nulE,decN]
 ·rintro⟨vi,vs,vp,vm,I,S,P,M⟩ ⟨hI,hS,hP,hM⟩
  simp only at hI hS hP hM
  rw[List.take_length]at hS
  simp
  exact V.cutV (Hs:=CtV.hp ⟨vi,vs,vp,vm,I,S,P,M⟩ s p.drives.length b2 b3) (ctE s b2 b3) (by simp) (by simp) (V.of_rest rfl (control_c h hD hB b2 b3 ⟨vi,vs,vp,vm,I,S,P,M⟩ hI hS hP hM))
theorem control_a {s:PlS}{p:Pln}(h:s.At p) (hD:p.D) (hB:p.B) (b2 b3:Nat) (q:CtV) (hI:q.I=[]) (hS:q.S=[]) (hP:q.P=[]) (hM:q.M=[]) :
  V ⟨Tryz.prog,none,143⟩ (restC Tryz.f87 2) (hdE (ctE s b2 b3) []) (q.hp s p.drives.length b2 b3) (RetV Tryz.prog [.cell 2 44] (CtQ s p)):=by
 have hbu:=h.bu
 have hbl:=h.bl
 have hps:=h.ps
 refine V.rest rfl ?_
 refine V.of_vcN 1 ?_
 simp[hbu]
 refine V.forI (σ:=CtV) p.butt.length [0,2,3,22,23] (by simp;exact rfl) (fun n _=>[(24,aI n)]) (fun _ q=>q.hp s p.drives.length b2 b3) (fun n q=>q.I=((p.butt.take n).map fun i=>((p.ps[i]?).map (·.name)).getD [])∧q.S=[]∧q.P=[]∧q.M=[]) q ⟨by simpa using hI,hS,hP,hM⟩ (by simp) ⟨by simp;exact rfl,by simp⟩ ?_ ?_
 ·rintro n ⟨vi,vs,vp,vm,I,S,P,M⟩ hn ⟨hI,hS,hP,hM⟩
  simp only at hI hS hP hM
  obtain⟨i,hi⟩:∃i,p.butt[n]=i:=⟨_,rfl⟩
  have hio:p.butt[n]?=some i:=by rw[List.getElem?_eq_getElem hn,hi]
  have him:=(mem_buttN.1 (List.mem_of_getElem? hio)).1
  obtain⟨x,hx⟩:∃x,p.ps[i]=x:=⟨_,rfl⟩
  have hxo:p.ps[i]?=some x:=by rw[List.getElem?_eq_getElem him,hx]
  have hIl:I.length<=64:=by
   rw[hI]
   simp only[List.length_map,List.length_take]
   omega
  rw[List.take_add_one,hio]
  have hI2:I++[x.name]=(p.butt.take n++[i]).map fun i=>((p.ps[i]?).map (·.name)).getD []:=by
   rw[hI,List.map_append]
   simp[hxo]
  simp only[Option.toList_some]
  rw[<- hI2]
  simp[hn,hi,hio]
  refine V.drawX (fun _=>none) (by kernel_rfl) (by kernel_rfl) (by simp) ?_
  simp[hps,him,hx,hxo]
  intro u
  refine⟨by omega,by kernel_rfl,⟨by omega,by omega⟩,⟨u,vs,vp,vm,I++[x.name],S,P,M⟩,⟨rfl,hS,hP,hM⟩,?_⟩
  simp
 ·rintro⟨vi,vs,vp,vm,I,S,P,M⟩ ⟨hI,hS,hP,hM⟩
  simp only at hI hS hP hM
  rw[List.take_length]at hI
  simp
  exact V.cutV (Hs:=CtV.hp ⟨vi,vs,vp,vm,I,S,P,M⟩ s p.drives.length b2 b3) (ctE s b2 b3) (by simp) (by simp) (V.of_rest rfl (control_b h hD hB b2 b3 ⟨vi,vs,vp,vm,I,S,P,M⟩ hI hS hP hM))
theorem control_s {s:PlS}{p:Pln}(h:s.At p) (hD:p.D) (hB:p.B):CallS Tryz.prog 87 [.ptr 170 s.b 0] s.hp fun r H'=>r=aC p.ctl∧H'=s.hp:=by
 have hdr:=h.dr
 have hdl:=h.dl
 refine CallS.frzKeep (CallS.dropP (callS_cut 2 Tryz.func87 rfl Tryz.ntmps87 (rs:=[.cell 2 44]) rfl (by kernel_rfl) (by simp) (by kernel_rfl) (K:=CtQ s p) ?_) (K':=fun r H'=>∃q:CtV,r=.agg [aI p.drives.length,.own 61 q.vi,.own 62 q.vs,.own 63 q.vp,.own 64 q.vm]∧H'=q.top s∧(⟨p.drives.length,q.I,q.S,q.P,q.M⟩:Control)=p.ctl) (fun _ _ ⟨q,h1,h2,h3⟩=>⟨_,h2,q,h1,rfl,h3⟩)) ?_
 ·simp[hdr]
  intro b2 b3
  refine V.inv (H':=CtV.hp ⟨.slice none 0 0,.slice none 0 0,.slice none 0 0,.slice none 0 0,[],[],[],[]⟩ s p.drives.length b2 b3) (fun x H0 hi=>?_) (V.cutV (Hs:=CtV.hp ⟨.slice none 0 0,.slice none 0 0,.slice none 0 0,.slice none 0 0,[],[],[],[]⟩ s p.drives.length b2 b3) (ctE s b2 b3) (by simp) (by simp) (V.of_rest rfl (control_a h hD hB b2 b3 ⟨.slice none 0 0,.slice none 0 0,.slice none 0 0,.slice none 0 0,[],[],[],[]⟩ rfl rfl rfl rfl)))
  refine Inv.nil (t:=61) (e:=.seq (.slice none 0 0) 9 1 []) (Inv.nil (t:=62) (e:=.seq (.slice none 0 0) 100 10 []) (Inv.nil (t:=63) (e:=.seq (.slice none 0 0) 3 1 []) (Inv.nil (t:=64) (e:=.seq (.slice none 0 0) 3 1 []) ?_ ⟨rfl,rfl⟩) ⟨rfl,rfl⟩) ⟨rfl,rfl⟩) ⟨rfl,rfl⟩
  exact Inv.swap (g:=3) (H:=(3,.box b3 [aI p.drives.length,.nils,.nils,.nils,.nils])::(2,.box b2 [aI 0,.nils,.nils,.nils,.nils])::s.hp) (e:=.box b3 [aI p.drives.length,.nils,.nils,.nils,.nils]) (e':=.box b3 [aI p.drives.length,.own 61 (.slice none 0 0),.own 62 (.slice none 0 0),.own 63 (.slice none 0 0),.own 64 (.slice none 0 0)]) rfl (box_sat (Ds_c D_i (Ds_c D_nilo (Ds_c D_nilo (Ds_c D_nilo (Ds_c D_nilo Ds_i)))))) (fun b hb=>hb) hi
 ·rintro r H' ⟨q,rfl,rfl,hq⟩
  refine⟨[(61,_),(62,_),(63,_),(64,_)],s.hp,List.Perm.refl _,?_,?_,rfl⟩
  ·simp[frz,hget,frzs,allD,isD]
  ·rw[<- hq]
   simp[frz,hget,frzs,rowsD]
theorem orderN_len (ps:List Prt) (d:List Drv) (nets:List (List PortZ)):∀n,(orderN ps d nets n).length<=n
 | 0=>Nat.le_refl _
 | n+1=>by
  have ih:=orderN_len ps d nets n
  simp only[orderN]
  split
  ·rw[List.length_append,List.length_singleton];omega
  ·omega
theorem nextZ_mem {ps:List Prt}{d:List Drv}{nets:List (List PortZ)}{order:List Nat}{i:Nat}(h:nextZ ps d nets order=some i):i<nets.length∧countsI ps nets i=true∧i∉order∧readyZ ps d nets order i=true:=by
 unfold nextZ at h
 have h1:=List.mem_of_find?_eq_some h
 have h2:=List.find?_some h
 unfold restZ at h1
 rw[List.mem_filter,List.mem_range]at h1
 simp only[Bool.and_eq_true,Bool.not_eq_true']at h1
 refine⟨h1.1,h1.2.1,fun hm=>?_,h2⟩
 have:(order.any fun x=>i==x)=true:=by
  rw[List.any_eq_true]
  exact⟨i,hm,by simp⟩
 rw[this]at h1
 simp at h1
theorem orderN_mem (ps:List Prt) (d:List Drv) (nets:List (List PortZ)):∀n i,i∈orderN ps d nets n->i<nets.length∧countsI ps nets i=true
 | 0,i,h=>by simp[orderN]at h
 | n+1,i,h=>by
  simp only[orderN]at h
  split at h
  ·rename_i k hk
   rcases List.mem_append.1 h with h | h
   ·exact orderN_mem ps d nets n i h
   ·simp only[List.mem_singleton]at h
    subst h
    exact⟨(nextZ_mem hk).1,(nextZ_mem hk).2.1⟩
  ·exact orderN_mem ps d nets n i h
theorem orderN_nodup (ps:List Prt) (d:List Drv) (nets:List (List PortZ)):∀n,(orderN ps d nets n).Nodup
 | 0=>by simp[orderN]
 | n+1=>by
  have ih:=orderN_nodup ps d nets n
  simp only[orderN]
  split
  ·rename_i k hk
   rw[List.nodup_append]
   refine⟨ih,by simp,fun a ha b hb=>?_⟩
   simp only[List.mem_singleton]at hb
   subst hb
   rintro rfl
   exact (nextZ_mem hk).2.2.1 ha
  ·exact ih
theorem manyC_le (ps:List Prt) (nets:List (List PortZ)):manyC ps nets<=nets.length:=by
 unfold manyC
 exact Nat.le_trans (List.length_filter_le _ _) (by simp)
theorem mem_cylsN {ps:List Prt}{n i:Nat}:i∈cylsN ps n↔i<n∧kindOf ps i=1:=by
 unfold cylsN
 simp[List.mem_filter]
theorem drvE_zero {ps:List Prt}{nets:List (List PortZ)}(h:drvE ps nets=0):(∀i∈cylsN ps ps.length,(valveZ ps nets i).isSome=true)∧cylsN ps ps.length≠[]:=by
 unfold drvE at h
 split at h
 ·simp at h
 ·rename_i h1
  split at h
  ·simp at h
  ·rename_i h2
   refine⟨fun i hi=>?_,h2⟩
   cases e:valveZ ps nets i with
   | some k=>rfl
   | none=>
    exfalso
    apply h1
    rw[List.any_eq_true]
    exact⟨i,hi,by rw[e];rfl⟩
theorem mem_drvN {ps:List Prt}{nets:List (List PortZ)}(h:drvE ps nets=0) {d:Drv}(hd:d∈drvN ps nets ps.length):d.1<ps.length∧kindOf ps d.1=1∧valveZ ps nets d.1=some d.2∧d.2<ps.length∧drvB ps nets d.1 d.2=true:=by
 unfold drvN at hd
 obtain⟨i,hi,rfl⟩:=List.mem_map.1 hd
 have h1:=(drvE_zero h).1 i hi
 obtain⟨k,hk⟩:=Option.isSome_iff_exists.1 h1
 obtain⟨h2,h3⟩:=mem_cylsN.1 hi
 rw[hk]
 simp only[Option.getD_some]
 have hk0:=hk
 unfold valveZ at hk
 obtain⟨h4,h5,_⟩:=List.findIdx?_eq_some_iff_getElem.1 hk
 simp only[List.length_range]at h4
 simp only[List.getElem_range]at h5
 exact⟨h2,h3,trivial,h4,h5⟩
theorem drvB_kind {ps:List Prt}{nets:List (List PortZ)}{i v:Nat}(h:drvB ps nets i v=true):kindOf ps v=2∨kindOf ps v=3:=by
 unfold drvB at h
 simp only[Bool.and_eq_true,Bool.or_eq_true,beq_iff_eq]at h
 exact h.1
theorem part_len {p:Prt}(h:partE p=0):p.name.length<=24∧0<=p.delay∧p.delay<=1000000:=by
 unfold partE at h
 split at h
 ·simp at h
 ·split at h
  ·rename_i h2
   exact absurd h h2
  ·rename_i h2
   have h3:wordE p.name=0:=Classical.not_not.1 h2
   split at h
   ·simp at h
   ·rename_i h4
    simp only[not_or,not_and]at h4
    refine⟨?_,?_,?_⟩
    ·unfold wordE at h3
     split at h3
     ·simp at h3
     ·split at h3
      ·simp at h3
      ·split at h3
       ·simp at h3
       ·omega
    ·by_cases e:p.kind=12
     ·have:=h4.1 e;omega
     ·have:=h4.2 e;omega
    ·by_cases e:p.kind=12
     ·have:=h4.1 e;omega
     ·have:=h4.2 e;omega
theorem planZ_B {c:Cir}(hr:CirR c):(planZ c).B:=by
 have hn:=netsZ_few hr
 have hm:=manyC_le c.parts (netsZ c)
 have hf:=hr.few
 refine⟨hf,Nat.le_trans (drvN_len _ _ _) hf,Nat.le_trans (orderN_len _ _ _ _) (by omega),fun l hl=>(netsZ_net hr l hl).1,fun x hx=>?_,fun x hx=>?_,fun n hx=>?_⟩
 ·have:=part_len (hr.part x hx);omega
 ·have:=part_len (hr.part x hx);omega
 ·have:=(orderN_mem _ _ _ _ _ hx).1;omega
theorem planZ_D {c:Cir}(hd:drvE c.parts (netsZ c)=0):(planZ c).D:=
 ⟨fun _ h=>drvB_kind (mem_drvN hd h).2.2.2.2,fun _ hx=>(orderN_mem _ _ _ _ _ hx).1⟩
theorem planZ_lim {c:Cir}(hr:CirR c):∀x∈c.parts,x.kind=6->(∃q b,x.name=q++[b]∧(b=48∨b=49)∧∃k,(planZ c).drives.findIdx? (fun d=>(c.parts.getD d.1 x).name==q)=some k):=by
 intro x hx h6
 have ho:=hr.own x hx h6
 unfold ownN at ho
 simp only[Bool.and_eq_true,Bool.or_eq_true,beq_iff_eq]at ho
 obtain⟨h1,h2⟩:=ho
 have hne:x.name≠[]:=by
  rintro e
  rw[e]at h1
  simp at h1
 obtain⟨b,hb⟩:∃b,x.name.getLast? = some b:=by
  rcases h1 with e | e<;>exact⟨_,e⟩
 have hsp:x.name=x.name.dropLast++[b]:=by
  have:=List.dropLast_concat_getLast hne
  rw[List.getLast?_eq_some_getLast hne]at hb
  simp only[Option.some.injEq]at hb
  rw[<- hb]
  exact this.symm
 cases hj:findN c.parts x.name.dropLast with
 | none=>rw[hj]at h2;simp at h2
 | some j=>
  rw[hj]at h2
  simp only at h2
  unfold findN at hj
  obtain⟨hjl,hjn,_⟩:=List.findIdx?_eq_some_iff_getElem.1 hj
  simp only[beq_iff_eq]at hjn
  rw[List.getElem?_eq_getElem hjl]at h2
  simp only[Option.any_some,beq_iff_eq]at h2
  have hk:kindOf c.parts j=1:=by
   rw[kindOf_at (List.getElem?_eq_getElem hjl),h2]
   rfl
  refine⟨x.name.dropLast,b,hsp,?_,?_⟩
  ·rcases h1 with e | e
   ·rw[hb]at e;simp only[Option.some.injEq]at e;exact .inl e
   ·rw[hb]at e;simp only[Option.some.injEq]at e;exact .inr e
  ·rw[<- Option.isSome_iff_exists,List.findIdx?_isSome,List.any_eq_true]
   refine⟨(j,(valveZ c.parts (netsZ c) j).getD 0),?_,?_⟩
   ·show _∈drvN _ _ _
    unfold drvN
    exact List.mem_map.2 ⟨j,mem_cylsN.2 ⟨hjl,hk⟩,rfl⟩
   ·simp only[beq_iff_eq]
    rw[List.getD_eq_getElem?_getD,List.getElem?_eq_getElem hjl]
    exact hjn
abbrev chkBox (b r:Nat) (c:Control):Nat×Ent:=(32,.box b [.dat (.int .i64 c.actuators),.dat (.sl (c.inputs.map encT)),.dat (.sl (c.signals.map encS)),.dat (.sl (c.plus.map encI)),.dat (.sl (c.minus.map encI)),.map 30 r,
 .fn 211 [.ptr 32 b 0] [],.fn 212 [.ptr 32 b 0] [],.fn 213 [.ptr 32 b 0] []])
abbrev chkMap (r:Nat) (names:List (List UInt8)):Nat×Ent:=(30,.map r .string (mapOf names))
theorem cname_s (b r:Nat) (c:Control) (s:List UInt8) (hs:Sh s) (names:List (List UInt8)) (hn:names.length<=1000000):CallS Tryz.prog 215 [.ptr 32 b 0,aT s] [chkBox b r c,chkMap r names]
  fun rr H'=>rr=aI (nameE s names)∧H'=[chkBox b r c,chkMap r (if nameE s names=0 then names++[s] else names)]:=by
 refine CallS.dropP (callS_of Tryz.func215 rfl Tryz.ntmps215 (rs:=[.tmp 4]) rfl (by kernel_rfl) (by simp) (by kernel_rfl) (K:=fun rr H'=>rr=aI (nameE s names)∧subP [chkBox b r c,chkMap r (if nameE s names=0 then names++[s] else names)] H') ?_) ?_
 ·cases s with
  | nil=>
   simp[reads]
   refine GCall.fn (aB false) (by simp) ?_
   simp[nameE,wordS,subP.refl]
  | cons b0 s'=>
   simp[reads]
   refine GCall.fn (aB (!(b0::s').all partB)) (fun h=>⟨h,?_⟩) ?_
   ·rw[<- all_bad]
    exact ContainsFuncS_fn (b0::s') hs badR (by intro r h;simp[badR];omega) _ [] [] (fun r h0 h1=>by simpa using badR_fn r h0 h1)
   ·simp[reads]
    have hlen:(b0::s').length=s'.length+1:=rfl
    refine⟨fun h=>?_,fun h1 h2 h3 h4=>?_⟩
    ·have e:nameE (b0::s') names=3:=by
      rw[nameE,if_pos]
      simp[wordS]
      intro g1 g2 g3
      rcases h with (h | h) | h | h
      ·omega
      ·omega
      ·rw[h]at g3;cases g3
      ·exact h
     simp[e,subP.refl]
    ·have hw:wordS (b0::s')=true:=by
      simp[wordS]
      exact⟨⟨by omega,by omega⟩,h3,h4⟩
     refine⟨fun h5=>?_,fun h5=>⟨fun h6=>?_,fun h6=>?_⟩⟩
     ·have e:nameE (b0::s') names=17:=by simp[nameE,hw];omega
      simp[e,subP.refl]
     ·rw[mget_of]at h6
      have hm:(b0::s')∈names:=by
       simp[List.findIdx?_isSome]at h6
       exact h6
      have e:nameE (b0::s') names=7:=by simp[nameE,hw,hm];omega
      simp[e,subP.refl]
     ·rw[mget_of]at h6
      have hm:(b0::s')∉names:=by
       simp at h6
       intro hm
       exact h6 _ hm rfl
      have e:nameE (b0::s') names=0:=by simp[nameE,hw,hm];omega
      refine V.draw (fun _=>none) (by kernel_rfl) (by kernel_rfl) (by simp) ?_
      simp[e]
      rw[mput_of hm]
      exact subP.refl _
 ·rintro rr H' ⟨h1,h2⟩
  exact⟨_,h2,h1,rfl⟩
mutual
def varsE:Expr->List Int
 | ⟨op,ix,args⟩=>(if op=1 then [ix] else [])++varsL args
def varsL:List Expr->List Int
 | []=>[]
 | x::xs=>varsE x++varsL xs
end
theorem varsE_eq (x:Expr):varsE x=(if x.op=1 then [x.index] else [])++varsL x.args:=by cases x;simp[varsE]
theorem varsL_mem {n:Int}{y:Expr}(hn:n∈varsE y):∀ {l:List Expr},y∈l->n∈varsL l
 | [],h=>by simp at h
 | z::l,h=>by
  simp only[varsL,List.mem_append]
  rcases List.mem_cons.1 h with rfl | h
  ·exact .inl hn
  ·exact .inr (varsL_mem hn h)
theorem visitV_s {σ:Type}{b3 b4:Nat}{f:FuncId}{first caps:List A}{Hc:σ->Heap}{step:σ->Int->σ}:∀(N:Nat) (x:Expr),SizeOf.sizeOf x<N->OkE x->∀(s:σ),
  (∀s,∀n∈varsE x,CallS Tryz.prog f (first++aI n::caps) (Hc s) fun _ H'=>H'=Hc (step s n)) ->
  CallS Tryz.prog 297 [aE x,.ptr 3 b3 0,.ptr 4 b4 0] ((4,.box b4 [.fn 297 [] [.ptr 3 b3 0,.ptr 4 b4 0]])::(3,.box b3 [.fn f first caps])::rt 1000 (Hc s))
   fun _ H'=>H'=(4,.box b4 [.fn 297 [] [.ptr 3 b3 0,.ptr 4 b4 0]])::(3,.box b3 [.fn f first caps])::rt 1000 (Hc ((varsE x).foldl step s))
 | 0,_,h,_,_,_=>absurd h (Nat.not_lt_zero _)
 | N+1,x,hN,hx,s,hf=>by
  refine CallS.dropP (callS_of Tryz.func297 rfl Tryz.ntmps297 (rs:=[]) rfl (by kernel_rfl) (by simp) (by kernel_rfl) (K:=fun _ H'=>subP ((4,.box b4 [.fn 297 [] [.ptr 3 b3 0,.ptr 4 b4 0]])::(3,.box b3 [.fn f first caps])::rt 1000 (Hc ((varsE x).foldl step s))) H') ?_) (fun _ _ h=>⟨_,h,rfl⟩)
  have hset:∃s1:σ,s1=(if x.op=1 then step s x.index else s)∧(varsL x.args).foldl step s1=(varsE x).foldl step s:=by
   refine⟨_,rfl,?_⟩
   rw[varsE_eq]
   by_cases h:x.op=1<;>simp[h]
  obtain⟨s1,hs1,he⟩:=hset
  by_cases hop:x.op=1
  all_goals simp[hop]
  ·rw[if_pos hop]at hs1
   refine ((hf s x.index (by rw[varsE_eq];simp[hop])).rt'.c1.c1).mono ?_
   rintro r H' ⟨_,⟨_,⟨H1,rfl,rfl⟩,rfl⟩,rfl⟩
   rw[<- hs1]
   simp
   refine V.for' [2,14,15] (fun p=>[(16,.dat (.int .i64 (p.1:Nat)))]) (fun p=>(4,.box b4 [.fn 297 [] [.ptr 3 b3 0,.ptr 4 b4 0]])::(3,.box b3 [.fn f first caps])::rt 1000 (Hc p.2))
    (fun p:Nat×σ=>p.1<=x.args.length∧(varsL (x.args.drop p.1)).foldl step p.2=(varsE x).foldl step s) (fun p=>x.args.length-p.1) (0,s1) ⟨by simp[he],by simp,subP.refl _⟩ ?_
   rintro⟨i,s2⟩ ⟨hi,hinv⟩
   simp only at hi hinv
   have hlen:=hx.len
   by_cases hlt:i<x.args.length
   ·obtain⟨y,hy1⟩:∃y,x.args[i]'hlt=y:=⟨_,rfl⟩
    have hmem:y∈x.args:=by rw[<- hy1];exact List.getElem_mem hlt
    rw[List.drop_eq_getElem_cons hlt,hy1,varsL,List.foldl_append]at hinv
    simp[hlt,hy1,encE_eq]
    intro b
    have ih:=visitV_s (b3:=b3) (b4:=b4) (Hc:=Hc) (step:=step) (f:=f) (first:=first) (caps:=caps) N y (by have:=Expr.lt_of_mem hmem;omega) (hx.args y hmem) s2 (fun s n hn=>hf s n (by rw[varsE_eq];exact List.mem_append.2 (.inr (varsL_mem hn hmem))))
    refine ih.c1.mono ?_
    rintro r H' ⟨H2,rfl,rfl⟩
    simp
    exact⟨by omega,i+1,_,⟨hlt,hinv⟩,by omega,by simp,(subP.refl _).c _⟩
   ·have hie:i=x.args.length:=by omega
    subst hie
    simp[varsL]at hinv
    simp[hinv]
    exact subP.refl _
  ·rw[if_neg hop]at hs1
   refine V.for' [2,14,15] (fun p=>[(16,.dat (.int .i64 (p.1:Nat)))]) (fun p=>(4,.box b4 [.fn 297 [] [.ptr 3 b3 0,.ptr 4 b4 0]])::(3,.box b3 [.fn f first caps])::rt 1000 (Hc p.2))
    (fun p:Nat×σ=>p.1<=x.args.length∧(varsL (x.args.drop p.1)).foldl step p.2=(varsE x).foldl step s) (fun p=>x.args.length-p.1) (0,s1) ⟨by simp[he],by simp,by rw[hs1];exact subP.refl _⟩ ?_
   rintro⟨i,s2⟩ ⟨hi,hinv⟩
   simp only at hi hinv
   have hlen:=hx.len
   by_cases hlt:i<x.args.length
   ·obtain⟨y,hy1⟩:∃y,x.args[i]'hlt=y:=⟨_,rfl⟩
    have hmem:y∈x.args:=by rw[<- hy1];exact List.getElem_mem hlt
    rw[List.drop_eq_getElem_cons hlt,hy1,varsL,List.foldl_append]at hinv
    simp[hlt,hy1,encE_eq]
    intro b
    have ih:=visitV_s (b3:=b3) (b4:=b4) (Hc:=Hc) (step:=step) (f:=f) (first:=first) (caps:=caps) N y (by have:=Expr.lt_of_mem hmem;omega) (hx.args y hmem) s2 (fun s n hn=>hf s n (by rw[varsE_eq];exact List.mem_append.2 (.inr (varsL_mem hn hmem))))
    refine ih.c1.mono ?_
    rintro r H' ⟨H2,rfl,rfl⟩
    simp
    exact⟨by omega,i+1,_,⟨hlt,hinv⟩,by omega,by simp,(subP.refl _).c _⟩
   ·have hie:i=x.args.length:=by omega
    subst hie
    simp[varsL]at hinv
    simp[hinv]
    exact subP.refl _
theorem each_s {σ:Type}{f:FuncId}{first caps:List A}{Hc:σ->Heap}{step:σ->Int->σ}(x:Expr) (hx:OkE x) (s:σ) (hf:∀s,∀n∈varsE x,CallS Tryz.prog f (first++aI n::caps) (Hc s) fun _ H'=>H'=Hc (step s n)) :
  CallS Tryz.prog 259 [aE x,.fn f first caps] (Hc s) fun _ H'=>H'=Hc ((varsE x).foldl step s):=by
 refine CallS.rt (k:=1000) (CallS.dropP (callS_of Tryz.func259 rfl Tryz.ntmps259 (rs:=[]) rfl (by kernel_rfl) (by simp) (by kernel_rfl) (K:=fun _ H'=>subP (rt 1000 (Hc ((varsE x).foldl step s))) H') ?_) ?_)
 ·simp
  intro b3 b4
  refine (visitV_s (SizeOf.sizeOf x+1) x (by omega) hx s hf).mono ?_
  rintro r H' rfl
  simp
  exact ((subP.refl _).c _).c _
 ·rintro r H' h
  exact⟨_,h,_,rfl,rfl⟩
def kindAt (c:Control) (k:Int):Int:=((c.signals[k.toNat]?).map (·.kind)).getD 0
def lateStep (c:Control) (i:Int) (late:Bool) (line:Int):Bool:=late||(decide (i<=line-firstC c)&&kindAt c (line-firstC c)==0)
def lateC (c:Control) (i:Int) (x:Expr):Bool:=(varsE x).foldl (lateStep c i) false
theorem gate1_s (b r b2 b5 b6:Nat) (c:Control) (h:Sm c) (s5:List A) (i:Int) (h0:0<=i∧i<c.signals.length) (late:Bool) (line:Int) (hl:0<=line∧line<countC c) :
  CallS Tryz.prog 260 [aI line,.ptr 2 b2 0,.ptr 6 b6 0,.rptr [.int .i64 i]] [(6,.box b6 [.dat (.bool late)]),(5,.box b5 s5),(2,.box b2 [.ptr 32 b 0]),chkBox b r c]
   fun _ H'=>H'=[(6,.box b6 [.dat (.bool (lateStep c i late line))]),(5,.box b5 s5),(2,.box b2 [.ptr 32 b 0]),chkBox b r c]:=by
 have hs:=h
 obtain⟨g1,g2,g3⟩:=h
 have hcn:countC c=firstC c+c.signals.length:=rfl
 have hfc:firstC c=2*c.actuators+c.inputs.length:=rfl
 refine CallS.dropP (callS_of Tryz.func260 rfl Tryz.ntmps260 (rs:=[]) rfl (by kernel_rfl) (by simp) (by kernel_rfl) (K:=fun _ H'=>subP [(6,.box b6 [.dat (.bool (lateStep c i late line))]),(5,.box b5 s5),(2,.box b2 [.ptr 32 b 0]),chkBox b r c] H') ?_) (fun _ _ h=>⟨_,h,rfl⟩)
 simp
 refine (first_fn c hs).s ?_
 simp
 refine⟨by omega,?_⟩
 obtain⟨y,hy⟩:∃y,c.signals[(line-firstC c).toNat]?=some y:=⟨_,List.getElem?_eq_getElem (by omega)⟩
 by_cases hk:i<=line-firstC c
 ·simp[hk,hy]
  refine⟨fun h=>⟨h,by omega,by omega⟩,?_⟩
  have e:lateStep c i late line=(late||y.kind==0):=by simp[lateStep,hk,kindAt,hy]
  rw[e]
  exact subP.refl _
 ·simp[hk,hy]
  have e:lateStep c i late line=late:=by simp[lateStep,hk]
  rw[e]
  exact subP.refl _
abbrev sigA (s:Signal):List A:=[.dat (.str s.name),.dat (.int .i64 s.kind),.dat (.int .i64 s.on.op),.dat (.int .i64 s.on.index),.dat (.sl (s.on.args.map encE)),.dat (.int .i64 s.off.op),.dat (.int .i64 s.off.index),.dat (.sl (s.off.args.map encE)),.dat (.int .i64 s.delay),.dat (.bool s.init)]
def gateE (c:Control) (i:Int) (s:Signal):Int:=if lateC c i s.on then 9 else if !zeroE s.off||s.init||s.delay != 0 then 3 else 0
def memE (c:Control) (s:Signal):Int:=if checkE s.off (countC c)≠0 then checkE s.off (countC c) else if s.delay≠0 then 3 else 0
def timE (s:Signal):Int:=if s.delay<1∨s.delay>1000000 then 2 else if !zeroE s.off||s.init then 3 else 0
theorem gate_s (b r:Nat) (c:Control) (h:Sm c) (i:Nat) (s:Signal) (hi:c.signals[i]?=some s) (hx:OkS s) (hv:∀n∈varsE s.on,0<=n∧n<countC c):CallS Tryz.prog 211 [.ptr 32 b 0,aI i] [chkBox b r c] fun rr H'=>rr=aI (gateE c i s)∧H'=[chkBox b r c]:=by
 have hs:=h
 obtain⟨g1,g2,g3⟩:=h
 obtain⟨hlt,hy1⟩:=List.getElem?_eq_some_iff.1 hi
 refine CallS.dropP (callS_of Tryz.func211 rfl Tryz.ntmps211 (rs:=[.tmp 4]) rfl (by kernel_rfl) (by simp) (by kernel_rfl) (K:=fun rr H'=>rr=aI (gateE c i s)∧subP [chkBox b r c] H') ?_) (fun _ _ h=>⟨_,h.2,h.1,rfl⟩)
 simp
 intro b2
 refine V.draw (fun _=>none) (by kernel_rfl) (by kernel_rfl) (by simp) ?_
 simp[hy1,hlt]
 intro b5 b6
 refine (each_s (σ:=Bool) (f:=260) (first:=[]) (caps:=[.ptr 2 b2 0,.ptr 6 b6 0,.rptr [.int .i64 i]]) (Hc:=fun late=>[(6,.box b6 [.dat (.bool late)]),(5,.box b5 (sigA s)),(2,.box b2 [.ptr 32 b 0]),chkBox b r c]) (step:=lateStep c i) s.on hx.on false (fun late n hn=>by simpa using gate1_s b r b2 b5 b6 c hs (sigA s) i ⟨by omega,by omega⟩ late n (hv n hn))).mono ?_
 rintro rr H' rfl
 simp
 have e:lateC c i s.on=(varsE s.on).foldl (lateStep c i) false:=rfl
 rw[<- e]
 cases hlate:lateC c i s.on
 ·simp
  refine (zero_fn s.off).s ?_
  simp[gateE,hlate]
  have hsub:subP [chkBox b r c] [(6,.box b6 [.dat (.bool false)]),(5,.box b5 (sigA s)),(2,.box b2 [.ptr 32 b 0]),chkBox b r c]:=(((subP.refl _).c _).c _).c _
  refine⟨fun h=>⟨fun h1 h2 h3=>?_,hsub⟩,fun h1 h2 h3=>⟨⟨⟨h1,h2⟩,h3⟩,hsub⟩⟩
  rcases h with (h | h) | h<;>simp_all
 ·simp[gateE,hlate]
  exact (((subP.refl _).c _).c _).c _
theorem memory_s (b r:Nat) (c:Control) (h:Sm c) (i:Nat) (s:Signal) (hi:c.signals[i]?=some s) (hx:OkS s):CallS Tryz.prog 212 [.ptr 32 b 0,aI i] [chkBox b r c] fun rr H'=>rr=aI (memE c s)∧H'=[chkBox b r c]:=by
 obtain⟨hlt,hy1⟩:=List.getElem?_eq_some_iff.1 hi
 refine CallS.dropP (callS_of Tryz.func212 rfl Tryz.ntmps212 (rs:=[.tmp 4]) rfl (by kernel_rfl) (by simp) (by kernel_rfl) (K:=fun rr H'=>rr=aI (memE c s)∧subP [chkBox b r c] H') ?_) (fun _ _ h=>⟨_,h.2,h.1,rfl⟩)
 simp
 refine V.draw (fun t=>if t=19 then some (.fn (aI (countC c))) else if t=20 then some (.fn (aI (checkE s.off (countC c)))) else none) (by kernel_rfl) (by kernel_rfl) (by simp) ?_
 have e1:=count_c c h
 have e2:=check_fn s.off hx.off (countC c)
 simp[hy1,hlt]at e1 e2 ⊢
 refine⟨e1,e2,fun hc=>?_,fun hc=>⟨fun hd=>?_,fun hd=>?_⟩⟩
 ·simp[memE,hc,subP.refl]
 ·simp[memE,hc,hd,subP.refl]
 ·simp[memE,hc,hd,subP.refl]
theorem timer_s (b r:Nat) (c:Control) (i:Nat) (s:Signal) (hi:c.signals[i]?=some s) (hx:OkS s):CallS Tryz.prog 213 [.ptr 32 b 0,aI i] [chkBox b r c] fun rr H'=>rr=aI (timE s)∧H'=[chkBox b r c]:=by
 obtain⟨hlt,hy1⟩:=List.getElem?_eq_some_iff.1 hi
 refine CallS.dropP (callS_of Tryz.func213 rfl Tryz.ntmps213 (rs:=[.tmp 4]) rfl (by kernel_rfl) (by simp) (by kernel_rfl) (K:=fun rr H'=>rr=aI (timE s)∧subP [chkBox b r c] H') ?_) (fun _ _ h=>⟨_,h.2,h.1,rfl⟩)
 simp[hy1,hlt]
 intro b5
 have hsub:∀l,subP [chkBox b r c] [(5,.box b5 l),chkBox b r c]:=fun l=>(subP.refl _).c _
 refine⟨fun hd=>?_,fun h1 h2=>?_⟩
 ·simp[timE,hsub]
  omega
 ·refine (zero_fn s.off).s ?_
  cases hz:zeroE s.off<;>cases hi2:s.init<;>simp[timE,hz,hi2,hsub]<;>omega
def signalE (c:Control) (i:Int) (s:Signal) (names:List (List UInt8)):Int:=
 if nameE s.name names≠0 then nameE s.name names
 else if s.kind<0∨s.kind>=3 then 1
 else if checkE s.on (countC c)≠0 then checkE s.on (countC c)
 else if s.kind=0 then gateE c i s else if s.kind=1 then memE c s else timE s
theorem signal_s (b r:Nat) (c:Control) (h:Sm c) (i:Nat) (s:Signal) (hi:c.signals[i]?=some s) (hx:OkS s) (names:List (List UInt8)) (hn:names.length<=1000000) (hv:checkE s.on (countC c)=0->∀n∈varsE s.on,0<=n∧n<countC c) :
  CallS Tryz.prog 216 [.ptr 32 b 0,aI i] [chkBox b r c,chkMap r names] fun rr H'=>rr=aI (signalE c i s names)∧H'=[chkBox b r c,chkMap r (if nameE s.name names=0 then names++[s.name] else names)]:=by
 obtain⟨hlt,hy1⟩:=List.getElem?_eq_some_iff.1 hi
 refine CallS.dropP (callS_of Tryz.func216 rfl Tryz.ntmps216 (rs:=[.tmp 4]) rfl (by kernel_rfl) (by simp) (by kernel_rfl) (K:=fun rr H'=>rr=aI (signalE c i s names)∧subP [chkBox b r c,chkMap r (if nameE s.name names=0 then names++[s.name] else names)] H') ?_) (fun _ _ h=>⟨_,h.2,h.1,rfl⟩)
 simp[hy1,hlt]
 intro b5
 refine (cname_s b r c s.name hx.name names hn).c1.mono ?_
 rintro rr H' ⟨_,⟨rfl,rfl⟩,rfl⟩
 by_cases hne:nameE s.name names=0
 ·have hsub:∀l,subP [chkBox b r c,chkMap r (names++[s.name])] [(5,.box b5 l),chkBox b r c,chkMap r (names++[s.name])]:=fun l=>(subP.refl _).c _
  simp[hne]
  refine⟨fun hk=>?_,fun hk0 hk3=>?_⟩
  ·simp[signalE,hne,hsub]
   omega
  ·refine V.draw (fun t=>if t=37 then some (.fn (aI (countC c))) else if t=38 then some (.fn (aI (checkE s.on (countC c)))) else none) (by kernel_rfl) (by kernel_rfl) (by simp) ?_
   have e1:=count_c c h
   have e2:=check_fn s.on hx.on (countC c)
   simp at e1 e2 ⊢
   refine⟨e1,e2,fun hc=>?_,fun hc=>?_⟩
   ·simp[signalE,hne,hc,hsub,Int.not_lt.2 hk0]
    omega
   ·obtain hk | hk | hk:s.kind=0∨s.kind=1∨s.kind=2:=by omega
    ·have e:signalE c i s names=gateE c i s:=by simp[signalE,hne,hc,hk]
     refine V.draw (fun t=>if t=50 then some (.ro (aI (signalE c i s names))) else none) (by kernel_rfl) (by kernel_rfl) (by simp) ?_
     simp[hk,hsub]
     rw[e]
     exact⟨gate_s b r c h i s hi hx (hv hc),by rw[if_pos hne];exact hsub _⟩
    ·have e:signalE c i s names=memE c s:=by simp[signalE,hne,hc,hk]
     refine V.draw (fun t=>if t=50 then some (.ro (aI (signalE c i s names))) else none) (by kernel_rfl) (by kernel_rfl) (by simp) ?_
     simp[hk,hsub]
     rw[e]
     exact⟨memory_s b r c h i s hi hx,by rw[if_pos hne];exact hsub _⟩
    ·have e:signalE c i s names=timE s:=by simp[signalE,hne,hc,hk]
     refine V.draw (fun t=>if t=50 then some (.ro (aI (signalE c i s names))) else none) (by kernel_rfl) (by kernel_rfl) (by simp) ?_
     simp[hk,hsub]
     rw[e]
     exact⟨timer_s b r c i s hi hx,by rw[if_pos hne];exact hsub _⟩
 ·have hsub:∀l,subP [chkBox b r c,chkMap r names] [(5,.box b5 l),chkBox b r c,chkMap r names]:=fun l=>(subP.refl _).c _
  simp[hne,signalE,hsub]
theorem grow_o (n:Int) (h0:0<=n) (h1:n<=4294967296):CallOwn Tryz.prog 265 [.nils,aI n] 3 1 []:=by
 refine callO_of Tryz.func265 rfl Tryz.ntmps265 (rs:=[.tmp 4]) rfl (by kernel_rfl) (by simp) (by kernel_rfl) ?_
 by_cases hn:0<n
 ·simp[hn,Int.not_lt.2 h0]
  omega
 ·have e:n=0:=by omega
  subst e
  simp
def sumL (xss:List (List Int)):Nat:=(xss.map List.length).sum
theorem concat_o (xss:List (List Int)) (h:sumL xss<=4294967296) (h1:xss.length<=4294967296):CallOwn Tryz.prog 217 [.dat (.sl (xss.map fun xs=>[.sl (xs.map encI)]))] 3 1 (xss.flatten.map rI):=by
 refine callO_of Tryz.func217 rfl Tryz.ntmps217 (rs:=[.tmp 2]) rfl (by kernel_rfl) (by simp) (by kernel_rfl) ?_
 have hle:∀i,(xss.take i).flatten.length<=sumL xss:=by
  intro i
  have e:xss=xss.take i++xss.drop i:=(List.take_append_drop i xss).symm
  have:sumL xss=sumL (xss.take i)+sumL (xss.drop i):=by
   unfold sumL
   conv=>lhs;rw[e]
   rw[List.map_append,List.sum_append]
  rw[List.length_flatten]
  unfold sumL at this ⊢
  omega
 have hst:∀i y,xss[i]?=some y->(xss.take (i+1)).flatten=(xss.take i).flatten++y:=by
  intro i y hy
  rw[List.take_add_one,hy]
  simp
 obtain⟨L,hL⟩:∃L:Nat->Nat,∀i,L i=(xss.take i).flatten.length:=⟨_,fun _=>rfl⟩
 have hL0:L 0=0:=by simp[hL]
 have hLs:∀i y,xss[i]?=some y->L (i+1)=L i+y.length:=by
  intro i y hy
  rw[hL,hL,hst i y hy,List.length_append]
 have hLm:∀i,L i<=sumL xss:=fun i=>by rw[hL];exact hle i
 simp
 refine V.forI (σ:=Unit) xss.length [0,2,9,10] (by simp;exact rfl) (fun i _=>[(11,aI i),(3,aI (L i))]) (fun _ _=>[]) (fun _ _=>True) () (by simp) (by simp[hL0]) ⟨by simp;exact rfl,by simp⟩ ?_ ?_
 ·rintro i-hi -
  have hy:=List.getElem?_eq_getElem hi
  have hs:=hLs i _ hy
  have hl:=hLm (i+1)
  simp[hi,hs]
  omega
 ·rintro - -
  have hl:=hLm xss.length
  simp
  refine (grow_o _ (by omega) (by omega)).s 50 ?_
  intro hd
  simp
  refine V.forL (γ:=Value) xss [2,25,26] (by simp;exact rfl) (fun i _ g=>[(27,aI i),(6,.own 50 g)]) (fun i _ g=>[(50,.seq g 3 1 ((xss.take i).flatten.map rI))]) (fun (_:Unit) (_:List Int)=>(Except.ok ():Except Unit Unit)) (fun _ _=>True) () hd trivial (by simp) ⟨by simp;exact rfl,by simp⟩ ?_ ?_
  ·rintro i-g y hi hy - -
   have hy':xss[i]?=some y:=by rw[List.getElem?_eq_getElem hi,hy]
   have hs:=hst i _ hy'
   have hl2:=hle (i+1)
   rw[hs,List.length_append]at hl2
   rw[hs]
   generalize (xss.take i).flatten=zs at hl2
   simp[hi,hy]
   omega
  ·rintro-g - -
   simp
theorem rowsD_I (xs:List Int):rowsD (xs.map rI)=xs.map encI:=by unfold rowsD;rw[List.map_map];rfl
theorem rowsD_B (xs:List Bool):rowsD (xs.map rB)=xs.map encB:=by unfold rowsD;rw[List.map_map];rfl
theorem allD_I (xs:List Int):allD (xs.map rI)=true:=by simp[allD,isD]
theorem allD_B (xs:List Bool):allD (xs.map rB)=true:=by simp[allD,isD]
attribute [simp] rowsD_I rowsD_B allD_I allD_B
theorem concat_fn (xss:List (List Int)) (h:sumL xss<=4294967296) (h1:xss.length<=4294967296):CallFn Tryz.prog 217 [.dat (.sl (xss.map fun xs=>[.sl (xs.map encI)]))] (aIs xss.flatten):=by
 have:=(concat_o xss h h1).fn (by simp[allD,isD])
 rwa [rowsD_I]at this
def firstErr {ι:Type}(f:ι->Int):List ι->Int
 | []=>0
 | x::xs=>if f x≠0 then f x else firstErr f xs
def NoE (f:Nat->Int) (n:Nat):Prop:=∀j,j<n->f j=0
theorem NoE.zero (f:Nat->Int):NoE f 0:=fun j h=>absurd h (Nat.not_lt_zero j)
theorem NoE.succ {f:Nat->Int}{n:Nat}(h:NoE f n) (e:f n=0):NoE f (n+1):=fun j hj=>by
 rcases Nat.lt_or_ge j n with h1 | h1
 ·exact h j h1
 ·obtain rfl:j=n:=by omega
  exact e
theorem firstErr_app {ι:Type}(f:ι->Int):∀(l r:List ι),(∀x∈l,f x=0)->firstErr f (l++r)=firstErr f r
 | [],_,_=>rfl
 | x::l,r,h=>by
  simp only[List.cons_append,firstErr,h x (by simp),ne_eq,not_true_eq_false,if_false]
  exact firstErr_app f l r fun y hy=>h y (by simp[hy])
theorem firstErr_at {f:Nat->Int}{n i:Nat}(h:NoE f i) (hi:i<n) (e:f i≠0):firstErr f (List.range n)=f i:=by
 have e1:List.range n=List.range i++(i::(List.range n).drop (i+1)):=by
  have h1:=List.take_append_drop i (List.range n)
  rw[List.take_range,Nat.min_eq_left (by omega)]at h1
  rw[<- h1]
  congr 1
  rw[h1,List.drop_eq_getElem_cons (by simpa using hi)]
  simp
 rw[e1,firstErr_app f _ _ (fun x hx=>h x (by simpa using hx))]
 simp[firstErr,e]
theorem firstErr_all {f:Nat->Int}{n:Nat}(h:NoE f n):firstErr f (List.range n)=0:=by
 have:=firstErr_app f (List.range n) [] (fun x hx=>h x (by simpa using hx))
 simpa [firstErr]using this
theorem firstErr_zero {f:Nat->Int}:∀ {n:Nat},firstErr f (List.range n)=0->NoE f n:=by
 intro n h j hj
 by_cases hz:f j=0
 ·exact hz
 ·-- the least index with an error
  have hex:∃k,k<=j∧f k≠0∧NoE f k:=by
   clear h hj n
   induction j using Nat.strongRecOn with
   | ind j ih=>
    by_cases hn:NoE f j
    ·exact⟨j,Nat.le_refl _,hz,hn⟩
    ·simp only[NoE,Classical.not_forall]at hn
     obtain⟨m,hm,hmz⟩:=hn
     obtain⟨k,h1,h2,h3⟩:=ih m hm hmz
     exact⟨k,by omega,h2,h3⟩
  obtain⟨k,h1,h2,h3⟩:=hex
  rw[firstErr_at h3 (by omega) h2]at h
  exact absurd h h2
def namesB (c:Control) (n:Nat):List (List UInt8):=(List.range n).map fun k:Nat=>namedC c k
theorem namesB_succ (c:Control) (n:Nat):namesB c (n+1)=namesB c n++[namedC c n]:=by simp[namesB,List.range_succ]
@[simp] theorem namesB_length (c:Control) (n:Nat):(namesB c n).length=n:=by simp[namesB]
def inpE (c:Control) (i:Nat):Int:=nameE (namedC c (2*c.actuators.toNat+i:Nat)) (namesB c (2*c.actuators.toNat+i))
def sigE (c:Control) (i:Nat):Int:=match c.signals[i]? with
 | some s=>signalE c i s (namesB c (2*c.actuators.toNat+c.inputs.length+i))
 | none=>0
def pilotE (c:Control):Int:=
 if (c.plus.length:Int)≠c.actuators∨(c.minus.length:Int)≠c.actuators then 8
 else if (c.plus++c.minus).any (fun l=>decide (l<0)||decide (countC c<=l)) then 6 else 0
def checkC (c:Control):Int:=
 if c.actuators<1∨c.actuators>6 then 2
 else if c.inputs.length>16∨c.signals.length>64 then 5
 else if firstErr (inpE c) (List.range c.inputs.length)≠0 then firstErr (inpE c) (List.range c.inputs.length)
 else if firstErr (sigE c) (List.range c.signals.length)≠0 then firstErr (sigE c) (List.range c.signals.length)
 else pilotE c
theorem lineName_eq (k:Nat) (hk:k<12):lineName k=[UInt8.ofNat (97+k / 2),UInt8.ofNat (48+k % 2)]:=by
 unfold lineName
 have ed:Int.tdiv (k:Int) 2=((k / 2:Nat):Int):=by rw[Int.tdiv_eq_ediv_of_nonneg (by omega)];rfl
 have em:Int.tmod (k:Int) 2=((k % 2:Nat):Int):=by rw[Int.tmod_eq_emod_of_nonneg (by omega)];rfl
 rw[ed,em,encU_ascii (by omega) (by omega),encU_ascii (by omega) (by omega)]
 simp only[List.singleton_append,List.cons.injEq,and_true]
 constructor<;>congr 1
theorem lineName_inj {j k:Nat}(hj:j<12) (hk:k<12) (h:lineName j=lineName k):j=k:=by
 rw[lineName_eq j hj,lineName_eq k hk]at h
 simp only[List.cons.injEq,and_true]at h
 obtain⟨h1,h2⟩:=h
 have e1:=congrArg UInt8.toNat h1
 have e2:=congrArg UInt8.toNat h2
 simp only[UInt8.toNat_ofNat']at e1 e2
 omega
theorem named_line {c:Control}{k:Nat}(h:(k:Int)<2*c.actuators):namedC c k=lineName k:=by
 unfold namedC;rw[if_pos h]
theorem closure1_fn (c:Control) (h:Sm c) (n:Int):CallFn Tryz.prog 218 [aI n,.rptr (encC c)] (aB (decide (n<0)||decide (countC c<=n))):=by
 refine callFz_of Tryz.func218 rfl Tryz.ntmps218 (rs:=[.tmp 3]) rfl (by kernel_rfl) (by simp) (by kernel_rfl) ?_
 simp
 refine GCall.fn (aI (countC c)) (fun hn=>⟨by omega,count_c c h⟩) ?_
 simp
end Go.Proofs.YtpadinblmjlggaaGreatDoor
