/- Texts joined by a program: Wc,Wd,We,Pa,Ea. -/
import Derived.Test.YtafamcbdaeppoaaGreatDoorE23
import Derived.Test.YtafamcbdaeppoaaGreatDoorE17
set_option linter.unusedSimpArgs false
set_option linter.unusedVariables false
set_option maxHeartbeats 8000000
set_option maxRecDepth 10000
namespace Go.Proofs.YtafamcbdaeppoaaGreatDoor
theorem allE_eq (c:Cir) (h:cirE c=0):drivesQ c=allQ c:=by
 unfold drivesQ allQ pairE
 simp[h]
theorem DrivesR_fn (c:Cir) (hc:OkCir c):CallFn Tryz.prog 195 [aCi c] (.tuple [.dat (.sl ((drivesQ c).1.map encDr)),aI (drivesQ c).2]):=by
 have hch:=CirCheckR_fn c hc.names hc.parts hc.pipes
 by_cases h0:cirE c=0
 ·have ha:=AllD_fn (cirR_of h0)
  rw[h0]at hch
  rw[allE_eq c h0]
  generalize allQ c=R at *
  refine callFz_of Tryz.func195 rfl Tryz.ntmps195 (rs:=[.tmp 2,.tmp 3]) rfl (by kernel_rfl) (by simp) (by kernel_rfl) ?_
  simp
  refine hch.s ?_
  simp
  refine ha.s ?_
  simp
 ·have:drivesQ c=([],cirE c):=by
   unfold drivesQ pairE
   simp[h0]
  rw[this]
  refine callFz_of Tryz.func195 rfl Tryz.ntmps195 (rs:=[.tmp 2,.tmp 3]) rfl (by kernel_rfl) (by simp) (by kernel_rfl) ?_
  simp
  refine hch.s ?_
  simp[h0]
theorem gives_fn {c:Cir}(hr:CirR c) {d:List Drv}(hd:d.length<=1000) {j:Nat}{t:List UInt8}(hj:j<c.parts.length):CallFn Tryz.prog 350 [aCi c,.dat (.sl (d.map encDr)),.record (encPo ((j:Int),t))] (.dat (.sl ((giftsZ c.parts d ((j:Int),t)).map encGf))):=by
 obtain⟨x,hx⟩:∃x,c.parts[j]=x:=⟨_,rfl⟩
 have hxo:c.parts[j]?=some x:=by rw[List.getElem?_eq_getElem hj,hx]
 obtain⟨hk,hk14⟩:=kind_of hr hxo
 have hmy:=Many_fn (kindOf c.parts j) hk14
 have hdv:=drives_fn d j (by unfold Sh;omega)
 have hpa:=fun n hn=>Passed_fn (kindOf c.parts j) hk14 n hn
 have hm2:=manyK_le (kindOf c.parts j)
 unfold giftsZ givenZ
 simp only[Int.toNat_natCast]
 generalize kindOf c.parts j=k at *
 generalize drivenZ d j=D at *
 obtain⟨x1,x2,x3⟩:=x
 simp only at hk
 subst hk
 refine callFz_of Tryz.func350 rfl Tryz.ntmps350 (rs:=[.tmp 6]) rfl (by kernel_rfl) (by simp) (by kernel_rfl) ?_
 simp[hj,hx,hxo]
 refine V.forI (σ:=Value) (if D.isSome=true then 0 else manyK k) [1,5,6,8] (by simp;exact rfl) (fun i g=>[(7,.own 50 g),(9,aI i)]) (fun i g=>[(50,.seq g 409 5 (((List.range i).flatMap fun pos=>((passK k pos).filter fun y=>y.to==t).map fun y=>(⟨j,pos,y⟩:Gift)).map rGf))]) (fun _ _=>True) (.slice none 0 0) trivial (by simp) ⟨by simp;exact rfl,by simp⟩ ?_ ?_
 ·rintro i g hi -
  cases D with
  | some q=>simp at hi
  | none=>
   simp at hi
   have hp2:=hpa i (by omega)
   simp[hj,hx,hxo]
   refine hmy.s ?_
   simp
   refine GCall.fn (aB false) (fun h=>⟨h,hdv⟩) ?_
   simp[hi]
   refine hp2.s ?_
   simp
   have hW:=gvN_len k j t i
   have hF:=passK_len k i
   rw[List.range_succ,List.flatMap_append]
   generalize ((List.range i).flatMap fun pos=>((passK k pos).filter fun y=>y.to==t).map fun y=>(⟨j,pos,y⟩:Gift))=W at hW ⊢
   generalize hFe:passK k i=F at hp2 hF ⊢
   refine V.forI (σ:=Value) F.length [1,5,6,8,9,10] (by simp;exact rfl) (fun n g=>[(7,.own 50 g),(11,aI n)]) (fun n g=>[(50,.seq g 409 5 ((W++((F.take n).filter fun y=>y.to==t).map fun y=>(⟨j,i,y⟩:Gift)).map rGf))]) (fun _ _=>True) g trivial (by simp) ⟨by simp;exact rfl,by simp⟩ ?_ ?_
   ·rintro n g2 hn -
    obtain⟨y,hy⟩:∃y,F[n]=y:=⟨_,rfl⟩
    have hyo:F[n]?=some y:=by rw[List.getElem?_eq_getElem hn,hy]
    rw[List.take_add_one,hyo]
    have hle:=List.length_filter_le (fun y:PassP=>y.to==t) (F.take n)
    rw[List.length_take]at hle
    simp[hn,hy,hyo]
    refine V.drawX (fun _=>none) (by kernel_rfl) (by kernel_rfl) (by simp) ?_
    simp[hn,hy,hyo]
    refine⟨fun e=>?_,fun e=>⟨⟨by omega,by omega⟩,e⟩⟩
    refine V.drawX (fun _=>none) (by kernel_rfl) (by kernel_rfl) (by simp) ?_
    simp[hn,hy,hyo]
    exact⟨by omega,⟨by omega,by omega⟩,by simp[e]⟩
   ·rintro g2 -
    simp
    exact⟨⟨by omega,by omega⟩,by rw[hFe]⟩
 ·rintro g -
  simp
  refine hmy.s ?_
  simp
  cases D with
  | some q=>
   have hpos:0<manyK k:=by unfold manyK;split<;>omega
   simp
   refine GCall.fn (aB true) (fun h=>⟨h,hdv⟩) ?_
   simp[hpos]
  | none=>
   simp
   refine GCall.never (by simp) (aB false) ?_
   simp[allD_Gf,rowsD_Gf]
theorem idxI_neg (o:Option Nat):(idxI o<0)=(o=none):=by
 cases o with
 | none=>simp[idxI]
 | some k=>simp[idxI]
theorem mem_take_succ {α:Type}{l:List α}{i:Nat}{x y:α}(h:l[i]?=some x) (hy:y∈l.take (i+1)):y∈l.take i∨y=x:=by
 rw[List.take_add_one,h]at hy
 simpa using hy
theorem readyR_fn {c:Cir}(hr:CirR c) {d:List Drv}(hd:d.length<=1000) {order:List Nat}(ho:order.length<=1000) {i:Nat}(hi:i<(netsZ c).length) :
  CallFn Tryz.prog 277 [aCi c,.dat (.sl (d.map encDr)),aNets (netsZ c),aNs order,aI i] (aB (readyZ c.parts d (netsZ c) order i)):=by
 have hN:=nsOK hr
 have hgv:=fun j t hj=>gives_fn hr hd (j:=j) (t:=t) hj
 have hwh:=fun p hp=>WhichN_fn hN (p:=p) hp
 have hcn:=fun l hl=>CountsR_fn hr (hN.net l hl).1 (hN.net l hl).2.1 (hN.net l hl).2.2
 have hat:=fun v=>at_fn order v (by unfold Sh;omega)
 obtain⟨l,hl⟩:∃l,(netsZ c)[i]=l:=⟨_,rfl⟩
 have hlo:(netsZ c)[i]?=some l:=by rw[List.getElem?_eq_getElem hi,hl]
 have hln:=hN.net l (List.mem_of_getElem? hlo)
 generalize hR:readyZ c.parts d (netsZ c) order i=R
 have hRl:R=l.all fun x=>(giftsZ c.parts d x).all fun g=>g.pass.src.all fun t=>!takesZ c.parts (netsZ c) order g t:=by
  rw[<- hR]
  unfold readyZ
  rw[List.getD_eq_getElem?_getD,hlo]
  rfl
 have hbad:∀x∈l,∀g∈giftsZ c.parts d x,∀t∈g.pass.src,takesZ c.parts (netsZ c) order g t=true->R=false:=fun x hx g hg t ht h=>by
  rw[hRl,Bool.eq_false_iff]
  intro hall
  have:=List.all_eq_true.1 (List.all_eq_true.1 (List.all_eq_true.1 hall x hx) g hg) t ht
  rw[h]at this
  cases this
 have hpar:=fun p (hp:p∈l)=>mem_allN.1 (hln.2.2 p hp)
 refine callFz_of Tryz.func277 rfl Tryz.ntmps277 (rs:=[.tmp 10]) rfl (by kernel_rfl) (by simp) (by kernel_rfl) ?_
 simp[hi,hl,hlo]
 refine V.forI (σ:=Unit) l.length [1,2,3,4,5,10] (by simp;exact rfl) (fun n _=>[(11,aI n)]) (fun _ _=>[]) (fun n _=>∀x∈l.take n,(giftsZ c.parts d x).all (fun g=>g.pass.src.all fun t=>!takesZ c.parts (netsZ c) order g t)=true) () (by simp) (by simp) ⟨by simp;exact rfl,by simp⟩ ?_ ?_
 ·rintro n ⟨⟩ hn hI
  obtain⟨x,hx⟩:∃x,l[n]=x:=⟨_,rfl⟩
  have hxo:l[n]?=some x:=by rw[List.getElem?_eq_getElem hn,hx]
  have hxm:=List.mem_of_getElem? hxo
  obtain⟨j,q,hj,hq,hx1,hx2⟩:=hpar x hxm
  obtain⟨x1,x2⟩:=x
  simp only at hx1
  subst hx1
  have hg:=hgv j x2 hj
  have hbx:=hbad _ hxm
  have hgm:∀g∈giftsZ c.parts d ((j:Int),x2),g.pass.src.length<=2∧∀t∈g.pass.src,((g.part:Int),t)∈allP c.parts:=fun g hg=>by
   have hm:=given_mem (gifts_mem hg)
   simp only[Int.toNat_natCast]at hm
   obtain⟨hk,hk14⟩:=kind_of hr hq
   refine⟨passK_srcl _ _ _ hm.2.2,fun t ht=>?_⟩
   rw[hm.1]
   exact port_of hj (passK_src hk14 (by have:=manyK_le (kindOf c.parts j);omega) hm.2.2 ht)
  have hgl:(giftsZ c.parts d ((j:Int),x2)).length<=2:=by
   unfold giftsZ
   split
   ·simp
   ·exact Nat.le_trans (gvN_len _ _ _ _) (manyK_le _)
  generalize hGS:giftsZ c.parts d ((j:Int),x2)=GS at *
  simp[hi,hl,hlo,hn,hx,hxo]
  refine V.drawX (fun t=>if t=34 then some (.fn (.dat (.sl (GS.map encGf)))) else none) (by kernel_rfl) (by kernel_rfl) (by simp) ?_
  simp[hi,hl,hlo,hn,hx,hxo]
  refine⟨hg,?_⟩
  refine V.forI (σ:=Unit) GS.length [1,2,3,4,5,10,11,12] (by simp;exact rfl) (fun m _=>[(13,aI m)]) (fun _ _=>[]) (fun m _=>∀G∈GS.take m,(G.pass.src.all fun t=>!takesZ c.parts (netsZ c) order G t)=true) () (by simp) (by simp) ⟨by simp;exact rfl,by simp⟩ ?_ ?_
  ·rintro m ⟨⟩ hm hJ
   obtain⟨G,hG⟩:∃G,GS[m]=G:=⟨_,rfl⟩
   have hGo:GS[m]?=some G:=by rw[List.getElem?_eq_getElem hm,hG]
   have hGm:=List.mem_of_getElem? hGo
   obtain⟨hsl,hsp⟩:=hgm G hGm
   have hbg:=hbx G hGm
   simp[hm,hG,hGo]
   refine V.forI (σ:=Unit) G.pass.src.length [1,2,3,4,5,10,11,12,13] (by simp;exact rfl) (fun k _=>[(14,aI k)]) (fun _ _=>[]) (fun k _=>∀t∈G.pass.src.take k,(!takesZ c.parts (netsZ c) order G t)=true) () (by simp) (by simp) ⟨by simp;exact rfl,by simp⟩ ?_ ?_
   ·rintro k ⟨⟩ hk hK
    obtain⟨t,ht⟩:∃t,G.pass.src[k]=t:=⟨_,rfl⟩
    have hto:G.pass.src[k]?=some t:=by rw[List.getElem?_eq_getElem hk,ht]
    have htm:=List.mem_of_getElem? hto
    have hpp:=hsp t htm
    have hw:=hwh _ hpp
    have hwl:=hN.of _ hpp
    have hbt:=hbg t htm
    have htk:takesZ c.parts (netsZ c) order G t=(countsZ c.parts ((netsZ c).getD (netW (netsZ c) ((G.part:Int),t)) []) && !(order.any (netW (netsZ c) ((G.part:Int),t)==·))):=rfl
    generalize netW (netsZ c) ((G.part:Int),t)=w at *
    obtain⟨lw,hlw⟩:∃lw,(netsZ c)[w]=lw:=⟨_,rfl⟩
    have hlwo:(netsZ c)[w]?=some lw:=by rw[List.getElem?_eq_getElem hwl,hlw]
    have hcw:=hcn lw (List.mem_of_getElem? hlwo)
    have haw:=hat w
    rw[List.getD_eq_getElem?_getD,hlwo,Option.getD_some]at htk
    generalize hCB:countsZ c.parts lw=CB at *
    simp[hm,hG,hGo,hk,ht,hto]
    refine V.drawX (fun t=>if t=68 then some (.fn (aI w)) else none) (by kernel_rfl) (by kernel_rfl) (by simp) ?_
    simp[hm,hG,hGo,hk,ht,hto]
    refine⟨hw,?_⟩
    refine V.drawX (fun t=>if t=74 then some (.fn (aB CB)) else if t=78 then some (.fn (aI (idxI (order.findIdx? (w==·))))) else none) (by kernel_rfl) (by kernel_rfl) (by simp) ?_
    cases CB
    ·simp[hwl,hlw,hlwo]
     refine⟨hcw,⟨by omega,by omega⟩,fun u hu=>?_⟩
     rcases mem_take_succ hto hu with h | h
     ·simpa using hK u h
     ·rw[h,htk];rfl
    ·simp[hwl,hlw,hlwo]
     refine⟨hcw,haw,fun hneg=>?_,fun hpos=>⟨⟨by omega,by omega⟩,fun u hu=>?_⟩⟩
     ·rw[idxI_neg]at hneg
      refine hbt ?_
      rw[htk,<- List.findIdx?_isSome,hneg]
      rfl
     ·rcases mem_take_succ hto hu with h | h
      ·simpa using hK u h
      ·rw[h,htk,<- List.findIdx?_isSome]
       cases hf:order.findIdx? (w==·) with
       | none=>rw[hf]at hpos;simp[idxI]at hpos
       | some z=>rfl
   ·rintro⟨⟩ hK
    rw[List.take_length]at hK
    simp[hm,hG,hGo]
    refine⟨⟨by omega,by omega⟩,fun g hg2 t ht=>?_⟩
    rcases mem_take_succ hGo hg2 with h | h
    ·have:=List.all_eq_true.1 (hJ g h) t ht
     simpa using this
    ·subst h
     simpa using hK t ht
  ·rintro⟨⟩ hJ
   rw[List.take_length]at hJ
   simp
   refine⟨⟨by omega,by omega⟩,fun a b hab g hg2 t ht=>?_⟩
   rcases mem_take_succ hxo hab with h | h
   ·have:=List.all_eq_true.1 (List.all_eq_true.1 (hI _ h) g hg2) t ht
    simpa using this
   ·rw[h,hGS]at hg2
    have:=List.all_eq_true.1 (hJ g hg2) t ht
    simpa using this
 ·rintro⟨⟩ hI
  have:R=true:=by
   rw[hRl,List.all_eq_true]
   rw[List.take_length]at hI
   exact hI
  rw[this]
  simp[hi,hl,hlo]
def nxB (ps:List Prt) (d:List Drv) (nets:List (List PortZ)) (order:List Nat) (i:Nat):Bool:=(countsI ps nets i && !(order.any (i==·)))&&readyZ ps d nets order i
theorem range_find (p:Nat->Bool) (n:Nat):(List.range n).find? p=(List.range n).findIdx? p:=by
 rw[find_idx]
 cases h:(List.range n).findIdx? p with
 | none=>rfl
 | some k=>
  have:=(List.findIdx?_eq_some_iff_getElem.1 h).1
  simp only[List.length_range]at this
  rw[Option.bind_some,List.getElem?_range this]
theorem nextZ_eq (ps:List Prt) (d:List Drv) (nets:List (List PortZ)) (order:List Nat):nextZ ps d nets order=(List.range nets.length).findIdx? (nxB ps d nets order):=by
 rw[<- range_find]
 unfold nextZ restZ
 rw[List.find?_filter]
 congr 1
 funext a
 unfold nxB
 rw[Bool.eq_iff_iff]
 simp
theorem range_step {p:Nat->Bool}{n i:Nat}(hi:i<n) (hI:NoF p (List.range i)):(p i=false->NoF p (List.range (i+1)))∧(p i=true->(List.range n).findIdx? p=some i):=by
 have h1:(List.range n)[i]?=some i:=by rw[List.getElem?_range hi]
 have e:(List.range n).take i=List.range i:=by rw[List.take_range,Nat.min_eq_left (by omega)]
 have e2:(List.range n).take (i+1)=List.range (i+1):=by rw[List.take_range,Nat.min_eq_left (by omega)]
 have:=findIdx_step (p:=p) (by rw[e];exact hI) h1
 rw[e2]at this
 exact this
theorem range_none {p:Nat->Bool}{n:Nat}(hI:NoF p (List.range n)):(List.range n).findIdx? p=none:=
 findIdx_none (by rw[List.length_range,List.take_range,Nat.min_eq_left (Nat.le_refl _)];exact hI)
def cntN (ps:List Prt) (nets:List (List PortZ)) (i:Nat):Nat:=((List.range i).filter (countsI ps nets)).length
theorem cntN_succ (ps:List Prt) (nets:List (List PortZ)) (i:Nat):cntN ps nets (i+1)=cntN ps nets i+if countsI ps nets i=true then 1 else 0:=by
 unfold cntN
 rw[List.range_succ,List.filter_append,List.length_append]
 cases h:countsI ps nets i<;>simp[h]
theorem cntN_le (ps:List Prt) (nets:List (List PortZ)) (i:Nat):cntN ps nets i<=i:=by
 unfold cntN
 exact Nat.le_trans (List.length_filter_le _ _) (by simp)
theorem cntN_all (ps:List Prt) (nets:List (List PortZ)):cntN ps nets nets.length=manyC ps nets:=by
 unfold cntN manyC restZ
 congr 2
 funext i
 simp
theorem Sorted_fn {c:Cir}(hr:CirR c) {d:List Drv}(hd:d.length<=1000) :
  CallFn Tryz.prog 196 [aCi c,.dat (.sl (d.map encDr))] (.tuple [aNs (orderN c.parts d (netsZ c) (manyC c.parts (netsZ c))),aB (decide ((orderN c.parts d (netsZ c) (manyC c.parts (netsZ c))).length=manyC c.parts (netsZ c)))]):=by
 have hj:=Joined_fn c hr
 have hN:=nsOK hr
 have hfew:=hN.few
 have hcn:=fun l hl=>CountsR_fn hr (hN.net l hl).1 (hN.net l hl).2.1 (hN.net l hl).2.2
 have hrd:=fun order ho i hi=>readyR_fn hr hd (order:=order) ho (i:=i) hi
 have hmc:=manyC_le c.parts (netsZ c)
 have hol:=orderN_len c.parts d (netsZ c)
 have hcs:=cntN_succ c.parts (netsZ c)
 have hcl:=cntN_le c.parts (netsZ c)
 have hca:=cntN_all c.parts (netsZ c)
 have hos:∀n,orderN c.parts d (netsZ c) (n+1)=match (List.range (netsZ c).length).findIdx? (nxB c.parts d (netsZ c) (orderN c.parts d (netsZ c) n)) with
  | some i=>orderN c.parts d (netsZ c) n++[i]
  | none=>orderN c.parts d (netsZ c) n:=fun n=>by
   rw[<- nextZ_eq]
   rfl
 have hci:∀i l,(netsZ c)[i]?=some l->countsI c.parts (netsZ c) i=countsZ c.parts l:=fun i l h=>by
  unfold countsI
  rw[List.getD_eq_getElem?_getD,h]
  rfl
 generalize hM:manyC c.parts (netsZ c)=M at *
 refine callFz_of Tryz.func196 rfl Tryz.ntmps196 (rs:=[.tmp 4,.tmp 5]) rfl (by kernel_rfl) (by simp) (by kernel_rfl) ?_
 simp
 refine hj.s ?_
 simp
 refine V.forI (σ:=Unit) (netsZ c).length [1,2,4,5,6,7] (by simp;exact rfl) (fun i _=>[(8,aI (cntN c.parts (netsZ c) i)),(9,aI i)]) (fun _ _=>[]) (fun _ _=>True) () trivial (by simp[cntN]) ⟨by simp;exact rfl,by simp⟩ ?_ ?_
 ·rintro i ⟨⟩ hi -
  obtain⟨l,hl⟩:∃l,(netsZ c)[i]=l:=⟨_,rfl⟩
  have hlo:(netsZ c)[i]?=some l:=by rw[List.getElem?_eq_getElem hi,hl]
  have hc1:=hcn l (List.mem_of_getElem? hlo)
  have hle:=hcl i
  rw[hcs,hci i l hlo]
  generalize countsZ c.parts l=CB at *
  simp[hi,hl,hlo]
  refine V.drawX (fun t=>if t=25 then some (.fn (aB CB)) else none) (by kernel_rfl) (by kernel_rfl) (by simp) ?_
  simp[hi,hl,hlo]
  refine⟨hc1,fun hb=>⟨⟨by omega,by omega⟩,⟨by omega,by omega⟩,by rw[if_pos hb];rfl⟩,fun hb=>⟨⟨by omega,by omega⟩,by rw[if_neg (by simp[hb])];simp⟩⟩
 ·rintro⟨⟩ -
  rw[hca]
  simp
  refine V.forI (σ:=Value) M [1,2,4,5,6,8] (by simp;exact rfl) (fun n g=>[(7,.own 50 g),(10,aI n)]) (fun n g=>[(50,.seq g 3 1 ((orderN c.parts d (netsZ c) n).map rN))]) (fun _ _=>True) (.slice none 0 0) trivial (by simp) ⟨by simp;exact rfl,by simp[orderN]⟩ ?_ ?_
  ·rintro n g hn -
   have hon:=hos n
   have hlen:=hol n
   have hrn:=hrd (orderN c.parts d (netsZ c) n) (by omega)
   generalize orderN c.parts d (netsZ c) n=O at *
   simp[hn]
   refine V.forI (σ:=Unit) (netsZ c).length [1,2,4,5,6,7,8,10] (by simp;exact rfl) (fun i _=>[(11,aI i)]) (fun _ _=>[(50,.seq g 3 1 (O.map rN))]) (fun i _=>NoF (nxB c.parts d (netsZ c) O) (List.range i)) () (by simp) (by simp) ⟨by simp;exact rfl,by simp⟩ ?_ ?_
   ·rintro i ⟨⟩ hi hI
    obtain⟨s1,s2⟩:=range_step hi hI
    obtain⟨l,hl⟩:∃l,(netsZ c)[i]=l:=⟨_,rfl⟩
    have hlo:(netsZ c)[i]?=some l:=by rw[List.getElem?_eq_getElem hi,hl]
    have hc1:=hcn l (List.mem_of_getElem? hlo)
    have hat:=at_fn O i (by unfold Sh;omega)
    have hri:=hrn i hi
    have hnx:nxB c.parts d (netsZ c) O i=((countsZ c.parts l && !(O.findIdx? (i==·)).isSome)&&readyZ c.parts d (netsZ c) O i):=by
     unfold nxB
     rw[hci i l hlo,List.findIdx?_isSome]
    rw[hnx]at s1 s2
    generalize countsZ c.parts l=CB at *
    generalize readyZ c.parts d (netsZ c) O i=RB at *
    generalize O.findIdx? (i==·)=FI at *
    simp[hi,hl,hlo]
    refine V.drawX (fun t=>if t=44 then some (.fn (aB CB)) else if t=48 then some (.ro (aI (idxI FI))) else if t=57 then some (.ro (aB RB)) else none) (by kernel_rfl) (by kernel_rfl) (by simp) ?_
    simp[hi,hl,hlo]
    refine⟨hc1,fun hb=>⟨hb,hat.lend (by simp[frzs,frz]) rfl ⟨rfl,rfl⟩⟩,fun hb hneg=>⟨⟨hb,hneg⟩,hri.lend (by simp[frzs,frz]) rfl ⟨rfl,rfl⟩⟩,fun hb hneg hrb=>?_,fun hno=>⟨⟨by omega,by omega⟩,s1 ?_⟩⟩
    ·have hfn:FI=none:=by
      rw[idxI_neg]at hneg
      exact hneg
     rw[hon,s2 (by rw[hb,hfn,hrb];rfl)]
     refine⟨by omega,⟨by omega,by omega⟩,by simp⟩
    ·cases CB
     ·rfl
     ·cases FI with
      | some z=>rfl
      | none=>
       rw[hno rfl (by simp[idxI])]
       rfl
   ·rintro⟨⟩ hI
    rw[hon,range_none hI]
    simp
    omega
  ·rintro g -
   simp
   rw[Bool.eq_iff_iff]
   simp only[beq_iff_eq,decide_eq_true_eq]
   omega
abbrev encPl (p:Pln) (l:List PipeZ):List L:=[.sl (p.ps.map encPa),.sl (l.map encPi),.sl (p.drives.map encDr),.sl (p.nets.map fun l=>[L.sl (l.map encPo)]),.sl (p.order.map encN)]
def noPln:Pln:=⟨[],[],[],[]⟩
theorem planned_fn (c:Cir) (hc:OkCir c):CallFn Tryz.prog 141 [aCi c] (.tuple [.record (if planE c=0 then encPl (planZ c) c.pipes else encPl noPln []),aI (planE c)]):=by
 have hdr:=DrivesR_fn c hc
 rw[planE_eq]
 unfold drivesQ at hdr
 by_cases h0:pairE c=0
 ·have hcz:cirE c=0:=by
   unfold pairE at h0
   by_cases h:cirE c=0
   ·exact h
   ·rw[if_pos h]at h0
    exact absurd h0 h
  have hr:=cirR_of hcz
  have hj:=Joined_fn c hr
  have hso:=Sorted_fn hr (d:=drvN c.parts (netsZ c) c.parts.length) (by have:=drvN_len c.parts (netsZ c) c.parts.length;have:=hr.few;omega)
  simp only[h0,if_true,ne_eq,not_true,if_false]at hdr ⊢
  have hse:sortE c.parts (drvN c.parts (netsZ c) c.parts.length) (netsZ c)=if (orderN c.parts (drvN c.parts (netsZ c) c.parts.length) (netsZ c) (manyC c.parts (netsZ c))).length=manyC c.parts (netsZ c) then 0 else 20:=rfl
  rw[hse]
  have hpz:planZ c=⟨c.parts,netsZ c,drvN c.parts (netsZ c) c.parts.length,orderN c.parts (drvN c.parts (netsZ c) c.parts.length) (netsZ c) (manyC c.parts (netsZ c))⟩:=rfl
  rw[hpz]
  generalize drvN c.parts (netsZ c) c.parts.length=D at *
  generalize manyC c.parts (netsZ c)=M at *
  generalize orderN c.parts D (netsZ c) M=O at *
  refine callFz_of Tryz.func141 rfl Tryz.ntmps141 (rs:=[.cell 2 210,.tmp 3]) rfl (by kernel_rfl) (by simp) (by kernel_rfl) ?_
  simp
  intro b2
  refine hdr.s ?_
  simp
  refine hso.s ?_
  by_cases e:O.length=M
  ·simp[e]
   refine V.drawX (fun t=>if t=29 then some (.fn (aNets (netsZ c))) else none) (by kernel_rfl) (by kernel_rfl) (by simp) ?_
   simp
   exact⟨hj,fun h=>absurd e h,e⟩
  ·simp[e]
   exact⟨rfl,rfl,rfl,rfl⟩
 ·simp only[h0,if_false,ne_eq,not_false_iff,if_true]at hdr ⊢
  refine callFz_of Tryz.func141 rfl Tryz.ntmps141 (rs:=[.cell 2 210,.tmp 3]) rfl (by kernel_rfl) (by simp) (by kernel_rfl) ?_
  simp
  intro b2
  refine hdr.s ?_
  simp[h0]
  exact⟨rfl,rfl,rfl,rfl⟩
theorem order_rest (ps:List Prt) (d:List Drv) (nets:List (List PortZ)):∀n,(orderN ps d nets n).length+(restZ ps nets (orderN ps d nets n)).length=manyC ps nets
 | 0=>by simp[orderN,manyC]
 | n+1=>by
  have ih:=order_rest ps d nets n
  simp only[orderN]
  cases h:nextZ ps d nets (orderN ps d nets n) with
  | none=>exact ih
  | some i=>
   simp only
   unfold nextZ at h
   rw[find_idx]at h
   cases hk:(restZ ps nets (orderN ps d nets n)).findIdx? (readyZ ps d nets (orderN ps d nets n)) with
   | none=>rw[hk]at h;simp at h
   | some k=>
    rw[hk,Option.bind_some]at h
    obtain⟨hkl,rfl⟩:=List.getElem?_eq_some_iff.1 h
    rw[restZ_app ps nets _ hkl]
    simp only[List.length_append,List.length_singleton,List.length_take,List.length_drop]
    omega
theorem order_full {ps:List Prt}{d:List Drv}{nets:List (List PortZ)}(h:(orderN ps d nets (manyC ps nets)).length=manyC ps nets) {i:Nat}(hi:i<nets.length):i∈orderN ps d nets (manyC ps nets)↔countsI ps nets i=true:=by
 refine⟨fun hm=>(orderN_mem ps d nets _ i hm).2,fun hc=>?_⟩
 have h1:=order_rest ps d nets (manyC ps nets)
 have h2:restZ ps nets (orderN ps d nets (manyC ps nets))=[]:=by
  rw[<- List.length_eq_zero_iff]
  omega
 rw[restZ,List.filter_eq_nil_iff]at h2
 have:=h2 i (List.mem_range.2 hi)
 rw[hc,Bool.true_and]at this
 simpa using this
theorem planE_full {c:Cir}(h:planE c=0) {i:Nat}(hi:i<(netsZ c).length):i∈(planZ c).order↔countsI c.parts (netsZ c) i=true:=by
 rw[planE_eq]at h
 by_cases h0:pairE c=0
 ·rw[if_neg (by simp[h0])]at h
  unfold sortE at h
  split at h
  ·rename_i hl
   exact order_full hl hi
  ·simp at h
 ·rw[if_pos h0]at h
  exact absurd h h0
theorem dig_slice:∀n,n<10->List.drop n (48::List.take n [49,50,51,52,53,54,55,56,57])=[UInt8.ofNat (48+n)]:=by decide
theorem name_fn (t:List UInt8) (ht:t.length<=1000):∀n:Nat,n<=1000000->CallFn Tryz.prog 280 [aT t,aI n] (aT (t++decN n)):=by
 intro n
 induction n using Nat.strongRecOn with
 | _ n ih=>
  intro hn
  by_cases h:n<10
  ·have hd:decN n=[UInt8.ofNat (48+n)]:=by
    unfold decN Go.Lib.decDigits
    rw[dif_pos h]
   have h':(n:Int)<10:=by omega
   refine callFz_of Tryz.func280 rfl Tryz.ntmps280 (rs:=[.tmp 4]) rfl (by kernel_rfl) (by simp) (by kernel_rfl) ?_
   simp[h']
   refine⟨⟨by omega,by omega⟩,by omega,by omega,?_⟩
   rw[hd,<- dig_slice n h]
  ·have hd:decN n=decN (n / 10)++[UInt8.ofNat (48+n % 10)]:=by
    unfold decN
    conv=>lhs;unfold Go.Lib.decDigits
    rw[dif_neg h]
   have h':¬(n:Int)<10:=by omega
   have hi:=ih (n / 10) (by omega) (by omega)
   have hl:=decN_len2 (n / 10)
   rw[hd]
   have hq:(n:Int) / 10=((n / 10:Nat):Int):=by omega
   have hm:(n:Int).tmod 10=((n % 10:Nat):Int):=by rw[Int.tmod_eq_emod_of_nonneg (by omega)];omega
   have hm10:n % 10<10:=Nat.mod_lt _ (by omega)
   generalize n / 10=q at *
   generalize n % 10=m at *
   refine callFz_of Tryz.func280 rfl Tryz.ntmps280 (rs:=[.tmp 4]) rfl (by kernel_rfl) (by simp) (by kernel_rfl) ?_
   simp[h']
   refine V.drawX (fun k=>if k=16 then some (.fn (aT (t++decN q))) else none) (by kernel_rfl) (by kernel_rfl) (by simp) ?_
   simp[hq,hm]
   refine⟨by omega,hi,⟨by omega,by omega⟩,by omega,by omega,?_⟩
   rw[dig_slice m hm10]
   simp
theorem Counts_at {c:Cir}(hr:CirR c) {w:Nat}(hw:w<(netsZ c).length):∃l,(netsZ c)[w]?=some l∧CallFn Tryz.prog 275 [aCi c,.dat (.sl (l.map encPo))] (aB (countsI c.parts (netsZ c) w)):=by
 have hN:=nsOK hr
 refine⟨(netsZ c)[w],List.getElem?_eq_getElem hw,?_⟩
 have hm:=List.getElem_mem hw
 have:=CountsR_fn hr (hN.net _ hm).1 (hN.net _ hm).2.1 (hN.net _ hm).2.2
 unfold countsI
 rw[List.getD_eq_getElem?_getD,List.getElem?_eq_getElem hw]
 exact this
structure PlR (c:Cir):Prop where
 cir:CirR c
 drv:drvE c.parts (netsZ c)=0
 pln:planE c=0
theorem plR_of {c:Cir}(h:planE c=0):PlR c:=by
 have h1:=h
 rw[planE_eq]at h1
 by_cases h3:pairE c=0
 ·have h4:=h3
  unfold pairE at h4
  by_cases h5:cirE c=0
  ·rw[if_neg (by simp[h5])]at h4
   exact⟨cirR_of h5,h4,h⟩
  ·rw[if_pos h5]at h4
   exact absurd h4 h5
 ·rw[if_pos h3]at h1
  exact absurd h1 h3
theorem firstR_fn {c:Cir}(h:PlR c):CallFn Tryz.prog 200 [.record (encPl (planZ c) c.pipes)] (aI (planZ c).first):=by
 have hb:=Buttons_o h.cir
 have hB:=planZ_B h.cir
 have h1:=hB.dl
 have h2:=hB.bl
 have hbu:(planZ c).butt=buttN c.parts c.parts.length:=rfl
 rw[<- hbu]at hb
 unfold Pln.first
 have hps:(planZ c).ps=c.parts:=rfl
 generalize (planZ c).butt=bu at *
 refine callFz_of Tryz.func200 rfl Tryz.ntmps200 (rs:=[.tmp 2]) rfl (by kernel_rfl) (by simp) (by kernel_rfl) ?_
 simp
 refine V.drawX (fun t=>if t=9 then some (.fn (aNs bu)) else none) (by kernel_rfl) (by kernel_rfl) (by simp) ?_
 simp[hps]
 exact⟨⟨by omega,by omega⟩,hb,by omega,by omega⟩
theorem gateR_fn {c:Cir}(h:PlR c) {i:Nat}{t:List UInt8}(hp:((i:Int),t)∈allP c.parts):CallFn Tryz.prog 202 [.record (encPl (planZ c) c.pipes),.record (encPo ((i:Int),t))] (aE ((planZ c).gate i t)):=by
 have hN:=nsOK h.cir
 have hw:=WhichN_fn hN hp
 have hlt:=hN.of _ hp
 have hf:=firstR_fn h
 have hB:=planZ_B h.cir
 have hfl:=hB.fl
 have hol:=hB.ol
 rw[Pln.gate_eq]
 have hns:(planZ c).nets=netsZ c:=rfl
 have hps:(planZ c).ps=c.parts:=rfl
 rw[hns]
 generalize netW (netsZ c) ((i:Int),t)=w at *
 obtain⟨l,hlo,hcn⟩:=Counts_at h.cir hlt
 obtain⟨hl1,hl⟩:=List.getElem?_eq_some_iff.1 hlo
 have hat:=at_fn (planZ c).order w (by unfold Sh;omega)
 have hfu:=planE_full h.pln hlt
 refine callFz_of Tryz.func202 rfl Tryz.ntmps202 (rs:=[.cell 4 61]) rfl (by kernel_rfl) (by simp) (by kernel_rfl) ?_
 simp
 intro b4
 refine hw.s ?_
 simp
 cases hc:countsI c.parts (netsZ c) w with
 | false=>
  rw[hc]at hcn
  have hno:(planZ c).order.findIdx? (w==·)=none:=by
   rw[List.findIdx?_eq_none_iff]
   intro x hx
   simp only[beq_eq_false_iff_ne,ne_eq]
   rintro rfl
   have:=hfu.1 hx
   rw[hc]at this
   cases this
  have hge:(planZ c).gateW w=nulE:=by unfold Pln.gateW;rw[hno]
  rw[hge]
  refine V.drawX (fun t=>if t=17 then some (.fn (aB false)) else none) (by kernel_rfl) (by kernel_rfl) (by simp) ?_
  simp[hps,hns,hl1,hl,hlo]
  exact⟨hcn,rfl,rfl,rfl⟩
 | true=>
  rw[hc]at hcn
  have hm:=hfu.2 hc
  obtain⟨k,hk⟩:∃k,(planZ c).order.findIdx? (w==·)=some k:=by
   rw[<- Option.isSome_iff_exists,List.findIdx?_isSome,List.any_eq_true]
   exact⟨w,hm,by simp⟩
  have hkl:=(List.findIdx?_eq_some_iff_getElem.1 hk).1
  have hge:(planZ c).gateW w=varE ((planZ c).first+k:Nat):=by unfold Pln.gateW;rw[hk]
  rw[hge]
  rw[hk]at hat
  have hv:=variableR_fn (((planZ c).first:Int)+k)
  refine V.drawX (fun t=>if t=17 then some (.fn (aB true)) else none) (by kernel_rfl) (by kernel_rfl) (by simp) ?_
  simp[hps,hns,hl1,hl,hlo]
  refine⟨hcn,?_⟩
  refine V.drawX (fun t=>if t=21 then some (.fn (aI (planZ c).first)) else if t=25 then some (.fn (aI k)) else if t=27 then some (.fn (aE (varE (((planZ c).first:Int)+k)))) else none) (by kernel_rfl) (by kernel_rfl) (by simp) ?_
  simp[hps,hns]
  exact⟨hf,hat,⟨by omega,by omega⟩,hv⟩
mutual
def szE:Expr->Nat
 | ⟨_,_,args⟩=>1+szL args
def szL:List Expr->Nat
 | []=>0
 | x::xs=>szE x+szL xs
end
mutual
def dpE:Expr->Nat
 | ⟨_,_,args⟩=>1+dpL args
def dpL:List Expr->Nat
 | []=>0
 | x::xs=>max (dpE x) (dpL xs)
end
theorem szE_eq (x:Expr):szE x=1+szL x.args:=by cases x;simp[szE]
theorem dpE_eq (x:Expr):dpE x=1+dpL x.args:=by cases x;simp[dpE]
mutual
def ndE:Expr->List Expr
 | ⟨op,ix,args⟩=>⟨op,ix,args⟩::ndL args
def ndL:List Expr->List Expr
 | []=>[]
 | x::xs=>ndE x++ndL xs
end
mutual
theorem ndE_len:∀x:Expr,(ndE x).length=szE x
 | ⟨op,ix,args⟩=>by simp[ndE,szE,ndL_len args];omega
theorem ndL_len:∀l:List Expr,(ndL l).length=szL l
 | []=>by simp[ndL,szL]
 | x::xs=>by simp[ndL,szL,ndE_len x,ndL_len xs]
end
mutual
theorem preE_all:∀(x:Expr) (d:Int),d+dpE x<=17->(preE x d).map (·.2)=ndE x∧∀p∈preE x d,p.1<=16
 | ⟨op,ix,args⟩,d,h=>by
  simp only[dpE]at h
  have hd:d<=16:=by omega
  obtain⟨h1,h2⟩:=preL_all args (d+1) (by omega)
  simp only[preE,hd,if_true,List.map_cons,ndE,h1,true_and]
  intro p hp
  rcases List.mem_cons.1 hp with rfl | hp
  ·exact hd
  ·exact h2 p hp
theorem preL_all:∀(l:List Expr) (d:Int),d+dpL l<=17->(preL l d).map (·.2)=ndL l∧∀p∈preL l d,p.1<=16
 | [],_,_=>by simp[preL,ndL]
 | x::xs,d,h=>by
  simp only[dpL]at h
  obtain⟨h1,h2⟩:=preE_all x d (by omega)
  obtain⟨h3,h4⟩:=preL_all xs d (by omega)
  simp only[preL,List.map_append,ndL,h1,h3,true_and]
  intro p hp
  rcases List.mem_append.1 hp with hp | hp
  ·exact h2 p hp
  ·exact h4 p hp
end
mutual
theorem preE_deep:∀(x:Expr) (d:Int),d<=17->17<d+dpE x->∃p∈preE x d,p.1>16
 | ⟨op,ix,args⟩,d,h0,h=>by
  simp only[dpE]at h
  by_cases hd:d<=16
  ·obtain⟨p,hp,h1⟩:=preL_deep args (d+1) (by omega) (by omega)
   exact⟨p,by simp only[preE,hd,if_true];exact List.mem_cons_of_mem _ hp,h1⟩
  ·exact⟨(d,⟨op,ix,args⟩),by simp[preE],by simp only;omega⟩
theorem preL_deep:∀(l:List Expr) (d:Int),d<=17->17<d+dpL l->∃p∈preL l d,p.1>16
 | [],d,h0,h=>by simp only[dpL]at h;omega
 | x::xs,d,h0,h=>by
  simp only[dpL]at h
  by_cases hx:17<d+dpE x
  ·obtain⟨p,hp,h1⟩:=preE_deep x d h0 hx
   exact⟨p,by simp only[preL];exact List.mem_append.2 (.inl hp),h1⟩
  ·obtain⟨p,hp,h1⟩:=preL_deep xs d h0 (by omega)
   exact⟨p,by simp only[preL];exact List.mem_append.2 (.inr hp),h1⟩
end
theorem measFold_ok:∀(l:List (Int×Expr)) (s:Int×Int),(∀p∈l,p.1<=16)->s.1+l.length<=256->∃s',l.foldlM measS s=.ok s'
 | [],s,_,_=>⟨s,rfl⟩
 | p::l,s,h,hl=>by
  have h0:=h p (by simp)
  simp only[List.length_cons]at hl
  simp only[List.foldlM_cons,measS]
  rw[if_neg (by omega)]
  exact measFold_ok l _ (fun q hq=>h q (by simp[hq])) (by simp only;omega)
theorem measFold_err:∀(l:List (Int×Expr)) (s:Int×Int),((∃p∈l,p.1>16)∨s.1+l.length>256∧l≠[])->s.1<=256->l.foldlM measS s=.error ()
 | [],s,h,_=>by rcases h with⟨p,hp,_⟩|h;simp at hp;exact absurd rfl h.2
 | p::l,s,h,hs=>by
  simp only[List.foldlM_cons,measS]
  by_cases hc:s.1+1>256∨p.1>16
  ·rw[if_pos hc];rfl
  ·rw[if_neg hc]
   refine measFold_err l _ ?_ (by simp only;omega)
   rcases h with⟨q,hq,h1⟩|h
   ·rcases List.mem_cons.1 hq with rfl | hq
    ·omega
    ·exact .inl ⟨q,hq,h1⟩
   ·simp only[List.length_cons]at h
    refine .inr ⟨by simp only;omega,?_⟩
    rintro rfl
    simp at h
    omega
theorem meas_iff (x:Expr):(∃s,meas x=.ok s)↔szE x<=256∧dpE x<=16:=by
 constructor
 ·rintro⟨s,h⟩
  by_cases hd:dpE x<=16
  ·refine⟨?_,hd⟩
   obtain⟨h1,h2⟩:=preE_all x 1 (by omega)
   have hl:(preE x 1).length=szE x:=by rw[<- ndE_len,<- h1,List.length_map]
   rcases Nat.lt_or_ge 256 (szE x) with hg | hg
   ·have:=measFold_err (preE x 1) (0,0) (.inr ⟨by simp only;omega,by rw[preE_eq];simp⟩) (by simp)
    unfold meas at h
    rw[this]at h
    cases h
   ·exact hg
  ·obtain⟨p,hp,h1⟩:=preE_deep x 1 (by omega) (by omega)
   have:=measFold_err (preE x 1) (0,0) (.inl ⟨p,hp,h1⟩) (by simp)
   unfold meas at h
   rw[this]at h
   cases h
 ·rintro⟨h1,h2⟩
  obtain⟨h3,h4⟩:=preE_all x 1 (by omega)
  have hl:(preE x 1).length=szE x:=by rw[<- ndE_len,<- h3,List.length_map]
  exact measFold_ok _ _ h4 (by simp only;omega)
mutual
theorem deep_iff:∀(x:Expr) (m:Int),deepE x m=decide ((dpE x:Int)<=m)
 | ⟨op,ix,args⟩,m=>by
  have e:dpE ⟨op,ix,args⟩=1+dpL args:=by simp[dpE]
  simp only[deepE]
  by_cases h1:m<1
  ·rw[if_pos h1]
   exact (decide_eq_false (by rw[e];omega)).symm
  ·rw[if_neg h1]
   by_cases h2:m=1
   ·rw[if_pos h2]
    subst h2
    cases args with
    | nil=>exact (decide_eq_true (by rw[e];simp[dpL])).symm
    | cons y l=>
     have:1<=dpE y:=by rw[dpE_eq];omega
     exact (decide_eq_false (by rw[e];simp only[dpL];omega)).symm
   ·rw[if_neg h2,deepL_iff args (m-1) (by omega)]
    exact decide_eq_decide.2 (by rw[e];omega)
theorem deepL_iff:∀(l:List Expr) (m:Int),0<=m->deepL l m=decide ((dpL l:Int)<=m)
 | [],m,h=>by simp[deepL,dpL,h]
 | x::xs,m,h=>by
  simp only[deepL,dpL,deep_iff x m,deepL_iff xs m h]
  rw[<- Bool.decide_and]
  exact decide_eq_decide.2 (by omega)
end
mutual
theorem cnt_iff:∀(x:Expr) (m:Int),0<=m->((szE x:Int)<=m->cntE x m=szE x)∧(m<szE x->m<cntE x m)
 | ⟨op,ix,args⟩,m,h=>by
  simp only[cntE,szE]
  by_cases h0:m=0
  ·subst h0
   refine⟨fun h=>by omega,fun _=>?_⟩
   have:=cntL_iff args 0 1 (by omega)
   by_cases hs:(1:Int)+szL args<=0
   ·omega
   ·exact this.2 (by omega)
  ·have:=cntL_iff args m 1 (by omega)
   refine⟨fun h1=>?_,fun h1=>this.2 (by omega)⟩
   have h2:=this.1 (by omega)
   omega
theorem cntL_iff:∀(l:List Expr) (m n:Int),0<=n->(n+szL l<=m->cntL l m n=n+szL l)∧(m<n+szL l->m<cntL l m n)
 | [],m,n,_=>by simp[cntL,szL]
 | x::xs,m,n,hn=>by
  simp only[cntL,szL]
  by_cases h:n<=m
  ·rw[if_pos h]
   have h1:=cnt_iff x (m-n) (by omega)
   by_cases hx:(szE x:Int)<=m-n
   ·have e:=h1.1 hx
    have h2:=cntL_iff xs m (n+cntE x (m-n)) (by omega)
    rw[e]at h2 ⊢
    refine⟨fun h3=>?_,fun h3=>h2.2 (by omega)⟩
    have:=h2.1 (by omega)
    omega
   ·have e:=h1.2 (by omega)
    have h2:=cntL_iff xs m (n+cntE x (m-n)) (by omega)
    exact⟨fun h3=>by omega,fun _=>h2.2 (by omega)⟩
  ·rw[if_neg h]
   exact⟨fun h1=>by omega,fun _=>by omega⟩
end
theorem light_iff (x:Expr):lightE x=true↔szE x<=256∧dpE x<=16:=by
 unfold lightE
 rw[Bool.and_eq_true,deep_iff,decide_eq_true_eq,decide_eq_true_eq]
 have:=cnt_iff x 256 (by omega)
 constructor
 ·rintro⟨h1,h2⟩
  refine⟨?_,by omega⟩
  rcases Nat.lt_or_ge 256 (szE x) with h | h
  ·have:=this.2 (by omega);omega
  ·exact h
 ·rintro⟨h1,h2⟩
  exact⟨by have:=this.1 (by omega);omega,by omega⟩
theorem szL_ge:∀l:List Expr,l.length<=szL l
 | []=>by simp[szL]
 | x::xs=>by have:=szL_ge xs;have:1<=szE x:=by rw[szE_eq];omega
             simp only[szL,List.length_cons];omega
theorem node_same (x:Expr) (n:Int) (h:szE x<=256):nodeR x n=nodeT x n:=by
 have hl:=szL_ge x.args
 rw[szE_eq]at h
 unfold nodeR nodeT
 by_cases h1:x.op<0∨x.op>=5
 ·rw[if_pos h1,if_pos h1]
 ·rw[if_neg h1,if_neg h1]
  obtain ho | ho | ho | ho | ho:x.op=0∨x.op=1∨x.op=2∨x.op=3∨x.op=4:=by omega
  all_goals
   simp only[ho]
   simp
   try simp only[<- List.length_eq_zero_iff]
   repeat' split
   all_goals first | rfl | omega
mutual
theorem nodes_list:∀(x:Expr) (n:Int),nodesE x n=firstErr (fun y=>nodeT y n) (ndE x)
 | ⟨op,ix,args⟩,n=>by simp only[nodesE,ndE,firstErr,nodesL_list args n]
theorem nodesL_list:∀(l:List Expr) (n:Int),nodesL l n=firstErr (fun y=>nodeT y n) (ndL l)
 | [],n=>by simp[nodesL,ndL,firstErr]
 | x::xs,n=>by
  simp only[nodesL,ndL,nodes_list x n,nodesL_list xs n]
  generalize ndE x=a
  induction a with
  | nil=>simp[firstErr]
  | cons y a ih=>
   simp only[List.cons_append,firstErr]
   by_cases h:nodeT y n=0
   ·simp only[h,ne_eq,not_true_eq_false,if_false];exact ih
   ·simp[h]
end
mutual
theorem ndE_sz:∀(x:Expr) (y:Expr),y∈ndE x->szE y<=szE x
 | ⟨op,ix,args⟩,y,h=>by
  simp only[ndE]at h
  rcases List.mem_cons.1 h with rfl | h
  ·exact Nat.le_refl _
  ·have:=ndL_sz args y h;simp only[szE];omega
theorem ndL_sz:∀(l:List Expr) (y:Expr),y∈ndL l->szE y<=szL l
 | [],y,h=>by simp[ndL]at h
 | x::xs,y,h=>by
  simp only[ndL]at h
  simp only[szL]
  rcases List.mem_append.1 h with h | h
  ·have:=ndE_sz x y h;omega
  ·have:=ndL_sz xs y h;omega
end
theorem nodeFold (n:Int):∀l:List (Int×Expr),(match l.foldlM (nodeS n) () with | .ok _=>0 | .error e=>e)=firstErr (fun y=>nodeR y n) (l.map (·.2))
 | []=>rfl
 | p::l=>by
  simp only[List.foldlM_cons,List.map_cons,firstErr,nodeS]
  by_cases h:nodeR p.2 n=0
  ·simp only[h,ne_eq,not_true_eq_false,if_false]
   exact nodeFold n l
  ·simp only[h,ne_eq,not_false_eq_true,if_true]
   rfl
theorem firstErr_congr {ι:Type}{f g:ι->Int}:∀ {l:List ι},(∀x∈l,f x=g x)->firstErr f l=firstErr g l
 | [],_=>rfl
 | x::l,h=>by
  have ih:=firstErr_congr (l:=l) fun y hy=>h y (List.mem_cons_of_mem _ hy)
  simp only[firstErr,h x List.mem_cons_self,ih]
theorem check_same (x:Expr) (n:Int):refCheckE x n=checkE x n:=by
 unfold refCheckE checkE
 by_cases hn:n<0∨n>256
 ·rw[if_pos hn,if_pos hn]
 ·rw[if_neg hn,if_neg hn]
  by_cases hl:szE x<=256∧dpE x<=16
  ·have h1:lightE x=true:=(light_iff x).2 hl
   obtain⟨s,h2⟩:=(meas_iff x).2 hl
   rw[h1,h2]
   simp only[Bool.true_eq_false,if_false]
   have hk:=nodeFold n (preE x 1)
   rw[(preE_all x 1 (by omega)).1,firstErr_congr fun y hy=>node_same y n (Nat.le_trans (ndE_sz x y hy) hl.1),<- nodes_list]at hk
   cases hf:(preE x 1).foldlM (nodeS n) () with
   | ok u=>rw[hf]at hk;simp only at hk ⊢;exact hk.symm
   | error e=>rw[hf]at hk;simp only at hk ⊢;exact hk.symm
  ·have h1:lightE x=false:=by
    cases h:lightE x
    ·rfl
    ·exact absurd ((light_iff x).1 h) hl
   have h2:∃e,meas x=.error e:=by
    cases h:meas x with
    | ok s=>exact absurd ((meas_iff x).1 ⟨s,h⟩) hl
    | error e=>exact⟨e,rfl⟩
   obtain⟨e,h2⟩:=h2
   rw[h1,h2]
   simp
theorem refCheckC_fn (x:Expr) (hx:OkE x) (n:Int):CallFn Tryz.prog 189 [aE x,aI n] (aI (checkE x n)):=by
 rw[<- check_same];exact refCheck_fn x hx n
def okW (s:List UInt8) (i:Nat):Prop:=wordS (s.take i)=true∨i=0
theorem okW_step {s:List UInt8}{i:Nat}{b:UInt8}(h:okW s i) (hb:s[i]?=some b):(wordS (s.take (i+1))=true↔(partB b=true∧(i=0->97<=b.toNat∧b.toNat<=122))):=by
 have e:s.take (i+1)=s.take i++[b]:=by rw[List.take_add_one,hb];rfl
 rw[e]
 by_cases h0:i=0
 ·subst h0
  simp[wordS]
  constructor
  ·rintro⟨⟨h1,h2⟩,h3⟩;exact⟨h3,h1,h2⟩
  ·rintro⟨h3,h1,h2⟩;exact⟨⟨h1,h2⟩,h3⟩
 ·rcases h with h | h
  ·cases ht:s.take i with
   | nil=>rw[ht]at h;simp[wordS]at h
   | cons a t=>
    rw[ht]at h
    simp[wordS]at h ⊢
    simp[h,h0]
    intro _ x hx
    exact h.2.2 x hx
  ·exact absurd h h0
theorem wordS_mono {s:List UInt8}{i:Nat}(h:wordS s=true) (hi:0<i):wordS (s.take i)=true:=by
 cases s with
 | nil=>simp[wordS]at h
 | cons a t=>
  obtain⟨j,rfl⟩:∃j,i=j+1:=⟨i-1,by omega⟩
  simp[wordS]at h ⊢
  exact⟨h.1,h.2.1,fun x hx=>h.2.2 x (List.mem_of_mem_take hx)⟩
theorem wordR_fn (s:List UInt8) (hs:Sh s):CallFn Tryz.prog 188 [aT s] (aB (wordS s)):=by
 refine callFz_of Tryz.func188 rfl Tryz.ntmps188 (rs:=[.tmp 2]) rfl (by kernel_rfl) (by simp) (by kernel_rfl) ?_
 simp
 refine V.forI (σ:=Unit) s.length [0] (by simp;exact rfl) (fun i _=>[(3,aI i)]) (fun _ _=>[]) (fun i _=>okW s i) () (.inr rfl) (by simp) ⟨by simp;exact rfl,by simp⟩ ?_ ?_
 ·rintro i-hi hI
  obtain⟨b,hb⟩:∃b,s[i]=b:=⟨_,rfl⟩
  have hbo:s[i]?=some b:=by rw[List.getElem?_eq_getElem hi,hb]
  have hstep:=okW_step hI hbo
  have hlt:=b.toNat_lt
  simp[hi]
  refine V.draw (fun _=>none) (by kernel_rfl) (by kernel_rfl) (by simp) ?_
  simp[hi,hb]
  refine⟨by omega,by omega,by omega,?_⟩
  have hp:partB b=true↔((97<=b.toNat∧b.toNat<=122)∨(65<=b.toNat∧b.toNat<=90)∨(48<=b.toNat∧b.toNat<=57)∨b.toNat=95):=by
   simp[partB]
   omega
  refine⟨by omega,fun hbad=>?_,fun h1 h2=>⟨by omega,.inl (hstep.2 ⟨hp.2 (by omega),fun h=>by have:=h1 h;omega⟩)⟩⟩
  cases hw:wordS s
  ·rfl
  ·obtain⟨h3,h4⟩:=hstep.1 (wordS_mono hw (by omega))
   have h5:=hp.1 h3
   omega
 ·rintro-hI
  have e:(s != [])=wordS s:=by
   rcases hI with h | h
   ·rw[List.take_length]at h
    rw[h]
    cases s<;>simp_all [wordS]
   ·have:s=[]:=List.length_eq_zero_iff.1 h
    subst this
    rfl
  simp
  exact e
theorem nameR_fn (c:Control) (h:Sm c) (hc:OkC c) (ha:0<=c.actuators∧c.actuators<=6) (k:Nat) (h1:(k:Int)<countC c):CallFn Tryz.prog 129 [aC c,aI k] (aI (nameE (namedC c k) (namesB c k))):=by
 have hs:=h
 obtain⟨g1,g2,g3⟩:=h
 have hcn:countC c=2*c.actuators+c.inputs.length+c.signals.length:=rfl
 have hSh:Sh (namedC c k):=by
  unfold namedC
  split
  ·rename_i hk
   have:k<12:=by omega
   rw[lineName_eq k this]
   simp
  ·split
   ·rw[List.getD_eq_getElem?_getD]
    cases hi:c.inputs[((k:Int)-2*c.actuators).toNat]? with
    | none=>simp
    | some y=>exact hc.names y (List.mem_of_getElem? hi)
   ·cases hi:c.signals[((k:Int)-firstC c).toNat]? with
    | none=>simp
    | some y=>exact (hc.sigs y (List.mem_of_getElem? hi)).name
 refine callFz_of Tryz.func129 rfl Tryz.ntmps129 (rs:=[.tmp 4]) rfl (by kernel_rfl) (by simp) (by kernel_rfl) ?_
 simp
 refine (NamedR_fn c hs ha k (by omega) h1).s ?_
 simp
 refine (wordR_fn (namedC c k) hSh).s ?_
 cases hw:wordS (namedC c k)
 ·simp[nameE,hw]
 ·by_cases hl:(namedC c k).length>24
  ·simp[nameE,hw,hl]
   intro h
   omega
  ·have hl':¬ 24<(namedC c k).length:=hl
   have hl2:((namedC c k).length:Int)<=24:=by omega
   simp[hl2,Int.not_lt.2 hl2]
   refine V.forI (σ:=Unit) k [1,2,5] (by simp;exact rfl) (fun i _=>[(6,aI i)]) (fun _ _=>[]) (fun i _=>∀j,j<i->namedC c j≠namedC c k) () (by simp) (by simp) ⟨by simp;exact rfl,by simp⟩ ?_ ?_
   ·rintro i-hi hI
    simp[hi]
    refine (NamedR_fn c hs ha i (by omega) (by omega)).s ?_
    by_cases e:namedC c i=namedC c k
    ·have hm:namedC c k∈namesB c k:=List.mem_map.2 ⟨i,by simpa using hi,e⟩
     simp[nameE,hw,hl',hm,e]
    ·simp[e]
     refine⟨by omega,fun j hj=>?_⟩
     rcases Nat.lt_or_ge j i with h | h
     ·exact hI j h
     ·obtain rfl:j=i:=by omega
      exact e
   ·rintro-hI
    have hm:namedC c k∉namesB c k:=by
     intro hm
     obtain⟨j,hj,e⟩:=List.mem_map.1 hm
     exact hI j (by simpa using hj) e
    simp[nameE,hw,hl',hm]
mutual
def occE:Expr->Int->Bool
 | ⟨op,ix,args⟩,k=>if op=1 then ix==k else occL args k
def occL:List Expr->Int->Bool
 | [],_=>false
 | x::xs,k=>occE x k||occL xs k
end
theorem occE_eq (x:Expr) (k:Int):occE x k=if x.op=1 then x.index==k else occL x.args k:=by cases x;simp[occE]
theorem occurs_fn:∀(N:Nat) (x:Expr),SizeOf.sizeOf x<N->OkE x->∀k:Int,CallFn Tryz.prog 271 [aE x,aI k] (aB (occE x k))
 | 0,_,h,_,_=>absurd h (Nat.not_lt_zero _)
 | N+1,x,hN,hx,k=>by
  refine callFz_of Tryz.func271 rfl Tryz.ntmps271 (rs:=[.tmp 4]) rfl (by kernel_rfl) (by simp) (by kernel_rfl) ?_
  by_cases hop:x.op=1
  ·simp[hop,occE_eq]
  ·have e:occE x k=occL x.args k:=by rw[occE_eq,if_neg hop]
   simp[hop]
   refine V.forI (σ:=Unit) x.args.length [1,2] (by simp;exact rfl) (fun i _=>[(5,aI i)]) (fun _ _=>[]) (fun i _=>occL (x.args.drop i) k=occE x k) () (by simp[e]) (by simp) ⟨by simp;exact rfl,by simp⟩ ?_ ?_
   ·rintro i-hi hI
    obtain⟨y,hy⟩:∃y,x.args[i]=y:=⟨_,rfl⟩
    have hmem:y∈x.args:=hy▸List.getElem_mem hi
    have hlen:=hx.len
    rw[List.drop_eq_getElem_cons hi,hy,occL]at hI
    simp[hi,hy,encE_eq]
    refine (occurs_fn N y (by have:=Expr.lt_of_mem hmem;omega) (hx.args y hmem) k).s ?_
    cases ho:occE y k
    ·rw[ho]at hI
     simp at hI
     simp
     exact⟨by omega,hI⟩
    ·rw[ho]at hI
     simp at hI
     simp[hI]
   ·rintro-hI
    simp[occL]at hI
    simp[<- hI]
theorem foldl_or (f:Int->Bool):∀(l:List Int) (b:Bool),l.foldl (fun b n=>b||f n) b=(b||l.any f)
 | [],b=>by simp
 | n::l,b=>by simp[foldl_or f l,Bool.or_assoc]
theorem lateC_any (c:Control) (i:Int) (x:Expr):lateC c i x=(varsE x).any fun n=>decide (i<=n-firstC c)&&kindAt c (n-firstC c)==0:=by
 unfold lateC
 have:lateStep c i=fun b n=>b||(decide (i<=n-firstC c)&&kindAt c (n-firstC c)==0):=rfl
 rw[this,foldl_or]
 rfl
theorem occ_vars {n:Int}:∀(N:Nat) (x:Expr),SizeOf.sizeOf x<N->RightE n x->∀k,occE x k=(varsE x).any (·==k)
 | 0,_,h,_,_=>absurd h (Nat.not_lt_zero _)
 | N+1,x,hN,hr,k=>by
  have hL:∀l:List Expr,(∀y∈l,y∈x.args)->occL l k=(varsL l).any (·==k):=by
   intro l
   induction l with
   | nil=>intro _;rfl
   | cons y l ih=>
    intro hl
    have hm:=hl y (by simp)
    simp only[occL,varsL,List.any_append]
    rw[ih (fun z hz=>hl z (by simp[hz])),occ_vars N y (by have:=Expr.lt_of_mem hm;omega) (hr.args y hm) k]
  rw[occE_eq,varsE_eq]
  by_cases hop:x.op=1
  ·have hn:=hr.node
   have hargs:x.args=[]:=by
    unfold nodeR at hn
    simp only[hop]at hn
    split at hn<;>try omega
    split at hn<;>try omega
    rename_i h
    simp at h
    exact List.length_eq_zero_iff.1 (by omega)
   simp[hop,hargs,varsL]
  ·simp[hop]
   simpa using hL x.args fun _ h=>h
theorem occ_check {x:Expr}{n:Int}(h:checkE x n=0) (k:Int):occE x k=(varsE x).any (·==k):=occ_vars (SizeOf.sizeOf x+1) x (by omega) (right_of_check h).1 k
theorem late_fn (c:Control) (h:Sm c) (i:Nat) (s:Signal) (hi:c.signals[i]?=some s) (hx:OkS s) (hr:checkE s.on (countC c)=0):CallFn Tryz.prog 191 [aC c,aI i] (aB (lateC c i s.on)):=by
 have hs:=h
 obtain⟨g1,g2,g3⟩:=h
 obtain⟨hlt,hy1⟩:=List.getElem?_eq_some_iff.1 hi
 have hcn:countC c=firstC c+c.signals.length:=rfl
 have hfc:firstC c=2*c.actuators+c.inputs.length:=rfl
 refine callFz_of Tryz.func191 rfl Tryz.ntmps191 (rs:=[.tmp 4]) rfl (by kernel_rfl) (by simp) (by kernel_rfl) ?_
 simp
 refine V.forI (σ:=Unit) (c.signals.length-i) [1,2] (by simp;exact rfl) (fun m _=>[(5,aI (i+m:Nat))]) (fun _ _=>[]) (fun m _=>∀j,i<=j->j<i+m->kindAt c j=0->occE s.on (firstC c+j)=false) () (by intro j h1 h2;omega) (by simp) ⟨by simp;exact rfl,by simp⟩ ?_ ?_
 ·rintro m-hm hI
  have hj:i+m<c.signals.length:=by omega
  have hji:(i:Int)+m<c.signals.length:=by omega
  obtain⟨y,hy⟩:∃y,c.signals[i+m]=y:=⟨_,rfl⟩
  have hyo:c.signals[i+m]?=some y:=by rw[List.getElem?_eq_getElem hj,hy]
  have hka:kindAt c ((i+m:Nat):Int)=y.kind:=by unfold kindAt;rw[Int.toNat_natCast,hyo];rfl
  simp[hji]
  refine V.draw (fun t=>if t=29 then some (.fn (aI (firstC c))) else if t=32 then some (.fn (aB (occE s.on (firstC c+(i+m:Nat))))) else none) (by kernel_rfl) (by kernel_rfl) (by simp) ?_
  have e1:=signals_fn c hs
  have e2:=occurs_fn (SizeOf.sizeOf s.on+1) s.on (by omega) hx.on (firstC c+(i+m:Nat))
  simp at e1 e2
  have hti:((i:Int)+m).toNat=i+m:=by omega
  simp[hji,hti,hyo,hy1,hlt,e1,e2,hj,hy]
  refine⟨by omega,fun h=>⟨h,by omega,by omega⟩,fun hk ho=>?_,fun hno=>⟨by omega,?_,by omega⟩⟩
  ·rw[occ_check hr,List.any_eq_true]at ho
   obtain⟨n,hn,e⟩:=ho
   simp only[beq_iff_eq]at e
   rw[lateC_any,List.any_eq_true]
   refine⟨n,hn,?_⟩
   rw[show n-firstC c=((i+m:Nat):Int) by omega,hka,hk]
   simp
   omega
  ·intro j h1 h2 h3
   rcases Nat.lt_or_ge j (i+m) with h | h
   ·exact hI j h1 h h3
   ·obtain rfl:j=i+m:=by omega
    rw[hka]at h3
    have:=hno h3
    simpa using this
 ·rintro-hI
  have e:i+(c.signals.length-i)=c.signals.length:=by omega
  rw[e]
  have hl:lateC c i s.on=false:=by
   rw[lateC_any,List.any_eq_false]
   intro n hn
   have hv:=vars_check hr n hn
   simp only[Bool.and_eq_true,decide_eq_true_eq,beq_iff_eq,not_and]
   intro h1 h2
   obtain⟨j,hj⟩:∃j:Nat,n-firstC c=j:=⟨(n-firstC c).toNat,by omega⟩
   rw[hj]at h1 h2
   have:=hI j (by omega) (by omega) h2
   rw[occ_check hr,List.any_eq_false]at this
   exact this n hn (by simp;omega)
  simp[hl]
theorem signalR_fn (c:Control) (h:Sm c) (hc:OkC c) (ha:0<=c.actuators∧c.actuators<=6) (i:Nat) (s:Signal) (hi:c.signals[i]?=some s):CallFn Tryz.prog 130 [aC c,aI i] (aI (sigE c i)):=by
 have hs:=h
 obtain⟨g1,g2,g3⟩:=h
 obtain⟨hlt,hy1⟩:=List.getElem?_eq_some_iff.1 hi
 have hcn:countC c=firstC c+c.signals.length:=rfl
 have hfc:firstC c=2*c.actuators+c.inputs.length:=rfl
 have hx:OkS s:=hc.sigs s (List.mem_of_getElem? hi)
 obtain⟨N,hN⟩:∃N:Nat,c.actuators=N:=⟨c.actuators.toNat,by omega⟩
 have hNN:c.actuators.toNat=N:=by omega
 have hk:firstC c+i=((2*N+c.inputs.length+i:Nat):Int):=by omega
 have hn:namedC c (2*N+c.inputs.length+i:Nat)=s.name:=by
  refine named_sig (s:=s) (by omega) (by omega) ?_
  rw[show ((2*N+c.inputs.length+i:Nat)-firstC c:Int).toNat=i by omega]
  exact hi
 have e0:sigE c i=signalE c i s (namesB c (2*N+c.inputs.length+i)):=by simp only[sigE,hi,hNN]
 rw[e0]
 generalize hnm:namesB c (2*N+c.inputs.length+i)=names
 have c1:=nameR_fn c hs hc ha (2*N+c.inputs.length+i) (by omega)
 rw[hn,hnm,<- hk]at c1
 refine callFz_of Tryz.func130 rfl Tryz.ntmps130 (rs:=[.tmp 4]) rfl (by kernel_rfl) (by simp) (by kernel_rfl) ?_
 simp[hy1,hlt]
 intro b5
 refine V.draw (fun t=>if t=18 then some (.fn (aI (firstC c))) else if t=21 then some (.fn (aI (nameE s.name names))) else none) (by kernel_rfl) (by kernel_rfl) (by simp) ?_
 have c2:=signals_fn c hs
 try simp at c1
 try simp at c2
 simp[c1,c2]
 refine⟨by omega,fun h1=>by simp[signalE,h1],fun h1=>⟨fun h2=>?_,fun h2 h3=>?_⟩⟩
 ·simp[signalE,h1]
  omega
 ·refine V.draw (fun t=>if t=36 then some (.fn (aI (countC c))) else if t=37 then some (.fn (aI (checkE s.on (countC c)))) else none) (by kernel_rfl) (by kernel_rfl) (by simp) ?_
  have c3:=lines_fn c hs
  have c4:=refCheckC_fn s.on hx.on (countC c)
  try simp at c3
  try simp at c4
  simp[c3,c4]
  have hk03:¬(s.kind<0∨s.kind>=3):=by omega
  refine⟨fun h4=>by simp[signalE,h1,h4];omega,fun h4=>?_⟩
  have e1:signalE c i s names=if s.kind=0 then gateE c i s else if s.kind=1 then memE c s else timE s:=by
   unfold signalE;rw[if_neg (by simp[h1]),if_neg hk03,if_neg (by simp[h4])]
  rw[e1]
  have c5:=late_fn c hs i s hi hx h4
  have c6:=zeroR_fn s.off
  obtain hk | hk | hk:s.kind=0∨s.kind=1∨s.kind=2:=by omega
  ·simp only[hk,if_true]
   refine V.draw (fun _=>none) (by kernel_rfl) (by kernel_rfl) (by simp) ?_
   simp
   refine GCall.fn (aB (lateC c i s.on)) (fun _=>⟨by first | trivial | assumption,c5⟩) ?_
   cases hl:lateC c i s.on
   ·simp
    refine GCall.fn (aB (zeroE s.off)) (fun _=>⟨by first | trivial | assumption,c6⟩) ?_
    simp
    cases hz:zeroE s.off<;>cases hin:s.init<;>simp[gateE,hl,hz,hin]
   ·simp[gateE,hl]
  ·simp only[hk]
   refine V.draw (fun _=>none) (by kernel_rfl) (by kernel_rfl) (by simp) ?_
   have c7:=refCheckC_fn s.off hx.off (countC c)
   simp
   refine V.draw (fun t=>if t=51 then some (.fn (aI (countC c))) else if t=52 then some (.fn (aI (checkE s.off (countC c)))) else none) (by kernel_rfl) (by kernel_rfl) (by simp) ?_
   simp[c3,c7]
   refine⟨fun h5=>by simp[memE,h5],fun h5=>?_⟩
   refine GCall.fn (aB false) (by simp) ?_
   simp
   refine GCall.fn (aB false) (by simp) ?_
   simp[memE,h5]
  ·simp only[hk]
   refine V.draw (fun _=>none) (by kernel_rfl) (by kernel_rfl) (by simp) ?_
   simp
   refine GCall.fn (aB false) (by simp) ?_
   simp
   refine⟨fun h5=>by simp[timE];omega,fun h5 h6=>?_⟩
   refine GCall.fn (aB (zeroE s.off)) (fun _=>⟨by first | trivial | assumption,c6⟩) ?_
   cases hz:zeroE s.off<;>cases hin:s.init<;>simp[timE,hz,hin]<;>omega
end Go.Proofs.YtafamcbdaeppoaaGreatDoor
