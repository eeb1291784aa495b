/- Texts joined by a program: Og,Oh,Oi,Oj,Oe,Ws,Ok. -/
import Derived.Test.YtpadinblmjlggaaGreatDoorW22
import Derived.Test.YtpadinblmjlggaaGreatDoorW27
import Derived.Test.YtpadinblmjlggaaGreatDoorW17
import Derived.Test.YtpadinblmjlggaaGreatDoorW16
import Derived.Test.YtpadinblmjlggaaGreatDoorW12
import Derived.Test.YtpadinblmjlggaaGreatDoorW14
import Derived.Test.YtpadinblmjlggaaGreatDoorW15
set_option linter.unusedSimpArgs false
set_option linter.unusedVariables false
set_option maxHeartbeats 8000000
set_option maxRecDepth 10000
namespace Go.Proofs.YtpadinblmjlggaaGreatDoor
abbrev encPg (y:Psg):List L:=[.int .i64 (y.part:Int),.int .i64 (y.to:Int),.sl (y.src.map encN),.bool y.all]
abbrev rPg (y:Psg):List A:=(encPg y).map A.dat
theorem rowsD_Pg (xs:List Psg):rowsD (xs.map rPg)=xs.map encPg:=by unfold rowsD;rw[List.map_map];rfl
theorem allD_Pg (xs:List Psg):allD (xs.map rPg)=true:=by simp[allD,isD]
attribute [simp] rowsD_Pg allD_Pg
theorem psgsN_succ (ps:List Prt) (nets:List (List PortZ)) (pos:List Int) (n:Nat):psgsN ps nets pos (n+1)=psgsN ps nets pos n++psgsI ps nets pos n:=by
 unfold psgsN
 rw[List.range_succ,List.flatMap_append]
 simp
theorem psgsN_len (ps:List Prt) (nets:List (List PortZ)) (pos:List Int):∀n,(psgsN ps nets pos n).length<=n
 | 0=>by simp[psgsN]
 | n+1=>by
  have h:=psgsN_len ps nets pos n
  have h2:=passK_len (kindOf ps n) (posN pos n)
  rw[psgsN_succ,List.length_append]
  unfold psgsI
  rw[List.length_map]
  omega
def PosOK (ps:List Prt) (pos:List Int):Prop:=pos.length=ps.length∧∀i,i<ps.length->0<=pos.getD i 0∧pos.getD i 0<manyK (kindOf ps i)
theorem presE_pos {c:Cir}{pos:List Int}(h:presE c pos=0):cirE c=0∧PosOK c.parts pos:=by
 unfold presE at h
 split at h
 ·rename_i h0;exact absurd h h0
 ·rename_i h0
  split at h
  ·cases h
  ·rename_i h1
   split at h
   ·rename_i h2
    refine⟨Classical.not_not.1 h0,Classical.not_not.1 h1,fun i hi=>?_⟩
    have:=List.all_eq_true.1 h2 i (List.mem_range.2 hi)
    unfold posOkB at this
    simpa using this
   ·cases h
theorem PosOK.at {ps:List Prt}{pos:List Int}(h:PosOK ps pos) {i:Nat}(hi:i<ps.length):pos[i]?=some (posN pos i:Int)∧posN pos i<manyK (kindOf ps i)∧posN pos i<2:=by
 obtain⟨h1,h2⟩:=h
 have h3:=h2 i hi
 have h4:pos[i]?=some pos[i]:=List.getElem?_eq_getElem (by omega)
 have h5:pos.getD i 0=pos[i]:=by rw[List.getD_eq_getElem?_getD,h4];rfl
 unfold posN
 rw[h5]at h3 ⊢
 refine⟨by rw[h4];congr 1;omega,by omega,?_⟩
 rcases many_two (kindOf ps i) with e | e<;>omega
abbrev pgE (g:Value) (l:List Psg):Nat×Ent:=(71,.seq g 187 4 (l.map rPg))
theorem passages_s {s:PuS}(h:s.OK) {pos:List Int}(hp:PosOK s.ps pos) :
  CallS Tryz.prog 113 [.ptr 170 s.b 0,aIs pos] s.hp fun r H'=>r=.dat (.sl ((psgsN s.ps s.ns pos s.ps.length).map encPg))∧H'=s.hp:=by
 have hfew:=h.few
 have hpl:=hp.1
 refine CallS.frzTop (τ:=71) (e:=187) (sz:=4) (rows:=(psgsN s.ps s.ns pos s.ps.length).map rPg) (allD_Pg _) (rowsD_Pg _) (callS_of Tryz.func113 rfl Tryz.ntmps113 (rs:=[.tmp 4]) rfl (by kernel_rfl) (by simp) (by kernel_rfl) ?_)
 simp
 refine V.forI (σ:=Value) s.ps.length [0,1,4,19,20] (by simp;exact rfl) (fun i g=>[(5,.own 71 g),(21,aI i)]) (fun i g=>pgE g (psgsN s.ps s.ns pos i)::s.hp) (fun _ _=>True) (.slice none 0 0) trivial (by simp) ⟨by simp;exact rfl,by simp[psgsN]⟩ ?_ ?_
 ·rintro i g hi -
  obtain⟨p,hpp⟩:∃p,s.ps[i]=p:=⟨_,rfl⟩
  have hpo:s.ps[i]?=some p:=by rw[List.getElem?_eq_getElem hi,hpp]
  obtain⟨q1,q2,q3⟩:=hp.at hi
  obtain⟨hil,q4⟩:=List.getElem?_eq_some_iff.1 q1
  have hk:=kindOf_at hpo
  have hkn:=h.kinds p (List.mem_of_getElem? hpo)
  have hpk:=Passes_k p.kind.toNat (by omega) (posN pos i) (by rw[<- hk];exact q2)
  rw[show ((p.kind.toNat:Nat):Int)=p.kind from by omega]at hpk
  have hsrc:∀y∈passK p.kind.toNat (posN pos i),y.src.length<=2∧((i:Int),y.to)∈allP s.ps∧∀t∈y.src,((i:Int),t)∈allP s.ps:=fun y hy=>by
   rw[<- hk]at hy
   have hk14:=(pass_to hy).2.2.2.2.2
   exact⟨passK_srcl _ _ y hy,port_of hi (pass_port _ hk14 _ q3 y hy),fun t ht=>port_of hi (passK_src hk14 q3 hy ht)⟩
  have hpi:psgsI s.ps s.ns pos i=(passK p.kind.toNat (posN pos i)).map fun y=>⟨i,netW s.ns ((i:Int),y.to),y.src.map fun t=>netW s.ns ((i:Int),t),y.all⟩:=by
   unfold psgsI
   rw[hk]
  have hpl1:=passK_len p.kind.toNat (posN pos i)
  have hnl:=psgsN_len s.ps s.ns pos i
  rw[psgsN_succ,hpi]
  generalize psgsN s.ps s.ns pos i=W at *
  generalize passK p.kind.toNat (posN pos i)=Y at *
  have hFl:(Y.map fun y=>(⟨i,netW s.ns ((i:Int),y.to),y.src.map fun t=>netW s.ns ((i:Int),t),y.all⟩:Psg)).length=Y.length:=List.length_map _
  have hFj:∀(j:Nat) (y:PassP),Y[j]?=some y->(Y.map fun y=>(⟨i,netW s.ns ((i:Int),y.to),y.src.map fun t=>netW s.ns ((i:Int),t),y.all⟩:Psg))[j]?=some (⟨i,netW s.ns ((i:Int),y.to),y.src.map fun t=>netW s.ns ((i:Int),t),y.all⟩:Psg):=fun j y h=>by rw[List.getElem?_map,h];rfl
  generalize (Y.map fun y=>(⟨i,netW s.ns ((i:Int),y.to),y.src.map fun t=>netW s.ns ((i:Int),t),y.all⟩:Psg))=F at *
  simp[hi,hpp,hpo]
  intro b7
  refine V.drawX (fun t=>if t=33 then some (.fn (.tuple [.dat (.sl (Y.map encPs')),aI 0])) else none) (by kernel_rfl) (by kernel_rfl) (by simp) ?_
  simp[hil,q1,q4]
  refine⟨hpk,?_⟩
  simp
  refine V.forV (σ:=Value) Y.length [0,1,4,6,7,19,20,21,36,37] (by simp;exact rfl) (fun j g=>[(5,.own 71 g),(38,aI j)]) (fun j g=>pgE g (W++F.take j)::(7,.box b7 ((encPa p).map A.dat))::s.hp) (fun _ _=>True) g trivial (by simp) ⟨by simp;exact rfl,by simp⟩ ?_ ?_
  ·rintro j g hj -
   obtain⟨y,hy⟩:∃y,Y[j]=y:=⟨_,rfl⟩
   have hyo:Y[j]?=some y:=by rw[List.getElem?_eq_getElem hj,hy]
   obtain⟨y1,y2,y3⟩:=hsrc y (List.mem_of_getElem? hyo)
   have hnet:=puNet_s h y2
   have hnt:=fun t ht=>puNet_s h (y3 t ht)
   rw[List.take_add_one,hFj j y hyo]
   have hUl:(W++F.take j).length<=100:=by rw[List.length_append,List.length_take];omega
   rw[<- List.append_assoc]
   generalize W++F.take j=U at *
   obtain⟨N,hN⟩:∃N,netW s.ns ((i:Int),y.to)=N:=⟨_,rfl⟩
   rw[hN]at hnet ⊢
   refine V.seqV (V.of_vc ?_)
   simp[hj]
   refine V.seqV (V.condV ?_)
   simp
   refine V.of_vc ?_
   simp
   refine V.seqV (V.blockV (V.of_vcN 3 ?_))
   simp[hj,hy,hyo]
   intro b11
   refine V.drawX (fun t=>if t=47 then some (.ro (aI N)) else none) (by kernel_rfl) (by kernel_rfl) (by simp) ?_
   simp
   refine⟨hnet,?_⟩
   simp
   intro b12
   refine⟨by kernel_rfl,?_⟩
   refine V.inv (H':=(90,.seq (.slice none 0 0) 3 1 [])::(12,.box b12 [aI i,aI N,.own 90 (.slice none 0 0),aB y.all])::(11,.box b11 [aT y.to,aTs y.src,aB y.all])::pgE g U::(7,.box b7 ((encPa p).map A.dat))::s.hp) (fun x H0 hi=>?_) ?_
   ·have h1:=Inv.swap (g:=12) (e:=.box b12 [aI i,aI N,.nils,aB y.all]) (e':=.box b12 [aI i,aI N,.own 90 (.slice none 0 0),aB y.all]) rfl (box_sat (Ds_c D_i (Ds_c D_i (Ds_c D_nilo (Ds_c D_i Ds_i))))) (fun b hb=>hb) hi
    exact Inv.nil h1 ⟨rfl,rfl⟩
   have hZl:(y.src.map fun t=>netW s.ns ((i:Int),t)).length=y.src.length:=List.length_map _
   have hZj:∀(n:Nat) (t:List UInt8),y.src[n]?=some t->(y.src.map fun t=>netW s.ns ((i:Int),t))[n]?=some (netW s.ns ((i:Int),t)):=fun n t h=>by rw[List.getElem?_map,h];rfl
   generalize (y.src.map fun t=>netW s.ns ((i:Int),t))=Z at *
   refine V.forI (σ:=Value) y.src.length [0,1,4,5,6,7,11,12,19,20,21,36,37,38,52,53] (by simp;exact rfl) (fun n _=>[(54,aI n)]) (fun n v=>(90,.seq v 3 1 ((Z.take n).map rN))::(12,.box b12 [aI i,aI N,.own 90 v,aB y.all])::(11,.box b11 [aT y.to,aTs y.src,aB y.all])::pgE g U::(7,.box b7 ((encPa p).map A.dat))::s.hp) (fun _ _=>True) (.slice none 0 0) trivial (by simp) ⟨by simp;exact rfl,by simp⟩ ?_ ?_
   ·rintro n v hn -
    obtain⟨t,ht⟩:∃t,y.src[n]=t:=⟨_,rfl⟩
    have hto:y.src[n]?=some t:=by rw[List.getElem?_eq_getElem hn,ht]
    have hnt:=hnt t (List.mem_of_getElem? hto)
    have hzn:=hZj n t hto
    obtain⟨M,hM⟩:∃M,netW s.ns ((i:Int),t)=M:=⟨_,rfl⟩
    rw[hM]at hnt hzn
    rw[List.take_add_one,hzn]
    have hZ:(Z.take n).length<=2:=by rw[List.length_take];omega
    generalize Z.take n=Y2 at *
    simp[hn,ht,hto]
    refine V.drawX (fun t=>if t=63 then some (.ro (aI M)) else none) (by kernel_rfl) (by kernel_rfl) (by simp) ?_
    simp
    refine⟨hnt,?_⟩
    simp
    exact⟨by omega,by kernel_rfl,by omega,by omega⟩
   ·rintro v -
    rw[List.take_of_length_le (by omega:Z.length<=y.src.length)]
    simp
    refine V.ofG ?_
    refine Gh.frzBox (g:=12) (τ:=90) (j:=2) (t:=90) rfl rfl (by simp[allD,isD]) rfl ?_
    refine Gh.here ?_
    refine V.of_vc ?_
    simp
    intro u
    refine⟨by omega,V.of_vc ?_⟩
    simp
    refine⟨⟨by omega,by omega⟩,Gh.here ?_⟩
    simp
  ·rintro g -
   simp
   exact⟨⟨by omega,by omega⟩,List.take_of_length_le (by rw[List.length_map];omega)⟩
 ·rintro g -
  simp
  exact subP.refl _
abbrev zN' (l:List Nat):List Int:=l.map fun n:Nat=>(n:Int)
theorem aIs_zN (l:List Nat):aIs (zN' l)=aNs l:=by
 unfold aIs aNs
 rw[List.map_map]
 rfl
theorem any_zN (l:List Nat) (p:Int->Bool):(zN' l).any p=l.any fun n=>p (n:Int):=by rw[List.any_map];rfl
theorem containsM_s (xs:List Int) (p:Int->Bool) (f:FuncId) (first caps:List A) (H:Heap) (hx:Sh xs) (hp:∀n∈xs,CallS Tryz.prog f (first++[aI n]++caps) H fun r H'=>r=aB (p n)∧H'=H) :
  CallS Tryz.prog 47 [aIs xs,.fn f first caps] H fun r H'=>r=aB (xs.any p)∧H'=H:=by
 have h:=idxM_s xs p f first caps H hx hp
 refine CallS.dropP (callS_of Tryz.func47 rfl Tryz.ntmps47 (rs:=[.tmp 4]) rfl (by kernel_rfl) (by simp) (by kernel_rfl) (K:=fun r H'=>r=aB (xs.any p)∧subP H H') ?_) (fun _ _ ⟨h1,h2⟩=>⟨_,h2,h1,rfl⟩)
 simp
 refine h.mono ?_
 rintro r H' ⟨rfl,rfl⟩
 simp
 refine⟨?_,subP.refl _⟩
 rw[idxI_ge,List.findIdx?_isSome]
theorem getD_at {st:List Int}{n:Nat}(h:n<st.length):st[n]?=some (st.getD n 0)∧st[n]=st.getD n 0:=by
 rw[List.getD_eq_getElem?_getD,List.getElem?_eq_getElem h]
 exact⟨rfl,rfl⟩
theorem flows1_fn (st:List Int) (n:Nat) (hn:n<st.length) (hl:st.length<=1000):CallFn Tryz.prog 176 [aI n,.rptr [.sl (st.map encI)]] (aB (st.getD n 0==2)):=by
 obtain⟨h1,h2⟩:=getD_at hn
 generalize st.getD n 0=z at *
 refine callFz_of Tryz.func176 rfl Tryz.ntmps176 (rs:=[.tmp 3]) rfl (by kernel_rfl) (by simp) (by kernel_rfl) ?_
 simp[hn,h1,h2]
theorem flows2_s (st:List Int) (n:Nat) (hn:n<st.length) (hl:st.length<=1000) (b5:Nat) :
  CallS Tryz.prog 177 [aI n,.ptr 5 b5 0] [(5,.box b5 [.fn 176 [] [.rptr [.sl (st.map encI)]]])] fun r H'=>r=aB (!(st.getD n 0==2))∧H'=[(5,.box b5 [.fn 176 [] [.rptr [.sl (st.map encI)]]])]:=by
 have h:=flows1_fn st n hn hl
 generalize (st.getD n 0==2)=z at *
 refine callS_of Tryz.func177 rfl Tryz.ntmps177 (rs:=[.tmp 3]) rfl (by kernel_rfl) (by simp) (by kernel_rfl) ?_
 simp
 refine h.s ?_
 simp
theorem flows_fn (st:List Int) (y:Psg) (hl:st.length<=1000) (hy:∀n∈y.src,n<st.length) (hs:y.src.length<=2):CallFn Tryz.prog 117 [aIs st,.record (encPg y)] (aB (flowsZ st y)):=by
 have hc:=fun b5=>containsM_s (zN' y.src) (fun n=>!(st.getD n.toNat 0==2)) 177 [] [.ptr 5 b5 0] [(5,.box b5 [.fn 176 [] [.rptr [.sl (st.map encI)]]])] (by unfold Sh;simp;omega) (fun n hn=>by
  obtain⟨v,hv,rfl⟩:=List.mem_map.1 hn
  exact flows2_s st v (hy v hv) hl b5)
 have hd:=containsF_fn (zN' y.src) (fun n=>st.getD n.toNat 0==2) 176 [] [.rptr [.sl (st.map encI)]] (by unfold Sh;simp;omega) (fun n hn=>by
  obtain⟨v,hv,rfl⟩:=List.mem_map.1 hn
  exact flows1_fn st v (hy v hv) hl)
 rw[aIs_zN,any_zN]at hd
 have hc:=fun b5=>by
  have:=hc b5
  rw[aIs_zN,any_zN]at this
  exact this
 simp only[Int.toNat_natCast]at hc hd
 have hf:flowsZ st y=if y.all=true then !(y.src.any fun n=>!(st.getD n 0==2)) else y.src.any fun n=>st.getD n 0==2:=by
  unfold flowsZ
  split
  ·rw[List.all_eq_not_any_not]
  ·rfl
 rw[hf]
 generalize (y.src.any fun n=>!(st.getD n 0==2))=u at *
 generalize (y.src.any fun n=>st.getD n 0==2)=w at *
 refine callFz_of Tryz.func117 rfl Tryz.ntmps117 (rs:=[.tmp 4]) rfl (by kernel_rfl) (by simp) (by kernel_rfl) ?_
 simp
 intro b5
 refine⟨fun ha=>?_,fun ha=>?_⟩
 ·rw[if_pos ha]
  refine (hc b5).mono ?_
  rintro r H' ⟨rfl,rfl⟩
  simp
 ·rw[if_neg (by simp[ha])]
  refine hd.s ?_
  simp
abbrev clH (g:Value) (b:Nat) (st:List Int):Heap:=[(18,.seq g 3 1 (st.map rI)),(5,.box b [.own 18 g])]
theorem states1_s (st:List Int) (y:Psg) (hl:st.length<=1000) (hy:∀n∈y.src,n<st.length) (hs:y.src.length<=2) (g:Value) (b:Nat) :
  CallS Tryz.prog 116 [.record (encPg y),.ptr 5 b 0] (clH g b st) fun r H'=>r=aB (flowsZ st y)∧H'=clH g b st:=by
 have h:=flows_fn st y hl hy hs
 generalize flowsZ st y=z at *
 refine CallS.dropP (callS_of Tryz.func116 rfl Tryz.ntmps116 (rs:=[.tmp 3]) rfl (by kernel_rfl) (by simp) (by kernel_rfl) (K:=fun r H'=>r=aB z∧subP (clH g b st) H') ?_) (fun _ _ ⟨h1,h2⟩=>⟨_,h2,h1,rfl⟩)
 simp
 refine h.lend (by simp[frzs,frz,hget,hdel]) rfl ?_
 simp
 exact subP.refl _
theorem states21_s (st:List Int) (n:Nat) (hn:n<st.length) (hl:st.length<=1000) (g:Value) (b:Nat) :
  CallS Tryz.prog 120 [aI n,.ptr 5 b 0] (clH g b st) fun r H'=>r=aB (st.getD n 0==1)∧H'=clH g b st:=by
 obtain⟨h1,h2⟩:=getD_at hn
 generalize st.getD n 0=z at *
 refine callS_of Tryz.func120 rfl Tryz.ntmps120 (rs:=[.tmp 3]) rfl (by kernel_rfl) (by simp) (by kernel_rfl) ?_
 simp[hn,h1,h2]
theorem states2_s (st:List Int) (y:Psg) (hl:st.length<=1000) (hy:∀n∈y.src,n<st.length) (hs:y.src.length<=2) (g:Value) (b:Nat) :
  CallS Tryz.prog 119 [.record (encPg y),.ptr 5 b 0] (clH g b st) fun r H'=>r=aB (airZ st y)∧H'=clH g b st:=by
 have hc:=containsM_s (zN' y.src) (fun n=>st.getD n.toNat 0==1) 120 [] [.ptr 5 b 0] (clH g b st) (by unfold Sh;simp;omega) (fun n hn=>by
  obtain⟨v,hv,rfl⟩:=List.mem_map.1 hn
  exact states21_s st v (hy v hv) hl g b)
 rw[aIs_zN,any_zN]at hc
 simp only[Int.toNat_natCast]at hc
 have hf:airZ st y=y.src.any fun n=>st.getD n 0==1:=rfl
 rw[hf]
 generalize (y.src.any fun n=>st.getD n 0==1)=z at *
 refine CallS.dropP (callS_of Tryz.func119 rfl Tryz.ntmps119 (rs:=[.tmp 3]) rfl (by kernel_rfl) (by simp) (by kernel_rfl) (K:=fun r H'=>r=aB z∧subP (clH g b st) H') ?_) (fun _ _ ⟨h1,h2⟩=>⟨_,h2,h1,rfl⟩)
 simp
 refine hc.mono ?_
 rintro r H' ⟨rfl,rfl⟩
 simp
 exact subP.refl _
theorem closed_s (v:Int) (hv:v≠0) (tk:List Int->Psg->Bool) (f:FuncId) (l:List Psg) (N:Nat) (hl:l.length<=1000) (hN:N<=1000) (hto:∀y∈l,y.to<N) (g:Value) (b:Nat)
  (hc:∀st y,y∈l->st.length=N->CallS Tryz.prog f [.record (encPg y),.ptr 5 b 0] (clH g b st) fun r H'=>r=aB (tk st y)∧H'=clH g b st) (st0:List Int) (h0:st0.length=N) :
  CallS Tryz.prog 115 [.own 18 g,.dat (.sl (l.map encPg)),aI v,.fn f [] [.ptr 5 b 0]] (clH g b st0) fun r H'=>r=.tuple []∧H'=clH g b (closeZ v tk l (N+1) st0):=by
 generalize hR:closeZ v tk l (N+1) st0=R
 refine CallS.dropP (callS_of Tryz.func115 rfl Tryz.ntmps115 (rs:=[]) rfl (by kernel_rfl) (by simp) (by kernel_rfl) (K:=fun r H'=>r=.tuple []∧subP (clH g b R) H') ?_) (fun _ _ ⟨h1,h2⟩=>⟨_,h2,h1,rfl⟩)
 simp
 refine V.for' (ι:=List Int×Bool×Nat) [0,1,2,3] (fun q=>[(8,aB q.2.1)]) (fun q=>clH g b q.1) (fun q=>q.1.length=N∧if q.2.1=true then zeros q.1<q.2.2∧closeZ v tk l q.2.2 q.1=R else q.1=R) (fun q=>if q.2.1=true then zeros q.1+1 else 0) (st0,true,N+1) ⟨⟨h0,?_⟩,by simp,subP.refl _⟩ ?_
 ·have:=zeros_le st0
  exact⟨by simp only;omega,hR⟩
 ·rintro⟨st,m,n⟩ ⟨h1,h2⟩
  simp only at h1 h2
  cases m with
  | false=>
   simp only[Bool.false_eq_true,if_false]at h2
   subst h2
   simp
   exact subP.refl _
  | true=>
   simp only[if_true]at h2
   obtain⟨h2,h3⟩:=h2
   obtain⟨n,rfl⟩:∃k,n=k+1:=⟨n-1,by omega⟩
   obtain⟨s1,s2⟩:=sweep_zeros hv (tk:=tk) hto h1
   unfold closeZ at h3
   simp
   refine V.forI (σ:=List Int×Bool) l.length [0,1,2,3,12,13] (by simp;exact rfl) (fun j q=>[(8,aB q.2),(14,aI j)]) (fun _ q=>clH g b q.1) (fun j q=>q.1.length=N∧q=(l.take j).foldl (swStep v tk) (st,false)) (st,false) ⟨h1,rfl⟩ (by simp) ⟨by simp;exact rfl,by simp⟩ ?_ ?_
   ·rintro j ⟨s,m⟩ hj ⟨k1,k2⟩
    simp only at k1
    obtain⟨y,hy⟩:∃y,l[j]=y:=⟨_,rfl⟩
    have hyo:l[j]?=some y:=by rw[List.getElem?_eq_getElem hj,hy]
    have hym:=List.mem_of_getElem? hyo
    have hyt:=hto y hym
    have hcs:=hc s y hym k1
    have hst:(l.take (j+1)).foldl (swStep v tk) (st,false)=swStep v tk (s,m) y:=by
     rw[List.take_add_one,hyo,List.foldl_append,<- k2]
     rfl
    rw[hst]
    unfold swStep
    simp only
    have hys:y.to<s.length:=by omega
    obtain⟨e1,e2⟩:=getD_at hys
    generalize s.getD y.to 0=z at *
    simp[hj,hy,hyo]
    intro b10
    simp[hys,e1,e2]
    by_cases hz:z=0
    ·refine GCall.sure ⟨hz,hcs.c1.mono ?_⟩ hz
     rintro r H' ⟨_,⟨rfl,rfl⟩,rfl⟩
     cases htk:tk s y
     ·simp[hz]
      refine⟨⟨by omega,by omega⟩,s,?_⟩
      cases m
      ·exact .inl ⟨⟨k1,rfl,rfl⟩,rfl,rfl⟩
      ·exact .inr ⟨⟨k1,rfl,rfl⟩,rfl,rfl⟩
     ·simp[hz,hys,e1,e2]
      exact⟨⟨by omega,by omega⟩,s.set y.to v,⟨by rw[List.length_set];exact k1,rfl⟩,by rw[List.map_set]⟩
    ·refine GCall.never hz (aB false) ?_
     simp[hz]
     refine⟨⟨by omega,by omega⟩,s,?_⟩
     cases m
     ·exact .inl ⟨⟨k1,rfl,rfl⟩,rfl,rfl⟩
     ·exact .inr ⟨⟨k1,rfl,rfl⟩,rfl,rfl⟩
   ·rintro⟨s,m⟩ ⟨k1,k2⟩
    rw[List.take_length]at k2
    have hq:sweep v tk l st=(s,m):=k2.symm
    rw[hq]at h3 s1 s2
    simp
    cases m with
    | false=>
     simp only[Bool.false_eq_true,if_false]at h3
     exact⟨s,.inl ⟨⟨k1,h3⟩,rfl,subP.refl _⟩⟩
    | true=>
     simp only[if_true]at h3 s2
     exact⟨s,.inr ⟨⟨k1,n,by omega,h3⟩,by omega,rfl,subP.refl _⟩⟩
theorem portT_eq (k:Nat) (hk:k<14):portT k=portsK k:=by
 have h1:(portT k).Pairwise fun a b=>decide (a<=b)=true:=by
  unfold portT sortT
  refine List.pairwise_mergeSort ?_ ?_ _
  ·intro a b c h1 h2
   simp only[decide_eq_true_eq]at *
   exact List.le_trans h1 h2
  ·intro a b
   simp only[Bool.or_eq_true,decide_eq_true_eq]
   exact List.le_total a b
 have h2:(portT k).Perm (portsK k):=(List.mergeSort_perm _ _).trans (portsK_perm k hk)
 refine sorted_same (fun a b _ _ h3 h4=>?_) h1 (portsK_le k hk) h2
 simp only[decide_eq_true_eq]at h3 h4
 exact List.le_antisymm h3 h4
theorem open_fn (p:Prt) (hk:0<=p.kind∧p.kind<14) (n:Nat) (hn:n<manyK p.kind.toNat):CallFn Tryz.prog 118 [.record (encPa p),aI n] (aTs (openK p.kind.toNat n)):=by
 obtain⟨k,nm,d⟩:=p
 simp only at hk hn ⊢
 obtain⟨m,rfl⟩:∃m:Nat,k=m:=⟨k.toNat,by omega⟩
 simp only[Int.toNat_natCast]at hn ⊢
 have hv:=Vents_k m (by omega) n hn
 have hp:=Ports_fn m (by omega)
 rw[portT_eq m (by omega)]at hp
 have hr:=fun t=>Role_k m (by omega) t
 have hvl:(vntK m n).length<=1:=by
  unfold vntK
  repeat' split
  all_goals simp
 have hpl:=portsK_len m
 unfold openK exhK
 generalize vntK m n=W at *
 generalize portsK m=F at *
 refine callFz_of Tryz.func118 rfl Tryz.ntmps118 (rs:=[.tmp 4]) rfl (by kernel_rfl) (by simp) (by kernel_rfl) ?_
 simp
 refine hv.s ?_
 simp
 refine hp.s ?_
 simp
 refine V.forV (σ:=Unit) F.length [2,4,26,27] (by simp;exact rfl) (fun i _=>[(5,aTs (W++(F.take i).filter fun t=>roleK m t==some 2)),(28,aI i)]) (fun _ _=>[]) (fun _ _=>True) () trivial (by simp) ⟨by simp;exact rfl,by simp⟩ ?_ ?_
 ·rintro i-hi -
  obtain⟨t,ht⟩:∃t,F[i]=t:=⟨_,rfl⟩
  have hto:F[i]?=some t:=by rw[List.getElem?_eq_getElem hi,ht]
  have hrt:=hr t
  have hfl:((F.take i).filter fun t=>roleK m t==some 2).length<=7:=Nat.le_trans (List.length_filter_le _ _) (by rw[List.length_take];omega)
  have hnx:(F.take (i+1)).filter (fun t=>roleK m t==some 2)=(F.take i).filter (fun t=>roleK m t==some 2)++if roleK m t=some 2 then [t] else []:=by
   rw[List.take_add_one,hto,List.filter_append]
   congr 1
   by_cases e:roleK m t=some 2<;>simp[e]
  rw[hnx]
  generalize (F.take i).filter (fun t=>roleK m t==some 2)=U at *
  refine V.seqV (V.of_vc ?_)
  simp[hi]
  refine V.seqV (V.condV ?_)
  simp
  refine V.of_vc ?_
  simp
  refine V.seqV (V.blockV (V.of_vcN 2 ?_))
  simp[hi,ht,hto]
  refine hrt.s ?_
  simp
  refine V.seqV (V.of_vc ?_)
  simp
  refine V.condV ?_
  simp
  refine⟨fun h1=>?_,fun h1=>?_⟩
  ·have e:roleK m t=some 2:=by
    cases hrr:roleK m t with
    | none=>rw[hrr]at h1;simp at h1
    | some q=>rw[hrr]at h1;simp only[Option.getD_some]at h1;congr 1;omega
   have htk:List.take (W.length+U.length) (List.map encT W++List.map encT U)=(W++U).map encT:=by
    rw[<- List.map_append]
    exact List.take_of_length_le (by simp)
   rw[if_pos e]
   refine V.regF (fun t=>if t=46∨t=49 then some .clip else none) [] ?_
   simp
   rw[show ((W.length:Int)+(U.length:Int)).toNat=W.length+U.length by omega,htk]
   refine⟨by omega,⟨of_eq_true (rl_map (f:=encT) (n:=1) (fun _=>rfl) _),by omega⟩,?_⟩
   refine V.of_vc ?_
   simp
   refine⟨⟨by omega,by omega⟩,Gh.here ?_⟩
   have e2:A.dat (L.sl (List.map encT W++(List.map encT U++[[L.str t]])))=aTs (W++(U++[t])):=by simp[aTs,encT]
   simp[e2]
  ·have e:¬roleK m t=some 2:=by
    intro e
    rw[e]at h1
    simp at h1
   rw[if_neg e]
   refine V.of_vc ?_
   simp
   refine V.of_vc ?_
   simp
   refine⟨⟨by omega,by omega⟩,Gh.here ?_⟩
   simp
 ·rintro - -
  simp
abbrev stE (b b5:Nat) (pos:List Int) (pg:List Psg):List (Nat×A):=[(0,.ptr 170 b 0),(1,aIs pos),(4,.nils),(5,.ptr 5 b5 0),(6,.dat (.sl (pg.map encPg)))]
abbrev stK (s:PuS) (pos:List Int) (r:A) (H':Heap):Prop:=∃g,r=.own 18 g∧subP ((18,.seq g 3 1 ((statesZ s.ps s.ns pos).map rI))::s.hp) H'
structure PuS.Of (s:PuS) (c:Cir) (pos:List Int):Prop where
 ok:s.OK
 right:CirR c
 ps:s.ps=c.parts
 ns:s.ns=netsZ c
 pos:PosOK s.ps pos
theorem PuS.Of.two {s:PuS}{c:Cir}{pos:List Int}(h:s.Of c pos):∀i,i<c.parts.length->posN pos i<2:=fun i hi=>(h.pos.at (by rw[h.ps];exact hi)).2.2
theorem PuS.Of.psg {s:PuS}{c:Cir}{pos:List Int}(h:s.Of c pos):(psgsN s.ps s.ns pos s.ps.length).length<=64∧∀y∈psgsN s.ps s.ns pos s.ps.length,y.to<s.ns.length∧(∀n∈y.src,n<s.ns.length)∧y.src.length<=2:=by
 refine⟨Nat.le_trans (psgsN_len _ _ _ _) h.ok.few,fun y hy=>?_⟩
 have h1:=psgs_lt h.right h.two y (by rw[<- h.ps,<- h.ns];exact hy)
 rw[h.ns]
 refine⟨h1.1,h1.2,?_⟩
 obtain⟨i,z,hi,hz,rfl⟩:=mem_psgs.1 hy
 simp only[List.length_map]
 exact passK_srcl _ _ z hz
theorem open_port:∀k,k<14->∀n,n<2->∀t∈openK k n,t∈portsK k:=by decide
theorem openK_len:∀k,k<14->∀n,n<2->(openK k n).length<=8:=by decide
theorem opN_succ (ps:List Prt) (nets:List (List PortZ)) (pos st:List Int) (n:Nat):opN ps nets pos st (n+1)=(openK (kindOf ps n) (posN pos n)).foldl (opStep nets n) (opN ps nets pos st n):=by
 unfold opN
 rw[List.range_succ,List.foldl_append,List.foldl_cons,List.foldl_nil]
theorem states_d {s:PuS}{c:Cir}{pos:List Int}(h:s.Of c pos) (b5:Nat) (g:Value) (st:List Int) (hst:st.length=s.ns.length) (hS:statesZ s.ps s.ns pos=closeZ 1 airZ (psgsN s.ps s.ns pos s.ps.length) (s.ns.length+1) (opN s.ps s.ns pos st s.ps.length)) :
  V ⟨Tryz.prog,none,87⟩ (restC Tryz.f75 5) (hdE (stE s.b b5 pos (psgsN s.ps s.ns pos s.ps.length)) []) (clH g b5 st++s.hp) (RetV Tryz.prog [.tmp 4] (stK s pos)):=by
 obtain⟨p1,p2⟩:=h.psg
 have hfew:=h.ok.few
 have hnl:=h.ok.nets
 have hpl:=h.pos.1
 have hcl:=fun st0 h0=>closed_s 1 (by decide) airZ 119 (psgsN s.ps s.ns pos s.ps.length) s.ns.length (by omega) (by omega) (fun y hy=>(p2 y hy).1) g b5 (fun st y hy hl=>states2_s st y (by omega) (by rw[hl];exact (p2 y hy).2.1) (p2 y hy).2.2 g b5) st0 h0
 unfold stK
 rw[hS]
 generalize psgsN s.ps s.ns pos s.ps.length=PG at *
 refine V.rest rfl ?_
 refine V.of_vcN 1 ?_
 simp
 refine V.forI (σ:=Unit) s.ps.length [0,1,4,5,6,50,51] (by simp;exact rfl) (fun i _=>[(52,aI i)]) (fun i _=>clH g b5 (opN s.ps s.ns pos st i)++s.hp) (fun _ _=>True) () trivial (by simp) ⟨by simp;exact rfl,by simp[opN]⟩ ?_ ?_
 ·rintro i-hi -
  obtain⟨p,hpp⟩:∃p,s.ps[i]=p:=⟨_,rfl⟩
  have hpo:s.ps[i]?=some p:=by rw[List.getElem?_eq_getElem hi,hpp]
  obtain⟨q1,q2,q3⟩:=h.pos.at hi
  obtain⟨hil,q4⟩:=List.getElem?_eq_some_iff.1 q1
  have hk:=kindOf_at hpo
  have hkn:=h.ok.kinds p (List.mem_of_getElem? hpo)
  have hop:=open_fn p hkn (posN pos i) (by rw[<- hk];exact q2)
  have hpt:∀t∈openK p.kind.toNat (posN pos i),((i:Int),t)∈allP s.ps:=fun t ht=>port_of hi (by rw[hk];exact open_port _ (by omega) _ q3 t ht)
  have hol:=openK_len p.kind.toNat (by omega) (posN pos i) q3
  have hll:=opN_len s.ps s.ns pos st i
  rw[opN_succ,hk]
  generalize opN s.ps s.ns pos st i=st1 at *
  generalize openK p.kind.toNat (posN pos i)=O at *
  simp[hi,hpp,hpo]
  intro b10
  refine V.drawX (fun t=>if t=62 then some (.fn (aTs O)) else none) (by kernel_rfl) (by kernel_rfl) (by simp) ?_
  simp[hil,q1,q4]
  refine⟨hop,?_⟩
  simp
  refine V.forI (σ:=Unit) O.length [0,1,4,5,6,9,50,51,52,62,63] (by simp;exact rfl) (fun j _=>[(64,aI j)]) (fun j _=>(10,.box b10 ((encPa p).map A.dat))::(clH g b5 ((O.take j).foldl (opStep s.ns i) st1)++s.hp)) (fun _ _=>True) () trivial (by simp) ⟨by simp;exact rfl,by simp⟩ ?_ ?_
  ·rintro j-hj -
   obtain⟨t,ht⟩:∃t,O[j]=t:=⟨_,rfl⟩
   have hto:O[j]?=some t:=by rw[List.getElem?_eq_getElem hj,ht]
   have hnt:=hpt t (List.mem_of_getElem? hto)
   have hnet:=puNet_s h.ok hnt
   have hlt:=(h.ok.of _ hnt).2
   have hl2:=op_len s.ns i (O.take j) st1
   have hnx:(O.take (j+1)).foldl (opStep s.ns i) st1=opStep s.ns i ((O.take j).foldl (opStep s.ns i) st1) t:=by
    rw[List.take_add_one,hto,List.foldl_append]
    rfl
   rw[hnx]
   generalize (O.take j).foldl (opStep s.ns i) st1=u at *
   rw[show opStep s.ns i u t=if u.getD (netW s.ns ((i:Int),t)) 0=0 then u.set (netW s.ns ((i:Int),t)) 1 else u from rfl]
   generalize netW s.ns ((i:Int),t)=w at *
   have hwu:w<u.length:=by omega
   obtain⟨e1,e2⟩:=getD_at hwu
   generalize u.getD w 0=z at *
   simp[hj,ht,hto]
   refine (hnet.mid [(10,_),(18,_),(5,_)] []).mono ?_
   rintro r H' ⟨rfl,rfl⟩
   simp[hwu,e1,e2]
   exact⟨fun hz=>⟨⟨by omega,by omega⟩,by rw[if_pos hz,List.map_set]⟩,fun hz=>⟨⟨by omega,by omega⟩,by rw[if_neg hz]⟩⟩
  ·rintro - -
   rw[List.take_length]
   simp
   omega
 ·rintro - -
  simp
  refine V.of_vc ?_
  simp
  refine ((hcl (opN s.ps s.ns pos st s.ps.length) (by rw[opN_len,hst])).frame (H1:=s.hp)).mono ?_
  rintro r H' ⟨_,⟨rfl,rfl⟩,rfl⟩
  simp
  exact⟨_,List.Sublist.cons_cons _ (List.Sublist.cons _ (List.Sublist.refl _)),List.Perm.refl _⟩
theorem states_s {s:PuS}{c:Cir}{pos:List Int}(h:s.Of c pos) :
  CallS Tryz.prog 75 [.ptr 170 s.b 0,aIs pos] s.hp fun r H'=>∃g,r=.own 18 g∧H'=(18,.seq g 3 1 ((statesZ s.ps s.ns pos).map rI))::s.hp:=by
 obtain⟨p1,p2⟩:=h.psg
 have hfew:=h.ok.few
 have hnl:=h.ok.nets
 have hpl:=h.pos.1
 have hpas:=passages_s h.ok h.pos
 have hcl:=fun g b5=>closed_s 2 (by decide) flowsZ 116 (psgsN s.ps s.ns pos s.ps.length) s.ns.length (by omega) (by omega) (fun y hy=>(p2 y hy).1) g b5 (fun st y hy hl=>states1_s st y (by omega) (by rw[hl];exact (p2 y hy).2.1) (p2 y hy).2.2 g b5) (supN s.ps s.ns s.ps.length) (supN_len _ _ _)
 have hrest:=fun b5 g=>states_d h b5 g (pressedZ s.ps s.ns pos) (pressed_len _ _ _) rfl
 unfold pressedZ at hrest
 refine CallS.dropP (callS_cut 5 Tryz.func75 rfl Tryz.ntmps75 (rs:=[.tmp 4]) rfl (by kernel_rfl) (by simp) (by kernel_rfl) (K:=stK s pos) ?_) (fun r H' ⟨g,h1,h2⟩=>⟨_,h2,g,h1,rfl⟩)
 generalize psgsN s.ps s.ns pos s.ps.length=PG at *
 simp
 intro g
 refine⟨by omega,?_⟩
 intro b5
 refine (hpas.mid [(5,_),(18,_)] []).mono ?_
 rintro r H' ⟨rfl,rfl⟩
 simp
 refine V.forI (σ:=Unit) s.ps.length [0,1,4,5,6,26,27] (by simp;exact rfl) (fun i _=>[(28,aI i)]) (fun i _=>clH g b5 (supN s.ps s.ns i)++s.hp) (fun _ _=>True) () trivial (by simp) ⟨by simp;exact rfl,by simp[supN]⟩ ?_ ?_
 ·rintro i-hi -
  obtain⟨p,hpp⟩:∃p,s.ps[i]=p:=⟨_,rfl⟩
  have hpo:s.ps[i]?=some p:=by rw[List.getElem?_eq_getElem hi,hpp]
  have hk:=kindOf_at hpo
  have hkn:=h.ok.kinds p (List.mem_of_getElem? hpo)
  have hll:=supN_len s.ps s.ns i
  rw[supN_succ]
  unfold supStep
  rw[hk]
  generalize supN s.ps s.ns i=st1 at *
  simp[hi,hpp,hpo]
  intro b8
  refine⟨fun hk0=>?_,fun hk0=>?_⟩
  ·have hport:((i:Int),[49])∈allP s.ps:=port_of hi (by rw[hk,hk0];simp[portsK])
   have hnet:=puNet_s h.ok hport
   have hlt:=(h.ok.of _ hport).2
   rw[if_pos (by omega)]
   generalize netW s.ns ((i:Int),[49])=w at *
   have hwu:w<st1.length:=by omega
   refine V.drawX (fun t=>if t=39 then some (.ro (aI w)) else none) (by kernel_rfl) (by kernel_rfl) (by simp) ?_
   simp[hwu]
   refine⟨hnet,?_⟩
   simp[hwu]
   exact⟨by kernel_rfl,by omega,by omega⟩
  ·rw[if_neg (by omega)]
   simp
   omega
 ·rintro - -
  simp
  refine ((hcl g b5).frame (H1:=s.hp)).mono ?_
  rintro r H' ⟨_,⟨rfl,rfl⟩,rfl⟩
  simp
  exact V.cutV (Hs:=clH g b5 (closeZ 2 flowsZ PG (s.ns.length+1) (supN s.ps s.ns s.ps.length))++s.hp) (stE s.b b5 pos PG) (by simp) (by simp) (V.of_rest rfl (hrest b5 g))
def netsQ (c:Cir) (pos:List Int):List Int×Int:=if presE c pos=0 then (statesZ c.parts (netsZ c) pos,0) else ([],presE c pos)
theorem PresNets_fn (c:Cir) (hc:OkCir c) (pos:List Int) (hp:Sh pos):CallFn Tryz.prog 24 [aCi c,aIs pos] (.tuple [aIs (netsQ c pos).1,aI (netsQ c pos).2]):=by
 have ho:=puOf_s c hc pos hp
 unfold netsQ
 by_cases h0:presE c pos=0
 ·simp only[h0,if_true]at ho ⊢
  obtain⟨hz,hpos⟩:=presE_pos h0
  have hr:=cirR_of hz
  refine callFz_of Tryz.func24 rfl Tryz.ntmps24 (rs:=[.tmp 4,.tmp 5]) rfl (by kernel_rfl) (by simp) (by kernel_rfl) ?_
  simp
  refine ho.mono ?_
  rintro r H' ⟨s,rfl,rfl,h1,h2,h3⟩
  have hs:=states_s (s:=s) (c:=c) (pos:=pos) ⟨h1,hr,h2,h3,by rw[h2];exact hpos⟩
  rw[h2,h3]at hs
  simp
  refine hs.mono ?_
  rintro r H' ⟨g,rfl,rfl⟩
  simp
 ·simp only[h0,if_false]at ho ⊢
  refine callFz_of Tryz.func24 rfl Tryz.ntmps24 (rs:=[.tmp 4,.tmp 5]) rfl (by kernel_rfl) (by simp) (by kernel_rfl) ?_
  simp
  refine ho.mono ?_
  rintro r H' ⟨rfl,rfl⟩
  simp[h0]
def btwD (l:List PortZ) (y:Drv):Bool:=((l.getD 0 (0,[])).2==(l.getD 1 (0,[])).2)&&((l.any fun p=>p.1==(y.1:Int))&&l.any fun p=>p.1==(y.2:Int))
def btwB (d:List Drv) (l:List PortZ):Bool:=decide (l.length=2)&&d.any (btwD l)
theorem btwB_iff {d:List Drv}{l:List PortZ}:btwB d l=true↔Btw d l:=by
 unfold btwB Btw
 rw[Bool.and_eq_true,decide_eq_true_eq]
 refine and_congr_right fun hl=>?_
 obtain⟨a,b,rfl⟩:∃a b,l=[a,b]:=by
  rcases l with _ | ⟨a,_ | ⟨b,_ | ⟨c,l⟩⟩⟩<;>simp only[List.length_nil,List.length_cons]at hl<;>try omega
  exact⟨a,b,rfl⟩
 have e:(∀p∈[a,b],∀q∈[a,b],p.2=q.2)↔a.2=b.2:=by
  constructor
  ·intro h
   exact h a (by simp) b (by simp)
  ·intro h p hp q hq
   simp only[List.mem_cons,List.not_mem_nil,or_false]at hp hq
   rcases hp with rfl | rfl<;>rcases hq with rfl | rfl<;>first | rfl | exact h | exact h.symm
 rw[e,List.any_eq_true]
 constructor
 ·rintro⟨y,hy,h⟩
  unfold btwD at h
  simp only[Bool.and_eq_true,List.any_eq_true,beq_iff_eq]at h
  exact⟨h.1,y,hy,h.2⟩
 ·rintro⟨h1,y,hy,h2⟩
  refine⟨y,hy,?_⟩
  unfold btwD
  simp only[Bool.and_eq_true,List.any_eq_true,beq_iff_eq]
  exact⟨h1,h2⟩
theorem pos_two {c:Cir}{s:State}(h:PgI c s):∀j,j<c.parts.length->posN ((planZ c).pos s) j<2:=fun j hj=>by
 have:=posN_many h hj
 rcases many_two (kindOf c.parts j) with e | e<;>omega
theorem press_law {c:Cir}{s:State}(h:PgI c s) {m k:Nat}(hk:(planZ c).order[m]?=some k) :
  (valuesOf (gatesP (planZ c).ctl s)).getD ((planZ c).first+m) false=(decide ((statesZ c.parts (netsZ c) ((planZ c).pos s)).getD k 0=2) && !btwB (planZ c).drives ((netsZ c).getD k [])):=by
 rw[Bool.eq_iff_iff,gate_prs h hk,Bool.and_eq_true,decide_eq_true_eq,states_prs h.right (pos_two h),Bool.not_eq_true',<- Bool.not_eq_true,btwB_iff]
def goodB (c:Cir):Bool:=fewB c&&(buildE c==0)
theorem controlQ_e (c:Cir):(controlQ c).2=buildE c:=by
 unfold controlQ
 split
 ·rename_i h;rw[h]
 ·rfl
theorem good_fn (c:Cir) (hl:Sh c.parts) (hl2:Sh c.pipes):CallFn Tryz.prog 13 [aCi c] (aB (goodB c)):=by
 have hf:=CirFew_fn c hl hl2
 unfold goodB
 cases hF:fewB c with
 | false=>
  rw[hF]at hf
  refine callFz_of Tryz.func13 rfl Tryz.ntmps13 (rs:=[.tmp 2]) rfl (by kernel_rfl) (by simp) (by kernel_rfl) ?_
  simp
  refine hf.s ?_
  simp
 | true=>
  rw[hF]at hf
  obtain⟨hok,_⟩:=few_ok hF
  have hc:=ControlR30_fn c hok
  rw[controlQ_e]at hc
  generalize (controlQ c).1=ct at hc
  generalize buildE c=e at hc ⊢
  refine callFz_of Tryz.func13 rfl Tryz.ntmps13 (rs:=[.tmp 2]) rfl (by kernel_rfl) (by simp) (by kernel_rfl) ?_
  simp
  refine hf.s ?_
  simp
  refine hc.s ?_
  simp
theorem idxPoF_s (xs:List PortZ) (p:PortZ->Bool) (f:FuncId) (first caps:List A) (H:Heap) (hx:Sh xs) (hp:∀n∈xs,CallS Tryz.prog f (first++[.record (encPo n)]++caps) H fun r H'=>r=aB (p n)∧H'=H) :
  CallS Tryz.prog 80 [.dat (.sl (xs.map encPo)),.fn f first caps] H fun r H'=>r=aI (idxI (xs.findIdx? p))∧H'=H:=by
 refine CallS.rt (k:=1000) (CallS.dropP (callS_of Tryz.func80 rfl Tryz.ntmps80 (rs:=[.tmp 4]) rfl (by kernel_rfl) (by simp) (by kernel_rfl) (K:=fun r H'=>r=aI (idxI (xs.findIdx? p))∧subP (rt 1000 H) H') ?_) ?_)
 ·simp
  refine V.for' [0,1,7] (fun i:Nat=>[(8,aI i)]) (fun _=>rt 1000 H) (fun i=>i<=xs.length∧NoF p (xs.take i)) (fun i=>xs.length-i) 0 ⟨by simp,by simp,subP.refl _⟩ ?_
  rintro i ⟨hi,hI⟩
  by_cases hlt:i<xs.length
  ·have h1:=List.getElem?_eq_getElem hlt
   have hs:=findIdx_step (p:=p) hI h1
   have hc:=(hp xs[i] (List.getElem_mem hlt)).rt' (k:=1000)
   simp at hc
   simp[hlt,h1]
   refine hc.mono ?_
   rintro r H' ⟨H2,rfl,rfl,rfl⟩
   cases e:p xs[i]
   ·simp
    exact⟨by omega,i+1,⟨hlt,hs.1 e⟩,by omega,by simp,subP.refl _⟩
   ·rw[hs.2 e]
    simp
    exact subP.refl _
  ·obtain rfl:i=xs.length:=by omega
   rw[findIdx_none hI]
   simp
   exact subP.refl _
 ·rintro r H' ⟨rfl,h⟩
  exact⟨_,h,_,rfl,rfl,rfl⟩
theorem contPoF_s (xs:List PortZ) (p:PortZ->Bool) (f:FuncId) (first caps:List A) (H:Heap) (hx:Sh xs) (hp:∀n∈xs,CallS Tryz.prog f (first++[.record (encPo n)]++caps) H fun r H'=>r=aB (p n)∧H'=H) :
  CallS Tryz.prog 30 [.dat (.sl (xs.map encPo)),.fn f first caps] H fun r H'=>r=aB (xs.any p)∧H'=H:=by
 have h:=idxPoF_s xs p f first caps H hx hp
 refine CallS.dropP (callS_of Tryz.func30 rfl Tryz.ntmps30 (rs:=[.tmp 4]) rfl (by kernel_rfl) (by simp) (by kernel_rfl) (K:=fun r H'=>r=aB (xs.any p)∧subP H H') ?_) (fun _ _ ⟨h1,h2⟩=>⟨_,h2,h1,rfl⟩)
 simp
 refine h.mono ?_
 rintro r H' ⟨rfl,rfl⟩
 simp
 refine⟨?_,subP.refl _⟩
 rw[idxI_ge,List.findIdx?_isSome]
theorem contDr_s (xs:List Drv) (p:Drv->Bool) (f:FuncId) (first caps:List A) (H:Heap) (hx:Sh xs) (hp:∀n∈xs,CallS Tryz.prog f (first++[.record (encDr n)]++caps) H fun r H'=>r=aB (p n)∧H'=H) :
  CallS Tryz.prog 28 [.dat (.sl (xs.map encDr)),.fn f first caps] H fun r H'=>r=aB (xs.any p)∧H'=H:=by
 have h:=idxDr_s xs p f first caps H hx hp
 refine CallS.dropP (callS_of Tryz.func28 rfl Tryz.ntmps28 (rs:=[.tmp 4]) rfl (by kernel_rfl) (by simp) (by kernel_rfl) (K:=fun r H'=>r=aB (xs.any p)∧subP H H') ?_) (fun _ _ ⟨h1,h2⟩=>⟨_,h2,h1,rfl⟩)
 simp
 refine h.mono ?_
 rintro r H' ⟨rfl,rfl⟩
 simp
 refine⟨?_,subP.refl _⟩
 rw[idxI_ge,List.findIdx?_isSome]
theorem press11_fn (p:PortZ) (y:Drv):CallFn Tryz.prog 31 [.record (encPo p),.rptr (encDr y)] (aB (p.1==(y.1:Int))):=by
 obtain⟨p1,p2⟩:=p
 obtain⟨y1,y2⟩:=y
 refine callFz_of Tryz.func31 rfl Tryz.ntmps31 (rs:=[.tmp 3]) rfl (by kernel_rfl) (by simp) (by kernel_rfl) ?_
 simp
theorem press12_fn (p:PortZ) (y:Drv):CallFn Tryz.prog 32 [.record (encPo p),.rptr (encDr y)] (aB (p.1==(y.2:Int))):=by
 obtain⟨p1,p2⟩:=p
 obtain⟨y1,y2⟩:=y
 refine callFz_of Tryz.func32 rfl Tryz.ntmps32 (rs:=[.tmp 3]) rfl (by kernel_rfl) (by simp) (by kernel_rfl) ?_
 simp
theorem contPoF_fn (xs:List PortZ) (p:PortZ->Bool) (f:FuncId) (first caps:List A) (hx:Sh xs) (hp:∀n∈xs,CallFn Tryz.prog f (first++[.record (encPo n)]++caps) (aB (p n))) :
  CallFn Tryz.prog 30 [.dat (.sl (xs.map encPo)),.fn f first caps] (aB (xs.any p)):=
 contPoF_s xs p f first caps [] hx fun n hn=>hp n hn
theorem press1_s (l:List PortZ) (hl:l.length=2) (y:Drv) (b:Nat) :
  CallS Tryz.prog 29 [.record (encDr y),.ptr 19 b 0] [(19,.box b [.dat (.sl (l.map encPo))])] fun r H'=>r=aB (btwD l y)∧H'=[(19,.box b [.dat (.sl (l.map encPo))])]:=by
 have c1:=contPoF_fn l (fun p=>p.1==(y.1:Int)) 31 [] [.rptr (encDr y)] (by unfold Sh;omega) fun n _=>press11_fn n y
 have c2:=contPoF_fn l (fun p=>p.1==(y.2:Int)) 32 [] [.rptr (encDr y)] (by unfold Sh;omega) fun n _=>press12_fn n y
 unfold btwD
 generalize (l.any fun p=>p.1==(y.1:Int))=u1 at *
 generalize (l.any fun p=>p.1==(y.2:Int))=u2 at *
 obtain⟨⟨a1,a2⟩,⟨b1,b2⟩,rfl⟩:∃a b,l=[a,b]:=by
  rcases l with _ | ⟨a,_ | ⟨b,_ | ⟨c,l⟩⟩⟩<;>simp only[List.length_nil,List.length_cons]at hl<;>try omega
  exact⟨a,b,rfl⟩
 obtain⟨y1,y2⟩:=y
 refine CallS.dropP (callS_of Tryz.func29 rfl Tryz.ntmps29 (rs:=[.tmp 3]) rfl (by kernel_rfl) (by simp) (by kernel_rfl) (K:=fun r H'=>r=aB ((a2==b2)&&(u1&&u2))∧subP [(19,.box b [.dat (.sl ([(a1,a2),(b1,b2)].map encPo))])] H') ?_) (fun _ _ ⟨h1,h2⟩=>⟨_,h2,by simpa using h1,rfl⟩)
 simp
 refine V.drawX (fun t=>if t=16 then some (.fn (aB u1)) else if t=21 then some (.fn (aB u2)) else none) (by kernel_rfl) (by kernel_rfl) (by simp) ?_
 simp
 exact⟨fun e=>⟨e,c1⟩,fun e1 e2=>⟨⟨e1,e2⟩,c2⟩,by rw[Bool.and_assoc],subP.refl _⟩
abbrev peE (c:Cir) (L:List Int) (ds:List Drv) (vs:List Bool):List (Nat×A):=[(2,.rptr (encCi c)),(4,aB false),(11,aIs L),(13,aNets (netsZ c)),(15,.dat (.sl (ds.map encDr))),(17,aBs vs)]
theorem press_a {c:Cir}(hok:OkCir c) (hb:buildE c=0) {s:State}(hz:rightC (planZ c).ctl s=0) (hr:CirR c) {L:List Int}(hL:L.length=(netsZ c).length) {ds:List Drv}(hds:ds=(planZ c).drives) (hdl:ds.length<=64) {vs:List Bool}
  (hln:∀k l m,(netsZ c)[k]?=some l->(orderZ c).findIdx? (k==·)=some m->∃v z,vs[(planZ c).first+m]?=some v∧L[k]?=some z∧v=(decide (z=2) && !btwB ds l)) (hvl:vs.length<=1000000) :
  V ⟨Tryz.prog,none,147⟩ (restC Tryz.f6 11) (hdE (peE c L ds vs) []) [] (RetV Tryz.prog [.tmp 4] fun r' H'=>(frz H' r').1∧(frz H' r').2=aB true):=by
 have haw:=awake30_fn
 have hnf:=netsZ_few hr
 have hlq:∀k:Nat,k<(netsZ c).length->lineQ c k=match (orderZ c).findIdx? (k==·) with
   | some m=>((((planZ c).first+m:Nat):Int),0)
   | none=>(0,14):=fun k hk=>by
  unfold lineQ
  rw[if_neg (by simp[hb]),if_neg (by omega),Int.toNat_natCast]
  rfl
 have hex:=fun k:Nat=>ExLine_fn c hok k
 refine V.rest rfl ?_
 refine V.of_vcN 1 ?_
 simp
 refine V.forI (σ:=Unit) (netsZ c).length [2,11,15,17,96,97] (by simp;exact rfl) (fun i _=>[(4,aB false),(98,aI i)]) (fun _ _=>[]) (fun _ _=>True) () trivial (by simp) ⟨by simp;exact rfl,by simp⟩ ?_ ?_
 ·rintro k-hk -
  obtain⟨l,hl⟩:∃l,(netsZ c)[k]=l:=⟨_,rfl⟩
  have hlo:(netsZ c)[k]?=some l:=by rw[List.getElem?_eq_getElem hk,hl]
  have hx:=hex k
  have hln:=hln k l
  rw[hlq k hk]at hx
  simp[hk,hl,hlo]
  intro b19
  cases ho:(orderZ c).findIdx? (k==·) with
  | none=>
   rw[ho]at hx
   refine hx.s ?_
   simp
   omega
  | some m=>
   rw[ho]at hx
   obtain⟨v,z,hv,hzz,he⟩:=hln m hlo ho
   simp only at hx
   generalize (planZ c).first+m=N at *
   obtain⟨hvn,hv1⟩:=List.getElem?_eq_some_iff.1 hv
   obtain⟨hzn,hz1⟩:=List.getElem?_eq_some_iff.1 hzz
   unfold btwB at he
   refine hx.s ?_
   simp
   refine⟨by omega,fun _=>?_⟩
   by_cases e2:l.length=2
   ·have hcd:=contDr_s ds (btwD l) 29 [] [.ptr 19 b19 0] [(19,.box b19 [.dat (.sl (l.map encPo))])] (by unfold Sh;omega) fun y _=>press1_s l e2 y b19
    rw[e2,decide_eq_true rfl,Bool.true_and]at he
    generalize ds.any (btwD l)=B at *
    refine GCall.sure ⟨by omega,hcd.mono ?_⟩ (by omega)
    rintro r H' ⟨rfl,rfl⟩
    simp[e2]
    refine V.drawX (fun _=>none) (by kernel_rfl) (by kernel_rfl) (by simp) ?_
    simp[hvn,hv,hv1,hzn,hzz,hz1]
    exact⟨he,fun _=>⟨by omega,by omega⟩⟩
   ·rw[decide_eq_false e2,Bool.false_and]at he
    have e3:¬((l.length:Nat):Int)=2:=by omega
    refine GCall.never e3 (aB false) ?_
    simp[e2,e3]
    refine V.drawX (fun _=>none) (by kernel_rfl) (by kernel_rfl) (by simp) ?_
    simp[hvn,hv,hv1,hzn,hzz,hz1]
    exact⟨by rw[he,Bool.not_false,Bool.and_true];rfl,fun _=>⟨by omega,by omega⟩⟩
 ·rintro - -
  simp
  refine V.of_vc ?_
  simp
  refine haw.s ?_
  simp
theorem netsQ_good {c:Cir}(hb:buildE c=0) {s:State}(hz:rightC (planZ c).ctl s=0):netsQ c ((planZ c).pos s)=(statesZ c.parts (netsZ c) ((planZ c).pos s),0):=by
 obtain⟨hr,hd,_,_,hc0⟩:=build_zero hb
 have h:=PgI.of hb hz
 have hps:(planZ c).ps=c.parts:=rfl
 have hpl:((planZ c).pos s).length=c.parts.length:=by
  unfold Pln.pos
  rw[List.length_map,List.length_range,hps]
 unfold netsQ
 rw[if_pos]
 refine presE_good hc0 hpl fun i hi=>?_
 have h1:=posN_many h hi
 unfold posOkB
 have h2:0<=((planZ c).pos s).getD i 0:=by
  unfold Pln.pos
  rw[List.getD_eq_getElem?_getD,List.getElem?_map,List.getElem?_range (by rw[hps];exact hi)]
  simp only[Option.map_some,Option.getD_some,numB]
  split<;>omega
 unfold posN at h1
 rw[decide_eq_true_eq]
 omega
abbrev peF (c:Cir) (p:List Int) (b5 b7:Nat):List (Nat×A):=[(2,.rptr (encCi c)),(4,aB false),(5,.ptr 5 b5 0),(7,.ptr 7 b7 0),(8,aI 0),(9,aIs p),(10,aI 0)]
theorem press_b {c:Cir}{ct:Control}{G:State}{p L:List Int}{ds:List Drv}{vs:List Bool}(hsl:L.length=(netsZ c).length) (b5 b7:Nat)
  (hpn:CallFn Tryz.prog 24 [aCi c,aIs p] (.tuple [aIs L,aI 0])) (hnn:CallFn Tryz.prog 25 [aCi c] (.tuple [aNets (netsZ c),aI 0])) (hdv:CallFn Tryz.prog 26 [aCi c] (.tuple [.dat (.sl (ds.map encDr)),aI 0]))
  (hr2:CallFn Tryz.prog 16 [aC ct,aSt G] (aI 0)) (hvr:CallFn Tryz.prog 27 [aC ct,aSt G] (aBs vs))
  (hpa:V ⟨Tryz.prog,none,147⟩ (restC Tryz.f6 11) (hdE (peE c L ds vs) []) [] (RetV Tryz.prog [.tmp 4] fun r' H'=>(frz H' r').1∧(frz H' r').2=aB true)) :
  V ⟨Tryz.prog,none,147⟩ (restC Tryz.f6 6) (hdE (peF c p b5 b7) []) [(7,.box b7 ((encSt G).map A.dat)),(5,.box b5 ((encC ct).map A.dat))] (RetV Tryz.prog [.tmp 4] fun r' H'=>(frz H' r').1∧(frz H' r').2=aB true):=by
 refine V.rest rfl ?_
 refine V.of_vcN 5 ?_
 simp
 refine hpn.s ?_
 simp
 refine hnn.s ?_
 simp
 refine hdv.s ?_
 simp[hsl]
 refine GCall.sure ⟨trivial,hr2.s ?_⟩ trivial
 simp
 refine hvr.s ?_
 simp
 exact V.cutV (Hs:=[]) (peE c L ds vs) (by simp) (by simp) (V.of_rest rfl hpa)
theorem ExtractPressure_fn (c:Cir) (s:State) (hl:Sh c.parts) (hl2:Sh c.pipes) (hs:OkSt s):CallFn Tryz.prog 6 [aCi c,aSt s] (aB true):=by
 have haw:=awake30_fn
 have hgd:=good_fn c hl hl2
 have hfs:=FewStates_fn s hs
 cases hf:goodB c with
 | false=>
  rw[hf]at hgd
  refine callFz_of Tryz.func6 rfl Tryz.ntmps6 (rs:=[.tmp 4]) rfl (by kernel_rfl) (by simp) (by kernel_rfl) ?_
  simp
  refine hgd.s ?_
  simp
  refine GCall.never (fun h=>h) (aB false) ?_
  simp
  refine haw.s ?_
  simp
 | true=>
  rw[hf]at hgd
  unfold goodB at hf
  rw[Bool.and_eq_true,beq_iff_eq]at hf
  obtain⟨hf1,hb⟩:=hf
  obtain⟨hok,_⟩:=few_ok hf1
  cases hf2:fewS s with
  | false=>
   rw[hf2]at hfs
   refine callFz_of Tryz.func6 rfl Tryz.ntmps6 (rs:=[.tmp 4]) rfl (by kernel_rfl) (by simp) (by kernel_rfl) ?_
   simp
   refine hgd.s ?_
   simp
   refine GCall.fn (aB false) (fun h=>⟨h,hfs⟩) ?_
   simp
   refine haw.s ?_
   simp
  | true=>
   rw[hf2]at hfs
   have hsm:=few_sm hf2
   obtain⟨hr,hd,hch,hpl,hc0⟩:=build_zero hb
   obtain⟨hpp,hpm,hoc⟩:=ctl_sizes (plR_of hpl)
   have hct:=ControlR30_fn c hok
   have hcq:controlQ c=((planZ c).ctl,0):=by unfold controlQ;rw[if_pos hb]
   rw[hcq]at hct
   have hrt:=RightR_fn (planZ c).ctl s hoc hpp hpm hsm
   by_cases hz:rightC (planZ c).ctl s=0
   ·have hg:=Gates_fn (planZ c).ctl s hoc hsm
    have hgr:gatesR (planZ c).ctl s=(gatesP (planZ c).ctl s,0):=by unfold gatesR;rw[if_neg (by simp[hz])]
    rw[hgr]at hg
    have hp1:=Positions_fn c hok s hsm
    have hpq:positionsQ c s=((planZ c).pos s,0):=by
     unfold positionsQ
     rw[if_neg (by simp[hb]),if_neg (by simp[hz])]
    have hpsh:=positionsQ_sh c s hl
    rw[hpq]at hp1 hpsh
    have hpn:=PresNets_fn c hok ((planZ c).pos s) hpsh
    rw[netsQ_good hb hz]at hpn
    have hnn:=Nets_fn c hok.names hok.parts hok.pipes
    rw[hc0]at hnn
    have hdv:=Drives_fn c hok
    have hdq:drivesQ c=((planZ c).drives,0):=by
     unfold drivesQ pairE
     rw[if_pos]
     ·rfl
     ·rw[if_neg (by simp[hc0])];exact hd
    rw[hdq]at hdv
    obtain⟨_,hsh,_⟩:=right_zero hz
    obtain⟨g1,g2,g3,g4,g5⟩:=id hsm
    have hG:SmS (gatesP (planZ c).ctl s):=⟨g1,g2,g3,by show (gvals _ _ _).length<=_;rw[gvals_length];exact g4,g5⟩
    have hgs:=gates_shape hsh
    have hr2:=RightR_fn (planZ c).ctl _ hoc hpp hpm hG
    rw[gates_right hz]at hr2
    have hvr:=ValuesR_fn (planZ c).ctl (gatesP (planZ c).ctl s) hG hgs.1.symm
    rw[hz]at hrt
    have hpg:=PgI.of hb hz
    have hsl:=states_len c.parts (netsZ c) ((planZ c).pos s)
    have hvl:=valuesOf_length hgs
    have hsg:=(pil_sig (planZ_B hr) (planZ_D hd)).2
    have hfi:=fine_of hch
    have hact:(planZ c).ctl.actuators=(planZ c).drives.length:=rfl
    have hinp:(planZ c).ctl.inputs.length=(planZ c).butt.length:=by
     show ((planZ c).butt.map _).length=_
     rw[List.length_map]
    have hfst:(planZ c).first=2*(planZ c).drives.length+(planZ c).butt.length:=rfl
    have hpa:=press_a hok hb hz hr hsl (ds:=(planZ c).drives) rfl (planZ_B hr).dl (vs:=valuesOf (gatesP (planZ c).ctl s)) (fun k l m hk hm=>by
     obtain⟨hml,hmk,_⟩:=List.findIdx?_eq_some_iff_getElem.1 hm
     have hom:(planZ c).order[m]?=some k:=by
      show (orderZ c)[m]?=some k
      rw[List.getElem?_eq_getElem hml]
      exact congrArg some (eq_of_beq hmk).symm
     have hkl:=(List.getElem?_eq_some_iff.1 hk).1
     have hml2:m<(planZ c).order.length:=hml
     have hvn:(planZ c).first+m<(valuesOf (gatesP (planZ c).ctl s)).length:=by
      unfold countC at hvl
      omega
     have hlaw:=press_law hpg hom
     rw[net_getD hk,List.getD_eq_getElem?_getD,List.getElem?_eq_getElem hvn,List.getD_eq_getElem?_getD,List.getElem?_eq_getElem (by omega)]at hlaw
     exact⟨_,_,List.getElem?_eq_getElem hvn,List.getElem?_eq_getElem (by omega),hlaw⟩) (by have:=hfi.sig;have:=hfi.inp;have:=hfi.act;unfold countC at hvl;omega)
    generalize (planZ c).pos s=p at *
    generalize gatesP (planZ c).ctl s=G at *
    generalize statesZ c.parts (netsZ c) p=L at *
    generalize valuesOf G=vs at *
    generalize (planZ c).ctl=ct at *
    generalize (planZ c).drives=ds at *
    refine callFz_cut 6 Tryz.func6 rfl Tryz.ntmps6 (rs:=[.tmp 4]) rfl (by kernel_rfl) (by simp) (by kernel_rfl) ?_
    simp
    refine hgd.s ?_
    simp
    refine GCall.fn (aB true) (fun h=>⟨h,hfs⟩) ?_
    simp
    refine hct.s ?_
    simp
    intro b5
    refine hrt.s ?_
    simp
    refine hg.s ?_
    simp
    intro b7
    refine hp1.s ?_
    simp
    exact V.cutV (Hs:=[(7,.box b7 ((encSt G).map A.dat)),(5,.box b5 ((encC ct).map A.dat))]) (peF c p b5 b7) (by simp) (by simp) (V.of_rest rfl (press_b hsl b5 b7 hpn hnn hdv hr2 hvr hpa))
   ·refine callFz_of Tryz.func6 rfl Tryz.ntmps6 (rs:=[.tmp 4]) rfl (by kernel_rfl) (by simp) (by kernel_rfl) ?_
    simp
    refine hgd.s ?_
    simp
    refine GCall.fn (aB true) (fun h=>⟨h,hfs⟩) ?_
    simp
    refine hct.s ?_
    simp
    intro b5
    refine hrt.s ?_
    simp[hz]
    refine haw.s ?_
    simp
end Go.Proofs.YtpadinblmjlggaaGreatDoor
