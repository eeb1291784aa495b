/- Texts joined by a program: Oj,Ji,Xm,Li,Lj. -/
import Derived.ProofKit
import Derived.ReadAgain
import Derived.WalkKit
import Derived.OpenShut
import Derived.Deep.Frames
import Derived.Test.YtafamcbdaeppoaaGreatDoorF29
import Derived.Test.YtafamcbdaeppoaaGreatDoorF27
import Derived.Test.YtafamcbdaeppoaaGreatDoorF10
set_option linter.unusedSimpArgs false
set_option linter.unusedVariables false
set_option maxHeartbeats 8000000
set_option maxRecDepth 10000
namespace Go.Proofs.YtafamcbdaeppoaaGreatDoor
abbrev stE (b b5:Nat) (pos:List Int) (pg:List Psg):List (Nat×A):=[(0,.ptr 170 b 0),(1,aIs pos),(4,.nils),(5,.ptr 5 b5 0),(6,.dat (.sl (pg.map encPg)))]
abbrev stK (s:PuS) (pos:List Int) (r:A) (H':Heap):Prop:=∃g,r=.own 18 g∧subP ((18,.seq g 3 1 ((statesZ s.ps s.ns pos).map rI))::s.hp) H'
structure PuS.Of (s:PuS) (c:Cir) (pos:List Int):Prop where
 ok:s.OK
 right:CirR c
 ps:s.ps=c.parts
 ns:s.ns=netsZ c
 pos:PosOK s.ps pos
theorem PuS.Of.two {s:PuS}{c:Cir}{pos:List Int}(h:s.Of c pos):∀i,i<c.parts.length->posN pos i<2:=fun i hi=>(h.pos.at (by rw[h.ps];exact hi)).2.2
theorem PuS.Of.psg {s:PuS}{c:Cir}{pos:List Int}(h:s.Of c pos):(psgsN s.ps s.ns pos s.ps.length).length<=64∧∀y∈psgsN s.ps s.ns pos s.ps.length,y.to<s.ns.length∧(∀n∈y.src,n<s.ns.length)∧y.src.length<=2:=by
 refine⟨Nat.le_trans (psgsN_len _ _ _ _) h.ok.few,fun y hy=>?_⟩
 have h1:=psgs_lt h.right h.two y (by rw[<- h.ps,<- h.ns];exact hy)
 rw[h.ns]
 refine⟨h1.1,h1.2,?_⟩
 obtain⟨i,z,hi,hz,rfl⟩:=mem_psgs.1 hy
 simp only[List.length_map]
 exact passK_srcl _ _ z hz
theorem open_port:∀k,k<14->∀n,n<2->∀t∈openK k n,t∈portsK k:=by decide
theorem openK_len:∀k,k<14->∀n,n<2->(openK k n).length<=8:=by decide
theorem opN_succ (ps:List Prt) (nets:List (List PortZ)) (pos st:List Int) (n:Nat):opN ps nets pos st (n+1)=(openK (kindOf ps n) (posN pos n)).foldl (opStep nets n) (opN ps nets pos st n):=by
 unfold opN
 rw[List.range_succ,List.foldl_append,List.foldl_cons,List.foldl_nil]
theorem states_d {s:PuS}{c:Cir}{pos:List Int}(h:s.Of c pos) (b5:Nat) (g:Value) (st:List Int) (hst:st.length=s.ns.length) (hS:statesZ s.ps s.ns pos=closeZ 1 airZ (psgsN s.ps s.ns pos s.ps.length) (s.ns.length+1) (opN s.ps s.ns pos st s.ps.length)) :
  V ⟨Tryz.prog,none,87⟩ (restC Tryz.f58 5) (hdE (stE s.b b5 pos (psgsN s.ps s.ns pos s.ps.length)) []) (clH g b5 st++s.hp) (RetV Tryz.prog [.tmp 4] (stK s pos)):=by
 obtain⟨p1,p2⟩:=h.psg
 have hfew:=h.ok.few
 have hnl:=h.ok.nets
 have hpl:=h.pos.1
 have hcl:=fun st0 h0=>closed_s 1 (by decide) airZ 127 (psgsN s.ps s.ns pos s.ps.length) s.ns.length (by omega) (by omega) (fun y hy=>(p2 y hy).1) g b5 (fun st y hy hl=>states2_s st y (by omega) (by rw[hl];exact (p2 y hy).2.1) (p2 y hy).2.2 g b5) st0 h0
 unfold stK
 rw[hS]
 generalize psgsN s.ps s.ns pos s.ps.length=PG at *
 refine V.rest rfl ?_
 refine V.of_vcN 1 ?_
 simp
 refine V.forI (σ:=Unit) s.ps.length [0,1,4,5,6,50,51] (by simp;exact rfl) (fun i _=>[(52,aI i)]) (fun i _=>clH g b5 (opN s.ps s.ns pos st i)++s.hp) (fun _ _=>True) () trivial (by simp) ⟨by simp;exact rfl,by simp[opN]⟩ ?_ ?_
 ·rintro i-hi -
  obtain⟨p,hpp⟩:∃p,s.ps[i]=p:=⟨_,rfl⟩
  have hpo:s.ps[i]?=some p:=by rw[List.getElem?_eq_getElem hi,hpp]
  obtain⟨q1,q2,q3⟩:=h.pos.at hi
  obtain⟨hil,q4⟩:=List.getElem?_eq_some_iff.1 q1
  have hk:=kindOf_at hpo
  have hkn:=h.ok.kinds p (List.mem_of_getElem? hpo)
  have hop:=open_fn p hkn (posN pos i) (by rw[<- hk];exact q2)
  have hpt:∀t∈openK p.kind.toNat (posN pos i),((i:Int),t)∈allP s.ps:=fun t ht=>port_of hi (by rw[hk];exact open_port _ (by omega) _ q3 t ht)
  have hol:=openK_len p.kind.toNat (by omega) (posN pos i) q3
  have hll:=opN_len s.ps s.ns pos st i
  rw[opN_succ,hk]
  generalize opN s.ps s.ns pos st i=st1 at *
  generalize openK p.kind.toNat (posN pos i)=O at *
  simp[hi,hpp,hpo]
  intro b10
  refine V.drawX (fun t=>if t=62 then some (.fn (aTs O)) else none) (by kernel_rfl) (by kernel_rfl) (by simp) ?_
  simp[hil,q1,q4]
  refine⟨hop,?_⟩
  simp
  refine V.forI (σ:=Unit) O.length [0,1,4,5,6,9,50,51,52,62,63] (by simp;exact rfl) (fun j _=>[(64,aI j)]) (fun j _=>(10,.box b10 ((encPa p).map A.dat))::(clH g b5 ((O.take j).foldl (opStep s.ns i) st1)++s.hp)) (fun _ _=>True) () trivial (by simp) ⟨by simp;exact rfl,by simp⟩ ?_ ?_
  ·rintro j-hj -
   obtain⟨t,ht⟩:∃t,O[j]=t:=⟨_,rfl⟩
   have hto:O[j]?=some t:=by rw[List.getElem?_eq_getElem hj,ht]
   have hnt:=hpt t (List.mem_of_getElem? hto)
   have hnet:=puNet_s h.ok hnt
   have hlt:=(h.ok.of _ hnt).2
   have hl2:=op_len s.ns i (O.take j) st1
   have hnx:(O.take (j+1)).foldl (opStep s.ns i) st1=opStep s.ns i ((O.take j).foldl (opStep s.ns i) st1) t:=by
    rw[List.take_add_one,hto,List.foldl_append]
    rfl
   rw[hnx]
   generalize (O.take j).foldl (opStep s.ns i) st1=u at *
   rw[show opStep s.ns i u t=if u.getD (netW s.ns ((i:Int),t)) 0=0 then u.set (netW s.ns ((i:Int),t)) 1 else u from rfl]
   generalize netW s.ns ((i:Int),t)=w at *
   have hwu:w<u.length:=by omega
   obtain⟨e1,e2⟩:=getD_at hwu
   generalize u.getD w 0=z at *
   simp[hj,ht,hto]
   refine (hnet.mid [(10,_),(18,_),(5,_)] []).mono ?_
   rintro r H' ⟨rfl,rfl⟩
   simp[hwu,e1,e2]
   exact⟨fun hz=>⟨⟨by omega,by omega⟩,by rw[if_pos hz,List.map_set]⟩,fun hz=>⟨⟨by omega,by omega⟩,by rw[if_neg hz]⟩⟩
  ·rintro - -
   rw[List.take_length]
   simp
   omega
 ·rintro - -
  simp
  refine V.of_vc ?_
  simp
  refine ((hcl (opN s.ps s.ns pos st s.ps.length) (by rw[opN_len,hst])).frame (H1:=s.hp)).mono ?_
  rintro r H' ⟨_,⟨rfl,rfl⟩,rfl⟩
  simp
  exact⟨_,List.Sublist.cons_cons _ (List.Sublist.cons _ (List.Sublist.refl _)),List.Perm.refl _⟩
theorem states_s {s:PuS}{c:Cir}{pos:List Int}(h:s.Of c pos) :
  CallS Tryz.prog 58 [.ptr 170 s.b 0,aIs pos] s.hp fun r H'=>∃g,r=.own 18 g∧H'=(18,.seq g 3 1 ((statesZ s.ps s.ns pos).map rI))::s.hp:=by
 obtain⟨p1,p2⟩:=h.psg
 have hfew:=h.ok.few
 have hnl:=h.ok.nets
 have hpl:=h.pos.1
 have hpas:=passages_s h.ok h.pos
 have hcl:=fun g b5=>closed_s 2 (by decide) flowsZ 124 (psgsN s.ps s.ns pos s.ps.length) s.ns.length (by omega) (by omega) (fun y hy=>(p2 y hy).1) g b5 (fun st y hy hl=>states1_s st y (by omega) (by rw[hl];exact (p2 y hy).2.1) (p2 y hy).2.2 g b5) (supN s.ps s.ns s.ps.length) (supN_len _ _ _)
 have hrest:=fun b5 g=>states_d h b5 g (pressedZ s.ps s.ns pos) (pressed_len _ _ _) rfl
 unfold pressedZ at hrest
 refine CallS.dropP (callS_cut 5 Tryz.func58 rfl Tryz.ntmps58 (rs:=[.tmp 4]) rfl (by kernel_rfl) (by simp) (by kernel_rfl) (K:=stK s pos) ?_) (fun r H' ⟨g,h1,h2⟩=>⟨_,h2,g,h1,rfl⟩)
 generalize psgsN s.ps s.ns pos s.ps.length=PG at *
 simp
 intro g
 refine⟨by omega,?_⟩
 intro b5
 refine (hpas.mid [(5,_),(18,_)] []).mono ?_
 rintro r H' ⟨rfl,rfl⟩
 simp
 refine V.forI (σ:=Unit) s.ps.length [0,1,4,5,6,26,27] (by simp;exact rfl) (fun i _=>[(28,aI i)]) (fun i _=>clH g b5 (supN s.ps s.ns i)++s.hp) (fun _ _=>True) () trivial (by simp) ⟨by simp;exact rfl,by simp[supN]⟩ ?_ ?_
 ·rintro i-hi -
  obtain⟨p,hpp⟩:∃p,s.ps[i]=p:=⟨_,rfl⟩
  have hpo:s.ps[i]?=some p:=by rw[List.getElem?_eq_getElem hi,hpp]
  have hk:=kindOf_at hpo
  have hkn:=h.ok.kinds p (List.mem_of_getElem? hpo)
  have hll:=supN_len s.ps s.ns i
  rw[supN_succ]
  unfold supStep
  rw[hk]
  generalize supN s.ps s.ns i=st1 at *
  simp[hi,hpp,hpo]
  intro b8
  refine⟨fun hk0=>?_,fun hk0=>?_⟩
  ·have hport:((i:Int),[49])∈allP s.ps:=port_of hi (by rw[hk,hk0];simp[portsK])
   have hnet:=puNet_s h.ok hport
   have hlt:=(h.ok.of _ hport).2
   rw[if_pos (by omega)]
   generalize netW s.ns ((i:Int),[49])=w at *
   have hwu:w<st1.length:=by omega
   refine V.drawX (fun t=>if t=39 then some (.ro (aI w)) else none) (by kernel_rfl) (by kernel_rfl) (by simp) ?_
   simp[hwu]
   refine⟨hnet,?_⟩
   simp[hwu]
   exact⟨by kernel_rfl,by omega,by omega⟩
  ·rw[if_neg (by omega)]
   simp
   omega
 ·rintro - -
  simp
  refine ((hcl g b5).frame (H1:=s.hp)).mono ?_
  rintro r H' ⟨_,⟨rfl,rfl⟩,rfl⟩
  simp
  exact V.cutV (Hs:=clH g b5 (closeZ 2 flowsZ PG (s.ns.length+1) (supN s.ps s.ns s.ps.length))++s.hp) (stE s.b b5 pos PG) (by simp) (by simp) (V.of_rest rfl (hrest b5 g))
def netsQ (c:Cir) (pos:List Int):List Int×Int:=if presE c pos=0 then (statesZ c.parts (netsZ c) pos,0) else ([],presE c pos)
theorem PresNets_fn (c:Cir) (hc:OkCir c) (pos:List Int) (hp:Sh pos):CallFn Tryz.prog 14 [aCi c,aIs pos] (.tuple [aIs (netsQ c pos).1,aI (netsQ c pos).2]):=by
 have ho:=puOf_s c hc pos hp
 unfold netsQ
 by_cases h0:presE c pos=0
 ·simp only[h0,if_true]at ho ⊢
  obtain⟨hz,hpos⟩:=presE_pos h0
  have hr:=cirR_of hz
  refine callFz_of Tryz.func14 rfl Tryz.ntmps14 (rs:=[.tmp 4,.tmp 5]) rfl (by kernel_rfl) (by simp) (by kernel_rfl) ?_
  simp
  refine ho.mono ?_
  rintro r H' ⟨s,rfl,rfl,h1,h2,h3⟩
  have hs:=states_s (s:=s) (c:=c) (pos:=pos) ⟨h1,hr,h2,h3,by rw[h2];exact hpos⟩
  rw[h2,h3]at hs
  simp
  refine hs.mono ?_
  rintro r H' ⟨g,rfl,rfl⟩
  simp
 ·simp only[h0,if_false]at ho ⊢
  refine callFz_of Tryz.func14 rfl Tryz.ntmps14 (rs:=[.tmp 4,.tmp 5]) rfl (by kernel_rfl) (by simp) (by kernel_rfl) ?_
  simp
  refine ho.mono ?_
  rintro r H' ⟨rfl,rfl⟩
  simp[h0]
section
def beginS:State:=⟨[0],[false],[false],[false,true],[0,0]⟩
theorem back_first:firstSt backC=beginS:=by decide +kernel
def nineN:List (List UInt8):=[[65],[65,48],[65,49],[77,48],[78,48],[80,49],[83],[86,65],[115,116,97,114,116]]
abbrev aP34 (k:Nat) (s:List UInt8):A:=.tuple [.record (encPort (k,s)),aB true,aI 0]
section
variable {c:Control}{ps:List Made}{l:List (PortP×PortP)}
abbrev awH (c:Control) (ps:List Made) (l:List (PortP×PortP)) (b1 b2:Nat):Heap:=[(2,.box b2 ([L.sl (ps.map encPart),.sl (l.map encPipe)].map A.dat)),(1,.box b1 ((encC c).map A.dat))]
theorem awake37_a (hB:CallFn Tryz.prog 46 [] (aC c)) (h1:CallFn Tryz.prog 10 [aC c] (.tuple [aCirc (ps,l),aI 0])) (h2:CallFn Tryz.prog 47 [aC c] (.tuple [aI 9,aI 0]))
  (hv:∀b1 b2,vcN ⟨Tryz.prog,none,128⟩ 2 (restC Tryz.f9 4) (hdE [(0,aB false),(1,.ptr 1 b1 0),(2,.ptr 2 b2 0),(3,aI 0),(4,aI 9),(5,aI 0)] []) (awH c ps l b1 b2) (RetV Tryz.prog [.tmp 0] fun r' H'=>(frz H' r').1∧(frz H' r').2=aB true)) :
  CallFn Tryz.prog 9 [] (aB true):=by
 refine callFz_cut 4 Tryz.func9 rfl Tryz.ntmps9 (rs:=[.tmp 0]) rfl (by kernel_rfl) (by simp) (by kernel_rfl) ?_
 simp
 refine hB.s ?_
 simp[encC]
 intro b1
 refine h1.s ?_
 simp
 intro b2
 refine h2.s ?_
 simp
 exact V.cutN 2 [(0,aB false),(1,.ptr 1 b1 0),(2,.ptr 2 b2 0),(3,aI 0),(4,aI 9),(5,aI 0)] (by simp) (by simp[encC]) (vcN_of_rest rfl (hv b1 b2))
theorem awake37_b (h3:CallFn Tryz.prog 17 [aC c,aI 3] (aP34 3 [52])) (h4:CallFn Tryz.prog 17 [aC c,aI 4] (aP34 4 [50])) {b1 b2:Nat}
  (hv:∀b6 b9,vcN ⟨Tryz.prog,none,128⟩ 2 (restC Tryz.f9 6) (hdE [(0,aB false),(1,.ptr 1 b1 0),(2,.ptr 2 b2 0),(3,aI 0),(4,aI 9),(5,aI 0),(6,.ptr 6 b6 0),(7,aB true),(8,aI 0),(9,.ptr 9 b9 0),(10,aB true),(11,aI 0)] [])
   ((9,.box b9 [aI 4,aT [50]])::(6,.box b6 [aI 3,aT [52]])::awH c ps l b1 b2) (RetV Tryz.prog [.tmp 0] fun r' H'=>(frz H' r').1∧(frz H' r').2=aB true)) :
  vcN ⟨Tryz.prog,none,128⟩ 2 (restC Tryz.f9 4) (hdE [(0,aB false),(1,.ptr 1 b1 0),(2,.ptr 2 b2 0),(3,aI 0),(4,aI 9),(5,aI 0)] []) (awH c ps l b1 b2) (RetV Tryz.prog [.tmp 0] fun r' H'=>(frz H' r').1∧(frz H' r').2=aB true):=by
 refine vcN_rest rfl ?_
 simp[encC]
 refine h3.s ?_
 simp
 intro b6
 refine h4.s ?_
 simp
 intro b9
 exact V.cutN 2 [(0,aB false),(1,.ptr 1 b1 0),(2,.ptr 2 b2 0),(3,aI 0),(4,aI 9),(5,aI 0),(6,.ptr 6 b6 0),(7,aB true),(8,aI 0),(9,.ptr 9 b9 0),(10,aB true),(11,aI 0)] (by simp) (by simp[encC]) (vcN_of_rest rfl (hv b6 b9))
theorem awake37_c (h5:CallSt 48 [aC c] beginS) (h6:CallFn Tryz.prog 11 [aC c,aSt startS] (.tuple [aIs [0,1,0,0,0,0,0,0,1],aI 0])) {b1 b2 b6 b9:Nat}
  (hv:vcN ⟨Tryz.prog,none,128⟩ 1 (restC Tryz.f9 9) (hdE [(0,aB false),(1,.ptr 1 b1 0),(2,.ptr 2 b2 0),(3,aI 0),(4,aI 9),(5,aI 0),(6,.ptr 6 b6 0),(7,aB true),(8,aI 0),(9,.ptr 9 b9 0),(10,aB true),(11,aI 0),(13,aIs [0,1,0,0,0,0,0,0,1]),(14,aI 0)] [])
   ((9,.box b9 [aI 4,aT [50]])::(6,.box b6 [aI 3,aT [52]])::awH c ps l b1 b2) (RetV Tryz.prog [.tmp 0] fun r' H'=>(frz H' r').1∧(frz H' r').2=aB true)) :
  vcN ⟨Tryz.prog,none,128⟩ 2 (restC Tryz.f9 6) (hdE [(0,aB false),(1,.ptr 1 b1 0),(2,.ptr 2 b2 0),(3,aI 0),(4,aI 9),(5,aI 0),(6,.ptr 6 b6 0),(7,aB true),(8,aI 0),(9,.ptr 9 b9 0),(10,aB true),(11,aI 0)] [])
   ((9,.box b9 [aI 4,aT [50]])::(6,.box b6 [aI 3,aT [52]])::awH c ps l b1 b2) (RetV Tryz.prog [.tmp 0] fun r' H'=>(frz H' r').1∧(frz H' r').2=aB true):=by
 refine vcN_rest rfl ?_
 simp[encC]
 refine h5.lend 60 (by simp[hget,packA]) fun hd=>?_
 simp[stA,stH,beginS,packA]
 intro b
 refine V.ofG ?_
 refine Gh.frzBox (g:=12) (τ:=60) (j:=0) (t:=60) rfl rfl rfl rfl ?_
 refine Gh.frzBox (g:=12) (τ:=61) (j:=1) (t:=61) rfl rfl rfl rfl ?_
 refine Gh.frzBox (g:=12) (τ:=62) (j:=2) (t:=62) rfl rfl rfl rfl ?_
 refine Gh.frzBox (g:=12) (τ:=63) (j:=3) (t:=63) rfl rfl rfl rfl ?_
 refine Gh.frzBox (g:=12) (τ:=64) (j:=4) (t:=64) rfl rfl rfl rfl ?_
 refine Gh.here ?_
 refine V.cutV [(0,aB false),(1,.ptr 1 b1 0),(2,.ptr 2 b2 0),(3,aI 0),(4,aI 9),(5,aI 0),(6,.ptr 6 b6 0),(7,aB true),(8,aI 0),(9,.ptr 9 b9 0),(10,aB true),(11,aI 0),(12,.ptr 12 b 0)] (Hs:=(12,.box b ((encSt startS).map A.dat))::(9,.box b9 [aI 4,aT [50]])::(6,.box b6 [aI 3,aT [52]])::awH c ps l b1 b2) (by simp) (by simp[encSt,startS,rowsD]) (V.of_vcN 1 ?_)
 generalize startS=st at *
 simp[encC,encSt]
 refine h6.s ?_
 simp
 exact V.cutN 1 [(0,aB false),(1,.ptr 1 b1 0),(2,.ptr 2 b2 0),(3,aI 0),(4,aI 9),(5,aI 0),(6,.ptr 6 b6 0),(7,aB true),(8,aI 0),(9,.ptr 9 b9 0),(10,aB true),(11,aI 0),(13,aIs [0,1,0,0,0,0,0,0,1]),(14,aI 0)] (by simp) (by simp[encC]) (vcN_of_rest rfl hv)
theorem awake37_d (hl:ps.length=9) {b1 b2 b6 b9:Nat}
  (hv:vcC ⟨Tryz.prog,none,128⟩ (restC Tryz.f9 10) (hdE [(0,aB false),(1,.ptr 1 b1 0),(2,.ptr 2 b2 0),(3,aI 0),(13,aIs [0,1,0,0,0,0,0,0,1])] [])
   (awH c ps l b1 b2) (RetV Tryz.prog [.tmp 0] fun r' H'=>(frz H' r').1∧(frz H' r').2=aB true)) :
  vcN ⟨Tryz.prog,none,128⟩ 1 (restC Tryz.f9 9) (hdE [(0,aB false),(1,.ptr 1 b1 0),(2,.ptr 2 b2 0),(3,aI 0),(4,aI 9),(5,aI 0),(6,.ptr 6 b6 0),(7,aB true),(8,aI 0),(9,.ptr 9 b9 0),(10,aB true),(11,aI 0),(13,aIs [0,1,0,0,0,0,0,0,1]),(14,aI 0)] [])
   ((9,.box b9 [aI 4,aT [50]])::(6,.box b6 [aI 3,aT [52]])::awH c ps l b1 b2) (RetV Tryz.prog [.tmp 0] fun r' H'=>(frz H' r').1∧(frz H' r').2=aB true):=by
 refine vcN_rest rfl ?_
 simp[encC,hl]
 exact V.cut [(0,aB false),(1,.ptr 1 b1 0),(2,.ptr 2 b2 0),(3,aI 0),(13,aIs [0,1,0,0,0,0,0,0,1])] (by simp) (by simp[encC]) (vc_of_rest rfl hv)
theorem awake37_e (hn:ps.map Made.name=nineN) {b1 b2:Nat}(h7:CallFn Tryz.prog 24 [aC c,aI 3] (.tuple [aIs [3,5],aI 0])) (h8:CallFn Tryz.prog 49 [aCirc (ps,l)] (aI 0))
  (e1:CallFn Tryz.prog 37 [aIs [0,1,0,0,0,0,0,0,1],aIs [0,1,0,0,0,0,0,0,1]] (aB true)) (e2:CallFn Tryz.prog 37 [aIs [3,5],aIs [3,5]] (aB true)) :
  vcC ⟨Tryz.prog,none,128⟩ (restC Tryz.f9 10) (hdE [(0,aB false),(1,.ptr 1 b1 0),(2,.ptr 2 b2 0),(3,aI 0),(13,aIs [0,1,0,0,0,0,0,0,1])] [])
   (awH c ps l b1 b2) (RetV Tryz.prog [.tmp 0] fun r' H'=>(frz H' r').1∧(frz H' r').2=aB true):=by
 have hN:nineN.length=9:=rfl
 have hpl:ps.length=9:=by rw[<- hN,<- hn,List.length_map]
 refine vc_rest rfl ?_
 simp[encC]
 refine V.cutV [(0,aB false),(1,.ptr 1 b1 0),(2,.ptr 2 b2 0),(3,aI 0),(13,aIs [0,1,0,0,0,0,0,0,1]),(90,aTs nineN),(91,aI 9),(92,aI 0)] (Hs:=awH c ps l b1 b2) (by simp[nineN,wk]) (by simp[encC]) ?_
 generalize nineN=N at *
 refine V.forI (σ:=Unit) 9 [1,2,3,13,90,91] (by simp;exact rfl) (fun i _=>[(0,aB false),(92,aI i)]) (fun _ _=>awH c ps l b1 b2) (fun _ _=>True) () trivial (by simp) ⟨by simp;exact rfl,by simp⟩ ?_ ?_
 ·rintro i-hi -
  obtain⟨p,hp⟩:∃p,ps[i]?=some p:=⟨_,List.getElem?_eq_getElem (by omega)⟩
  obtain⟨hil,hp1⟩:=List.getElem?_eq_some_iff.1 hp
  have hni:N[i]?=some p.name:=by rw[<- hn,List.getElem?_map,hp];rfl
  obtain⟨hnl,hn1⟩:=List.getElem?_eq_some_iff.1 hni
  simp[hi,hil,hp1,hp,hni,hnl,hn1]
  omega
 ·rintro - -
  simp
  refine h7.s ?_
  simp
  refine GCall.fn (aB true) (fun _=>⟨trivial,e1⟩) ?_
  simp
  refine GCall.fn (aB true) (fun _=>⟨trivial,e2⟩) ?_
  simp
  refine GCall.fn (aI 0) (fun _=>⟨trivial,h8⟩) ?_
  simp
end
theorem awake37_fn:CallFn Tryz.prog 9 [] (aB true):=by
 have h1:=Circuit_fn backC backC_ok
 rw[back_err]at h1
 have h2:=Count37_fn backC backC_ok
 rw[back_count]at h2
 have h3:=Port_fn backC 3 backC_ok (by simp)
 rw[back_p3]at h3
 have h4:=Port_fn backC 4 backC_ok (by simp)
 rw[back_p4]at h4
 have h5:=beginR_o backC backC_ok (fine_of backC_check)
 rw[back_first]at h5
 have h6:=RePositions_fn backC startS backC_ok (by constructor<;>decide)
 rw[back_pos]at h6
 have h7:=Parts_fn backC 3 backC_ok (by simp)
 rw[back_parts]at h7
 have h8:=CircCheck_fn (circR_ok back_circ)
 have e1:=eqI_fn [0,1,0,0,0,0,0,0,1] [0,1,0,0,0,0,0,0,1] (by decide) (by decide)
 rw[decide_eq_true rfl]at e1
 have e2:=eqI_fn [3,5] [3,5] (by decide) (by decide)
 rw[decide_eq_true rfl]at e2
 have hn:=back_names
 have hB:=Back_fn
 generalize (circuitQ backC).1=q at *
 obtain⟨ps,l⟩:=q
 generalize backC=c at *
 have hpl:ps.length=9:=by
  have:=congrArg List.length hn
  simpa using this
 exact awake37_a hB h1 h2 fun b1 b2=>awake37_b h3 h4 fun b6 b9=>awake37_c h5 h6 (awake37_d hpl (awake37_e hn h7 h8 e1 e2))
end
theorem rpc_s (l:List PortZ) (p:PortZ) (b:Nat) (hx:Sh l) :
  CallS Tryz.prog 19 [.dat (.sl (l.map encPo)),.ptr 16 b 0] [(16,.box b ((encPo p).map A.dat))] fun r H'=>r=aB (l.any (p==·))∧H'=[(16,.box b ((encPo p).map A.dat))]:=by
 have h:=contPo_fn l p hx
 obtain⟨p1,p2⟩:=p
 refine CallS.dropP (callS_of Tryz.func19 rfl Tryz.ntmps19 (rs:=[.tmp 3]) rfl (by kernel_rfl) (by simp) (by kernel_rfl) (K:=fun r H'=>r=aB (l.any ((p1,p2)==·))∧subP [(16,.box b ((encPo (p1,p2)).map A.dat))] H') ?_) (fun _ _ ⟨h1,h2⟩=>⟨_,h2,h1,rfl⟩)
 simp
 refine h.s ?_
 simp
 exact subP.refl _
theorem idxNeF_s (ns:List (List PortZ)) (p:List PortZ->Bool) (f:FuncId) (first caps:List A) (H:Heap) (hx:Sh ns) (hp:∀l∈ns,CallS Tryz.prog f (first++[.dat (.sl (l.map encPo))]++caps) H fun r H'=>r=aB (p l)∧H'=H) :
  CallS Tryz.prog 18 [aNets ns,.fn f first caps] H fun r H'=>r=aI (idxI (ns.findIdx? p))∧H'=H:=by
 refine CallS.rt (k:=1000) (CallS.dropP (callS_of Tryz.func18 rfl Tryz.ntmps18 (rs:=[.tmp 4]) rfl (by kernel_rfl) (by simp) (by kernel_rfl) (K:=fun r H'=>r=aI (idxI (ns.findIdx? p))∧subP (rt 1000 H) H') ?_) ?_)
 ·simp
  refine V.for' [0,1,7] (fun i:Nat=>[(8,aI i)]) (fun _=>rt 1000 H) (fun i=>i<=ns.length∧NoF p (ns.take i)) (fun i=>ns.length-i) 0 ⟨by simp,by simp,subP.refl _⟩ ?_
  rintro i ⟨hi,hI⟩
  by_cases hlt:i<ns.length
  ·have h1:=List.getElem?_eq_getElem hlt
   have hs:=findIdx_step (p:=p) hI h1
   have hc:=(hp ns[i] (List.getElem_mem hlt)).rt' (k:=1000)
   simp at hc
   simp[hlt,h1]
   refine hc.mono ?_
   rintro r H' ⟨H2,rfl,rfl,rfl⟩
   cases e:p ns[i]
   ·simp
    exact⟨by omega,i+1,⟨hlt,hs.1 e⟩,by omega,by simp,subP.refl _⟩
   ·rw[hs.2 e]
    simp
    exact subP.refl _
  ·obtain rfl:i=ns.length:=by omega
   rw[findIdx_none hI]
   simp
   exact subP.refl _
 ·rintro r H' ⟨rfl,h⟩
  exact⟨_,h,_,rfl,rfl,rfl⟩
theorem netW_find {c:Cir}(hr:CirR c) {p:PortZ}(hp:p∈allP c.parts):(netsZ c).findIdx? (fun l=>l.any (p==·))=some (netW (netsZ c) p)∧netW (netsZ c) p<(netsZ c).length:=by
 obtain⟨l,hl,hm⟩:=netW_some hr hp
 have hlt:=(List.getElem?_eq_some_iff.1 hl).1
 refine⟨?_,hlt⟩
 unfold netW
 rw[List.findIdx?_eq_guard_findIdx_lt]
 simp only[Option.guard_eq_some_iff]
 exact⟨trivial,by simpa [netW]using hlt⟩
def RowP (c:Control) (ns:List (List PortZ)) (L:List Int) (k:Nat) (v:Bool):Prop:=
 ∃(po:PortZ) (ok:Bool),CallFn Tryz.prog 17 [aC c,aI k] (.tuple [.record (encPo po),aB ok,aI 0])∧(ok=false->v=false)∧(ok=true->∃w,w<L.length∧ns.findIdx? (fun l=>l.any (po==·))=some w∧v=decide (L.getD w 0=2))
theorem rp_a {c:Control}{ns:List (List PortZ)}{L:List Int}{vs:List Bool}{b8:Nat}{t:State}(hR:CallFn Tryz.prog 16 [aC c,aSt t] (aBs vs)) (ha:CallFn Tryz.prog 9 [] (aB true)) (hns:Sh ns) (hnl:∀l∈ns,Sh l) (hL:L.length<=1000) (hvs:vs.length<=1000000) (hrow:∀k v,vs[k]?=some v->RowP c ns L k v) :
  V ⟨Tryz.prog,none,124⟩ (restC Tryz.f3 9) (hdE [(2,.rptr (encC c)),(4,aB false),(8,.ptr 8 b8 0),(10,aNets ns),(12,aIs L)] []) [(8,.box b8 ((encSt t).map A.dat))] (RetV Tryz.prog [.tmp 4] fun r' H'=>(frz H' r').1∧(frz H' r').2=aB true):=by
 refine V.rest rfl ?_
 refine V.of_vcN 1 ?_
 simp
 refine hR.s ?_
 simp
 refine V.forI (σ:=Unit) vs.length [2,10,12,83,84] (by simp;exact rfl) (fun i _=>[(4,aB false),(85,aI i)]) (fun _ _=>[]) (fun _ _=>True) () trivial (by simp) ⟨by simp;exact rfl,by simp⟩ ?_ ?_
 ·rintro i-hi -
  obtain⟨v,hv⟩:∃v,vs[i]=v:=⟨_,rfl⟩
  have hvo:vs[i]?=some v:=by rw[List.getElem?_eq_getElem hi,hv]
  obtain⟨po,ok,hpo,h1,h2⟩:=hrow i v hvo
  simp[hi,hv,hvo]
  refine hpo.s ?_
  simp
  intro b16
  cases ok with
  | false=>
   rw[h1 rfl]
   simp
   omega
  | true=>
   obtain⟨w,hw,hidx,hvw⟩:=h2 rfl
   have hc:=idxNeF_s ns (fun l=>l.any (po==·)) 19 [] [.ptr 16 b16 0] [(16,.box b16 ((encPo po).map A.dat))] hns fun l hl=>rpc_s l po b16 (hnl l hl)
   rw[hidx]at hc
   obtain⟨e1,e2⟩:=getD_at hw
   generalize L.getD w 0=z at *
   obtain⟨po1,po2⟩:=po
   simp
   refine (hc.mid [] [(8,_)]).mono ?_
   rintro r H' ⟨rfl,rfl⟩
   simp[idxI,hw,e1,e2,hvw]
   exact⟨rfl,fun _=>by omega⟩
 ·rintro - -
  simp
  refine V.of_vc ?_
  simp
  refine ha.s ?_
  simp
abbrev rpE (c:Control) (P:List Int) (b5 b8:Nat):List (Nat×A):=[(2,.rptr (encC c)),(4,aB false),(5,.ptr 5 b5 0),(6,aI 0),(7,aIs P),(8,.ptr 8 b8 0),(9,aI 0)]
theorem rp_b {c:Control}{z:Cir}{ns:List (List PortZ)}{L P:List Int}{b5 b8:Nat}{t:State}(hl:L.length=ns.length) (hn:CallFn Tryz.prog 13 [aCi z] (.tuple [aNets ns,aI 0])) (hp:CallFn Tryz.prog 14 [aCi z,aIs P] (.tuple [aIs L,aI 0])) (hr:CallFn Tryz.prog 15 [aC c,aSt t] (aI 0))
  (hx:V ⟨Tryz.prog,none,124⟩ (restC Tryz.f3 9) (hdE [(2,.rptr (encC c)),(4,aB false),(8,.ptr 8 b8 0),(10,aNets ns),(12,aIs L)] []) [(8,.box b8 ((encSt t).map A.dat))] (RetV Tryz.prog [.tmp 4] fun r' H'=>(frz H' r').1∧(frz H' r').2=aB true)) :
  V ⟨Tryz.prog,none,124⟩ (restC Tryz.f3 6) (hdE (rpE c P b5 b8) []) [(8,.box b8 ((encSt t).map A.dat)),(5,.box b5 ((encCi z).map A.dat))] (RetV Tryz.prog [.tmp 4] fun r' H'=>(frz H' r').1∧(frz H' r').2=aB true):=by
 refine V.rest rfl ?_
 refine V.of_vcN 3 ?_
 simp
 refine hn.s ?_
 simp
 refine hp.s ?_
 simp[hl]
 refine GCall.sure ⟨trivial,hr.s ?_⟩ trivial
 simp
 refine⟨by omega,fun _=>?_⟩
 exact V.cutV (Hs:=[(8,.box b8 ((encSt t).map A.dat))]) [(2,.rptr (encC c)),(4,aB false),(8,.ptr 8 b8 0),(10,aNets ns),(12,aIs L)] (by simp) (by simp) (V.of_rest rfl hx)
theorem RealizePressure_fn (c:Control) (s:State) (hc:OkC c) (hs:OkSt s):CallFn Tryz.prog 3 [aC c,aSt s] (aB true):=by
 have haw:=awake37_fn
 have hrt:=right37_fn c s hc hs
 by_cases hB:rightB c s=true
 ·rw[hB]at hrt
  have hB2:=hB
  simp only[rightB,Bool.and_eq_true,beq_iff_eq]at hB2
  obtain⟨⟨f1,f2⟩,hR⟩:=hB2
  have hsm:=few_sm f2
  have hpm:=few_c f1
  obtain⟨hz,hsh,_⟩:=right_zero hR
  have hcir:=Circuit_fn c hc
  cases hm:manyM (dM c) with
  | true=>
   rw[show circuitQ c=(([],[]),5) by simp[circuitQ,hz,hm]]at hcir
   refine callFz_of Tryz.func3 rfl Tryz.ntmps3 (rs:=[.tmp 4]) rfl (by kernel_rfl) (by simp) (by kernel_rfl) ?_
   simp
   refine hrt.s ?_
   simp
   refine hcir.s ?_
   simp
   intro b5
   refine GCall.fn (aB true) (fun h=>⟨h,haw⟩) ?_
   simp
  | false=>
   rw[show circuitQ c=(((dM c).parts,pipesM (dM c)),0) by simp[circuitQ,hz,hm]]at hcir
   simp only at hcir
   rw[cirW_enc]at hcir
   have hpo:=RePositions_fn c s hc hsm
   rw[show posQ37 c s=(posW c s,0) by unfold posQ37;rw[if_neg (by simp[hz]),if_neg (by simp[hm]),if_neg (by simp[hR])];rfl]at hpo
   have hg:=Gates_fn c s hc hsm
   rw[show gatesR c s=(gatesP c s,0) by unfold gatesR;rw[if_neg (by simp[hR])]]at hg
   have hok:=cirW_ok hz hm
   have hr:=cirW_right hz hm
   obtain⟨hpe,hpl⟩:=posW_ok hz hm s
   have hfew:=hr.few
   have hnn:=Nets_fn (cirW c) hok.names hok.parts hok.pipes
   rw[cirW_zero hz hm,if_pos rfl]at hnn
   have hpn:=PresNets_fn (cirW c) hok (posW c s) (by unfold Sh;omega)
   rw[show netsQ (cirW c) (posW c s)=(statesZ (cirW c).parts (netsZ (cirW c)) (posW c s),0) by unfold netsQ;rw[if_pos hpe]]at hpn
   obtain⟨g1,g2,g3,g4,g5⟩:=id hsm
   have hG:SmS (gatesP c s):=⟨g1,g2,g3,by show (gvals _ _ _).length<=_;rw[gvals_length];exact g4,g5⟩
   have hgs:=gates_shape hsh
   have hr2:=RightR_fn c (gatesP c s) hc hpm.1 hpm.2 hG
   rw[gates_right hR]at hr2
   have hvr:=ValuesR_fn c (gatesP c s) hG hgs.1.symm
   have hvl:=valuesOf_length hgs
   have hOR:=okR_of hz
   have hbig:countC c<=1000000:=by
    have:=hOR.act
    have:=hOR.inp
    have:=hOR.len
    unfold countC
    omega
   have hsl:=states_len (cirW c).parts (netsZ (cirW c)) (posW c s)
   obtain⟨n1,n2⟩:=nets_sh hr
   have hrow:∀k v,(valuesOf (gatesP c s))[k]?=some v->RowP c (netsZ (cirW c)) (statesZ (cirW c).parts (netsZ (cirW c)) (posW c s)) k v:=fun k v hkv=>by
    have hk:(k:Int)<countC c:=by
     have:=(List.getElem?_eq_some_iff.1 hkv).1
     omega
    have hvL:valL c s k=v:=by
     show (valuesOf (gatesP c s)).getD (k:Int).toNat false=v
     rw[Int.toNat_natCast,List.getD_eq_getElem?_getD,hkv]
     rfl
    obtain⟨po,ok,h1,h2,h3⟩:=port_row hc hz hm hR hk hbig
    rw[hvL]at h2 h3
    refine⟨po,ok,h1,h2,fun h=>?_⟩
    obtain⟨q,hq,rfl,ht,hpa⟩:=h3 h
    obtain⟨w1,w2⟩:=netW_find hr hpa
    refine⟨_,by rw[hsl];exact w2,w1,?_⟩
    have hp:=tel_prs hz hm ht hq
    rw[<- states_prs hr (posW_two (c:=c) (s:=s))]at hp
    rw[Bool.eq_iff_iff,decide_eq_true_eq]
    exact hp.symm
   have hra:=fun b8=>rp_a (b8:=b8) hvr haw (by unfold Sh;omega) (fun l hl=>by have:=n2 l hl;unfold Sh;omega) (by omega) (by omega) hrow
   have hrb:=fun b5 b8=>rp_b (b5:=b5) (b8:=b8) hsl hnn hpn hr2 (hra b8)
   clear hra hrow
   generalize gatesP c s=G at *
   generalize posW c s=P at *
   generalize cirW c=z at *
   refine callFz_cut 6 Tryz.func3 rfl Tryz.ntmps3 (rs:=[.tmp 4]) rfl (by kernel_rfl) (by simp) (by kernel_rfl) ?_
   simp
   refine hrt.s ?_
   simp
   refine hcir.s ?_
   simp
   intro b5
   refine hpo.s ?_
   simp
   refine hg.s ?_
   simp
   intro b8
   exact V.cutV (Hs:=[(8,.box b8 ((encSt G).map A.dat)),(5,.box b5 ((encCi z).map A.dat))]) (rpE c P b5 b8) (by simp) (by simp) (V.of_rest rfl (hrb b5 b8))
 ·rw[Bool.not_eq_true]at hB
  rw[hB]at hrt
  refine callFz_of Tryz.func3 rfl Tryz.ntmps3 (rs:=[.tmp 4]) rfl (by kernel_rfl) (by simp) (by kernel_rfl) ?_
  simp
  refine hrt.s ?_
  simp
  refine haw.s ?_
  simp
section
variable {P:Program}{H:Type}{enc:TypeId×Value->H}
inductive Lf where
 | int (k:IntKind)
 | bool
 | str
 | sl (e:TypeId)
def leavesF (P:Program) (g:TypeId->Option (List Lf)):List Field->Nat->Option (List Lf)
 | [],_=>some []
 | f::fs,off=>match g f.type with
  | some a=>if f.offset=off∧P.cellsOf f.type=a.length then (leavesF P g fs (off+a.length)).map (a++·) else none
  | none=>none
def leavesT (P:Program):Nat->TypeId->Option (List Lf)
 | 0,_=>none
 | n+1,t=>match P.underlying t with
  | some .bool=>some [.bool]
  | some (.int k)=>some [.int k]
  | some .string=>some [.str]
  | some (.slice e)=>some [.sl e]
  | some (.struct fs)=>match leavesF P (leavesT P n) fs.toList 0 with
   | some a=>if a.length=P.cellsOf t then some a else none
   | none=>none
  | _=>none
def inT (T:List TypeId):Lf->Bool
 | .sl e=>T.contains e
 | _=>true
def goodT (P:Program) (K:Nat) (T:List TypeId):Bool:=T.all fun e=>match leavesT P K e with
 | some a=>a.all (inT T)&&decide (a.length=P.cellsOf e)&&decide (0<a.length)
 | none=>false
def All2 {α β:Type}(R:α->β->Prop):List α->List β->Prop
 | [],[]=>True
 | a::r,b::s=>R a b∧All2 R r s
 | _,_=>False
theorem All2.append {α β:Type}{R:α->β->Prop}:∀ {a:List α}{b:List β}{c:List α}{d:List β},All2 R a b->All2 R c d->All2 R (a++c) (b++d)
 | [],[],_,_,_,h=>h
 | _::_,_::_,_,_,h1,h2=>⟨h1.1,All2.append h1.2 h2⟩
 | [],_::_,_,_,h,_=>h.elim
 | _::_,[],_,_,h,_=>h.elim
theorem All2.len {α β:Type}{R:α->β->Prop}:∀ {a:List α}{b:List β},All2 R a b->a.length=b.length
 | [],[],_=>rfl
 | _::_,_::_,h=>by simp[All2.len h.2]
 | [],_::_,h=>h.elim
 | _::_,[],h=>h.elim
theorem All2.imp {α β:Type}{R R':α->β->Prop}(hi:∀a b,R a b->R' a b):∀ {a:List α}{b:List β},All2 R a b->All2 R' a b
 | [],[],_=>trivial
 | _::_,_::_,h=>⟨hi _ _ h.1,All2.imp hi h.2⟩
 | [],_::_,h=>h.elim
 | _::_,[],h=>h.elim
def OkV (P:Program) (K:Nat):Nat->Lf->L->Prop
 | _,.int k,l=>∃n,l=.int k n∧(Lit.int k n).wf=true
 | _,.bool,l=>∃b,l=.bool b
 | _,.str,l=>∃s,l=.str s∧s.length<=maxLen
 | 0,.sl _,_=>False
 | n+1,.sl e,l=>∃rows:List (List L),l=.sl rows∧rows.length<=maxLen∧∀r∈rows,∃lfs,leavesT P K e=some lfs∧All2 (OkV P K n) lfs r
theorem OkV.succ {K:Nat}:∀ {n:Nat}{f:Lf}{l:L},OkV P K n f l->OkV P K (n+1) f l
 | 0,.sl _,_,h=>by simp[OkV]at h
 | n+1,.sl e,l,h=>by
  simp only[OkV]at h
  obtain⟨rows,e1,h1,h2⟩:=h
  simp only[OkV]
  refine⟨rows,e1,h1,fun r hr=>?_⟩
  obtain⟨lfs,h3,h4⟩:=h2 r hr
  exact⟨lfs,h3,h4.imp fun a b=>OkV.succ⟩
 | 0,.int _,_,h=>by simpa [OkV]using h
 | 0,.bool,_,h=>by simpa [OkV]using h
 | 0,.str,_,h=>by simpa [OkV]using h
 | n+1,.int _,_,h=>by simpa [OkV]using h
 | n+1,.bool,_,h=>by simpa [OkV]using h
 | n+1,.str,_,h=>by simpa [OkV]using h
theorem RdLs.app {x:X}:∀ {a:List L}{u:List Value}{b:List L}{v:List Value},RdLs x a u->RdLs x b v->RdLs x (a++b) (u++v)
 | [],[],_,_,_,h=>h
 | _::_,_::_,_,_,h1,h2=>by simp only[RdLs]at h1;simp only[List.cons_append,RdLs];exact⟨h1.1,RdLs.app h1.2 h2⟩
 | [],_::_,_,_,h,_=>by simp[RdLs]at h
 | _::_,[],_,_,h,_=>by simp[RdLs]at h
def X0 (W:World):X:=⟨W,fun b=>b<W.heap.size⟩
theorem mapM_get {α β:Type}{f:α->Option β}:∀ {l:List α}{r:List β},l.mapM f=some r->r.length=l.length∧∀(i:Nat) (x:α),l[i]?=some x->f x=r[i]?
 | [],r,h=>by
  simp only[List.mapM_nil,Option.pure_def,Option.some.injEq]at h
  subst h
  simp
 | a::l,r,h=>by
  rw[List.mapM_cons]at h
  simp only[Option.bind_eq_bind,Option.bind_eq_some_iff,Option.pure_def,Option.some.injEq]at h
  obtain⟨b,h1,r',h2,rfl⟩:=h
  obtain⟨k1,k2⟩:=mapM_get h2
  refine⟨by simp[k1],fun i x hx=>?_⟩
  cases i with
  | zero=>simp only[List.getElem?_cons_zero,Option.some.injEq]at hx ⊢;subst hx;exact h1
  | succ i=>simpa using k2 i x (by simpa using hx)
theorem cells_get {W:World}{a:Addr}{n:Nat}{cs:List Value}(h:W.cells? 0 a n=some cs):cs.length=n∧∀j,j<n->W.cell? (a.add j)=cs[j]?:=by
 simp only[World.cells?,Nat.zero_le,if_true]at h
 obtain⟨h1,h2⟩:=mapM_get h
 exact⟨by simpa using h1,fun j hj=>h2 j j (by simp[hj])⟩
theorem cell_spot {W:World}{a:Addr}{v:Value}(h:W.cell? a=some v):a.spot=none∧a.block<W.heap.size:=by
 unfold World.cell? at h
 split at h
 ·rename_i c _ _ hb
  refine⟨?_,(Array.getElem?_eq_some_iff.1 hb).1⟩
  split at h
  ·cases h
  ·rename_i hs;simpa using hs
 ·cases h
theorem list_of {α:Type}{p:Nat->α->Prop}:∀(n:Nat),(∀i,i<n->∃a,p i a)->∃l:List α,l.length=n∧∀(i:Nat) (a:α),l[i]?=some a->p i a
 | 0,_=>⟨[],rfl,by simp⟩
 | n+1,h=>by
  obtain⟨l,h1,h2⟩:=list_of n fun i hi=>h i (by omega)
  obtain⟨a,ha⟩:=h n (by omega)
  refine⟨l++[a],by simp[h1],fun i b hb=>?_⟩
  rcases Nat.lt_trichotomy i n with hi | hi | hi
  ·exact h2 i b (by rwa [List.getElem?_append_left (by omega)]at hb)
  ·subst hi
   rw[List.getElem?_append_right (by omega)]at hb
   simp[h1]at hb
   subst hb;exact ha
  ·rw[List.getElem?_eq_none (by simp[h1];omega)]at hb
   cases hb
theorem rdRows_at {x:X}{b:Nat}(sz:Nat):∀(rows:List (List L)) (off:Nat),(∀i r,rows[i]?=some r->r.length=sz∧RdCells x r b (off+i*sz))->RdRows x rows b off
 | [],_,_=>by simp[RdRows]
 | r::rs,off,h=>by
  obtain⟨h1,h2⟩:=h 0 r (by simp)
  simp only[RdRows]
  refine⟨by simpa using h2,rdRows_at sz rs (off+r.length) fun i q hq=>?_⟩
  obtain⟨h3,h4⟩:=h (i+1) q (by simpa using hq)
  refine⟨h3,?_⟩
  rw[h1,show off+sz+i*sz=off+(i+1)*sz by rw[Nat.add_mul];omega]
  exact h4
theorem read_fields {W:World}{K n:Nat}{T:List TypeId}{k:Nat}(ih:∀t cs x,DataW.trod enc P W 0 (fun _=>true) true n t cs=some x->∀lfs,leavesT P k t=some lfs->lfs.all (inT T)=true->∃ls,RdLs (X0 W) ls cs∧All2 (OkV P K n) lfs ls) (cs:List Value) :
  ∀(fs:List Field) (off:Nat) (xs:List (DataW H×List MemPlace)),(fs.mapM fun f=>DataW.trod enc P W 0 (fun _=>true) true n f.type ((cs.drop f.offset).take (P.cellsOf f.type)))=some xs ->
   ∀lfs,leavesF P (leavesT P k) fs off=some lfs->lfs.all (inT T)=true->∃ls,RdLs (X0 W) ls ((cs.drop off).take lfs.length)∧All2 (OkV P K n) lfs ls
 | [],off,xs,h,lfs,hl,_=>by
  simp only[leavesF,Option.some.injEq]at hl
  subst hl
  exact⟨[],by simp[RdLs],trivial⟩
 | f::fs,off,xs,h,lfs,hl,hT=>by
  simp only[leavesF]at hl
  split at hl<;>try (simp at hl;done)
  rename_i a ha
  split at hl<;>try (simp at hl;done)
  rename_i ho
  simp only[Option.map_eq_some_iff]at hl
  obtain⟨b,hb,rfl⟩:=hl
  rw[List.mapM_cons]at h
  simp only[Option.bind_eq_bind,Option.bind_eq_some_iff,Option.pure_def,Option.some.injEq]at h
  obtain⟨x,h1,xs',h2,_⟩:=h
  rw[List.all_append,Bool.and_eq_true]at hT
  obtain⟨ls1,r1,o1⟩:=ih _ _ _ h1 a ha hT.1
  obtain⟨ls2,r2,o2⟩:=read_fields ih cs fs (off+a.length) xs' h2 b hb hT.2
  rw[ho.1,ho.2]at r1
  refine⟨ls1++ls2,?_,o1.append o2⟩
  have:(cs.drop off).take (a++b).length=(cs.drop off).take a.length++(cs.drop (off+a.length)).take b.length:=by
   rw[List.length_append,List.take_add,List.drop_drop]
  rw[this]
  exact r1.app r2
theorem read_ok {W:World}{K:Nat}{T:List TypeId}(hT:goodT P K T=true):∀(n:Nat) (t:TypeId) (cs:List Value) (x:DataW H×List MemPlace),DataW.trod enc P W 0 (fun _=>true) true n t cs=some x ->
  ∀(k:Nat) (lfs:List Lf),leavesT P k t=some lfs->lfs.all (inT T)=true->∃ls,RdLs (X0 W) ls cs∧All2 (OkV P K n) lfs ls
 | 0,t,cs,x,h,_,_,_,_=>by simp[DataW.trod]at h
 | n+1,t,cs,x,h,0,lfs,hl,_=>by simp[leavesT]at hl
 | n+1,t,cs,x,h,k+1,lfs,hl,hin=>by
  have ih:=read_ok (W:=W) hT n
  have h0:=h
  simp only[leavesT]at hl
  split at hl<;>try (simp at hl;done)
  ·rename_i hu
   simp only[Option.some.injEq]at hl;subst hl
   obtain⟨b,rfl,_⟩:=DataW.trod_bool hu h
   exact⟨[.bool b],by simp[RdLs,RdL],by simp[All2,OkV]⟩
  ·rename_i q hu
   simp only[Option.some.injEq]at hl;subst hl
   obtain⟨m,rfl,_,hw⟩:=DataW.trod_int hu h
   exact⟨[.int q m],by simp[RdLs,RdL],by simp[All2,OkV,hw]⟩
  ·rename_i hu
   simp only[Option.some.injEq]at hl;subst hl
   obtain⟨b,rfl,_,hw⟩:=DataW.trod_string hu h
   refine⟨[.str b.data.toList],by simp only[RdLs,RdL,and_true],?_⟩
   simp only[All2,OkV,and_true]
   exact⟨_,rfl,by rw[Array.length_toList];exact hw⟩
  ·rename_i e hu
   simp only[Option.some.injEq]at hl;subst hl
   have he:T.contains e=true:=by simpa [inT]using hin
   have hg:=List.all_eq_true.1 hT e (by simpa using he)
   split at hg<;>try (cases hg;done)
   rename_i lfe hle
   simp only[Bool.and_eq_true,decide_eq_true_eq]at hg
   obtain⟨⟨g1,g2⟩,g3⟩:=hg
   rcases DataW.trod_slice hu h0 with⟨rfl,_⟩|⟨a,len,cap,elems,rest,n',hn,rfl,_,_,hlc,hcm,hel,hrd,hsp,_⟩
   ·exact⟨[.sl []],by simp[RdLs,RdL],by simp[All2,OkV]⟩
   ·obtain rfl:n=n':=by omega
    have hidx:∀m,(W.cells? 0 (a.add (m*P.cellsOf e)) (P.cellsOf e)).bind (DataW.trod enc P W 0 (fun _=>true) true n e)=none∨∃c y,W.cells? 0 (a.add (m*P.cellsOf e)) (P.cellsOf e)=some c∧DataW.trod enc P W 0 (fun _=>true) true n e c=some y:=by
     intro m
     cases hm:(W.cells? 0 (a.add (m*P.cellsOf e)) (P.cellsOf e)).bind (DataW.trod enc P W 0 (fun _=>true) true n e) with
     | none=>exact .inl rfl
     | some y=>
      obtain⟨c,h2,h3⟩:=Option.bind_eq_some_iff.1 hm
      exact .inr ⟨c,y,h2,h3⟩
    by_cases hcap:cap=0
    ·subst hcap
     obtain rfl:len=0:=by omega
     refine⟨[.sl []],?_,by simp[All2,OkV]⟩
     simp only[RdLs,RdL]
     exact⟨.inr (.inr ⟨a,by simp⟩),trivial⟩
    ·have hspot:a.spot=none:=by
      have h0:∃c y,W.cells? 0 (a.add (0*P.cellsOf e)) (P.cellsOf e)=some c∧DataW.trod enc P W 0 (fun _=>true) true n e c=some y:=by
       rcases hidx 0 with h1 | h1
       ·exfalso
        by_cases hl0:len=0
        ·have h2:=(hsp rfl).2 0 (by omega)
         rw[hl0,Nat.zero_add]at h2
         rw[h1]at h2
         have h3:=(hsp rfl).1
         rw[List.getElem?_eq_getElem (by omega)]at h2
         cases h2
        ·have h2:=hrd 0 (by omega)
         rw[h1,List.getElem?_eq_getElem (by omega)]at h2
         cases h2
       ·exact h1
      obtain⟨c,y,h2,h3⟩:=h0
      obtain⟨c1,c2⟩:=cells_get h2
      have h00:=c2 0 (by omega)
      rw[List.getElem?_eq_getElem (by omega),Nat.zero_mul]at h00
      exact (cell_spot h00).1
     obtain⟨b,off,sp⟩:=a
     simp only at hspot
     subst hspot
     have hcell:∀i,i<len->∃ls:List L,ls.length=P.cellsOf e∧RdCells (X0 W) ls b (off+i*P.cellsOf e)∧All2 (OkV P K n) lfe ls:=by
      intro i hi
      have h1:=hrd i hi
      rw[List.getElem?_eq_getElem (by omega)]at h1
      obtain⟨c,h2,h3⟩:=Option.bind_eq_some_iff.1 h1
      obtain⟨c1,c2⟩:=cells_get h2
      obtain⟨ls,r1,r2⟩:=ih e c _ h3 K lfe hle g1
      have hlen:ls.length=P.cellsOf e:=by rw[<- r2.len,g2]
      have h00:=c2 0 (by omega)
      rw[List.getElem?_eq_getElem (by omega),add_none,add_none]at h00
      have hs:=cell_spot h00
      refine⟨ls,hlen,rdCells_vals (x:=X0 W) hs.2 ls c _ r1 fun j v hv=>?_,r2⟩
      have:=c2 j (by rw[<- c1];exact (List.getElem?_eq_some_iff.1 hv).1)
      rw[hv,add_none,add_none]at this
      exact this
     obtain⟨rows,hr1,hr2⟩:=list_of len hcell
     refine⟨[.sl rows],?_,?_,trivial⟩
     ·simp only[RdLs,RdL]
      refine⟨.inr (.inl ⟨b,off,cap,by rw[hr1],by omega,rdRows_at (P.cellsOf e) rows off fun i r hr=>⟨(hr2 i r hr).1,(hr2 i r hr).2.1⟩⟩),trivial⟩
     ·simp only[OkV]
      refine⟨rows,rfl,by omega,fun r hr=>?_⟩
      obtain⟨i,hi,rfl⟩:=List.getElem_of_mem hr
      exact⟨lfe,hle,(hr2 i _ (List.getElem?_eq_getElem hi)).2.2⟩
  ·rename_i fs hu
   split at hl<;>try (simp at hl;done)
   rename_i a ha
   split at hl<;>try (simp at hl;done)
   rename_i hal
   simp only[Option.some.injEq]at hl;subst hl
   unfold DataW.trod at h;rw[hu]at h
   simp only at h
   split at h<;>try (simp at h;done)
   rename_i hc
   obtain⟨xs,h1,_⟩:=Option.map_eq_some_iff.1 h
   obtain⟨ls,r1,r2⟩:=read_fields (fun t cs x h lfs hl hin=>ih t cs x h k lfs hl hin) cs fs.toList 0 xs h1 a ha hin
   refine⟨ls,?_,r2.imp fun _ _=>OkV.succ⟩
   rw[hal,<- hc]at r1
   simpa using r1
termination_by n=>n
theorem read_arg {W:World}{K:Nat}{T:List TypeId}(hT:goodT P K T=true) {base:Nat}{t:TypeId}{v:Value}{d:DataW H}{ps:List MemPlace}{fs:Array Field}(hu:P.underlying t=some (.struct fs)) {lfs:List Lf}
  (hl:leavesT P K t=some lfs) (hin:lfs.all (inT T)=true) (hval:Value.okWide P W .any base t v) (hd:DataW.Trod enc P W 0 (fun _=>true) true t v d ps):∃ls n,D (X0 W) (.record ls) v∧All2 (OkV P K n) lfs ls:=by
 obtain⟨n,hn⟩:=hd
 obtain⟨ls,h1,h2⟩:=read_ok hT n t _ _ hn K lfs hl hin
 unfold Value.okWide at hval
 rw[hu]at hval
 obtain⟨cs,rfl,_,_⟩:=hval
 exact⟨ls,n,by simp only[D];exact⟨cs,rfl,by simpa [Value.cells]using h1⟩,h2⟩
theorem lift_list {α:Type}{enc:α->List L}{Ok:α->Prop}:∀ {rows:List (List L)},(∀r∈rows,∃a,r=enc a∧Ok a)->∃l:List α,rows=l.map enc∧∀a∈l,Ok a
 | [],_=>⟨[],rfl,by simp⟩
 | r::rs,h=>by
  obtain⟨a,rfl,ha⟩:=h r (by simp)
  obtain⟨l,rfl,hl⟩:=lift_list (rows:=rs) fun q hq=>h q (by simp[hq])
  refine⟨a::l,rfl,fun b hb=>?_⟩
  rcases List.mem_cons.1 hb with rfl | hb
  ·exact ha
  ·exact hl b hb
theorem wf_i64 {n:Int}(h:(Lit.int .i64 n).wf=true) : -9223372036854775808<=n∧n<=9223372036854775807:=by
 simp only[Lit.wf,Bool.and_eq_true,decide_eq_true_eq]at h
 exact h
end
section
open Go.ChangeShapes Go.WideShapes Go.ChangeAt Go.RowKit
variable {P:Program}{H:Type}{enc:TypeId×Value->H}
theorem X0_inv {W:World}(ht:Tabs (X0 W)):Inv (X0 W) []:=⟨⟨fun _ h=>h,ht⟩,by simp,by simp,by simp⟩
theorem kept_le {W:World}{y:X}(h:(X0 W).le y):W.keptBut y.w (fun _=>False):=by
 refine⟨h.os,h.output,fun i hi=>?_⟩
 rw[show y.w.heap[i]?=W.heap[i]? from (h.keep i hi).2]
 cases W.heap[i]? with
 | none=>rfl
 | some o=>cases o<;>simp
theorem sameAt_le {W:World}{y:X}(h:(X0 W).le y) {p:MemPlace}(hb:p.block<W.heap.size):W.sameAt y.w p:=by
 cases p with
 | cell b o=>exact h.cell hb
 | map b=>exact (h.keep b hb).2
theorem frozen_le {W:World}{y:X}(h:(X0 W).le y) {a:Addr}(hb:a.block<W.heap.size):y.w.frozen? a=W.frozen? a:=by
 unfold World.frozen?
 rw[show y.w.heap[a.block]?=W.heap[a.block]? from (h.keep a.block hb).2]
theorem trodAll_carry {w w':World}{base:Nat}{sp:Nat->Bool}{hd:Bool}:∀ {ts:List TypeId}{vs:List Value}{ds:List (DataW H)}{ps:List MemPlace},
  DataW.TrodAll enc P w base sp hd ts vs ds ps->(∀p∈ps,w.sameAt w' p)->DataW.TrodAll enc P w' base sp hd ts vs ds ps
 | [],[],[],_,h,_=>h
 | _::_,_::_,_::_,_,⟨p,q,⟨n,h1⟩,h2,e⟩,hs=>⟨p,q,⟨n,DataW.trod_carry _ _ _ _ h1 fun x hx=>hs x (by rw[e];exact List.mem_append_left _ hx)⟩,trodAll_carry h2 (fun x hx=>hs x (by rw[e];exact List.mem_append_right _ hx)),e⟩
 | [],[],_::_,_,h,_=>h.elim
 | [],_::_,_,_,h,_=>h.elim
 | _::_,[],_,_,h,_=>h.elim
 | _::_,_::_,[],_,h,_=>h.elim
theorem post_le {f:Func}{s:ChangeSpec}{apart fresh handsOn again:Bool}{W:World}{y:X}{args:Array Value}{v:Value}{ds gs:List (DataW H)}{before:List MemPlace}
  (hl:laidOutB P=true) (hm:mapsRowed P=true) (hz:∀t e,t<P.types.size->P.underlying t=some (.slice e)->0<P.cellsOf e) (hts:∀t∈f.params.toList,t<P.types.size)
  (hW:DataW.Whole enc P f.params.toList s.vars apart W args.toList ds gs before) (hvs:s.vars=[]) (ha:(s.fn H (ds++gs)).args=ds) (hv:(s.fn H (ds++gs)).vars=[])
  (hle:(X0 W).le y) (hres:∀(b:Nat) (sp:Nat->Bool) (hd:Bool),DataW.TrodAll enc P y.w b sp hd f.resultTypes.toList (v.resultList f.resultTypes.size) (s.fn H (ds++gs)).results [])
  (hok:∀(j:Nat) (t:TypeId) (r:Value),f.resultTypes[j]?=some t->(v.resultList f.resultTypes.size)[j]?=some r->Value.okWide P y.w .any 0 t r) :
  s.post enc P f apart fresh handsOn again W args v y.w:=by
 have hlt:=hW.lt
 have hW':=hW
 obtain⟨p,q,h1,h2,e,h3,h4⟩:=hW
 have hq:q=[]∧gs=[]:=by
  rw[hvs]at h2
  cases gs with
  | nil=>exact⟨h2,rfl⟩
  | cons _ _=>exact h2.elim
 obtain⟨rfl,rfl⟩:=hq
 rw[List.append_nil]at e
 subst e
 have hA:∀sp:Nat->Bool,(∀x∈before,sp x.block=true)->DataW.TrodAll enc P y.w 0 sp true f.params.toList args.toList (s.fn H (ds++[])).args before:=fun sp hsp=>by
  rw[ha]
  exact trodAll_carry (h1.respare (kids_rows hl hm) hz hts hsp) fun x hx=>sameAt_le hle (hlt x hx)
 have hV:∀sp:Nat->Bool,DataW.TrodVars enc P y.w sp s.vars (s.fn H (ds++[])).vars []:=fun sp=>by
  rw[hvs,hv]
  rfl
 refine⟨ds,[],before,[],before,[],hW',hres _ _ _,hA _ (fun x hx=>by simpa using hlt x hx),hV _,World.keptBut_mono (fun _ h=>h.elim) (kept_le hle),fun _=>?_⟩
 refine⟨hok,_,_,([]++before)++[],⟨[]++before,[],trodAll_append (hA _ (fun _ _=>rfl)) (hres _ _ _),hV _,rfl,?_,?_⟩,?_⟩
 ·intro b off hp
  simp only[List.nil_append,List.append_nil]at hp
  rw[frozen_le hle (hlt _ hp)]
  exact h3 b off hp
 ·intro hap
  simpa using h4 hap
 ·intro x hx _
  simpa using hx
theorem law_of {g:FuncId}{f:Func}{s:ChangeSpec}{apart fresh handsOn again:Bool}{W:World}{args:Array Value}{ds gs:List (DataW H)}{before:List MemPlace}{az:List A}{tb:TypeId}
  (htab:Tabs (X0 W)) (hl:laidOutB P=true) (hm:mapsRowed P=true) (hz:∀t e,t<P.types.size->P.underlying t=some (.slice e)->0<P.cellsOf e) (hts:∀t∈f.params.toList,t<P.types.size)
  (hr:f.resultTypes=#[tb]) (hb:P.underlying tb=some .bool)
  (hW:DataW.Whole enc P f.params.toList s.vars apart W args.toList ds gs before) (hvs:s.vars=[]) (ha:(s.fn H (ds++gs)).args=ds) (hv:(s.fn H (ds++gs)).vars=[]) (hrs:(s.fn H (ds++gs)).results=[.lit (.bool true)])
  (hd:Ds (X0 W) az args.toList) (hc:CallFn P g az (.dat (.bool true))):Calls P g args W fun e W'=>∃v,e=.returned v∧s.post enc P f apart fresh handsOn again W args v W':=by
 refine (hc.2 (X0 W) args [] (X0_inv htab) hd).mono ?_
 rintro _ _ ⟨y,v,r,H',rfl,rfl,hle,_,hvv,rfl,rfl⟩
 simp only[D,RdL]at hvv
 subst hvv
 refine⟨_,rfl,post_le hl hm hz hts hW hvs ha hv hle ?_ ?_⟩
 ·intro b sp hd'
  rw[hrs,hr]
  have ht:DataW.Trod enc P y.w b sp hd' tb (.bool true) (.lit (.bool true)) []:=⟨1,by simp[DataW.trod,Value.cells,hb]⟩
  exact trodAll_cons_mk ht trodAll_mk0
 ·intro j t r h1 h2
  rw[hr]at h1 h2
  cases j with
  | zero=>
   simp only[Array.size_singleton,Value.resultList]at h1 h2
   obtain rfl:t=tb:=by simpa using h1.symm
   obtain rfl:r=.bool true:=by simpa using h2.symm
   exact okWide_bool_mk hb _
  | succ j=>simp at h1
end
end Go.Proofs.YtafamcbdaeppoaaGreatDoor
