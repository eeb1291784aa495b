/- Texts joined by a program: Wp,Wq,Li,Lj,Lk,Lq,Ll,Lt,Vca. -/
import Derived.ProofKit
import Derived.ReadAgain
import Derived.WalkKit
import Derived.OpenShut
import Derived.Deep.Frames
import Derived.ChangeMaps5
import Derived.Lay
import Derived.Test.YtpadinblmjlggaaGreatDoorP27
import Derived.Test.YtpadinblmjlggaaGreatDoorP26
import Derived.Test.YtpadinblmjlggaaGreatDoorP23
import Derived.Test.YtpadinblmjlggaaGreatDoorP10
import Derived.Test.YtpadinblmjlggaaGreatDoorP5
import Derived.Test.YtpadinblmjlggaaGreatDoorP13
set_option linter.unusedSimpArgs false
set_option linter.unusedVariables false

section
namespace Go.Proofs.YtpadinblmjlggaaGreatDoor
set_option maxHeartbeats 4000000
set_option maxRecDepth 10000
theorem press1_fn (n : Nat) (t : List UInt8) : CallFn Tryz.prog 84 [aI n,aT t] (.record (encPo ((n : Int),t))):=by
 refine callFz_of Tryz.func84 rfl Tryz.ntmps84 (rs:=[.cell 4 73]) rfl (by kernel_rfl) (by simp) (by kernel_rfl) ?_
 simp
theorem Press_fn : CallFn Tryz.prog 38 [] (aCi pressZ):=by
 have a0:=press1_fn 0 [50]
 have a1:=press1_fn 2 [50]
 have a2:=press1_fn 0 [52]
 have a3:=press1_fn 2 [52]
 have a4:=press1_fn 1 [49]
 have a5:=press1_fn 2 [49]
 have a6:=press1_fn 3 [49]
 have a7:=press1_fn 2 [49,52]
 have a8:=press1_fn 3 [50]
 refine callFz_of Tryz.func38 rfl Tryz.ntmps38 (rs:=[.cell 0 25]) rfl (by kernel_rfl) (by simp) (by kernel_rfl) ?_
 simp
 intro b0
 refine a0.s ?_
 simp
 refine a1.s ?_
 simp
 refine a2.s ?_
 simp
 refine a3.s ?_
 simp
 refine a4.s ?_
 simp
 refine a5.s ?_
 simp
 refine a4.s ?_
 simp
 refine a6.s ?_
 simp
 refine a7.s ?_
 simp
 refine a8.s ?_
 simp [pressZ,pressP,pressL]
theorem clonePi_o (xs : List PipeZ) (hx : xs.length ≤ 1000000) : CallOwn Tryz.prog 43 [.dat (.sl (xs.map encPi))] 93 4 (xs.map rPi):=by
 refine CallS.nilcase (az:=[]) (bz:=[]) ?_ ?_
 ·intro hn
  have hn : xs = []:=by simpa using hn
  subst hn
  refine callO_of Tryz.func43 rfl Tryz.ntmps43 (rs:=[.tmp 2]) rfl (by kernel_rfl) (by simp) (by kernel_rfl) ?_
  simp
 ·refine callO_of Tryz.func43 rfl Tryz.ntmps43 (rs:=[.tmp 2]) rfl (by kernel_rfl) (by simp) (by kernel_rfl) ?_
  simp
  omega
abbrev awEnv (b1 b2 b8 : Nat) (O : List Nat) : List (Nat × A):=[(0,aB false),(1,.ptr 1 b1 0),(2,.ptr 2 b2 0),(3,aI 0),(4,.dat (.sl [encDr (0,2)])),(5,aI 0),(6,aNs O),(7,aI 0),(8,.ptr 8 b8 0),(9,aI 0),(10,aIs [0,0,1,1]),(11,aI 0)]
abbrev awHp (b1 b2 b8 : Nat) (c : Cir) (ct : Control) (s : State) : Heap:=[(8,.box b8 ((encSt s).map A.dat)),(2,.box b2 ((encC ct).map A.dat)),(1,.box b1 ((encCi c).map A.dat))]
theorem awake30_d {b1 b2 b8 : Nat} {O : List Nat} (hO : O.length = 4) {ct : Control} (h4 : ct.signals.map (·.name) = [[110,48],[110,49],[110,50],[110,51],[119,50]]) (hsl : ct.signals.length = 5) :
  V ⟨Tryz.prog,none,128⟩ (restC Tryz.f9 9) (hdE (awEnv b1 b2 b8 O) []) (awHp b1 b2 b8 pressB ct pressS) (RetV Tryz.prog [.tmp 0] fun r' H'=>(frz H' r').1 ∧ (frz H' r').2 = aB true):=by
 have hok : OkCir pressB:=⟨fun _=>by decide,by decide,by decide⟩
 have hd:=Drives_fn pressB hok
 rw [press_bad] at hd
 have q1:=eqI_fn [0,0,1,1] [0,0,1,1] (by decide) (by decide)
 have q2:=eqB_fn [false,false,true,true,false] [false,false,true,true,false] (by decide) (by decide)
 rw [decide_eq_true rfl] at q1 q2
 obtain ⟨x,hx⟩ : ∃ x,ct.signals[4] = x:=⟨_,rfl⟩
 have hxo : ct.signals[4]? = some x:=by rw [List.getElem?_eq_getElem (by omega),hx]
 have hxn : x.name = [119,50]:=by
  have:=congrArg (fun l=>l[4]?) h4
  simp only [List.getElem?_map,hxo] at this
  simpa using this
 refine V.rest rfl ?_
 refine V.of_vc ?_
 simp
 refine hd.s ?_
 simp [hO]
 refine GCall.fn (aB true) (fun h=>⟨h,q1⟩) ?_
 simp [pressS]
 refine GCall.fn (aB true) (fun h=>⟨h,q2⟩) ?_
 simp [hsl,hx,hxo,hxn]
theorem awake30_c {b1 b2 b8 : Nat} {O : List Nat} (hO : O.length = 4) {ct : Control} (h4 : ct.signals.map (·.name) = [[110,48],[110,49],[110,50],[110,51],[119,50]]) (hsl : ct.signals.length = 5) :
  V ⟨Tryz.prog,none,128⟩ (restC Tryz.f9 8) (hdE (awEnv b1 b2 b8 O) []) (awHp b1 b2 b8 pressZ ct pressS) (RetV Tryz.prog [.tmp 0] fun r' H'=>(frz H' r').1 ∧ (frz H' r').2 = aB true):=by
 have hcl:=clonePi_o pressL (by decide)
 have hdl:=fun e t h=>deleteP_s (e:=e) (t:=t) (h:=h) (p0:=((0,[50]),(2,[50]))) (p1:=((0,[52]),(2,[52]))) (p2:=((1,[49]),(2,[49]))) (p3:=((1,[49]),(3,[49]))) (p4:=((2,[49,52]),(3,[50])))
 refine V.rest rfl ?_
 refine V.of_vcN 1 ?_
 simp
 refine hcl.s 70 fun g=>?_
 simp
 refine ((hdl 93 70 g).frame (H1:=awHp b1 b2 b8 pressZ ct pressS)).mono ?_
 rintro r H' ⟨_,⟨g2,rfl,rfl⟩,rfl⟩
 simp
 refine V.ofG ?_
 refine Gh.frzBox (g:=1) (τ:=70) (j:=1) (t:=70) rfl rfl rfl rfl ?_
 refine Gh.here ?_
 exact V.cutV (Hs:=awHp b1 b2 b8 pressB ct pressS) (awEnv b1 b2 b8 O) (by simp) (by simp [rowsD,pressB,pressM,pressZ]) (V.of_rest rfl (awake30_d hO h4 hsl))
theorem awake30_b {b1 b2 b8 : Nat} {O : List Nat} (hO : O.length = 4) {ct : Control} (h1 : ct.inputs = [[115,116,97,114,116]]) (h2 : ct.plus = [6]) (h3 : ct.minus = [7]) (h4 : ct.signals.map (·.name) = [[110,48],[110,49],[110,50],[110,51],[119,50]]) :
  V ⟨Tryz.prog,none,128⟩ (restC Tryz.f9 7) (hdE (awEnv b1 b2 b8 O) []) (awHp b1 b2 b8 pressZ ct pressS) (RetV Tryz.prog [.tmp 0] fun r' H'=>(frz H' r').1 ∧ (frz H' r').2 = aB true):=by
 have hsl : ct.signals.length = 5:=by
  have:=congrArg List.length h4
  simpa using this
 have q1:=eqT_fn [[115,116,97,114,116]] [[115,116,97,114,116]] (by decide) (by decide)
 have q2:=eqI_fn [6] [6] (by decide) (by decide)
 have q3:=eqI_fn [7] [7] (by decide) (by decide)
 rw [decide_eq_true rfl] at q1 q2 q3
 have hrest:=awake30_c (b1:=b1) (b2:=b2) (b8:=b8) hO h4 hsl
 refine V.rest rfl ?_
 refine V.of_vcN 1 ?_
 simp [hsl,h1,h2,h3]
 refine GCall.fn (aB true) (fun h=>⟨h,q1⟩) ?_
 simp [h1,h2,h3]
 refine GCall.fn (aB true) (fun h=>⟨h,q2⟩) ?_
 simp [h1,h2,h3]
 refine GCall.fn (aB true) (fun h=>⟨h,q3⟩) ?_
 simp
 exact V.cutV (Hs:=awHp b1 b2 b8 pressZ ct pressS) (awEnv b1 b2 b8 O) (by simp) (by simp) (V.of_rest rfl hrest)
theorem awake30_fn : CallFn Tryz.prog 9 [] (aB true):=by
 have hok : OkCir pressZ:=⟨fun _=>by decide,by decide,by decide⟩
 have hc:=Control_fn pressZ hok
 have hd:=Drives_fn pressZ hok
 have ho:=Order_fn pressZ hok
 have hs:=State_fn pressZ hok [0,0,1,1] [1] (by decide) (by decide)
 have hp:=Positions_fn pressZ hok pressS ⟨by decide,by decide,by decide,by decide,by decide⟩
 have e1:=press_inputs
 obtain ⟨e2,e3⟩:=press_pm
 have e4:=press_sigs
 obtain ⟨o1,o2⟩:=press_order
 have hcq : controlQ pressZ = ((planZ pressZ).ctl,0):=by unfold controlQ; rw [if_pos press_err]
 rw [hcq] at hc
 rw [press_drives] at hd
 rw [press_state] at hs
 rw [press_pos] at hp
 rw [o1] at ho
 have hrest:=fun b1 b2 b8=>awake30_b (b1:=b1) (b2:=b2) (b8:=b8) o2 e1 e2 e3 e4
 generalize (planZ pressZ).ctl = ct at *
 generalize (orderQ pressZ).1 = O at *
 refine callFz_cut 7 Tryz.func9 rfl Tryz.ntmps9 (rs:=[.tmp 0]) rfl (by kernel_rfl) (by simp) (by kernel_rfl) ?_
 simp
 refine Press_fn.s ?_
 simp
 intro b1
 refine hc.s ?_
 simp
 intro b2
 refine hd.s ?_
 simp
 refine ho.s ?_
 simp
 refine hs.s ?_
 simp
 intro b8
 refine hp.s ?_
 simp
 exact V.cutV (Hs:=awHp b1 b2 b8 pressZ ct pressS) (awEnv b1 b2 b8 O) (by simp) (by simp) (V.of_rest rfl (hrest b1 b2 b8))
end Go.Proofs.YtpadinblmjlggaaGreatDoor
end

section
namespace Go.Proofs.YtpadinblmjlggaaGreatDoor
set_option maxHeartbeats 4000000
set_option maxRecDepth 10000
theorem few_ok {c : Cir} (h : fewB c = true) : OkCir c ∧ c.parts.length < 128:=by
 unfold fewB at h
 simp only [Bool.and_eq_true,Bool.or_eq_true,decide_eq_true_eq] at h
 obtain ⟨⟨⟨h1,h2⟩,h3⟩,h4⟩:=h
 refine ⟨⟨fun h64 p hp=>?_,by unfold Sh; omega,by unfold Sh; omega⟩,by omega⟩
 have h12 : c.parts.length ≤ 12:=by omega
 rw [List.take_of_length_le h12] at h1
 have:=List.all_eq_true.1 h1 p hp
 simp only [decide_eq_true_eq] at this
 omega
theorem Few24_fn (c : Cir) (hl : Sh c.parts) (hl2 : Sh c.pipes) (pos : List Int) (hp : Sh pos) : CallFn Tryz.prog 8 [aCi c,aIs pos] (aB (fewB c && decide (pos.length ≤ 200))):=by
 have hf:=CirFew_fn c hl hl2
 generalize fewB c = F at *
 refine callFz_of Tryz.func8 rfl Tryz.ntmps8 (rs:=[.tmp 4]) rfl (by kernel_rfl) (by simp) (by kernel_rfl) ?_
 simp
 refine hf.s ?_
 cases F
 ·simp
 ·simp
  omega
theorem noSt_sm : SmS noSt:=⟨by simp [noSt],by simp [noSt],by simp [noSt],by simp [noSt],by simp [noSt]⟩
theorem stateQ_sm (c : Cir) (pos ends : List Int) (he : ends.length ≤ 1000) : SmS (stateQ c pos ends).1:=by
 unfold stateQ
 by_cases h0 : buildE c = 0
 ·obtain ⟨hr,hd,hch,_,_⟩:=build_zero h0
  simp only [h0,ne_eq,not_true_eq_false,if_false]
  by_cases h1 : presE c pos = 0
  ·simp only [h1,not_true_eq_false,if_false]
   by_cases h2 : ends.length = (planZ c).drives.length
   ·simp only [h2,not_true_eq_false,if_false]
    cases h3 : ends.any (outR 4) with
    | true=>simp only [if_true]; exact noSt_sm
    | false=>
     simp only [Bool.false_eq_true,if_false]
     have hact : (planZ c).ctl.actuators = (planZ c).drives.length:=rfl
     have hinp : (planZ c).ctl.inputs.length = (planZ c).butt.length:=by
      show ((planZ c).butt.map _).length = _
      rw [List.length_map]
     have hsh:=gatesP_shape (newSt_shape (fine_of hch))
     have hB:=planZ_B hr
     have hst : StS (planZ c) (planZ c).ctl ends { firstSt (planZ c).ctl with ends:=ends }:=by
      obtain ⟨q1,q2,q3,q4,q5⟩:=hsh
      exact ⟨by simp only [firstSt]; omega,by simp only [firstSt]; omega,by simp only [firstSt]; omega,by simp only [firstSt]; omega,rfl⟩
     unfold stEnd
     cases hf : (planZ c).stFold (planZ c).ctl pos ends { firstSt (planZ c).ctl with ends:=ends } c.parts.length with
     | error e=>exact noSt_sm
     | ok s=>
      simp only
      obtain ⟨_,hs⟩:=stFold_tm (planZ_lim hr) (first_tm ends) hst c.parts.length s hf
      unfold gatesR
      split
      ·exact noSt_sm
      ·obtain ⟨z1,z2,z3,z4,z5⟩:=hs
       have:=hB.dl
       have:=hB.bl
       have:=(fine_of hch).sig
       refine ⟨?_,?_,?_,?_,?_⟩
       ·show s.ends.length ≤ _; rw [z5]; omega
       ·show s.valves.length ≤ _; omega
       ·show s.inputs.length ≤ _; omega
       ·show (gvals _ _ _).length ≤ _; rw [gvals_length]; omega
       ·show s.timers.length ≤ _; omega
   ·simp only [h2,not_false_iff,if_true]; exact noSt_sm
  ·simp only [h1,not_false_iff,if_true]; exact noSt_sm
 ·simp only [h0,ne_eq,not_false_iff,if_true]; exact noSt_sm
theorem sh_ofm {α : Type} {l : List α} (h : l.length ≤ 1000000) : Sh l:=by unfold Sh; omega
theorem SameStatesR_m (a b : State) (ha : SmS a) (hb : SmS b) : CallFn Tryz.prog 12 [aSt a,aSt b] (aB (sameSt a b)):=by
 have c1:=sameI_fn a.ends b.ends (sh_ofm ha.ends) (sh_ofm hb.ends)
 have c2:=sameB_fn a.valves b.valves (sh_ofm ha.valves) (sh_ofm hb.valves)
 have c3:=sameB_fn a.inputs b.inputs (sh_ofm ha.inputs) (sh_ofm hb.inputs)
 have c4:=sameB_fn a.values b.values (sh_ofm ha.values) (sh_ofm hb.values)
 have c5:=sameI_fn a.timers b.timers (sh_ofm ha.timers) (sh_ofm hb.timers)
 refine callFz_of Tryz.func12 rfl Tryz.ntmps12 (rs:=[.tmp 4]) rfl (by kernel_rfl) (by simp) (by kernel_rfl) ?_
 unfold sameSt
 generalize decide (a.ends = b.ends) = b1 at *
 generalize decide (a.valves = b.valves) = b2 at *
 generalize decide (a.inputs = b.inputs) = b3 at *
 generalize decide (a.values = b.values) = b4 at *
 generalize decide (a.timers = b.timers) = b5 at *
 simp
 refine c1.s ?_
 simp
 refine GCall.fn (aB b2) (fun _=>⟨by first | trivial | assumption,c2⟩) ?_
 simp
 refine GCall.fn (aB b3) (fun _=>⟨by first | trivial | assumption,c3⟩) ?_
 simp
 refine GCall.fn (aB b4) (fun _=>⟨by first | trivial | assumption,c4⟩) ?_
 simp
 refine GCall.fn (aB b5) (fun _=>⟨by first | trivial | assumption,c5⟩) ?_
 simp
theorem sameSt_self (a : State) : sameSt a a = true:=by simp [sameSt]
theorem ExtractPlaces_fn (c : Cir) (pos ends : List Int) (hl : Sh c.parts) (hl2 : Sh c.pipes) (hp : Sh pos) (he : Sh ends) : CallFn Tryz.prog 3 [aCi c,aIs pos,aIs ends] (aB true):=by
 have haw:=awake30_fn
 have hfw:=Few24_fn c hl hl2 pos hp
 by_cases hf : (fewB c && decide (pos.length ≤ 200)) = true ∧ ends.length ≤ 100
 ·obtain ⟨hf1,hf2⟩:=hf
  rw [hf1] at hfw
  rw [Bool.and_eq_true] at hf1
  obtain ⟨hok,_⟩:=few_ok hf1.1
  have hs:=State_fn c hok pos ends hp (by omega)
  have hr:=StateR30_fn c hok pos ends hp (by omega)
  rw [← state_same] at hr
  have hsm:=stateQ_sm c pos ends (by omega)
  obtain ⟨S,hS⟩ : ∃ S,stateQ c pos ends = S:=⟨_,rfl⟩
  rw [hS] at hs hr hsm
  have hss:=SameStatesR_m S.1 S.1 hsm hsm
  rw [sameSt_self] at hss
  refine callFz_of Tryz.func3 rfl Tryz.ntmps3 (rs:=[.tmp 6]) rfl (by kernel_rfl) (by simp) (by kernel_rfl) ?_
  simp
  refine hfw.s ?_
  simp
  refine ⟨fun h=>by omega,fun _=>?_⟩
  refine hs.s ?_
  simp
  intro b7
  refine hr.s ?_
  simp
  intro b9
  refine hss.s ?_
  simp
  refine GCall.fn (aB true) (fun h=>⟨h,haw⟩) ?_
  simp
 ·refine callFz_of Tryz.func3 rfl Tryz.ntmps3 (rs:=[.tmp 6]) rfl (by kernel_rfl) (by simp) (by kernel_rfl) ?_
  simp
  refine hfw.s ?_
  cases hF : (fewB c && decide (pos.length ≤ 200)) with
  | false=>
   simp
   refine haw.s ?_
   simp
  | true=>
   have he2 : 100 < (ends.length : Int):=by
    rw [hF] at hf
    simp at hf
    omega
   simp [he2]
   refine haw.s ?_
   simp
theorem positionsQ_sh (c : Cir) (s : State) (h : Sh c.parts) : Sh (positionsQ c s).1:=by
 unfold positionsQ
 by_cases h0 : buildE c = 0
 ·by_cases h1 : rightC (planZ c).ctl s = 0
  ·simp only [h0,h1,ne_eq,not_true_eq_false,if_false]
   unfold Sh Pln.pos
   rw [List.length_map,List.length_range]
   exact h
  ·simp only [h0,h1,ne_eq,not_true_eq_false,if_false,not_false_iff,if_true]
   unfold Sh
   simp
 ·simp only [h0,ne_eq,not_false_iff,if_true]
  unfold Sh
  simp
theorem ExtractStates_fn (c : Cir) (s : State) (net : Int) (hl : Sh c.parts) (hl2 : Sh c.pipes) (hs : OkSt s) : CallFn Tryz.prog 5 [aCi c,aSt s,aI net] (aB true):=by
 have haw:=awake30_fn
 have hfw:=CirFew_fn c hl hl2
 have hfs:=FewStates_fn s hs
 cases hf : fewB c with
 | false=>
  rw [hf] at hfw
  refine callFz_of Tryz.func5 rfl Tryz.ntmps5 (rs:=[.tmp 6]) rfl (by kernel_rfl) (by simp) (by kernel_rfl) ?_
  simp
  refine hfw.s ?_
  simp
  refine GCall.never (fun h=>h) (aB false) ?_
  simp
  refine haw.s ?_
  simp
 | true=>
  rw [hf] at hfw
  obtain ⟨hok,_⟩:=few_ok hf
  cases hf2 : fewS s with
  | false=>
   rw [hf2] at hfs
   refine callFz_of Tryz.func5 rfl Tryz.ntmps5 (rs:=[.tmp 6]) rfl (by kernel_rfl) (by simp) (by kernel_rfl) ?_
   simp
   refine hfw.s ?_
   simp
   refine GCall.fn (aB false) (fun h=>⟨h,hfs⟩) ?_
   simp
   refine haw.s ?_
   simp
  | true=>
   rw [hf2] at hfs
   have hsm:=few_sm hf2
   have h1:=ExLine_fn c hok net
   have h2:=LineR30_fn c hok net
   have h3:=Positions_fn c hok s hsm
   have h4:=PositionsR30_fn c hok s hsm
   have h5:=positionsQ_sh c s hl
   generalize lineQ c net = L at *
   generalize positionsQ c s = P at *
   have h6:=eqI_fn P.1 P.1 h5 h5
   simp only [decide_true] at h6
   refine callFz_of Tryz.func5 rfl Tryz.ntmps5 (rs:=[.tmp 6]) rfl (by kernel_rfl) (by simp) (by kernel_rfl) ?_
   simp
   refine hfw.s ?_
   simp
   refine GCall.fn (aB true) (fun h=>⟨h,hfs⟩) ?_
   simp
   refine h1.s ?_
   simp
   refine h2.s ?_
   simp
   refine h3.s ?_
   simp
   refine h4.s ?_
   simp
   refine GCall.fn (aB true) (fun h=>⟨h,h6⟩) ?_
   simp
   refine GCall.fn (aB true) (fun h=>⟨h,haw⟩) ?_
   simp
theorem ExtractStatesW_fn (c : Cir) (s : State) (net : Int) (hl : Sh c.parts) (hl2 : Sh c.pipes) (hs : OkSt s) (_ : (Lit.int .i64 net).wf = true) : CallFn Tryz.prog 5 [aCi c,aSt s,aI net] (aB true):=ExtractStates_fn c s net hl hl2 hs
end Go.Proofs.YtpadinblmjlggaaGreatDoor
end

section
namespace Go.Proofs.YtpadinblmjlggaaGreatDoor
variable {P : Program} {H : Type} {enc : TypeId × Value → H}
inductive Lf where
 | int (k : IntKind)
 | bool
 | str
 | sl (e : TypeId)
def leavesF (P : Program) (g : TypeId → Option (List Lf)) : List Field → Nat → Option (List Lf)
 | [],_=>some []
 | f :: fs,off=>match g f.type with
  | some a=>if f.offset = off ∧ P.cellsOf f.type = a.length then (leavesF P g fs (off + a.length)).map (a ++ ·) else none
  | none=>none
def leavesT (P : Program) : Nat → TypeId → Option (List Lf)
 | 0,_=>none
 | n + 1,t=>match P.underlying t with
  | some .bool=>some [.bool]
  | some (.int k)=>some [.int k]
  | some .string=>some [.str]
  | some (.slice e)=>some [.sl e]
  | some (.struct fs)=>match leavesF P (leavesT P n) fs.toList 0 with
   | some a=>if a.length = P.cellsOf t then some a else none
   | none=>none
  | _=>none
def inT (T : List TypeId) : Lf → Bool
 | .sl e=>T.contains e
 | _=>true
def goodT (P : Program) (K : Nat) (T : List TypeId) : Bool:=T.all fun e=>match leavesT P K e with
 | some a=>a.all (inT T) && decide (a.length = P.cellsOf e) && decide (0 < a.length)
 | none=>false
def All2 {α β : Type} (R : α → β → Prop) : List α → List β → Prop
 | [],[]=>True
 | a :: r,b :: s=>R a b ∧ All2 R r s
 | _,_=>False
theorem All2.append {α β : Type} {R : α → β → Prop} : ∀ {a : List α} {b : List β} {c : List α} {d : List β},All2 R a b → All2 R c d → All2 R (a ++ c) (b ++ d)
 | [],[],_,_,_,h=>h
 | _ :: _,_ :: _,_,_,h1,h2=>⟨h1.1,All2.append h1.2 h2⟩
 | [],_ :: _,_,_,h,_=>h.elim
 | _ :: _,[],_,_,h,_=>h.elim
theorem All2.len {α β : Type} {R : α → β → Prop} : ∀ {a : List α} {b : List β},All2 R a b → a.length = b.length
 | [],[],_=>rfl
 | _ :: _,_ :: _,h=>by simp [All2.len h.2]
 | [],_ :: _,h=>h.elim
 | _ :: _,[],h=>h.elim
theorem All2.imp {α β : Type} {R R' : α → β → Prop} (hi : ∀ a b,R a b → R' a b) : ∀ {a : List α} {b : List β},All2 R a b → All2 R' a b
 | [],[],_=>trivial
 | _ :: _,_ :: _,h=>⟨hi _ _ h.1,All2.imp hi h.2⟩
 | [],_ :: _,h=>h.elim
 | _ :: _,[],h=>h.elim
def OkV (P : Program) (K : Nat) : Nat → Lf → L → Prop
 | _,.int k,l=>∃ n,l = .int k n ∧ (Lit.int k n).wf = true
 | _,.bool,l=>∃ b,l = .bool b
 | _,.str,l=>∃ s,l = .str s ∧ s.length ≤ maxLen
 | 0,.sl _,_=>False
 | n + 1,.sl e,l=>∃ rows : List (List L),l = .sl rows ∧ rows.length ≤ maxLen ∧ ∀ r ∈ rows,∃ lfs,leavesT P K e = some lfs ∧ All2 (OkV P K n) lfs r
theorem OkV.succ {K : Nat} : ∀ {n : Nat} {f : Lf} {l : L},OkV P K n f l → OkV P K (n + 1) f l
 | 0,.sl _,_,h=>by simp [OkV] at h
 | n + 1,.sl e,l,h=>by
  simp only [OkV] at h
  obtain ⟨rows,e1,h1,h2⟩:=h
  simp only [OkV]
  refine ⟨rows,e1,h1,fun r hr=>?_⟩
  obtain ⟨lfs,h3,h4⟩:=h2 r hr
  exact ⟨lfs,h3,h4.imp fun a b=>OkV.succ⟩
 | 0,.int _,_,h=>by simpa [OkV] using h
 | 0,.bool,_,h=>by simpa [OkV] using h
 | 0,.str,_,h=>by simpa [OkV] using h
 | n + 1,.int _,_,h=>by simpa [OkV] using h
 | n + 1,.bool,_,h=>by simpa [OkV] using h
 | n + 1,.str,_,h=>by simpa [OkV] using h
theorem RdLs.app {x : X} : ∀ {a : List L} {u : List Value} {b : List L} {v : List Value},RdLs x a u → RdLs x b v → RdLs x (a ++ b) (u ++ v)
 | [],[],_,_,_,h=>h
 | _ :: _,_ :: _,_,_,h1,h2=>by simp only [RdLs] at h1; simp only [List.cons_append,RdLs]; exact ⟨h1.1,RdLs.app h1.2 h2⟩
 | [],_ :: _,_,_,h,_=>by simp [RdLs] at h
 | _ :: _,[],_,_,h,_=>by simp [RdLs] at h
def X0 (W : World) : X:=⟨W,fun b=>b < W.heap.size⟩
theorem mapM_get {α β : Type} {f : α → Option β} : ∀ {l : List α} {r : List β},l.mapM f = some r → r.length = l.length ∧ ∀ (i : Nat) (x : α),l[i]? = some x → f x = r[i]?
 | [],r,h=>by
  simp only [List.mapM_nil,Option.pure_def,Option.some.injEq] at h
  subst h
  simp
 | a :: l,r,h=>by
  rw [List.mapM_cons] at h
  simp only [Option.bind_eq_bind,Option.bind_eq_some_iff,Option.pure_def,Option.some.injEq] at h
  obtain ⟨b,h1,r',h2,rfl⟩:=h
  obtain ⟨k1,k2⟩:=mapM_get h2
  refine ⟨by simp [k1],fun i x hx=>?_⟩
  cases i with
  | zero=>simp only [List.getElem?_cons_zero,Option.some.injEq] at hx ⊢; subst hx; exact h1
  | succ i=>simpa using k2 i x (by simpa using hx)
theorem cells_get {W : World} {a : Addr} {n : Nat} {cs : List Value} (h : W.cells? 0 a n = some cs) : cs.length = n ∧ ∀ j,j < n → W.cell? (a.add j) = cs[j]?:=by
 simp only [World.cells?,Nat.zero_le,if_true] at h
 obtain ⟨h1,h2⟩:=mapM_get h
 exact ⟨by simpa using h1,fun j hj=>h2 j j (by simp [hj])⟩
theorem cell_spot {W : World} {a : Addr} {v : Value} (h : W.cell? a = some v) : a.spot = none ∧ a.block < W.heap.size:=by
 unfold World.cell? at h
 split at h
 ·rename_i c _ _ hb
  refine ⟨?_,(Array.getElem?_eq_some_iff.1 hb).1⟩
  split at h
  ·cases h
  ·rename_i hs; simpa using hs
 ·cases h
theorem list_of {α : Type} {p : Nat → α → Prop} : ∀ (n : Nat),(∀ i,i < n → ∃ a,p i a) → ∃ l : List α,l.length = n ∧ ∀ (i : Nat) (a : α),l[i]? = some a → p i a
 | 0,_=>⟨[],rfl,by simp⟩
 | n + 1,h=>by
  obtain ⟨l,h1,h2⟩:=list_of n fun i hi=>h i (by omega)
  obtain ⟨a,ha⟩:=h n (by omega)
  refine ⟨l ++ [a],by simp [h1],fun i b hb=>?_⟩
  rcases Nat.lt_trichotomy i n with hi | hi | hi
  ·exact h2 i b (by rwa [List.getElem?_append_left (by omega)] at hb)
  ·subst hi
   rw [List.getElem?_append_right (by omega)] at hb
   simp [h1] at hb
   subst hb; exact ha
  ·rw [List.getElem?_eq_none (by simp [h1]; omega)] at hb
   cases hb
theorem rdRows_at {x : X} {b : Nat} (sz : Nat) : ∀ (rows : List (List L)) (off : Nat),(∀ i r,rows[i]? = some r → r.length = sz ∧ RdCells x r b (off + i * sz)) → RdRows x rows b off
 | [],_,_=>by simp [RdRows]
 | r :: rs,off,h=>by
  obtain ⟨h1,h2⟩:=h 0 r (by simp)
  simp only [RdRows]
  refine ⟨by simpa using h2,rdRows_at sz rs (off + r.length) fun i q hq=>?_⟩
  obtain ⟨h3,h4⟩:=h (i + 1) q (by simpa using hq)
  refine ⟨h3,?_⟩
  rw [h1,show off + sz + i * sz = off + (i + 1) * sz by rw [Nat.add_mul]; omega]
  exact h4
theorem read_fields {W : World} {K n : Nat} {T : List TypeId} {k : Nat} (ih : ∀ t cs x,DataW.trod enc P W 0 (fun _=>true) true n t cs = some x → ∀ lfs,leavesT P k t = some lfs → lfs.all (inT T) = true → ∃ ls,RdLs (X0 W) ls cs ∧ All2 (OkV P K n) lfs ls) (cs : List Value) :
  ∀ (fs : List Field) (off : Nat) (xs : List (DataW H × List MemPlace)),(fs.mapM fun f=>DataW.trod enc P W 0 (fun _=>true) true n f.type ((cs.drop f.offset).take (P.cellsOf f.type))) = some xs →
   ∀ lfs,leavesF P (leavesT P k) fs off = some lfs → lfs.all (inT T) = true → ∃ ls,RdLs (X0 W) ls ((cs.drop off).take lfs.length) ∧ All2 (OkV P K n) lfs ls
 | [],off,xs,h,lfs,hl,_=>by
  simp only [leavesF,Option.some.injEq] at hl
  subst hl
  exact ⟨[],by simp [RdLs],trivial⟩
 | f :: fs,off,xs,h,lfs,hl,hT=>by
  simp only [leavesF] at hl
  split at hl <;> try (simp at hl; done)
  rename_i a ha
  split at hl <;> try (simp at hl; done)
  rename_i ho
  simp only [Option.map_eq_some_iff] at hl
  obtain ⟨b,hb,rfl⟩:=hl
  rw [List.mapM_cons] at h
  simp only [Option.bind_eq_bind,Option.bind_eq_some_iff,Option.pure_def,Option.some.injEq] at h
  obtain ⟨x,h1,xs',h2,_⟩:=h
  rw [List.all_append,Bool.and_eq_true] at hT
  obtain ⟨ls1,r1,o1⟩:=ih _ _ _ h1 a ha hT.1
  obtain ⟨ls2,r2,o2⟩:=read_fields ih cs fs (off + a.length) xs' h2 b hb hT.2
  rw [ho.1,ho.2] at r1
  refine ⟨ls1 ++ ls2,?_,o1.append o2⟩
  have : (cs.drop off).take (a ++ b).length = (cs.drop off).take a.length ++ (cs.drop (off + a.length)).take b.length:=by
   rw [List.length_append,List.take_add,List.drop_drop]
  rw [this]
  exact r1.app r2
theorem read_ok {W : World} {K : Nat} {T : List TypeId} (hT : goodT P K T = true) : ∀ (n : Nat) (t : TypeId) (cs : List Value) (x : DataW H × List MemPlace),DataW.trod enc P W 0 (fun _=>true) true n t cs = some x →
  ∀ (k : Nat) (lfs : List Lf),leavesT P k t = some lfs → lfs.all (inT T) = true → ∃ ls,RdLs (X0 W) ls cs ∧ All2 (OkV P K n) lfs ls
 | 0,t,cs,x,h,_,_,_,_=>by simp [DataW.trod] at h
 | n + 1,t,cs,x,h,0,lfs,hl,_=>by simp [leavesT] at hl
 | n + 1,t,cs,x,h,k + 1,lfs,hl,hin=>by
  have ih:=read_ok (W:=W) hT n
  have h0:=h
  simp only [leavesT] at hl
  split at hl <;> try (simp at hl; done)
  ·rename_i hu
   simp only [Option.some.injEq] at hl; subst hl
   obtain ⟨b,rfl,_⟩:=DataW.trod_bool hu h
   exact ⟨[.bool b],by simp [RdLs,RdL],by simp [All2,OkV]⟩
  ·rename_i q hu
   simp only [Option.some.injEq] at hl; subst hl
   obtain ⟨m,rfl,_,hw⟩:=DataW.trod_int hu h
   exact ⟨[.int q m],by simp [RdLs,RdL],by simp [All2,OkV,hw]⟩
  ·rename_i hu
   simp only [Option.some.injEq] at hl; subst hl
   obtain ⟨b,rfl,_,hw⟩:=DataW.trod_string hu h
   refine ⟨[.str b.data.toList],by simp only [RdLs,RdL,and_true],?_⟩
   simp only [All2,OkV,and_true]
   exact ⟨_,rfl,by rw [Array.length_toList]; exact hw⟩
  ·rename_i e hu
   simp only [Option.some.injEq] at hl; subst hl
   have he : T.contains e = true:=by simpa [inT] using hin
   have hg:=List.all_eq_true.1 hT e (by simpa using he)
   split at hg <;> try (cases hg; done)
   rename_i lfe hle
   simp only [Bool.and_eq_true,decide_eq_true_eq] at hg
   obtain ⟨⟨g1,g2⟩,g3⟩:=hg
   rcases DataW.trod_slice hu h0 with ⟨rfl,_⟩ | ⟨a,len,cap,elems,rest,n',hn,rfl,_,_,hlc,hcm,hel,hrd,hsp,_⟩
   ·exact ⟨[.sl []],by simp [RdLs,RdL],by simp [All2,OkV]⟩
   ·obtain rfl : n = n':=by omega
    have hidx : ∀ m,(W.cells? 0 (a.add (m * P.cellsOf e)) (P.cellsOf e)).bind (DataW.trod enc P W 0 (fun _=>true) true n e) = none ∨ ∃ c y,W.cells? 0 (a.add (m * P.cellsOf e)) (P.cellsOf e) = some c ∧ DataW.trod enc P W 0 (fun _=>true) true n e c = some y:=by
     intro m
     cases hm : (W.cells? 0 (a.add (m * P.cellsOf e)) (P.cellsOf e)).bind (DataW.trod enc P W 0 (fun _=>true) true n e) with
     | none=>exact .inl rfl
     | some y=>
      obtain ⟨c,h2,h3⟩:=Option.bind_eq_some_iff.1 hm
      exact .inr ⟨c,y,h2,h3⟩
    by_cases hcap : cap = 0
    ·subst hcap
     obtain rfl : len = 0:=by omega
     refine ⟨[.sl []],?_,by simp [All2,OkV]⟩
     simp only [RdLs,RdL]
     exact ⟨.inr (.inr ⟨a,by simp⟩),trivial⟩
    ·have hspot : a.spot = none:=by
      have h0 : ∃ c y,W.cells? 0 (a.add (0 * P.cellsOf e)) (P.cellsOf e) = some c ∧ DataW.trod enc P W 0 (fun _=>true) true n e c = some y:=by
       rcases hidx 0 with h1 | h1
       ·exfalso
        by_cases hl0 : len = 0
        ·have h2:=(hsp rfl).2 0 (by omega)
         rw [hl0,Nat.zero_add] at h2
         rw [h1] at h2
         have h3:=(hsp rfl).1
         rw [List.getElem?_eq_getElem (by omega)] at h2
         cases h2
        ·have h2:=hrd 0 (by omega)
         rw [h1,List.getElem?_eq_getElem (by omega)] at h2
         cases h2
       ·exact h1
      obtain ⟨c,y,h2,h3⟩:=h0
      obtain ⟨c1,c2⟩:=cells_get h2
      have h00:=c2 0 (by omega)
      rw [List.getElem?_eq_getElem (by omega),Nat.zero_mul] at h00
      exact (cell_spot h00).1
     obtain ⟨b,off,sp⟩:=a
     simp only at hspot
     subst hspot
     have hcell : ∀ i,i < len → ∃ ls : List L,ls.length = P.cellsOf e ∧ RdCells (X0 W) ls b (off + i * P.cellsOf e) ∧ All2 (OkV P K n) lfe ls:=by
      intro i hi
      have h1:=hrd i hi
      rw [List.getElem?_eq_getElem (by omega)] at h1
      obtain ⟨c,h2,h3⟩:=Option.bind_eq_some_iff.1 h1
      obtain ⟨c1,c2⟩:=cells_get h2
      obtain ⟨ls,r1,r2⟩:=ih e c _ h3 K lfe hle g1
      have hlen : ls.length = P.cellsOf e:=by rw [← r2.len,g2]
      have h00:=c2 0 (by omega)
      rw [List.getElem?_eq_getElem (by omega),add_none,add_none] at h00
      have hs:=cell_spot h00
      refine ⟨ls,hlen,rdCells_vals (x:=X0 W) hs.2 ls c _ r1 fun j v hv=>?_,r2⟩
      have:=c2 j (by rw [← c1]; exact (List.getElem?_eq_some_iff.1 hv).1)
      rw [hv,add_none,add_none] at this
      exact this
     obtain ⟨rows,hr1,hr2⟩:=list_of len hcell
     refine ⟨[.sl rows],?_,?_,trivial⟩
     ·simp only [RdLs,RdL]
      refine ⟨.inr (.inl ⟨b,off,cap,by rw [hr1],by omega,rdRows_at (P.cellsOf e) rows off fun i r hr=>⟨(hr2 i r hr).1,(hr2 i r hr).2.1⟩⟩),trivial⟩
     ·simp only [OkV]
      refine ⟨rows,rfl,by omega,fun r hr=>?_⟩
      obtain ⟨i,hi,rfl⟩:=List.getElem_of_mem hr
      exact ⟨lfe,hle,(hr2 i _ (List.getElem?_eq_getElem hi)).2.2⟩
  ·rename_i fs hu
   split at hl <;> try (simp at hl; done)
   rename_i a ha
   split at hl <;> try (simp at hl; done)
   rename_i hal
   simp only [Option.some.injEq] at hl; subst hl
   unfold DataW.trod at h; rw [hu] at h
   simp only at h
   split at h <;> try (simp at h; done)
   rename_i hc
   obtain ⟨xs,h1,_⟩:=Option.map_eq_some_iff.1 h
   obtain ⟨ls,r1,r2⟩:=read_fields (fun t cs x h lfs hl hin=>ih t cs x h k lfs hl hin) cs fs.toList 0 xs h1 a ha hin
   refine ⟨ls,?_,r2.imp fun _ _=>OkV.succ⟩
   rw [hal,← hc] at r1
   simpa using r1
termination_by n=>n
theorem read_arg {W : World} {K : Nat} {T : List TypeId} (hT : goodT P K T = true) {base : Nat} {t : TypeId} {v : Value} {d : DataW H} {ps : List MemPlace} {fs : Array Field} (hu : P.underlying t = some (.struct fs)) {lfs : List Lf}
  (hl : leavesT P K t = some lfs) (hin : lfs.all (inT T) = true) (hval : Value.okWide P W .any base t v) (hd : DataW.Trod enc P W 0 (fun _=>true) true t v d ps) : ∃ ls n,D (X0 W) (.record ls) v ∧ All2 (OkV P K n) lfs ls:=by
 obtain ⟨n,hn⟩:=hd
 obtain ⟨ls,h1,h2⟩:=read_ok hT n t _ _ hn K lfs hl hin
 unfold Value.okWide at hval
 rw [hu] at hval
 obtain ⟨cs,rfl,_,_⟩:=hval
 exact ⟨ls,n,by simp only [D]; exact ⟨cs,rfl,by simpa [Value.cells] using h1⟩,h2⟩
theorem lift_list {α : Type} {enc : α → List L} {Ok : α → Prop} : ∀ {rows : List (List L)},(∀ r ∈ rows,∃ a,r = enc a ∧ Ok a) → ∃ l : List α,rows = l.map enc ∧ ∀ a ∈ l,Ok a
 | [],_=>⟨[],rfl,by simp⟩
 | r :: rs,h=>by
  obtain ⟨a,rfl,ha⟩:=h r (by simp)
  obtain ⟨l,rfl,hl⟩:=lift_list (rows:=rs) fun q hq=>h q (by simp [hq])
  refine ⟨a :: l,rfl,fun b hb=>?_⟩
  rcases List.mem_cons.1 hb with rfl | hb
  ·exact ha
  ·exact hl b hb
theorem wf_i64 {n : Int} (h : (Lit.int .i64 n).wf = true) : -9223372036854775808 ≤ n ∧ n ≤ 9223372036854775807:=by
 simp only [Lit.wf,Bool.and_eq_true,decide_eq_true_eq] at h
 exact h
end Go.Proofs.YtpadinblmjlggaaGreatDoor
end

section
namespace Go.Proofs.YtpadinblmjlggaaGreatDoor
open Go.ChangeShapes Go.WideShapes Go.ChangeAt Go.RowKit
variable {P : Program} {H : Type} {enc : TypeId × Value → H}
theorem X0_inv {W : World} (ht : Tabs (X0 W)) : Inv (X0 W) []:=⟨⟨fun _ h=>h,ht⟩,by simp,by simp,by simp⟩
theorem kept_le {W : World} {y : X} (h : (X0 W).le y) : W.keptBut y.w (fun _=>False):=by
 refine ⟨h.os,h.output,fun i hi=>?_⟩
 rw [show y.w.heap[i]? = W.heap[i]? from (h.keep i hi).2]
 cases W.heap[i]? with
 | none=>rfl
 | some o=>cases o <;> simp
theorem sameAt_le {W : World} {y : X} (h : (X0 W).le y) {p : MemPlace} (hb : p.block < W.heap.size) : W.sameAt y.w p:=by
 cases p with
 | cell b o=>exact h.cell hb
 | map b=>exact (h.keep b hb).2
theorem frozen_le {W : World} {y : X} (h : (X0 W).le y) {a : Addr} (hb : a.block < W.heap.size) : y.w.frozen? a = W.frozen? a:=by
 unfold World.frozen?
 rw [show y.w.heap[a.block]? = W.heap[a.block]? from (h.keep a.block hb).2]
theorem trodAll_carry {w w' : World} {base : Nat} {sp : Nat → Bool} {hd : Bool} : ∀ {ts : List TypeId} {vs : List Value} {ds : List (DataW H)} {ps : List MemPlace},
  DataW.TrodAll enc P w base sp hd ts vs ds ps → (∀ p ∈ ps,w.sameAt w' p) → DataW.TrodAll enc P w' base sp hd ts vs ds ps
 | [],[],[],_,h,_=>h
 | _ :: _,_ :: _,_ :: _,_,⟨p,q,⟨n,h1⟩,h2,e⟩,hs=>⟨p,q,⟨n,DataW.trod_carry _ _ _ _ h1 fun x hx=>hs x (by rw [e]; exact List.mem_append_left _ hx)⟩,trodAll_carry h2 (fun x hx=>hs x (by rw [e]; exact List.mem_append_right _ hx)),e⟩
 | [],[],_ :: _,_,h,_=>h.elim
 | [],_ :: _,_,_,h,_=>h.elim
 | _ :: _,[],_,_,h,_=>h.elim
 | _ :: _,_ :: _,[],_,h,_=>h.elim
theorem post_le {f : Func} {s : ChangeSpec} {apart fresh handsOn again : Bool} {W : World} {y : X} {args : Array Value} {v : Value} {ds gs : List (DataW H)} {before : List MemPlace}
  (hl : laidOutB P = true) (hm : mapsRowed P = true) (hz : ∀ t e,t < P.types.size → P.underlying t = some (.slice e) → 0 < P.cellsOf e) (hts : ∀ t ∈ f.params.toList,t < P.types.size)
  (hW : DataW.Whole enc P f.params.toList s.vars apart W args.toList ds gs before) (hvs : s.vars = []) (ha : (s.fn H (ds ++ gs)).args = ds) (hv : (s.fn H (ds ++ gs)).vars = [])
  (hle : (X0 W).le y) (hres : ∀ (b : Nat) (sp : Nat → Bool) (hd : Bool),DataW.TrodAll enc P y.w b sp hd f.resultTypes.toList (v.resultList f.resultTypes.size) (s.fn H (ds ++ gs)).results [])
  (hok : ∀ (j : Nat) (t : TypeId) (r : Value),f.resultTypes[j]? = some t → (v.resultList f.resultTypes.size)[j]? = some r → Value.okWide P y.w .any 0 t r) :
  s.post enc P f apart fresh handsOn again W args v y.w:=by
 have hlt:=hW.lt
 have hW':=hW
 obtain ⟨p,q,h1,h2,e,h3,h4⟩:=hW
 have hq : q = [] ∧ gs = []:=by
  rw [hvs] at h2
  cases gs with
  | nil=>exact ⟨h2,rfl⟩
  | cons _ _=>exact h2.elim
 obtain ⟨rfl,rfl⟩:=hq
 rw [List.append_nil] at e
 subst e
 have hA : ∀ sp : Nat → Bool,(∀ x ∈ before,sp x.block = true) → DataW.TrodAll enc P y.w 0 sp true f.params.toList args.toList (s.fn H (ds ++ [])).args before:=fun sp hsp=>by
  rw [ha]
  exact trodAll_carry (h1.respare (kids_rows hl hm) hz hts hsp) fun x hx=>sameAt_le hle (hlt x hx)
 have hV : ∀ sp : Nat → Bool,DataW.TrodVars enc P y.w sp s.vars (s.fn H (ds ++ [])).vars []:=fun sp=>by
  rw [hvs,hv]
  rfl
 refine ⟨ds,[],before,[],before,[],hW',hres _ _ _,hA _ (fun x hx=>by simpa using hlt x hx),hV _,World.keptBut_mono (fun _ h=>h.elim) (kept_le hle),fun _=>?_⟩
 refine ⟨hok,_,_,([] ++ before) ++ [],⟨[] ++ before,[],trodAll_append (hA _ (fun _ _=>rfl)) (hres _ _ _),hV _,rfl,?_,?_⟩,?_⟩
 ·intro b off hp
  simp only [List.nil_append,List.append_nil] at hp
  rw [frozen_le hle (hlt _ hp)]
  exact h3 b off hp
 ·intro hap
  simpa using h4 hap
 ·intro x hx _
  simpa using hx
theorem law_of {g : FuncId} {f : Func} {s : ChangeSpec} {apart fresh handsOn again : Bool} {W : World} {args : Array Value} {ds gs : List (DataW H)} {before : List MemPlace} {az : List A} {tb : TypeId}
  (htab : Tabs (X0 W)) (hl : laidOutB P = true) (hm : mapsRowed P = true) (hz : ∀ t e,t < P.types.size → P.underlying t = some (.slice e) → 0 < P.cellsOf e) (hts : ∀ t ∈ f.params.toList,t < P.types.size)
  (hr : f.resultTypes = #[tb]) (hb : P.underlying tb = some .bool)
  (hW : DataW.Whole enc P f.params.toList s.vars apart W args.toList ds gs before) (hvs : s.vars = []) (ha : (s.fn H (ds ++ gs)).args = ds) (hv : (s.fn H (ds ++ gs)).vars = []) (hrs : (s.fn H (ds ++ gs)).results = [.lit (.bool true)])
  (hd : Ds (X0 W) az args.toList) (hc : CallFn P g az (.dat (.bool true))) : Calls P g args W fun e W'=>∃ v,e = .returned v ∧ s.post enc P f apart fresh handsOn again W args v W':=by
 refine (hc.2 (X0 W) args [] (X0_inv htab) hd).mono ?_
 rintro _ _ ⟨y,v,r,H',rfl,rfl,hle,_,hvv,rfl,rfl⟩
 simp only [D,RdL] at hvv
 subst hvv
 refine ⟨_,rfl,post_le hl hm hz hts hW hvs ha hv hle ?_ ?_⟩
 ·intro b sp hd'
  rw [hrs,hr]
  have ht : DataW.Trod enc P y.w b sp hd' tb (.bool true) (.lit (.bool true)) []:=⟨1,by simp [DataW.trod,Value.cells,hb]⟩
  exact trodAll_cons_mk ht trodAll_mk0
 ·intro j t r h1 h2
  rw [hr] at h1 h2
  cases j with
  | zero=>
   simp only [Array.size_singleton,Value.resultList] at h1 h2
   obtain rfl : t = tb:=by simpa using h1.symm
   obtain rfl : r = .bool true:=by simpa using h2.symm
   exact okWide_bool_mk hb _
  | succ j=>simp at h1
end Go.Proofs.YtpadinblmjlggaaGreatDoor
end

section
namespace Go.Proofs.YtpadinblmjlggaaGreatDoor
open Go.ChangeShapes Go.WideShapes Go.ChangeAt Go.RowKit
set_option maxRecDepth 100000
abbrev tys : List TypeId:=[9,100,3,98,4]
theorem tys_good : goodT Tryz.prog 4 tys = true:=by kernel_rfl
abbrev lfSt : List Lf:=[.sl 3,.sl 4,.sl 4,.sl 4,.sl 3]
theorem leavesSt : leavesT Tryz.prog 4 31 = some lfSt:=by kernel_rfl
theorem leavesI : leavesT Tryz.prog 4 3 = some [.int .i64]:=by kernel_rfl
theorem leavesB : leavesT Tryz.prog 4 4 = some [.bool]:=by kernel_rfl
theorem all1 {R : Lf → L → Prop} {f : Lf} {r : List L} (h : All2 R [f] r) : ∃ l,r = [l] ∧ R f l:=by
 rcases r with _ | ⟨a,_ | ⟨b,r⟩⟩ <;> simp only [All2,and_true,and_false] at h
 exact ⟨a,rfl,h⟩
theorem lift_sl {α : Type} {enc : α → List L} {Ok : α → Prop} {n : Nat} {e : TypeId} {l : L} (h : OkV Tryz.prog 4 n (.sl e) l) {lfs : List Lf} (he : leavesT Tryz.prog 4 e = some lfs)
  (hr : ∀ m r,n = m + 1 → All2 (OkV Tryz.prog 4 m) lfs r → ∃ a,r = enc a ∧ Ok a) : ∃ xs : List α,l = .sl (xs.map enc) ∧ Sh xs ∧ ∀ a ∈ xs,Ok a:=by
 cases n with
 | zero=>simp [OkV] at h
 | succ m=>
  simp only [OkV] at h
  obtain ⟨rows,rfl,h1,h2⟩:=h
  obtain ⟨xs,rfl,hx⟩:=lift_list (enc:=enc) (Ok:=Ok) (rows:=rows) fun r hrr=>by
   obtain ⟨lfs',h3,h4⟩:=h2 r hrr
   rw [he] at h3
   cases h3
   exact hr m r rfl h4
  exact ⟨xs,rfl,by simpa [maxLen,Sh] using h1,hx⟩
theorem lift_I {n : Nat} {l : L} (h : OkV Tryz.prog 4 n (.sl 3) l) : ∃ xs : List Int,l = .sl (xs.map encI) ∧ Sh xs ∧ ∀ a ∈ xs,I64 a:=by
 refine lift_sl (Ok:=I64) h leavesI ?_
 intro m r _ hr
 obtain ⟨l,rfl,hl⟩:=all1 hr
 have : ∃ k,l = .int .i64 k ∧ (Lit.int .i64 k).wf = true:=by cases m <;> simpa [OkV] using hl
 obtain ⟨k,rfl,hk⟩:=this
 exact ⟨k,rfl,wf_i64 hk⟩
theorem lift_B {n : Nat} {l : L} (h : OkV Tryz.prog 4 n (.sl 4) l) : ∃ xs : List Bool,l = .sl (xs.map encB) ∧ Sh xs:=by
 obtain ⟨xs,h1,h2,_⟩:=lift_sl (enc:=encB) (Ok:=fun _=>True) h leavesB (by
  intro m r _ hr
  obtain ⟨l,rfl,hl⟩:=all1 hr
  have : ∃ k,l = .bool k:=by cases m <;> simpa [OkV] using hl
  obtain ⟨k,rfl⟩:=this
  exact ⟨k,rfl,trivial⟩)
 exact ⟨xs,h1,h2⟩
theorem ok_int {n : Nat} {l : L} (h : OkV Tryz.prog 4 n (.int .i64) l) : ∃ k,l = .int .i64 k ∧ I64 k:=by
 have : ∃ k,l = .int .i64 k ∧ (Lit.int .i64 k).wf = true:=by cases n <;> simpa [OkV] using h
 obtain ⟨k,rfl,hk⟩:=this
 exact ⟨k,rfl,wf_i64 hk⟩
theorem ok_str {n : Nat} {l : L} (h : OkV Tryz.prog 4 n .str l) : ∃ s,l = .str s ∧ Sh s:=by
 have : ∃ s,l = .str s ∧ s.length ≤ maxLen:=by cases n <;> simpa [OkV] using h
 obtain ⟨s,rfl,hs⟩:=this
 exact ⟨s,rfl,by simpa [maxLen,Sh] using hs⟩
theorem lift_St {n : Nat} {r : List L} (h : All2 (OkV Tryz.prog 4 n) lfSt r) : ∃ s : State,r = encSt s ∧ OkSt s:=by
 rcases r with _ | ⟨a0,_ | ⟨a1,_ | ⟨a2,_ | ⟨a3,_ | ⟨a4,_ | ⟨a5,r⟩⟩⟩⟩⟩⟩ <;> simp only [All2,and_true,and_false] at h
 obtain ⟨h0,h1,h2,h3,h4⟩:=h
 obtain ⟨x0,rfl,s0,e0⟩:=lift_I h0
 obtain ⟨x1,rfl,s1⟩:=lift_B h1
 obtain ⟨x2,rfl,s2⟩:=lift_B h2
 obtain ⟨x3,rfl,s3⟩:=lift_B h3
 obtain ⟨x4,rfl,s4,e4⟩:=lift_I h4
 exact ⟨⟨x0,x1,x2,x3,x4⟩,rfl,⟨s0,s1,s2,s3,s4,e0,e4⟩⟩
theorem read_St {H : Type} {enc : TypeId × Value → H} {W : World} {base : Nat} {v : Value} {d : DataW H} {ps : List MemPlace} (hv : Value.okWide Tryz.prog W .any base 31 v) (hd : DataW.Trod enc Tryz.prog W 0 (fun _=>true) true 31 v d ps) :
  ∃ s : State,D (X0 W) (aSt s) v ∧ OkSt s:=by
 have h0 : lfSt.all (inT tys) = true:=by decide
 obtain ⟨ls,n,h1,h2⟩:=read_arg tys_good Tryz.underlying31 leavesSt h0 hv hd
 obtain ⟨c,rfl,hc⟩:=lift_St h2
 exact ⟨c,h1,hc⟩
theorem facts : laidOutB Tryz.prog = true ∧ mapsRowed Tryz.prog = true ∧ ∀ t e,t < (Tryz.prog).types.size → (Tryz.prog).underlying t = some (.slice e) → 0 < (Tryz.prog).cellsOf e:=
 ⟨by kernel_rfl,by kernel_rfl,slices_full_of _ (by kernel_rfl)⟩
end Go.Proofs.YtpadinblmjlggaaGreatDoor
end

section
namespace Go.Proofs.YtpadinblmjlggaaGreatDoor
open Go.ChangeShapes Go.WideShapes Go.ChangeAt Go.RowKit
set_option maxRecDepth 100000
abbrev tysZ : List TypeId:=[9,82,3,93,73]
theorem tysZ_good : goodT Tryz.prog 4 tysZ = true:=by kernel_rfl
abbrev lfPa : List Lf:=[.int .i64,.str,.int .i64]
abbrev lfPi : List Lf:=[.int .i64,.str,.int .i64,.str]
abbrev lfCi : List Lf:=[.sl 82,.sl 93]
theorem leavesPa : leavesT Tryz.prog 4 82 = some lfPa:=by kernel_rfl
theorem leavesPi : leavesT Tryz.prog 4 93 = some lfPi:=by kernel_rfl
theorem leavesCi : leavesT Tryz.prog 4 25 = some lfCi:=by kernel_rfl
theorem lift_Pa {n : Nat} {r : List L} (h : All2 (OkV Tryz.prog 4 n) lfPa r) : ∃ x : Prt,r = encPa x ∧ Sh x.name:=by
 rcases r with _ | ⟨a,_ | ⟨b,_ | ⟨c,_ | ⟨d,r⟩⟩⟩⟩ <;> simp only [All2,and_true,and_false] at h
 obtain ⟨h1,h2,h3⟩:=h
 obtain ⟨k1,rfl,i1⟩:=ok_int h1
 obtain ⟨k2,rfl,i2⟩:=ok_str h2
 obtain ⟨k3,rfl,i3⟩:=ok_int h3
 exact ⟨⟨k1,k2,k3⟩,rfl,i2⟩
theorem lift_Pi {n : Nat} {r : List L} (h : All2 (OkV Tryz.prog 4 n) lfPi r) : ∃ x : PipeZ,r = encPi x ∧ True:=by
 rcases r with _ | ⟨a,_ | ⟨b,_ | ⟨c,_ | ⟨d,_ | ⟨e,r⟩⟩⟩⟩⟩ <;> simp only [All2,and_true,and_false] at h
 obtain ⟨h1,h2,h3,h4⟩:=h
 obtain ⟨k1,rfl,i1⟩:=ok_int h1
 obtain ⟨k2,rfl,i2⟩:=ok_str h2
 obtain ⟨k3,rfl,i3⟩:=ok_int h3
 obtain ⟨k4,rfl,i4⟩:=ok_str h4
 exact ⟨((k1,k2),(k3,k4)),rfl,trivial⟩
theorem lift_Ci {n : Nat} {r : List L} (h : All2 (OkV Tryz.prog 4 n) lfCi r) : ∃ c : Cir,r = encCi c ∧ Sh c.parts ∧ Sh c.pipes:=by
 rcases r with _ | ⟨a0,_ | ⟨a1,_ | ⟨a2,r⟩⟩⟩ <;> simp only [All2,and_true,and_false] at h
 obtain ⟨h0,h1⟩:=h
 obtain ⟨x0,rfl,s0,e0⟩:=lift_sl (enc:=encPa) (Ok:=fun x : Prt=>Sh x.name) h0 leavesPa fun m r _ hr=>lift_Pa hr
 obtain ⟨x1,rfl,s1,e1⟩:=lift_sl (enc:=encPi) (Ok:=fun _ : PipeZ=>True) h1 leavesPi fun m r _ hr=>lift_Pi hr
 exact ⟨⟨x0,x1⟩,rfl,s0,s1⟩
theorem read_Ci {H : Type} {enc : TypeId × Value → H} {W : World} {base : Nat} {v : Value} {d : DataW H} {ps : List MemPlace} (hv : Value.okWide Tryz.prog W .any base 25 v) (hd : DataW.Trod enc Tryz.prog W 0 (fun _=>true) true 25 v d ps) :
  ∃ c : Cir,D (X0 W) (aCi c) v ∧ Sh c.parts ∧ Sh c.pipes:=by
 have h0 : lfCi.all (inT tysZ) = true:=by decide
 obtain ⟨ls,n,h1,h2⟩:=read_arg tysZ_good Tryz.underlying25 leavesCi h0 hv hd
 obtain ⟨c,rfl,hc⟩:=lift_Ci h2
 exact ⟨c,h1,hc⟩
end Go.Proofs.YtpadinblmjlggaaGreatDoor
end

section
namespace Go.Proofs.YtpadinblmjlggaaGreatDoor
open Go.ChangeShapes Go.WideShapes Go.ChangeAt Go.RowKit
set_option maxRecDepth 100000
theorem okWide_sl {P : Program} {W : World} {base : Nat} {t e : TypeId} {v : Value} (hu : P.underlying t = some (.slice e)) (hv : Value.okWide P W .any base t v) : v.cells = #[v]:=by
 unfold Value.okWide at hv
 rw [hu] at hv
 simp only at hv
 unfold Cell.okWide at hv
 rw [hu] at hv
 simp only at hv
 unfold Cell.ok at hv
 rw [hu] at hv
 cases v <;> first | rfl | (simp at hv; done)
theorem read_Is {H : Type} {enc : TypeId × Value → H} {W : World} {base : Nat} {v : Value} {d : DataW H} {ps : List MemPlace} (hv : Value.okWide Tryz.prog W .any base 26 v) (hd : DataW.Trod enc Tryz.prog W 0 (fun _=>true) true 26 v d ps) :
  ∃ xs : List Int,D (X0 W) (aIs xs) v ∧ Sh xs:=by
 have hc:=okWide_sl Tryz.underlying26 hv
 obtain ⟨n,hn⟩:=hd
 have hl : leavesT Tryz.prog 4 26 = some [.sl 3]:=by kernel_rfl
 obtain ⟨ls,h1,h2⟩:=read_ok tys_good n 26 _ _ hn 4 _ hl (by decide)
 obtain ⟨l,rfl,h3⟩:=all1 h2
 obtain ⟨xs,rfl,h4,_⟩:=lift_I h3
 refine ⟨xs,?_,h4⟩
 rw [hc] at h1
 simp only [RdLs,and_true] at h1
 simpa only [D] using h1
end Go.Proofs.YtpadinblmjlggaaGreatDoor
end

section
namespace Go.Proofs.YtpadinblmjlggaaGreatDoor
open Go.ChangeShapes Go.WideShapes Go.ChangeAt Go.RowKit
variable {P : Program}
def cellsD : Nat → DataW Unit → Option (List Value)
 | 0,_=>none
 | _ + 1,.lit (.int k n)=>some [.int k n]
 | m + 1,.agg ds=>(ds.mapM (cellsD m)).map List.flatten
 | _,_=>none
def niceT (P : Program) : Nat → TypeId → Bool
 | 0,_=>false
 | m + 1,t=>match P.underlying t with
  | some (.int _)=>true
  | some (.array n e)=>n * P.cellsOf e == P.cellsOf t && niceT P m e
  | _=>false
theorem chunks {α : Type} (sz : Nat) (cs : List α) : ∀ n,n * sz ≤ cs.length → ((List.range n).map fun i=>(cs.drop (i * sz)).take sz).flatten = cs.take (n * sz)
 | 0,_=>by simp
 | n + 1,h=>by
  rw [List.range_succ,List.map_append,List.flatten_append,chunks sz cs n (by rw [Nat.add_mul] at h; omega)]
  simp only [List.map_cons,List.map_nil,List.flatten_cons,List.flatten_nil,List.append_nil]
  rw [Nat.add_mul,Nat.one_mul,List.take_add]
theorem mapM_some {α β : Type} {f : α → Option β} : ∀ {l : List α} {r : List β},l.mapM f = some r → l.map f = r.map some
 | [],r,h=>by
  simp at h
  subst h
  rfl
 | a :: l,r,h=>by
  rw [List.mapM_cons] at h
  cases ha : f a with
  | none=>rw [ha] at h; simp at h
  | some b=>
   cases hl : l.mapM f with
   | none=>rw [ha,hl] at h; simp at h
   | some s=>
    rw [ha,hl] at h
    simp at h
    subst h
    simp [ha,mapM_some hl]
theorem cells_of_trod {W : World} {base : Nat} {sp : Nat → Bool} {held : Bool} : ∀ (m fuel : Nat) (t : TypeId) (cs : List Value) (d : DataW Unit) (p : List MemPlace) (vs : List Value),
  DataW.trod (fun _=>()) P W base sp held fuel t cs = some (d,p) → niceT P m t = true → cellsD m d = some vs → cs = vs
 | 0,_,_,_,_,_,_,_,h,_=>by simp [niceT] at h
 | m + 1,0,_,_,_,_,_,h,_,_=>by simp [DataW.trod] at h
 | m + 1,fuel + 1,t,cs,d,p,vs,h,hn,hc=>by
  unfold niceT at hn
  unfold DataW.trod at h
  split at hn
  ·rename_i k hk
   rw [hk] at h
   split at h <;> rename_i e1 <;> try (simp at e1; done)
   all_goals first
    | (split at h
       ·simp only [Option.some.injEq,Prod.mk.injEq] at h
        obtain ⟨rfl,rfl⟩:=h
        rename_i hkk
        simp only [cellsD,Option.some.injEq] at hc
        subst hc
        obtain ⟨rfl,_⟩:=hkk
        simp only [Option.some.injEq,TypeDesc.int.injEq] at e1
        subst e1
        rfl
       ·cases h)
    | (cases h; done)
  ·rename_i n e hk
   simp only [Bool.and_eq_true,beq_iff_eq] at hn
   rw [hk] at h
   simp only at h
   split at h
   ·rename_i hl
    obtain ⟨xs,hx,e1⟩:=Option.map_eq_some_iff.1 h
    simp only [Prod.mk.injEq] at e1
    obtain ⟨rfl,-⟩:=e1
    simp only [cellsD] at hc
    obtain ⟨ys,hy,rfl⟩:=Option.map_eq_some_iff.1 hc
    have h1:=mapM_some hx
    have h2:=mapM_some hy
    have hlen : xs.length = n:=by
     have:=congrArg List.length h1
     simpa using this.symm
    have hlen2 : ys.length = n:=by
     have:=congrArg List.length h2
     simp at this
     omega
    have key : ((List.range n).map fun i=>(cs.drop (i * P.cellsOf e)).take (P.cellsOf e)) = ys:=by
     apply List.ext_getElem
     ·simp [hlen2]
     ·intro i a1 a2
      have b1 : ((List.range n).map fun i=>DataW.trod (fun _=>()) P W base sp held fuel e ((cs.drop (i * P.cellsOf e)).take (P.cellsOf e)))[i]? = (xs.map some)[i]?:=by rw [h1]
      have b2 : ((xs.map (·.1)).map (cellsD m))[i]? = (ys.map some)[i]?:=by rw [h2]
      have hi : i < n:=by omega
      rw [List.getElem?_map,List.getElem?_range hi,List.getElem?_map,List.getElem?_eq_getElem (show i < xs.length by omega)] at b1
      rw [List.getElem?_map,List.getElem?_map,List.getElem?_eq_getElem (show i < xs.length by omega),List.getElem?_map,List.getElem?_eq_getElem a2] at b2
      simp only [Option.map_some,Option.some.injEq] at b1 b2
      have:=cells_of_trod m fuel e _ xs[i].1 xs[i].2 ys[i] b1 hn.2 b2
      simpa using this
    rw [← key,chunks _ _ _ (by omega),List.take_of_length_le (by omega)]
   ·cases h
  ·cases hn
theorem laid_at {W : World} : ∀ {l : List (String × DataW Unit)} {ps : List MemPlace},DataW.LaidVars P W l ps → ∀ {n : String} {d : DataW Unit},(n,d) ∈ l →
  ∃ g t cs fuel p,P.globalNamed n = some g ∧ (P.globals[g]?).map (·.type) = some t ∧ W.var? P n = some cs ∧ DataW.trod (fun _=>()) P W 0 (fun _=>true) false fuel t cs.toList = some (d,p)
 | [],_,_,_,_,h=>by cases h
 | (n',d') :: r,ps,h,n,d,hm=>by
  obtain ⟨g,t,cs,fuel,p,q,h1,h2,h3,h4,h5,_⟩:=h
  rcases List.mem_cons.1 hm with e | hm
  ·cases e
   exact ⟨g,t,cs,fuel,p,h1,h2,h3,h4⟩
  ·exact laid_at h5 hm
def tabB (P : Program) (g : Nat) : Bool:=match (P.globals[g]?).map (·.type) with
 | some t=>niceT P 4 t
 | none=>false
theorem tab_one {W : World} {laid : List (String × DataW Unit)} (hL : laidMet P laid W) {n : String} {d : DataW Unit} (hm : (n,d) ∈ laid) {g : Nat} {ls : List L} (hg : P.globalNamed n = some g) (hB : tabB P g = true) (hc : cellsD 4 d = some (ls.map plV)) :
  (X0 W).ok g ∧ ∃ ty fr,(X0 W).w.heap[g]? = some (.cells (ls.map plV).toArray ty fr):=by
 obtain ⟨ps,hv,_,_⟩:=hL
 obtain ⟨g',t',cs,fuel,p,h1,h2,h3,h4⟩:=laid_at hv hm
 obtain rfl:=Option.some.inj (hg.symm.trans h1)
 have hn : niceT P 4 t' = true:=by
  unfold tabB at hB
  rw [h2] at hB
  exact hB
 have e:=cells_of_trod 4 fuel t' cs.toList d p _ h4 hn hc
 unfold World.var? at h3
 rw [hg] at h3
 simp only [Option.bind_some] at h3
 split at h3
 ·rename_i c ty fr hh
  simp only [Option.some.injEq] at h3
  subst h3
  refine ⟨(Array.getElem?_eq_some_iff.1 hh).1,ty,fr,?_⟩
  show W.heap[g]? = _
  rw [hh,← e]
 ·cases h3
end Go.Proofs.YtpadinblmjlggaaGreatDoor
end

section
namespace Go.Proofs.YtpadinblmjlggaaGreatDoor
set_option maxHeartbeats 1000000
theorem gates_same {c : Control} (hf : Fine c) {s t : State} (hs : shapeS c s) (ht : shapeS c t) (he : t.ends = s.ends) (hvv : t.valves = s.valves) (hi : t.inputs = s.inputs) (htm : t.timers = s.timers)
  (hv : ∀ k : Nat,kindAt c k ≠ 0 → t.values[k]? = s.values[k]?) : gatesP c t = gatesP c s:=by
 have hp : preV t = preV s:=by unfold preV; rw [he,hi]
 have hpl:=preV_length hs
 have key : ∀ j,j ≤ c.signals.length → ∀ k : Nat,(k < j ∨ kindAt c k ≠ 0) → (gvals c t j)[k]? = (gvals c s j)[k]?:=by
  intro j
  induction j with
  | zero=>
   intro _ k hk
   rcases hk with h | h
   ·omega
   ·exact hv k h
  | succ j ih=>
   intro hj k hk
   have hx : c.signals[j]? = some c.signals[j]:=List.getElem?_eq_getElem (by omega)
   rw [gvals_at hx,gvals_at hx]
   by_cases h0 : c.signals[j].kind = 0
   ·rw [if_pos h0,if_pos h0]
    have he2 : evalE c.signals[j].on (valuesOf { t with values:=gvals c t j }) = evalE c.signals[j].on (valuesOf { s with values:=gvals c s j }):=by
     rw [valuesOf_with,valuesOf_with,hp]
     refine evalE_congr (SizeOf.sizeOf c.signals[j].on + 1) _ (by omega) fun n hn=>?_
     have hvn:=vars_check (hf.on hx).1 n hn
     have hl:=late_not hf hx h0 n hn
     by_cases h1 : n.toNat < (preV s).length
     ·rw [List.getElem?_append_left h1,List.getElem?_append_left h1]
     ·rw [List.getElem?_append_right (by omega),List.getElem?_append_right (by omega)]
      obtain ⟨q,hq⟩ : ∃ q : Nat,n - firstC c = q:=⟨(n - firstC c).toNat,by omega⟩
      have e : n.toNat - (preV s).length = q:=by omega
      rw [e]
      rw [hq] at hl
      refine ih (by omega) q ?_
      rcases hl with h | h
      ·exact .inl (by omega)
      ·exact .inr h
    by_cases hkj : j = k
    ·subst hkj
     rw [he2,List.getElem?_set,List.getElem?_set,gvals_length,gvals_length,ht.2.2.2.1,hs.2.2.2.1,if_pos rfl,if_pos rfl]
    ·rw [List.getElem?_set_ne hkj,List.getElem?_set_ne hkj]
     refine ih (by omega) k ?_
     rcases hk with h | h
     ·exact .inl (by omega)
     ·exact .inr h
   ·rw [if_neg h0,if_neg h0]
    refine ih (by omega) k ?_
    by_cases hkj : k = j
    ·right
     rw [hkj]
     simpa [kindAt,hx] using h0
    ·rcases hk with h | h
     ·exact .inl (by omega)
     ·exact .inr h
 have e : gvals c t c.signals.length = gvals c s c.signals.length:=by
  apply List.ext_getElem?
  intro k
  rcases Nat.lt_or_ge k c.signals.length with h | h
  ·exact key _ (Nat.le_refl _) k (.inl h)
  ·rw [List.getElem?_eq_none (by rw [gvals_length,ht.2.2.2.1]; exact h),List.getElem?_eq_none (by rw [gvals_length,hs.2.2.2.1]; exact h)]
 unfold gatesP
 rw [e]
 obtain ⟨a1,a2,a3,a4,a5⟩:=s
 obtain ⟨b1,b2,b3,b4,b5⟩:=t
 simp only at he hvv hi htm
 subst he hvv hi htm
 rfl
end Go.Proofs.YtpadinblmjlggaaGreatDoor
end
