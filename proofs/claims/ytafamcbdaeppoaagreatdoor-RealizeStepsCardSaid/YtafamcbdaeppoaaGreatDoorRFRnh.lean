/- Texts joined by a program: Rng,Rnh. -/
import Derived.Test.YtafamcbdaeppoaaGreatDoorRows
import Derived.WalkKit
import Derived.ProofKit
import Derived.OpenShut
import Derived.JoinedOf
import Derived.Handed
import Derived.Test.YtafamcbdaeppoaaGreatDoorCards
import Derived.Test.YtafamcbdaeppoaaGreatDoorTie
import Derived.SevenTiedAt
import Derived.Test.YtafamcbdaeppoaaGreatDoorF32
import Derived.Test.YtafamcbdaeppoaaGreatDoorF31
set_option linter.unusedSimpArgs false
set_option linter.unusedVariables false
set_option maxRecDepth 100000
namespace Go.Proofs.YtafamcbdaeppoaaGreatDoor
end Go.Proofs.YtafamcbdaeppoaaGreatDoor
section
namespace Go.Proofs.YtafamcbdaeppoaaGreatDoor.realizeSteps
open Go.ChangeShapes Go.WideShapes Go.ChangeAt Go.RowKit
theorem own:ownKnob Tryz.prog.godebug=none:=by kernel_rfl
abbrev laidL:List (String×DataW Unit):=[("math/bits.deBruijn32tab",Rows.laid_math_bits_deBruijn32tab),("math/bits.deBruijn64tab",Rows.laid_math_bits_deBruijn64tab),("internal/strconv.uint64pow10",Rows.laid_internal_strconv_uint64pow10),("pneumatic/lexer.ranges",Rows.laid_pneumatic_lexer_ranges)]
theorem tabs {W:World}(hL:laidMet Tryz.prog laidL W):Tabs (X0 W):=by
 unfold Tabs tabL
 refine List.forall_mem_cons.2 ⟨tab_one hL (n := "internal/strconv.uint64pow10") (d:=Rows.laid_internal_strconv_uint64pow10) (List.Mem.tail _ (List.Mem.tail _ (List.Mem.head _))) (by kernel_rfl) (by kernel_rfl) (by kernel_rfl),?_⟩
 refine List.forall_mem_cons.2 ⟨tab_one hL (n := "math/bits.deBruijn32tab") (d:=Rows.laid_math_bits_deBruijn32tab) (List.Mem.head _) (by kernel_rfl) (by kernel_rfl) (by kernel_rfl),?_⟩
 refine List.forall_mem_cons.2 ⟨tab_one hL (n := "math/bits.deBruijn64tab") (d:=Rows.laid_math_bits_deBruijn64tab) (List.Mem.tail _ (List.Mem.head _)) (by kernel_rfl) (by kernel_rfl) (by kernel_rfl),?_⟩
 refine List.forall_mem_cons.2 ⟨tab_one hL (n := "pneumatic/lexer.ranges") (d:=Rows.laid_pneumatic_lexer_ranges) (List.Mem.tail _ (List.Mem.tail _ (List.Mem.tail _ (List.Mem.head _)))) (by kernel_rfl) (by kernel_rfl) (by kernel_rfl),?_⟩
 exact fun _ h=>nomatch h
theorem lifted (os:Os) (started:os.Started) (H:Type) (enc:TypeId×Value->H) :
  ReturnsInHanded {} Tryz.checked os 4 .any (fun w args=>(Rows.realizeStepsSpec.pre enc Tryz.prog Tryz.f4 Rows.realizeStepsRow.domain false w args∧laidMet Tryz.prog laidL w)∧sizedMet enc Tryz.prog Tryz.f4 (OpenSpec.ofChange Rows.realizeStepsSpec) false w args) (Rows.realizeStepsSpec.post enc Tryz.prog Tryz.f4 false true false false):=by
 refine returnsInHanded_of_change_and (C:=Tryz.checked) (X:=fun w _=>laidMet Tryz.prog laidL w) (fun _ _ _ hh h=>h.of_heap hh) own started (by kernel_rfl) Tryz.func4
  (ChangeSpec.witness_at (enc:=enc) (C:=Tryz.checked) (os:=os) (X:=fun w _=>laidMet Tryz.prog laidL w) false (World.laidAll Tryz.prog os laidL) #[.agg #[.int .i64 0,.slice none 0 0,.slice none 0 0,.slice none 0 0,.slice none 0 0],.agg #[.slice none 0 0,.slice none 0 0,.slice none 0 0,.slice none 0 0,.slice none 0 0]] 8 (World.laidAll_os _ _ _) (by kernel_rfl) (by kernel_rfl) (by kernel_rfl) (by kernel_rfl) (by kernel_rfl)
   (laidMet_laidAll _ (by kernel_rfl) (by kernel_rfl))) ?_
 intro W base args ds gs before hval0 hW hcnd _ hL _
 have hval:∀(j:Nat) t v,Tryz.f4.params[j]?=some t->args[j]?=some v->Value.okWide Tryz.prog W .any base t v:=hval0
 have hW':=hW
 obtain⟨p,q,hA0,hV,rfl,hfz,hnd⟩:=hW
 have hA:DataW.TrodAll enc Tryz.prog W 0 (fun _=>true) true Tryz.f4.params.toList args.toList ds p:=hA0
 rw[Tryz.params4]at hA hval
 obtain⟨v0,vs0,d0,ds0,p0,q0,hargs,rfl,rfl,h0,r0⟩:=trodAll_cons hA
 obtain⟨v1,vs1,d1,ds1,p1,q1,rfl,rfl,rfl,h1,r1⟩:=trodAll_cons r0
 obtain⟨rfl,rfl,rfl⟩:=trodAll_nil r1
 obtain rfl:args=#[v0,v1]:=by cases args;simp_all
 obtain⟨rfl,rfl⟩:=trodVars_none hV
 obtain⟨x0,e0,k0⟩:=read_C (hval 0 26 v0 rfl rfl) h0
 obtain⟨x1,e1,k1⟩:=read_St (hval 1 29 v1 rfl rfl) h1
 simp only[List.append_nil]at hW'
 exact law_of (az:=[aC x0,aSt x1]) (tb:=4) (tabs hL) facts.1 facts.2.1 facts.2.2 (by decide +kernel) (by kernel_rfl) Tryz.underlying4 hW' rfl rfl rfl rfl ⟨e0,e1,trivial⟩ (RealizeSteps_fn x0 x1 k0 k1)
theorem band {a b:Bool}(h:a=true) (k:b=true):(a&&b)=true:=by rw[h,k];rfl
set_option maxHeartbeats 0 in
theorem joined:joinedFacts Tryz.prog 4 Tryz.f4 Rows.realizeStepsSpec Rows.realizeStepsRow=true:=by
 unfold joinedFacts
 refine band (band (band (band (band (band (band (band (band (band (band (band (band (band (band (band (band (band (band (band (band (band (band (band (band (band (band (band (band (band (band ?_ ?_) ?_) ?_) ?_) ?_) ?_) ?_) ?_) ?_) ?_) ?_) ?_) ?_) ?_) ?_) ?_) ?_) ?_) ?_) ?_) ?_) ?_) ?_) ?_) ?_) ?_) ?_) ?_) ?_) ?_) ?_
 all_goals (as_aux_lemma=>kernel_rfl)
theorem over:Rows.realizeStepsRow.holds Tryz.pinned (OpenSpec.ofChange Rows.realizeStepsSpec):=
 OpenClaim.holds_of_wide 4 Tryz.f4 rfl rfl rfl rfl rfl rfl rfl ⟨rfl,rfl,rfl,rfl,rfl⟩ rfl rfl rfl rfl rfl (by kernel_rfl) Tryz.func4 joined
  (of_decide_eq_true (by kernel_rfl)) (by unfold Func.isWrapper;first | (rw[if_pos (by decide +kernel)];kernel_rfl) | (rw[if_neg (by decide +kernel)];exact⟨rfl,rfl⟩))
  (fun os started H enc _=>lifted os started H enc)
theorem proved:Rows.RealizeStepsSaid:=over
end Go.Proofs.YtafamcbdaeppoaaGreatDoor.realizeSteps
end
namespace Go.Proofs.YtafamcbdaeppoaaGreatDoor
end Go.Proofs.YtafamcbdaeppoaaGreatDoor
section
namespace Go.Proofs.YtafamcbdaeppoaaGreatDoor.realizeStepsCard
set_option maxHeartbeats 0 in
theorem proved:Rows.RealizeStepsCardSaid:=
 Claim7.holds_tied_plain_at .later [] [.data,.data,.data,.data] true (true,"04a0b887d1dab2692e8adf912645d5d046cb656fe16444e2b7a964dcd7b7da5c") false
  realizeSteps.over (fun _ h=>by cases h) (by as_aux_lemma=>kernel_rfl) (fun _ h=>by cases h) realizeSteps_row_tie rfl ⟨rfl,rfl⟩ (by as_aux_lemma=>kernel_rfl) rfl
  (fun f fn hf hfn=>by
   obtain rfl:f=4:=Option.some.inj ((show Tryz.prog.funcNamed "pneumatic/pneumaticlaw37.RealizeSteps"=some 4 by kernel_rfl).symm.trans hf) |>.symm
   obtain rfl:fn=Tryz.f4:=(Option.some.inj (Tryz.func4.symm.trans hfn)).symm
   exact⟨by as_aux_lemma=>kernel_rfl,fun j t ht=>by
    rw[Tryz.params4]at ht
    have hm:t∈[26,29]:=by simpa using Array.mem_of_getElem? ht
    have hall:([26,29].all fun u=>!Tryz.prog.wantsStandIn u)=true:=by kernel_rfl
    exact (show Tryz.prog.wantsStandIn t=false by simpa using List.all_eq_true.1 hall t hm)⟩)
  (by as_aux_lemma=>kernel_rfl)
end Go.Proofs.YtafamcbdaeppoaaGreatDoor.realizeStepsCard
end
namespace Go.Proofs.YtafamcbdaeppoaaGreatDoor
end Go.Proofs.YtafamcbdaeppoaaGreatDoor
