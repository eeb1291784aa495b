/- Texts joined by a program: Wk,Wl,Ei,Pk,Pb,Wm,Wn,Wo. -/
import Derived.Shelf.Slices.Delete
import Derived.Test.YtpadinblmjlggaaGreatDoorP26
import Derived.Test.YtpadinblmjlggaaGreatDoorP25
import Derived.Test.YtpadinblmjlggaaGreatDoorP19
import Derived.Test.YtpadinblmjlggaaGreatDoorP18
set_option linter.unusedSimpArgs false
set_option linter.unusedVariables false

section
namespace Go.Proofs.YtpadinblmjlggaaGreatDoor
set_option maxHeartbeats 8000000
set_option maxRecDepth 10000
theorem Check24_fn (c : Cir) (hc : OkCir c) (pos : List Int) (hp : Sh pos) : CallFn Tryz.prog 54 [aCi c,aIs pos] (aI (presE c pos)):=by
 have hch:=CirCheckR_fn c hc.names hc.parts hc.pipes
 generalize hP : presE c pos = P
 by_cases h0 : cirE c = 0
 ·have hr:=cirR_of h0
  have hf:=hr.few
  rw [h0] at hch
  refine callFz_of Tryz.func54 rfl Tryz.ntmps54 (rs:=[.tmp 4]) rfl (by kernel_rfl) (by simp) (by kernel_rfl) ?_
  simp
  refine hch.s ?_
  simp
  by_cases hlen : pos.length = c.parts.length
  ·have hlz : ((pos.length : Nat) : Int) = c.parts.length:=by omega
   simp [hlz]
   refine V.forI (σ:=Unit) pos.length [1,2,4] (by simp; exact rfl) (fun i _=>[(6,aI i)]) (fun _ _=>[]) (fun i _=>∀ j,j < i → posOkB c.parts pos j = true) () (by simp) (by simp) ⟨by simp; exact rfl,by simp⟩ ?_ ?_
   ·rintro i ⟨⟩ hip hI
    have hi : i < c.parts.length:=by omega
    obtain ⟨x,hx⟩ : ∃ x,c.parts[i] = x:=⟨_,rfl⟩
    have hxo : c.parts[i]? = some x:=by rw [List.getElem?_eq_getElem hi,hx]
    obtain ⟨z,hz⟩ : ∃ z,pos[i] = z:=⟨_,rfl⟩
    have hzo : pos[i]? = some z:=by rw [List.getElem?_eq_getElem hip,hz]
    obtain ⟨hk,hk14⟩:=kind_of hr hxo
    have hmy:=Many_fn (kindOf c.parts i) hk14
    rw [← hk] at hmy
    have hpo : posOkB c.parts pos i = decide (0 ≤ z ∧ z < manyK (kindOf c.parts i)):=by
     unfold posOkB
     rw [List.getD_eq_getElem?_getD,hzo]
     rfl
    simp [hi,hip,hx,hxo,hz,hzo]
    refine V.drawX (fun t=>if t = 40 then some (.fn (aI (manyK (kindOf c.parts i)))) else none) (by kernel_rfl) (by kernel_rfl) (by simp) ?_
    simp [hi,hip,hx,hxo,hz,hzo]
    refine ⟨fun h=>⟨h,hmy⟩,fun hbad=>?_,fun h1 h2=>⟨⟨by omega,by omega⟩,fun j hj=>?_⟩⟩
    ·rw [← hP,presE_bad h0 hlen hi]
     rw [hpo]
     simp only [decide_eq_false_iff_not]
     omega
    ·by_cases e : j = i
     ·rw [e,hpo]
      simp only [decide_eq_true_eq]
      exact ⟨h1,h2⟩
     ·exact hI j (by omega)
   ·rintro ⟨⟩ hI
    simp
    rw [← hP,presE_good h0 hlen (by rw [← hlen]; exact hI)]
  ·have hlz : ¬ ((pos.length : Nat) : Int) = c.parts.length:=by omega
   simp [hlz]
   rw [← hP]
   unfold presE
   rw [if_neg (by simp [h0]),if_pos (by simpa using hlen)]
 ·refine callFz_of Tryz.func54 rfl Tryz.ntmps54 (rs:=[.tmp 4]) rfl (by kernel_rfl) (by simp) (by kernel_rfl) ?_
  simp
  refine hch.s ?_
  simp [h0]
  rw [← hP]
  unfold presE
  rw [if_pos (by simpa using h0)]
theorem endsV_get : ∀ (l : List Int) (n : Nat),n < 2 * l.length → (endsV l)[n]? = some (l.getD (n / 2) 0 == (if n % 2 = 0 then 0 else 2))
 | [],n,h=>by simp at h
 | x :: l,0,_=>by simp [endsV]
 | x :: l,1,_=>by simp [endsV]
 | x :: l,n + 2,h=>by
  have ih:=endsV_get l n (by simp at h; omega)
  have e : endsV (x :: l) = [x == 0,x == 2] ++ endsV l:=by simp [endsV]
  rw [e,List.getElem?_append_right (by simp)]
  simp only [List.length_cons,List.length_nil,Nat.zero_add,Nat.reduceAdd,Nat.add_sub_cancel]
  rw [ih,show (n + 2) / 2 = n / 2 + 1 by omega,show (n + 2) % 2 = n % 2 by omega]
  simp
abbrev rsHp (c : Cir) (ct : Control) (b6 b8 b12 b14 : Nat) (g h1 h2 h3 h4 : Value) (s : State) : Heap:=
 [(67,.seq g 3 1 (s.ends.map rI)),(61,.seq h1 4 1 (s.valves.map rB)),(62,.seq h2 4 1 (s.inputs.map rB)),(63,.seq h3 4 1 (s.values.map rB)),(64,.seq h4 3 1 (s.timers.map rI)),
 (14,.box b14 [.own 67 g,.own 61 h1,.own 62 h2,.own 63 h3,.own 64 h4]),(12,.box b12 ((encPl (planZ c) c.pipes).map A.dat)),(8,.box b8 ((encC ct).map A.dat)),(6,.box b6 [.nils,.nils,.nils,.nils,.nils])]
abbrev rsEnv (c : Cir) (pos : List Int) (b6 b8 b12 b14 : Nat) : List (Nat × A):=[(1,aIs pos),(3,.rptr (encCi c)),(6,.ptr 6 b6 0),(7,aI 0),(8,.ptr 8 b8 0),(12,.ptr 12 b12 0),(14,.ptr 14 b14 0)]
def rsEnd (p : Pln) (ct : Control) (pos ends : List Int) (s0 : State) (n : Nat) : State × Int:=match p.stFold ct pos ends s0 n with
 | .error e=>(noSt,e)
 | .ok s=>(gatesP ct s,0)
theorem rs_d {c : Cir} (h : PlR c) {ct : Control} (hok : OkC ct) (hfi : Fine ct) (hact : ct.actuators = (planZ c).drives.length) (hinp : ct.inputs.length = (planZ c).butt.length) (hsig : (planZ c).order.length + (planZ c).valv.length ≤ ct.signals.length) {pos ends : List Int} (hpos : pos.length = c.parts.length) (hends : ends.length = (planZ c).drives.length)
  (b6 b8 b12 b14 : Nat) (g h1 h2 h3 h4 : Value) {s0 : State} (hs0 : StS (planZ c) ct ends s0) :
  V ⟨Tryz.prog,none,166⟩ (restC Tryz.f11 9) (hdE (rsEnv c pos b6 b8 b12 b14) []) (rsHp c ct b6 b8 b12 b14 g h1 h2 h3 h4 s0)
   (RetV Tryz.prog [.cell 6 31,.tmp 7] fun r' H'=>(frz H' r').1 ∧ (frz H' r').2 = .tuple [aSt (rsEnd (planZ c) ct pos ends s0 c.parts.length).1,aI (rsEnd (planZ c) ct pos ends s0 c.parts.length).2]):=by
 have hps : (planZ c).ps = c.parts:=rfl
 have hpl : c.parts.length ≤ 64:=h.cir.few
 have hdl : (planZ c).drives.length ≤ 64:=(planZ_B h.cir).dl
 have hbl : (planZ c).butt.length ≤ 64:=(planZ_B h.cir).bl
 have hsl : ct.signals.length ≤ 64:=hfi.sig
 have hlim:=planZ_lim h.cir
 have hfirst : (planZ c).first = 2 * (planZ c).drives.length + (planZ c).butt.length:=rfl
 have hff:=firstR_fn h
 generalize hR : rsEnd (planZ c) ct pos ends s0 c.parts.length = R
 refine V.rest rfl ?_
 refine V.of_vcN 1 ?_
 simp
 refine V.forI (σ:=State) c.parts.length [1,3,6,7,8,12,14] (by simp; exact rfl) (fun i _=>[(15,aI i)]) (fun _ s=>rsHp c ct b6 b8 b12 b14 g h1 h2 h3 h4 s) (fun i s=>(planZ c).stFold ct pos ends s0 i = .ok s ∧ StS (planZ c) ct ends s) s0 ⟨rfl,hs0⟩ (by simp) ⟨by simp; exact rfl,by simp⟩ ?_ ?_
 ·rintro i ⟨s1,s2,s3,s4,s5⟩ hi ⟨hI,hS⟩
  have hSn:=fun t=>hS.step (pos:=pos) (i:=i) (t:=t)
  have hsm0 : shapeS ct ⟨s1,s2,s3,s4,s5⟩:=by
   obtain ⟨z1,z2,z3,z4,z5⟩:=hS
   simp only at z1 z2 z3 z4 z5
   subst z5
   exact ⟨by simp only; omega,by simp only; omega,by simp only; omega,z3,z4⟩
  obtain ⟨z1,z2,z3,z4,z5⟩:=hS
  simp only at z1 z2 z3 z4 z5
  subst z5
  have hip : i < pos.length:=by omega
  obtain ⟨z,hz⟩ : ∃ z,pos[i] = z:=⟨_,rfl⟩
  have hzo : pos[i]? = some z:=by rw [List.getElem?_eq_getElem hip,hz]
  have hon : onP pos i = (z == 1):=by unfold onP; rw [List.getD_eq_getElem?_getD,hzo]; rfl
  obtain ⟨x,hx⟩ : ∃ x,c.parts[i] = x:=⟨_,rfl⟩
  have hxo : c.parts[i]? = some x:=by rw [List.getElem?_eq_getElem hi,hx]
  obtain ⟨hk0,hk14⟩:=kind_of h.cir hxo
  have hdv:=drivenR_fn (planZ c).drives i (by unfold Sh; omega)
  have hmy:=Many_fn (kindOf c.parts i) hk14
  rw [← hk0] at hmy
  have hfold : (planZ c).stFold ct pos s1 s0 (i + 1) = (planZ c).stStep ct pos s1 ⟨s1,s2,s3,s4,s5⟩ i:=by simp only [Pln.stFold,hI]
  have herr : ∀ e,(planZ c).stStep ct pos s1 ⟨s1,s2,s3,s4,s5⟩ i = .error e → R = (noSt,e):=fun e he=>by
   rw [← hR]
   unfold rsEnd
   rw [stFold_err (i:=i + 1) (by rw [hfold,he]) c.parts.length (by omega)]
  rw [hfold]
  generalize hT : (planZ c).stStep ct pos s1 ⟨s1,s2,s3,s4,s5⟩ i = T at *
  unfold Pln.stStep at hT
  simp only at hT
  rw [hon] at hT
  simp [hi,hip,hz,hzo]
  refine hdv.s ?_
  generalize hb : (z == 1) = on at *
  cases hz2 : drivenZ (planZ c).drives i with
  | some k=>
   have hkl:=drivenZ_lt hz2
   rw [hz2] at hT
   simp only at hT
   subst hT
   have hk2 : k < s2.length:=by omega
   obtain ⟨y,hy⟩ : ∃ y,s2[k] = y:=⟨_,rfl⟩
   have hyo : s2[k]? = some y:=by rw [List.getElem?_eq_getElem hk2,hy]
   have hnx:=hSn _ rfl
   simp [idxI,hk2,hy,hyo]
   exact ⟨⟨by omega,by omega⟩,⟨s1,s2.set k on,s3,s4,s5⟩,⟨rfl,hnx⟩,rfl,by simp,rfl,rfl,rfl⟩
  | none=>
   rw [hz2] at hT
   simp only at hT
   cases hn : (planZ c).line i with
   | none=>
    rw [hn] at hT
    simp only at hT
    subst hT
    have hnx:=hSn _ rfl
    have hm1 : manyK (kindOf c.parts i) = 1:=by
     rcases manyK_or _ hk14 with e | e
     ·exact e
     ·obtain ⟨n,hn2⟩:=manyK_line h hi (by omega) hz2
      rw [hn] at hn2
      cases hn2
    have hk67 : kindOf c.parts i ≠ 7 ∧ kindOf c.parts i ≠ 6:=by
     revert hm1
     generalize kindOf c.parts i = k at hk14
     revert k
     refine k_cases ⟨?_,?_,?_,?_,?_,?_,?_,?_,?_,?_,?_,?_,?_,?_⟩ <;> decide
    have hx7 : ¬ x.kind = 7:=by omega
    have hx6 : ¬ x.kind = 6:=by omega
    rw [hm1] at hmy
    simp [idxI,hi,hx,hxo,hx7,hx6]
    refine hmy.s ?_
    simp
    exact ⟨⟨by omega,by omega⟩,⟨s1,s2,s3,s4,s5⟩,⟨rfl,hnx⟩,rfl,rfl,rfl,rfl,rfl⟩
   | some n=>
    rw [hn] at hT
    simp only at hT
    have hpl:=placeR_fn h hn hi
    rcases line_cases hlim hn with ⟨hk,hm,hne⟩ | ⟨hk,hne⟩ | ⟨hk7,hk6,hm,hne⟩
    ·change kindOf c.parts i = 7 at hk
     have hx7 : x.kind = 7:=by omega
     have hj:=List.idxOf_lt_length_of_mem hm
     rw [if_pos (show kindOf (planZ c).ps i = 7 from hk)] at hT
     generalize (planZ c).butt.idxOf i = j at *
     subst hne
     rw [show 2 * (planZ c).drives.length + j - 2 * (planZ c).drives.length = j by omega] at hT
     subst hT
     have hnx:=hSn _ rfl
     have hj3 : j < s3.length:=by omega
     obtain ⟨y,hy⟩ : ∃ y,s3[j] = y:=⟨_,rfl⟩
     have hyo : s3[j]? = some y:=by rw [List.getElem?_eq_getElem hj3,hy]
     simp [idxI,hi,hx,hxo,hx7]
     refine V.drawX (fun t=>if t = 105 then some (.fn (aI (2 * (planZ c).drives.length + j : Nat))) else none) (by kernel_rfl) (by kernel_rfl) (by simp) ?_
     simp [hact,hj3,hy,hyo,show (2 * ((planZ c).drives.length : Int) + (j : Int) - 2 * ((planZ c).drives.length : Int)) = (j : Int) by omega]
     refine ⟨by simpa using hpl,⟨by omega,by omega⟩,by omega,by kernel_rfl,⟨by omega,by omega⟩,⟨s1,s2,s3.set j on,s4,s5⟩,⟨rfl,hnx⟩,rfl,rfl,?_,rfl,rfl⟩
     simp
    ·change kindOf c.parts i = 6 at hk
     have hx6 : x.kind = 6:=by omega
     have hkp : kindOf (planZ c).ps i = 6:=hk
     rw [if_neg (by omega),if_pos hkp] at hT
     have hvg:=endsV_get s1 n (by omega)
     have hvr : (valuesOf ⟨s1,s2,s3,s4,s5⟩)[n]? = some (s1.getD (n / 2) 0 == (if n % 2 = 0 then 0 else 2)):=by
      unfold valuesOf
      rw [List.append_assoc,List.getElem?_append_left (by rw [endsV_length]; simp only; omega)]
      exact hvg
     have hvo:=ValuesR_o ct ⟨s1,s2,s3,s4,s5⟩ ⟨by simp only; omega,by simp only; omega,by simp only; omega,by simp only; omega,by simp only; omega⟩ (by have:=hsm0.1; simp only at this ⊢; omega)
     generalize valuesOf ⟨s1,s2,s3,s4,s5⟩ = VS at *
     obtain ⟨hvl,hve⟩:=List.getElem?_eq_some_iff.1 hvr
     generalize (s1.getD (n / 2) 0 == (if n % 2 = 0 then 0 else 2)) = vb at *
     simp [idxI,hi,hx,hxo,hx6]
     refine V.drawX (fun t=>if t = 121 then some (.ro (aBs VS)) else if t = 124 then some (.fn (aI n)) else none) (by kernel_rfl) (by kernel_rfl) (by simp) ?_
     simp [hvl,hve,hvr]
     refine ⟨(hvo.lendFn (H:=[(67,.seq g 3 1 (s1.map rI)),(61,.seq h1 4 1 (s2.map rB)),(62,.seq h2 4 1 (s3.map rB)),(63,.seq h3 4 1 (s4.map rB)),(64,.seq h4 3 1 (s5.map rI))]) ?_ ?_ ?_).mono ?_,?_⟩
     ·simp [hget,packA,encSt]
     ·intro hh; simp
     ·simp
     ·rintro r H' ⟨rfl,rfl⟩
      simp
     ·refine ⟨hpl,fun hne=>?_,fun heq=>?_⟩
      ·rw [if_neg hne] at hT
       have:=herr 16 hT.symm
       rw [this]
       simp [noSt]
      ·rw [if_pos heq] at hT
       exact ⟨⟨by omega,by omega⟩,⟨s1,s2,s3,s4,s5⟩,⟨hT.symm,hSn _ hT.symm⟩,rfl,rfl,rfl,rfl,rfl⟩
    ·change kindOf c.parts i ≠ 7 at hk7
     change kindOf c.parts i ≠ 6 at hk6
     have hx7 : ¬ x.kind = 7:=by omega
     have hx6 : ¬ x.kind = 6:=by omega
     rw [if_neg (show ¬ kindOf (planZ c).ps i = 7 from hk7),if_neg (show ¬ kindOf (planZ c).ps i = 6 from hk6)] at hT
     have hmany : 1 < manyK (kindOf c.parts i):=by
      rcases manyK_or _ hk14 with e | e
      ·rw [line_none h hi e] at hn
       cases hn
      ·omega
     have hj:=List.idxOf_lt_length_of_mem hm
     obtain ⟨m,hnm⟩ : ∃ m,n = (planZ c).first + m:=⟨(planZ c).order.length + (planZ c).valv.idxOf i,by omega⟩
     have hms : m < ct.signals.length:=by omega
     have hfl : (planZ c).first ≤ 200:=by omega
     subst hnm
     rw [show (planZ c).first + m - (planZ c).first = m by omega] at hT
     generalize (planZ c).first = F at *
     obtain ⟨sx,hsx⟩ : ∃ sx,ct.signals[m] = sx:=⟨_,rfl⟩
     have hsxo : ct.signals[m]? = some sx:=by rw [List.getElem?_eq_getElem hms,hsx]
     have hm4 : m < s4.length:=by omega
     have hm5 : m < s5.length:=by omega
     obtain ⟨y,hy⟩ : ∃ y,s4[m] = y:=⟨_,rfl⟩
     have hyo : s4[m]? = some y:=by rw [List.getElem?_eq_getElem hm4,hy]
     obtain ⟨w,hw⟩ : ∃ w,s5[m] = w:=⟨_,rfl⟩
     have hwo : s5[m]? = some w:=by rw [List.getElem?_eq_getElem hm5,hw]
     have hFm : (F : Int) + (m : Int) - (F : Int) = (m : Int):=by omega
     rw [hsxo] at hT
     simp only [Option.map_some,Option.some.injEq] at hT
     have hmany' : (1 : Int) < (manyK (kindOf c.parts i) : Nat):=by omega
     simp [idxI,hi,hx,hxo,hx7,hx6]
     refine hmy.s ?_
     simp
     refine ⟨fun _=>?_,fun hle=>by omega⟩
     refine V.drawX (fun t=>if t = 140 then some (.fn (aI (F + m : Nat))) else if t = 142 then some (.fn (aI F)) else none) (by kernel_rfl) (by kernel_rfl) (by simp) ?_
     simp [hFm,hm4,hm5,hy,hyo,hw,hwo,hms,hsx,hsxo]
     refine ⟨by simpa using hpl,hff,by omega,fun hk2 hon2=>?_,fun hno=>?_⟩
     ·rw [if_pos ⟨hon2,hk2⟩] at hT
      exact ⟨⟨by omega,by omega⟩,⟨s1,s2,s3,s4.set m on,s5.set m 2⟩,⟨hT.symm,hSn _ hT.symm⟩,rfl,rfl,rfl,by simp,by simp⟩
     ·rw [if_neg (fun hc=>by rw [hno hc.2] at hc; cases hc.1)] at hT
      exact ⟨⟨by omega,by omega⟩,⟨s1,s2,s3,s4.set m on,s5⟩,⟨hT.symm,hSn _ hT.symm⟩,rfl,rfl,rfl,by simp,rfl⟩
 ·rintro ⟨s1,s2,s3,s4,s5⟩ ⟨hI,hS⟩
  have hsh : shapeS ct ⟨s1,s2,s3,s4,s5⟩:=by
   obtain ⟨z1,z2,z3,z4,z5⟩:=hS
   simp only at z1 z2 z3 z4 z5
   subst z5
   exact ⟨by simp only; omega,by simp only; omega,by simp only; omega,z3,z4⟩
  obtain ⟨z1,z2,z3,z4,z5⟩:=hS
  simp only at z1 z2 z3 z4 z5
  subst z5
  have hcm:=computedR_o ct ⟨s1,s2,s3,s4,s5⟩ hok hfi ⟨by simp only; omega,by simp only; omega,by simp only; omega,by simp only; omega,by simp only; omega⟩ hsh
  have hRe : R = (gatesP ct ⟨s1,s2,s3,s4,s5⟩,0):=by rw [← hR]; unfold rsEnd; rw [hI]
  rw [hRe]
  generalize gatesP ct ⟨s1,s2,s3,s4,s5⟩ = S at *
  simp
  refine V.of_vc ?_
  simp
  refine hcm.fn.give (Hc:=[(67,_),(61,_),(62,_),(63,_),(64,_)]) (Hr:=[(14,.box b14 [.own 67 g,.own 61 h1,.own 62 h2,.own 63 h3,.own 64 h4]),(12,.box b12 ((encPl (planZ c) c.pipes).map A.dat)),(8,.box b8 ((encC ct).map A.dat)),(6,.box b6 [.nils,.nils,.nils,.nils,.nils])]) rfl (by simp [frzs,frz,rowsD,allD,isD]) ?_
  simp
end Go.Proofs.YtpadinblmjlggaaGreatDoor
end

section
namespace Go.Proofs.YtpadinblmjlggaaGreatDoor
set_option maxHeartbeats 8000000
set_option maxRecDepth 10000
def stateR (c : Cir) (pos ends : List Int) : State × Int:=
 if buildE c ≠ 0 then (noSt,buildE c)
 else if presE c pos ≠ 0 then (noSt,presE c pos)
 else if ends.length ≠ (planZ c).drives.length then (noSt,8)
 else if ends.any (outR 4) = true then (noSt,1)
 else rsEnd (planZ c) (planZ c).ctl pos ends { firstSt (planZ c).ctl with ends:=ends } c.parts.length
theorem StateR30_fn (c : Cir) (hc : OkCir c) (pos ends : List Int) (hpos : Sh pos) (hends : ends.length ≤ 1000000) : CallFn Tryz.prog 11 [aCi c,aIs pos,aIs ends] (.tuple [aSt (stateR c pos ends).1,aI (stateR c pos ends).2]):=by
 have hct:=ControlR30_fn c hc
 have hp:=planned_fn c hc
 have hpc:=Check24_fn c hc pos hpos
 generalize hSQ : stateR c pos ends = SQ
 unfold stateR at hSQ
 unfold controlQ at hct
 by_cases h0 : buildE c = 0
 ·have h:=plR_build h0
  obtain ⟨hr,hd,hch,_,hc0⟩:=build_zero h0
  have hok:=build_okC h0
  have hB:=planZ_B hr
  have hD:=planZ_D hd
  obtain ⟨hs1,hs2⟩:=pil_sig hB hD
  have hfi:=fine_of hch
  have hbe:=beginR_o (planZ c).ctl hok hfi
  have hact : (planZ c).ctl.actuators = (planZ c).drives.length:=rfl
  have hinp : (planZ c).ctl.inputs.length = (planZ c).butt.length:=by
   show ((planZ c).butt.map _).length = _
   rw [List.length_map]
  have hsd:=fun b6 b8 b12 b14 g h1 h2 h3 h4 s0 hpl hel hst=>rs_d (pos:=pos) (ends:=ends) h hok hfi hact hinp hs2 hpl hel b6 b8 b12 b14 g h1 h2 h3 h4 (s0:=s0) hst
  have hsh:=gatesP_shape (newSt_shape hfi)
  rw [h.pln,if_pos rfl] at hp
  simp only [h0,if_true] at hct
  rw [if_neg (by simp [h0])] at hSQ
  generalize (planZ c).ctl = ct at *
  refine callFz_cut 9 Tryz.func11 rfl Tryz.ntmps11 (rs:=[.cell 6 31,.tmp 7]) rfl (by kernel_rfl) (by simp) (by kernel_rfl) ?_
  simp
  intro b6
  refine hct.s ?_
  simp
  intro b8
  refine hpc.s ?_
  by_cases hz : presE c pos = 0
  ·have hpl : pos.length = c.parts.length:=by
    unfold presE at hz
    rw [if_neg (by simp [hc0])] at hz
    split at hz
    ·simp at hz
    ·rename_i h; exact Classical.not_not.1 h
   rw [if_neg (by simp [hz])] at hSQ
   rw [hz]
   simp [hact]
   by_cases hel : ends.length = (planZ c).drives.length
   ·have hez : ((ends.length : Nat) : Int) = (planZ c).drives.length:=by omega
    rw [if_neg (by simp [hel])] at hSQ
    simp [hez]
    refine V.forI (σ:=Unit) ends.length [1,2,3,6,7,8] (by simp; exact rfl) (fun i _=>[(11,aI i)]) (fun _ _=>[(8,.box b8 ((encC ct).map A.dat)),(6,.box b6 [.nils,.nils,.nils,.nils,.nils])]) (fun i _=>(ends.take i).any (outR 4) = false) () (by simp) (by simp) ⟨by simp; exact rfl,by simp [hact]⟩ ?_ ?_
    ·rintro i ⟨⟩ hi hI
     obtain ⟨z,hz3⟩ : ∃ z,ends[i] = z:=⟨_,rfl⟩
     have hzo : ends[i]? = some z:=by rw [List.getElem?_eq_getElem hi,hz3]
     rw [List.take_add_one,hzo]
     simp [hi,hz3,hzo]
     refine ⟨fun hb=>?_,fun h1 h2=>⟨⟨by omega,by omega⟩,?_,?_⟩⟩
     ·have hany : ends.any (outR 4) = true:=by
       rw [List.any_eq_true]
       refine ⟨z,List.mem_of_getElem? hzo,?_⟩
       unfold outR
       simpa using hb
      rw [if_pos hany] at hSQ
      rw [← hSQ]
      simp [noSt]
     ·intro y hy
      rw [List.any_eq_false] at hI
      simpa using hI y hy
     ·unfold outR
      simp
      omega
    ·rintro ⟨⟩ hI
     rw [List.take_length] at hI
     rw [if_neg (by simp [hI])] at hSQ
     simp
     refine hp.s ?_
     simp
     intro b12
     refine hbe.s 60 fun hd=>?_
     simp [stA,stH]
     intro b14 u0 g
     refine ⟨by omega,?_⟩
     rw [← hSQ]
     have hst : StS (planZ c) ct ends { firstSt ct with ends:=ends }:=by
      obtain ⟨q1,q2,q3,q4,q5⟩:=hsh
      exact ⟨by simp only [firstSt]; omega,by simp only [firstSt]; omega,by simp only [firstSt]; omega,by simp only [firstSt]; omega,rfl⟩
     exact V.cutV (Hs:=rsHp c ct b6 b8 b12 b14 g (hd 1) (hd 2) (hd 3) (hd 4) { firstSt ct with ends:=ends }) (rsEnv c pos b6 b8 b12 b14) (by simp) (by simp) (V.of_rest rfl (hsd b6 b8 b12 b14 g _ _ _ _ _ hpl hel hst))
   ·have hez : ¬ ((ends.length : Nat) : Int) = (planZ c).drives.length:=by omega
    rw [if_pos (by simpa using hel)] at hSQ
    rw [← hSQ]
    simp [hez,hel,noSt]
  ·rw [if_pos (by simpa using hz)] at hSQ
   rw [← hSQ]
   simp [hz,noSt]
 ·simp only [h0,if_false] at hct
  rw [if_pos (by simpa using h0)] at hSQ
  rw [← hSQ]
  refine callFz_of Tryz.func11 rfl Tryz.ntmps11 (rs:=[.cell 6 31,.tmp 7]) rfl (by kernel_rfl) (by simp) (by kernel_rfl) ?_
  simp
  intro b6
  refine hct.s ?_
  simp [h0,noSt,noCtl]
end Go.Proofs.YtpadinblmjlggaaGreatDoor
end

section
namespace Go.Proofs.YtpadinblmjlggaaGreatDoor
set_option maxHeartbeats 4000000
set_option maxRecDepth 10000
def sameSt (a b : State) : Bool:=decide (a.ends = b.ends) && decide (a.valves = b.valves) && decide (a.inputs = b.inputs) && decide (a.values = b.values) && decide (a.timers = b.timers)
def fewS (s : State) : Bool:=decide ((s.ends.length : Int) ≤ 40) && decide ((s.valves.length : Int) ≤ 40) && decide ((s.inputs.length : Int) ≤ 200) && decide ((s.values.length : Int) ≤ 200) && decide ((s.timers.length : Int) ≤ 200)
theorem FewStates_fn (s : State) (hs : OkSt s) : CallFn Tryz.prog 14 [aSt s] (aB (fewS s)):=by
 have h1:=hs.ends
 have h2:=hs.valves
 have h3:=hs.inputs
 have h4:=hs.values
 have h5:=hs.timers
 refine callFz_of Tryz.func14 rfl Tryz.ntmps14 (rs:=[.tmp 2]) rfl (by kernel_rfl) (by simp) (by kernel_rfl) ?_
 simp [fewS]
theorem few_sm {s : State} (h : fewS s = true) : SmS s:=by
 simp only [fewS,Bool.and_eq_true,decide_eq_true_eq] at h
 exact ⟨by omega,by omega,by omega,by omega,by omega⟩
end Go.Proofs.YtpadinblmjlggaaGreatDoor
end

section
namespace Go.Proofs.YtpadinblmjlggaaGreatDoor
set_option maxHeartbeats 1000000
end Go.Proofs.YtpadinblmjlggaaGreatDoor
end

section
namespace Go.Proofs.YtpadinblmjlggaaGreatDoor
set_option maxHeartbeats 1000000
theorem evalE_congr {vs ws : List Bool} : ∀ (N : Nat) (x : Expr),SizeOf.sizeOf x < N → (∀ k ∈ varsE x,vs[k.toNat]? = ws[k.toNat]?) → evalE x vs = evalE x ws
 | 0,_,h,_=>absurd h (Nat.not_lt_zero _)
 | N + 1,x,hN,h=>by
  have hL : ∀ l : List Expr,(∀ y ∈ l,y ∈ x.args) → (∀ k ∈ varsL l,vs[k.toNat]? = ws[k.toNat]?) → evalL l vs = evalL l ws:=by
   intro l
   induction l with
   | nil=>intro _ _; rfl
   | cons y l ih=>
    intro hl hk
    have hm:=hl y (by simp)
    simp only [evalL]
    rw [ih (fun z hz=>hl z (by simp [hz])) (fun k hkk=>hk k (by simp [varsL,hkk])),evalE_congr N y (by have:=Expr.lt_of_mem hm; omega) (fun k hkk=>hk k (by simp [varsL,hkk]))]
  rw [evalE_eq,evalE_eq,hL x.args (fun _ h=>h) (fun k hk=>h k (by rw [varsE_eq]; simp [hk]))]
  by_cases hop : x.op = 1
  ·have:=h x.index (by rw [varsE_eq]; simp [hop])
   simp [hop,List.getD_eq_getElem?_getD,this]
  ·simp [hop]
theorem gvals_keep {c : Control} {s : State} {k : Nat} : ∀ j : Nat,(kindAt c k ≠ 0 ∨ j ≤ k ∨ c.signals.length ≤ k) → (gvals c s j)[k]? = s.values[k]?
 | 0,_=>rfl
 | j + 1,h=>by
  simp only [gvals]
  split
  ·rename_i x hx
   split
   ·rename_i hk0
    have hne : j ≠ k:=by
     rintro rfl
     obtain ⟨hlt,_⟩:=List.getElem?_eq_some_iff.1 hx
     rcases h with h | h | h
     ·apply h; simp [kindAt,hx,hk0]
     ·omega
     ·omega
    rw [List.getElem?_set_ne hne]
    exact gvals_keep j (by rcases h with h | h | h; exact .inl h; exact .inr (.inl (by omega)); exact .inr (.inr h))
   ·exact gvals_keep j (by rcases h with h | h | h; exact .inl h; exact .inr (.inl (by omega)); exact .inr (.inr h))
  ·exact gvals_keep j (by rcases h with h | h | h; exact .inl h; exact .inr (.inl (by omega)); exact .inr (.inr h))
theorem late_not {c : Control} (hf : Fine c) {i : Nat} {x : Signal} (hx : c.signals[i]? = some x) (hk : x.kind = 0) : ∀ n ∈ varsE x.on,n - firstC c < i ∨ kindAt c (n - firstC c) ≠ 0:=by
 have h:=hf.sigs i x hx
 unfold signalE at h
 split at h
 ·rename_i h1; exact absurd h h1
 ·split at h
  ·cases h
  ·split at h
   ·rename_i h1; exact absurd h h1
   ·have hl : lateC c i x.on = false:=by
     cases hl : lateC c i x.on
     ·rfl
     ·simp [gateE,hl,hk] at h
    intro n hn
    rw [lateC_any,List.any_eq_false] at hl
    have:=hl n hn
    simp only [Bool.and_eq_true,decide_eq_true_eq,beq_iff_eq,not_and] at this
    rcases Classical.em (n - firstC c < i) with h | h
    ·exact .inl h
    ·exact .inr (this (by omega))
theorem gates_keep {c : Control} {s : State} {i : Nat} (h : kindAt c i ≠ 0) : (gatesP c s).values[i]? = s.values[i]?:=gvals_keep _ (.inl h)
theorem gates_shape {c : Control} {s : State} (hsh : shapeS c s) : shapeS c (gatesP c s):=by
 obtain ⟨h1,h2,h3,h4,h5⟩:=hsh
 exact ⟨h1,h2,h3,by simp only [gatesP,gvals_length]; exact h4,h5⟩
theorem gates_right {c : Control} {s : State} (h : rightC c s = 0) : rightC c (gatesP c s) = 0:=by
 obtain ⟨z1,z2,z3⟩:=right_zero h
 have hsh:=gates_shape z2
 unfold fitsSt at z3
 rw [if_neg (by simpa using z2)] at z3
 split at z3
 ·cases z3
 ·rename_i hout
  have hz:=firstErr_zero z3
  have e : fitsSt c (gatesP c s) = firstErr (tsE c (gatesP c s)) (List.range s.timers.length):=by
   unfold fitsSt
   rw [if_neg (by simpa using hsh)]
   exact if_neg hout
  have hn : NoE (tsE c (gatesP c s)) s.timers.length:=by
   intro i hi
   have h0:=hz i hi
   unfold tsE at h0 ⊢
   obtain ⟨hlv,hlt⟩ : s.values.length = c.signals.length ∧ s.timers.length = c.signals.length:=⟨z2.2.2.2.1,z2.2.2.2.2⟩
   have hx : c.signals[i]? = some c.signals[i]:=List.getElem?_eq_getElem (by omega)
   have hv : s.values[i]? = some s.values[i]:=List.getElem?_eq_getElem (by omega)
   have ht : s.timers[i]? = some s.timers[i]:=List.getElem?_eq_getElem (by omega)
   rw [hx,hv,ht] at h0
   have ht' : (gatesP c s).timers[i]? = some s.timers[i]:=ht
   have hlg : (gatesP c s).values.length = c.signals.length:=hsh.2.2.2.1
   have hv' : (gatesP c s).values[i]? = some (gatesP c s).values[i]:=List.getElem?_eq_getElem (by omega)
   rw [hx,hv',ht']
   simp only at h0 ⊢
   unfold tstE at h0 ⊢
   by_cases hk : c.signals[i].kind = 2
   ·have hka : kindAt c i ≠ 0:=by simp [kindAt,hx,hk]
    have hg:=gates_keep (s:=s) hka
    rw [hv',hv] at hg
    rw [Option.some.inj hg]
    exact h0
   ·simp only [hk,ne_eq,not_false_eq_true,true_and,false_and,or_false] at h0 ⊢
    exact h0
  rw [rightC,if_neg (by simpa using z1),e]
  exact firstErr_all hn
end Go.Proofs.YtpadinblmjlggaaGreatDoor
end

section
namespace Go.Proofs.YtpadinblmjlggaaGreatDoor
set_option maxHeartbeats 4000000
structure TmOK (ct : Control) (s : State) : Prop where
 vals : ∀ (i : Nat) (x : Signal) (v : Bool) (t : Int),ct.signals[i]? = some x → s.values[i]? = some v → s.timers[i]? = some t → (x.kind ≠ 2 → t = 0) ∧ (x.kind = 2 → v = (t == 2))
 rng : ∀ t ∈ s.timers,t = 0 ∨ t = 2
theorem fits_tm {ct : Control} {s : State} (hs : shapeS ct s) (he : s.ends.any (outR 4) = false) (h : TmOK ct s) : fitsSt ct s = 0:=by
 unfold fitsSt
 rw [if_neg (by simpa using hs),if_neg]
 ·refine firstErr_all fun i hi=>?_
  unfold tsE
  split
  ·rename_i x v t hx hv ht
   obtain ⟨h1,h2⟩:=h.vals i x v t hx hv ht
   unfold tstE
   rw [if_neg]
   rintro (⟨a,b⟩ | ⟨a,b⟩)
   ·exact b (h1 a)
   ·exact b (h2 a)
  ·rfl
 ·rw [he,Bool.false_or]
  intro hany
  rw [List.any_eq_true] at hany
  obtain ⟨t,ht,ho⟩:=hany
  unfold outR at ho
  rcases h.rng t ht with rfl | rfl <;> simp at ho
theorem idx_inj {l : List Nat} {i j : Nat} (hi : i ∈ l) (hj : j ∈ l) (h : l.idxOf i = l.idxOf j) : i = j:=by
 have a:=List.getElem_idxOf (List.idxOf_lt_length_of_mem hi)
 have b:=List.getElem_idxOf (List.idxOf_lt_length_of_mem hj)
 rw [← a,← b]
 congr 1
structure TmJ (p : Pln) (ct : Control) (s : State) (i : Nat) : Prop where
 ok : TmOK ct s
 tch : ∀ m,s.timers[m]? = some 2 → ∃ j,j < i ∧ j ∈ p.valv ∧ p.line j = some (p.first + m)
theorem TmJ.le {p : Pln} {ct : Control} {s : State} {i k : Nat} (h : TmJ p ct s i) (hk : i ≤ k) : TmJ p ct s k:=
 ⟨h.ok,fun m hm=>by
  obtain ⟨j,h1,h2⟩:=h.tch m hm
  exact ⟨j,by omega,h2⟩⟩
theorem TmJ.step {p : Pln} {ct : Control} {pos ends : List Int} (hlim : ∀ x ∈ p.ps,x.kind = 6 → (∃ q b,x.name = q ++ [b] ∧ (b = 48 ∨ b = 49) ∧ ∃ k,p.drives.findIdx? (fun d=>(p.ps.getD d.1 x).name == q) = some k)) {s t : State} {i : Nat} (h : TmJ p ct s i) (ht : p.stStep ct pos ends s i = .ok t) : TmJ p ct t (i + 1):=by
 unfold Pln.stStep at ht
 cases hz : drivenZ p.drives i with
 | some k=>
  rw [hz] at ht
  cases ht
  exact ⟨⟨h.ok.vals,h.ok.rng⟩,(h.le (by omega)).tch⟩
 | none=>
  rw [hz] at ht
  simp only at ht
  cases hn : p.line i with
  | none=>
   rw [hn] at ht
   cases ht
   exact h.le (by omega)
  | some n=>
   rw [hn] at ht
   simp only at ht
   rcases line_cases hlim hn with ⟨hk,hm,hne⟩ | ⟨hk,hne⟩ | ⟨hk7,hk6,hm,hne⟩
   ·rw [if_pos hk] at ht
    cases ht
    exact ⟨⟨h.ok.vals,h.ok.rng⟩,(h.le (by omega)).tch⟩
   ·rw [if_neg (by omega),if_pos hk] at ht
    have hcase : ∀ (b : Prop) [Decidable b],(if b then (.ok s : Except Int State) else .error 16) = .ok t → s = t:=by
     intro b _ h
     split at h <;> cases h
     rfl
    have:=hcase _ ht
    subst this
    exact h.le (by omega)
   ·rw [if_neg hk7,if_neg hk6] at ht
    obtain ⟨m,hnm⟩ : ∃ m,n = p.first + m:=⟨p.order.length + p.valv.idxOf i,by omega⟩
    rw [hnm,show p.first + m - p.first = m by omega] at ht
    have hno : s.timers[m]? ≠ some 2:=fun h2=>by
     obtain ⟨j,hj,hjv,hjl⟩:=h.tch m h2
     rcases line_cases hlim hjl with ⟨e,_⟩ | ⟨e,_⟩ | ⟨_,_,_,hje⟩
     ·have:=(mem_valvN.1 hjv).2.1
      rw [e] at this
      exact this rfl
     ·have:=(mem_valvN.1 hjv).2.1
      rw [e] at this
      exact this rfl
     ·have:=idx_inj hjv hm (by omega)
      omega
    cases ht
    refine ⟨⟨fun k x v u hx hv hu=>?_,fun u hu=>?_⟩,fun k hk=>?_⟩
    ·simp only at hv hu
     by_cases e : m = k
     ·subst e
      rw [hx] at hu
      simp only [Option.map_some,Option.some.injEq] at hu
      rw [List.getElem?_set] at hv
      rw [if_pos rfl] at hv
      split at hv
      ·simp only [Option.some.injEq] at hv
       subst hv
       by_cases hc : onP pos i = true ∧ x.kind = 2
       ·rw [if_pos hc,List.getElem?_set,if_pos rfl] at hu
        split at hu
        ·simp only [Option.some.injEq] at hu
         subst hu
         exact ⟨fun h=>absurd hc.2 h,fun _=>by rw [hc.1]; rfl⟩
        ·cases hu
       ·rw [if_neg hc] at hu
        have hu0 : u = 0:=by
         rcases h.ok.rng u (List.mem_of_getElem? hu) with e | e
         ·exact e
         ·rw [e] at hu
          exact absurd hu hno
        subst hu0
        refine ⟨fun _=>rfl,fun hk2=>?_⟩
        cases ho : onP pos i with
        | false=>rfl
        | true=>exact absurd ⟨ho,hk2⟩ hc
      ·cases hv
     ·rw [List.getElem?_set,if_neg e] at hv
      refine h.ok.vals k x v u hx hv ?_
      split at hu
      ·rwa [List.getElem?_set,if_neg e] at hu
      ·exact hu
    ·simp only at hu
     split at hu
     ·rcases List.mem_or_eq_of_mem_set hu with h1 | h1
      ·exact h.ok.rng u h1
      ·exact .inr h1
     ·exact h.ok.rng u hu
    ·simp only at hk
     by_cases e : m = k
     ·subst e
      exact ⟨i,by omega,hm,by rw [hn,hnm]⟩
     ·have hk2 : s.timers[k]? = some 2:=by
       split at hk
       ·rwa [List.getElem?_set,if_neg e] at hk
       ·exact hk
      obtain ⟨j,h1,h2⟩:=h.tch k hk2
      exact ⟨j,by omega,h2⟩
theorem stFold_tm {p : Pln} {ct : Control} {pos ends : List Int} (hlim : ∀ x ∈ p.ps,x.kind = 6 → (∃ q b,x.name = q ++ [b] ∧ (b = 48 ∨ b = 49) ∧ ∃ k,p.drives.findIdx? (fun d=>(p.ps.getD d.1 x).name == q) = some k)) {s0 : State} (h0 : TmJ p ct s0 0) (hs0 : StS p ct ends s0) : ∀ i s,p.stFold ct pos ends s0 i = .ok s → TmJ p ct s i ∧ StS p ct ends s
 | 0,s,h=>by
  cases h
  exact ⟨h0,hs0⟩
 | i + 1,s,h=>by
  simp only [Pln.stFold] at h
  cases hi : p.stFold ct pos ends s0 i with
  | error e=>rw [hi] at h; cases h
  | ok t=>
   rw [hi] at h
   obtain ⟨h1,h2⟩:=stFold_tm hlim h0 hs0 i t hi
   exact ⟨h1.step hlim h,h2.step h⟩
theorem ctl_init {p : Pln} : ∀ x ∈ p.ctl.signals,x.init = false:=by
 have hp : ∀ n,∀ x ∈ (p.pil n).2.2,x.init = false:=by
  intro n
  induction n with
  | zero=>
   intro x hx
   have hx2 : x ∈ p.order.map p.netS ++ p.valv.map p.movS:=hx
   rcases List.mem_append.1 hx2 with h | h
   ·obtain ⟨_,_,rfl⟩:=List.mem_map.1 h; rfl
   ·obtain ⟨_,_,rfl⟩:=List.mem_map.1 h; rfl
  | succ n ih=>
   intro x hx
   cases hd : p.drives[n]? with
   | none=>
    have : p.pil (n + 1) = p.pil n:=by
     unfold Pln.pil
     rw [List.take_add_one,hd]
     simp
    rw [this] at hx
    exact ih x hx
   | some d=>
    rw [pil_sp hd] at hx
    split at hx
    ·exact ih x hx
    ·rcases List.mem_append.1 hx with h | h
     ·exact ih x h
     ·simp only [List.mem_singleton] at h
      subst h
      rfl
 exact hp _
theorem first_tm {p : Pln} (ends : List Int) : TmJ p p.ctl { firstSt p.ctl with ends:=ends } 0:=by
 have hin:=ctl_init (p:=p)
 generalize p.ctl = ct at *
 have htm : ({ firstSt ct with ends:=ends } : State).timers = List.replicate ct.signals.length 0:=rfl
 refine ⟨⟨fun i x v t hx hv ht=>?_,fun t ht=>?_⟩,fun m hm=>?_⟩
 ·rw [htm] at ht
  have ht0 : t = 0:=List.eq_of_mem_replicate (List.mem_of_getElem? ht)
  subst ht0
  refine ⟨fun _=>rfl,fun hk2=>?_⟩
  have hvv : ({ firstSt ct with ends:=ends } : State).values = gvals ct (newSt ct ct.signals.length) ct.signals.length:=rfl
  rw [hvv,gvals_keep _ (.inl (by unfold kindAt; rw [Int.toNat_natCast,hx]; simp [hk2]))] at hv
  have hil:=(List.getElem?_eq_some_iff.1 hx).1
  have hvi : (newSt ct ct.signals.length).values[i]? = some x.init:=by
   show (initV ct ct.signals.length)[i]? = _
   unfold initV
   rw [List.take_length,List.getElem?_append_left (by simpa using hil),List.getElem?_map,hx]
   rfl
  rw [hvi] at hv
  simp only [Option.some.injEq] at hv
  rw [← hv,hin x (List.mem_of_getElem? hx)]
  rfl
 ·rw [htm] at ht
  exact .inl (List.eq_of_mem_replicate ht)
 ·rw [htm] at hm
  have:=List.eq_of_mem_replicate (List.mem_of_getElem? hm)
  omega
theorem state_same (c : Cir) (pos ends : List Int) : stateQ c pos ends = stateR c pos ends:=by
 unfold stateQ stateR
 by_cases h0 : buildE c = 0
 ·obtain ⟨hr,hd,hch,_,_⟩:=build_zero h0
  simp only [h0,ne_eq,not_true_eq_false,if_false]
  by_cases h1 : presE c pos = 0
  ·simp only [h1,not_true_eq_false,if_false]
   by_cases h2 : ends.length = (planZ c).drives.length
   ·simp only [h2,not_true_eq_false,if_false]
    cases h3 : ends.any (outR 4) with
    | true=>simp
    | false=>
     simp only [Bool.false_eq_true,if_false]
     have hact : (planZ c).ctl.actuators = (planZ c).drives.length:=rfl
     have hinp : (planZ c).ctl.inputs.length = (planZ c).butt.length:=by
      show ((planZ c).butt.map _).length = _
      rw [List.length_map]
     have hsh:=gatesP_shape (newSt_shape (fine_of hch))
     have hst : StS (planZ c) (planZ c).ctl ends { firstSt (planZ c).ctl with ends:=ends }:=by
      obtain ⟨q1,q2,q3,q4,q5⟩:=hsh
      exact ⟨by simp only [firstSt]; omega,by simp only [firstSt]; omega,by simp only [firstSt]; omega,by simp only [firstSt]; omega,rfl⟩
     unfold stEnd rsEnd
     cases hf : (planZ c).stFold (planZ c).ctl pos ends { firstSt (planZ c).ctl with ends:=ends } c.parts.length with
     | error e=>rfl
     | ok s=>
      simp only
      obtain ⟨hj,hs⟩:=stFold_tm (planZ_lim hr) (first_tm ends) hst c.parts.length s hf
      have hfit : rightC (planZ c).ctl s = 0:=by
       unfold rightC
       rw [if_neg (by simp [hch])]
       obtain ⟨z1,z2,z3,z4,z5⟩:=hs
       refine fits_tm ⟨by rw [z5]; omega,by omega,by omega,z3,z4⟩ (by rw [z5]; exact h3) hj.ok
      unfold gatesR
      rw [if_neg (by simp [hfit])]
   ·simp only [h2,not_false_iff,if_true]
  ·simp only [h1,not_false_iff,if_true]
 ·simp only [h0,ne_eq,not_false_iff,if_true]
end Go.Proofs.YtpadinblmjlggaaGreatDoor
end

section
namespace Go.Proofs.YtpadinblmjlggaaGreatDoor
set_option maxHeartbeats 8000000
set_option maxRecDepth 100000
def pressP : List Prt:=[⟨1,[65],0⟩,⟨0,[83],0⟩,⟨3,[86],0⟩,⟨7,[115,116,97,114,116],0⟩]
def pressL : List PipeZ:=[((0,[50]),(2,[50])),((0,[52]),(2,[52])),((1,[49]),(2,[49])),((1,[49]),(3,[49])),((2,[49,52]),(3,[50]))]
def pressM : List PipeZ:=[((0,[50]),(2,[50])),((1,[49]),(2,[49])),((1,[49]),(3,[49])),((2,[49,52]),(3,[50]))]
def pressZ : Cir:=⟨pressP,pressL⟩
def pressB : Cir:=⟨pressP,pressM⟩
def pressS : State:=⟨[1],[true],[true],[false,false,true,true,false],[0,0,0,0,0]⟩
theorem press_drives : drivesQ pressZ = ([(0,2)],0):=by decide +kernel
theorem press_bad : drivesQ pressB = ([],14):=by decide +kernel
theorem press_err : buildE pressZ = 0:=by decide +kernel
theorem press_order : (orderQ pressZ).2 = 0 ∧ (orderQ pressZ).1.length = 4:=by decide +kernel
theorem press_inputs : (planZ pressZ).ctl.inputs = [[115,116,97,114,116]]:=by decide +kernel
theorem press_pm : (planZ pressZ).ctl.plus = [6] ∧ (planZ pressZ).ctl.minus = [7]:=by decide +kernel
theorem press_sigs : (planZ pressZ).ctl.signals.map (·.name) = [[110,48],[110,49],[110,50],[110,51],[119,50]]:=by decide +kernel
theorem press_state : stateQ pressZ [0,0,1,1] [1] = (pressS,0):=by decide +kernel
theorem press_pos : positionsQ pressZ pressS = ([0,0,1,1],0):=by decide +kernel
end Go.Proofs.YtpadinblmjlggaaGreatDoor
end

section
namespace Go.Proofs.YtpadinblmjlggaaGreatDoor
open Go.Shelf Go.RowKit Go.Lib Go.Sort
set_option maxHeartbeats 1000000
set_option maxRecDepth 1000000
abbrev rPi (p : PipeZ) : List A:=(encPi p).map A.dat
abbrev pzero : List Value:=[.int .i64 0,.string { data:=#[] },.int .i64 0,.string { data:=#[] }]
theorem pi_und : (Tryz.prog).underlying 23 = some (.slice 93):=by kernel_rfl
theorem pi_info : ((Tryz.prog).info? 93).map (fun i=>i.size) = some 4:=by kernel_rfl
theorem clearP_run (w : World) (ty : TypeId) (b o c : Nat) (hc : ∀ j,j < 4 → (w.cell? ⟨b,o + j,none⟩).isSome = true) (hf : ∀ j,j < 4 → w.frozen? ⟨b,o + j,none⟩ = false) :
  (Builtin.clear_ #[23] ty #[.slice (some ⟨b,o,none⟩) 1 c]).run Tryz.prog w = .ok (.tuple #[]) (w.setCells b o pzero):=by
 have hst:=run_storeCells_cells (P:=Tryz.prog) b o pzero 0 w (by simpa using hc) (by simpa using hf) (by intro v hv; simp at hv; rcases hv with rfl | rfl | rfl | rfl <;> rfl)
 simp only [Nat.add_zero] at hst
 have hv:=Tryz.zeroValue93 w
 have hz : (Builtin.zeroCells (Value.agg #[.int .i64 0,.string { data:=#[] },.int .i64 0,.string { data:=#[] }]).cells 1).toList = pzero:=by kernel_rfl
 simp [Builtin.clear_,run_underlying pi_und,hv,hz,hst]
theorem deleteP_arr (blk cap : Nat) (d : Array Value) (hd : d.size = 20) (h1c : ∀ u ∈ d,u.oneCell' = true) (w : World) (hH : Holds id w blk 0 d) (hcap : 5 ≤ cap) (hm : cap ≤ 9223372036854775807) :
  Calls Tryz.prog 42 #[.slice (some ⟨blk,0,none⟩) 5 cap,.int .i64 1,.int .i64 2] w fun e w'=>e = .returned (.slice (some ⟨blk,0,none⟩) 4 cap) ∧ ∃ q,w' = putRow id (Sort.ahead w q) blk 0 (lay (lay d 4 (d.toList.drop 8)) 16 pzero):=by
 obtain ⟨i0,hi0,hz1⟩:=Option.map_eq_some_iff.1 pi_info
 obtain ⟨news,hnews⟩ : ∃ news,news = d.toList.drop 8:=⟨_,rfl⟩
 have hlen : news.length = 12:=by rw [hnews]; simp; omega
 have hget : ∀ t,t < 12 → news[t]? = some d[8 + t]!:=by
  intro t ht
  rw [hnews,List.getElem?_drop,Array.getElem?_toList,getElem!_pos d (8 + t) (by omega),Array.getElem?_eq_getElem (by omega)]
 have hsrc : Hid (∀ t u,news[t]? = some u → w.drew.cell? ((⟨blk,8,none⟩ : Addr).add t) = some u):=by
  intro t u hu
  have ht : t < 12:=by
   have:=(List.getElem?_eq_some_iff.1 hu).1
   rwa [hlen] at this
  rw [hget t ht] at hu
  rw [Addr.add_lit]
  have:=(hH (8 + t) (by omega)).1
  rw [Nat.zero_add] at this
  exact this.trans hu
 have s1 : Hid (news.length = 3 * 4):=hlen
 have s2 : Hid (∀ u ∈ news,u.oneCell' = true):=by
  intro u hu
  rw [hnews] at hu
  exact h1c u (by simpa using List.mem_of_mem_drop hu)
 have s3 : Hid (∀ t,t < news.length → (w.drew.cell? ⟨blk,0 + 1 * 4 + t,none⟩).isSome = true ∧ w.drew.frozen? ⟨blk,0 + 1 * 4 + t,none⟩ = false):=by
  intro t ht
  rw [hlen] at ht
  have:=hH (4 + t) (by omega)
  rw [show 0 + (4 + t) = 0 + 1 * 4 + t by omega] at this
  exact ⟨by show (w.cell? _).isSome = true; rw [this.1]; rfl,this.2⟩
 obtain ⟨W1,hW1⟩ : ∃ W1,W1 = w.drew.setCells blk (0 + 1 * 4) news:=⟨_,rfl⟩
 have hW1' : W1 = putRow id (Sort.ahead w 1) blk 0 (lay d 4 (d.toList.drop 8)):=by
  rw [hW1,hnews]
  have h:=putRow_setCells id (Sort.ahead w 1) blk 0 (d.toList.drop 8) d 4 (by simp; omega)
  rw [putRow_self id (Sort.ahead w 1) blk 0 d (holds_ahead id w 1 blk 0 d hH),List.map_id] at h
  exact h
 have hH1 : Holds id W1 blk 0 (lay d 4 (d.toList.drop 8)):=by rw [hW1']; exact holds_putRow id _ blk 0 d _ (holds_ahead id w 1 blk 0 d hH) (lay_size _ _ _)
 have hcl : ∀ ty,(Builtin.clear_ #[23] ty #[.slice (some ⟨blk,16,none⟩) 1 (cap - 4)]).run Tryz.prog W1 = .ok (.tuple #[]) (W1.setCells blk 16 pzero):=fun ty=>
  clearP_run W1 ty blk 16 _ (fun j hj=>by
   have:=hH1 (16 + j) (by rw [lay_size]; omega)
   rw [Nat.zero_add] at this
   rw [this.1]; rfl) (fun j hj=>by
   have:=hH1 (16 + j) (by rw [lay_size]; omega)
   rw [Nat.zero_add] at this
   exact this.2)
 have X : Aside (W1 = putRow id (Sort.ahead w 1) blk 0 (lay d 4 (d.toList.drop 8))):=hW1'
 have hW : Hid (W1 = w.drew.setCells blk (0 + 1 * 4) news):=hW1
 clear hW1 hW1' hH1 hH hget hnews hlen
 go_enter Tryz.func42,Tryz.ntmps42
 have mixed : (Tryz.prog).follows .mixedOrders = true:=by kernel_rfl
 have t0:=Tryz.underlying0; have a0:=Tryz.isAgg0; have z0:=Tryz.sizeOf0; have v0:=Tryz.zeroValue0
 have t3:=Tryz.underlying3; have a3:=Tryz.isAgg3; have z3:=Tryz.sizeOf3; have v3:=Tryz.zeroValue3
 have t4:=Tryz.underlying4; have a4:=Tryz.isAgg4; have z4:=Tryz.sizeOf4; have v4:=Tryz.zeroValue4
 have t23:=Tryz.underlying23; have a23:=Tryz.isAgg23; have z23:=Tryz.sizeOf23; have v23:=Tryz.zeroValue23
 have z93:=Tryz.sizeOf93
 have hic : 1 ≤ cap:=by omega
 have hic2 : (1 : Int) ≤ (cap : Int):=by omega
 have hjc2 : (2 : Int) ≤ (cap : Int):=by omega
 have hjc : 2 ≤ cap:=by omega
 have hc2 : ¬ cap = 2:=by omega
 have hc2' : ¬ cap - 2 = 0:=by omega
 go_wp2_with fail
 go_region_law_o (refine step_append_room rfl (.tmp 22) (.tmp 25) 23 rfl 93 i0 4 pi_und hi0 hz1 blk 0 1 cap (by simp [Act.eval,Act.put]) ⟨blk,8,none⟩ 3 (cap - 2) news (by simp [Act.eval,Act.put]) s1.out hsrc.out s2.out (by omega) s3.out ?_; rw [← hW.out])
 go_wp2
 go_ret
 refine ⟨rfl,1,?_⟩
 have h:=putRow_setCells id (Sort.ahead w 1) blk 0 pzero (lay d 4 (d.toList.drop 8)) 16 (by rw [lay_size]; simp; omega)
 rw [List.map_id,← X.out,Nat.zero_add] at h
 exact h
abbrev pvP (p : PipeZ) : List Value:=[.int .i64 p.1.1,.string ⟨p.1.2.toArray⟩,.int .i64 p.2.1,.string ⟨p.2.2.toArray⟩]
theorem Ds_two {x : X} : ∀ (l : List PipeZ) (xs : List Value),Ds x (l.map rPi).flatten xs → xs = (l.map pvP).flatten
 | [],xs,h=>by
  cases xs with
  | nil=>rfl
  | cons v xs=>simp [Ds] at h
 | p :: l,xs,h=>by
  rcases xs with _ | ⟨a,_ | ⟨b,_ | ⟨c,_ | ⟨d,xs⟩⟩⟩⟩ <;> simp [Ds,D,RdL] at h
  obtain ⟨rfl,rfl,rfl,rfl,h⟩:=h
  have:=Ds_two l xs h
  subst this
  simp
theorem blockV {w : World} {g n : Nat} {cur : Array Value} {e : TypeId} (h5 : w.heap[g]? = some (.cells cur e (0,0))) (d : Array Value) :
  (putRow id (Sort.ahead w n) g 0 d).heap[g]? = some (.cells (putCells id 0 d cur) e (0,0)) ∧ (putRow id (Sort.ahead w n) g 0 d).heap.size = w.heap.size ∧ ∀ k,k < w.heap.size → k ≠ g → (putRow id (Sort.ahead w n) g 0 d).heap[k]? = w.heap[k]?:=by
 refine ⟨?_,?_,?_⟩
 ·simp [putRow,mapBlock,Sort.ahead,Array.getElem?_modify,h5,onCells]
 ·simp [putRow,mapBlock,Sort.ahead]
 ·intro k hk hne
  simp [putRow,mapBlock,Sort.ahead,Array.getElem?_modify,Ne.symm hne]
theorem takeV (d : Array Value) (cur : Array Value) (m : Nat) (hm : m ≤ d.size) (hd : d.size ≤ cur.size) : (putCells id 0 d cur).toList.take m = d.toList.take m:=by
 apply List.ext_getElem?
 intro k
 rw [List.getElem?_take,List.getElem?_take]
 split
 ·rename_i hk
  have h1 : k < cur.size:=by omega
  have h2 : k < d.size:=by omega
  simp [putCells,h1,h2]
 ·rfl
theorem holdsV {w : World} {g : Nat} {cur : Array Value} {e : TypeId} {xs : List Value} (h5 : w.heap[g]? = some (.cells cur e (0,0))) (h9 : cur.toList.take xs.length = xs) : Holds id w g 0 xs.toArray:=by
 intro j hj
 have hj' : j < xs.length:=by simpa using hj
 have hc : cur[j]? = some xs[j]:=by
  have : (cur.toList.take xs.length)[j]? = some xs[j]:=by rw [h9]; simp [hj']
  rw [List.getElem?_take] at this
  simpa [hj'] using this
 constructor
 ·have hz : xs.toArray[j]! = xs[j]:=by simp [hj']
  rw [hz]
  simp [World.cell?,h5,hc]
 ·simp [World.frozen?,h5]
theorem deleteP_s {e t : Nat} {h : Value} {p0 p1 p2 p3 p4 : PipeZ} :
  CallS Tryz.prog 42 [.own t h,aI 1,aI 2] [(t,.seq h e 4 ([p0,p1,p2,p3,p4].map rPi))] fun r H'=>∃ h2,r = .own t h2 ∧ H' = [(t,.seq h2 e 4 ([p0,p2,p3,p4].map rPi))]:=by
 refine ⟨⟨_,Tryz.func42,by kernel_rfl,by kernel_rfl⟩,fun x args H0 hi hd=>?_⟩
 obtain rfl:=Ds_three hd
 obtain ⟨xs,⟨h1,h2⟩,h3,h4⟩:=hi.sat _ (List.mem_cons_self)
 obtain rfl:=Ds_two _ _ h4
 rcases h2 with ⟨rfl,h0⟩ | ⟨g,cap,cur,rfl,_,h5,h6,h7,h8,h9⟩
 ·simp at h0
 ·obtain ⟨xs,hxs⟩ : ∃ xs,([p0,p1,p2,p3,p4].map pvP).flatten = xs:=⟨_,rfl⟩
  rw [hxs] at h9
  have hxl : xs.length = 20:=by rw [← hxs]; rfl
  simp only [List.length_map,List.length_cons,List.length_nil,Nat.zero_add,Nat.reduceAdd,Nat.reduceMul] at h6 h8 h9 hi ⊢
  have hHo:=holdsV h5 (by rw [hxl]; exact h9)
  have h1c : ∀ u ∈ xs.toArray,u.oneCell' = true:=by
   intro u hu
   rw [← hxs] at hu
   simp at hu
   rcases hu with rfl | rfl | rfl | rfl | rfl | rfl | rfl | rfl | rfl | rfl | rfl | rfl | rfl | rfl | rfl | rfl | rfl | rfl | rfl | rfl <;> rfl
  refine (deleteP_arr g cap xs.toArray (by simpa using hxl) h1c x.w hHo h6 (Nat.le_trans h7 (by decide))).mono ?_
  rintro _ _ ⟨rfl,q,rfl⟩
  obtain ⟨d,hd⟩ : ∃ d,lay (lay xs.toArray 4 (xs.toArray.toList.drop 8)) 16 pzero = d:=⟨_,rfl⟩
  rw [hd]
  have hds : d.size = 20:=by rw [← hd,lay_size,lay_size]; simpa using hxl
  have hdt0 : d.toList.take 16 = xs.take 4 ++ xs.drop 8:=by
   rw [← hd]
   apply List.ext_getElem?
   intro k
   rw [List.getElem?_take]
   by_cases hk : k < 16
   ·rw [if_pos hk,Array.getElem?_toList,lay_get? _ _ _ _ (by rw [lay_size]; simp; omega),if_neg (by omega),lay_get? _ _ _ _ (by simp; omega)]
    by_cases h4 : 4 ≤ k
    ·rw [if_pos ⟨h4,by simp; omega⟩,List.getElem?_append_right (by simp; omega)]
     simp [hxl]
    ·rw [if_neg (by omega),List.getElem?_append_left (by simp; omega),List.getElem?_take,if_pos (by omega)]
     simp
   ·rw [if_neg hk,List.getElem?_eq_none]
    simp
    omega
  have hdt : d.toList.take 16 = ([p0,p2,p3,p4].map pvP).flatten:=by
   rw [hdt0,← hxs]
   rfl
  clear hdt0 hd
  obtain ⟨b1,b2,b3⟩:=blockV (n:=q) h5 d
  have hlt:=(Array.getElem?_eq_some_iff.1 h5).1
  have htk:=takeV d cur 16 (by omega) (by omega)
  let y : X:=⟨putRow id (Sort.ahead x.w q) g 0 d,x.ok⟩
  have hfin : x.le y ∧ Inv y ((t,.seq (.slice (some ⟨g,0,none⟩) 4 cap) e 4 ([p0,p2,p3,p4].map rPi)) :: H0):=by
   refine hi.ofOwn (y:=y) (g':=t) (h':=.slice (some ⟨g,0,none⟩) 4 cap) (rows':=[p0,p2,p3,p4].map rPi) rfl ?_ ?_ ?_ ?_
   ·refine ⟨([p0,p2,p3,p4].map pvP).flatten,⟨rfl,.inr ⟨g,cap,_,rfl,Nat.zero_le _,b1,by simp; omega,h7,by simp [putCells,h8],?_⟩⟩,?_,?_⟩
    ·rw [← hdt]
     exact htk
    ·intro r hr
     obtain ⟨p,_,rfl⟩:=List.mem_map.1 hr
     rfl
    ·simp [Ds,D,RdL]
   ·refine ⟨rfl,rfl,rfl,by show _ ≤ _; rw [b2]; exact Nat.le_refl _,?_⟩
    intro k hk hne
    exact b3 k hk fun e=>hne (by simp [Value.ownBlock,e])
   ·show x.w.drawn ≤ (putRow id (Sort.ahead x.w q) g 0 d).drawn
    simp [putRow,mapBlock,Sort.ahead]
   ·intro k hk
    simp only [Value.ownBlock,Option.some.injEq] at hk
    subst hk
    exact ⟨.inl rfl,by show g < _; rw [b2]; exact hlt⟩
  exact ⟨y,_,.own t (.slice (some ⟨g,0,none⟩) 4 cap),_,rfl,rfl,hfin.1,hfin.2,by simp [D],_,rfl,rfl⟩
end Go.Proofs.YtpadinblmjlggaaGreatDoor
end
