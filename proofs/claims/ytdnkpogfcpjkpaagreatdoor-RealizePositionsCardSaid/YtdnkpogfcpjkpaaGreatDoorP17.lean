/- Texts joined by a program: Hg, Hm, Hja. -/
import Derived.Test.YtdnkpogfcpjkpaaGreatDoorP14
import Derived.Test.YtdnkpogfcpjkpaaGreatDoorP12
import Derived.Test.YtdnkpogfcpjkpaaGreatDoorP16
set_option linter.unusedSimpArgs false
set_option linter.unusedVariables false

section
namespace Go.Proofs.YtdnkpogfcpjkpaaGreatDoor
set_option maxHeartbeats 4000000
set_option maxRecDepth 10000
abbrev Makes (c : Control) (f : FuncId) (az bz : List A) (b b4 b5 bg : Nat) (x : Expr) : Prop := ∀ (hp hj : Value) (m : Mk), m.parts.length + sizeN x ≤ 500000 → m.joins.length + 3 * sizeN x ≤ 800000 → m.number + sizeN x ≤ 500000 →
  CallS Tryz.prog f (az ++ [aE x] ++ bz) (mkrH c b b4 b5 bg hp hj m) fun r H' => ∃ hp' hj', r = .record (encPin (m.expr c x).pin) ∧ H' = mkrH c b b4 b5 bg hp' hj' (m.app (m.expr c x))
theorem const37_s {c : Control} {b b4 b5 bg : Nat} {x : Expr} (hx : x.op = 0) : Makes c 59 [.ptr 70 b 0] [] b b4 b5 bg x := by
  intro hp hj m h1 h2 h3
  have e : m.expr c x = ⟨[], [], m.number, if x.index = 1 then supPin else noPin⟩ := by
    unfold Mk.expr
    rw [exprD_eq, if_pos hx]
  rw [e]
  refine CallS.dropP (callS_of Tryz.func59 rfl Tryz.ntmps59 (rs := [.cell 4 98]) rfl (by kernel_rfl) (by simp) (by kernel_rfl) (K := fun r H' => r = .record (encPin (if x.index = 1 then supPin else noPin)) ∧ subP (mkrH c b b4 b5 bg hp hj m) H') ?_) (fun r H' ⟨e, h⟩ => ⟨_, h, hp, hj, e, by simp [Mk.app]⟩)
  simp
  intro b4'
  refine ⟨fun h => ?_, fun h => ?_⟩
  · simp [h]
    exact subP.c (subP.refl _) _
  · simp [h]
    exact subP.c (subP.refl _) _
theorem var37_s {c : Control} (hc : Sm c) (h0 : 0 ≤ c.actuators ∧ c.actuators ≤ 12) {b b4 b5 bg : Nat} {x : Expr} (hx : x.op = 1) (hl : 0 ≤ x.index ∧ x.index < countC c) : Makes c 60 [.ptr 70 b 0] [] b b4 b5 bg x := by
  intro hp hj m h1 h2 h3
  have e : m.expr c x = ⟨[], [], m.number, portM c m.gates x.index⟩ := by
    unfold Mk.expr
    rw [exprD_eq, if_neg (by omega), if_pos hx]
  rw [e]
  have hport := port37_s (b := b) (b4 := b4) (b5 := b5) (bg := bg) (hp' := hp) (hj := hj) (m := m) hc h0 hl
  refine CallS.dropP (callS_of Tryz.func60 rfl Tryz.ntmps60 (rs := [.cell 4 98]) rfl (by kernel_rfl) (by simp) (by kernel_rfl) (K := fun r H' => r = .record (encPin (portM c m.gates x.index)) ∧ subP (mkrH c b b4 b5 bg hp hj m) H') ?_) (fun r H' ⟨e, h⟩ => ⟨_, h, hp, hj, e, by simp [Mk.app]⟩)
  simp
  intro b4'
  refine hport.c1.mono ?_
  rintro _ _ ⟨_, ⟨rfl, rfl⟩, rfl⟩
  simp
  exact subP.c (subP.refl _) _
theorem not37_s {c : Control} {b b4 b5 bg : Nat} {x y : Expr} (hx : x.op = 2) (hy : x.args = [y]) (ih : Makes c 105 [.ptr 70 b 0] [] b b4 b5 bg y) : Makes c 61 [.ptr 70 b 0] [] b b4 b5 bg x := by
  intro hp hj m h1 h2 h3
  have hsz : sizeN x = 1 + sizeN y := by
    rw [sizeN_eq, hy, sizeNL, sizeNL]
    omega
  have e : m.expr c x = notD false m.signal (m.expr c y) y := by
    unfold Mk.expr
    rw [exprD_eq, if_neg (by omega), if_neg (by omega), if_pos hx, hy]
    simp [argsD, notsD]
  rw [e]
  obtain ⟨s1, s2, s3⟩ := expr_small false (portM c m.gates) m.signal y m.number
  have hyp := sizeN_pos y
  have hih := ih hp hj m (by omega) (by omega) (by omega)
  have hexp : m.expr c y = exprD false (portM c m.gates) m.signal y m.number := rfl
  rw [← hexp] at s1 s2 s3
  generalize m.expr c y = d at *
  obtain ⟨dp, dj, dn, dpin⟩ := d
  simp only at s1 s2 s3
  subst s1
  refine CallS.dropP (callS_of Tryz.func61 rfl Tryz.ntmps61 (rs := [.cell 4 98]) rfl (by kernel_rfl) (by simp) (by kernel_rfl) (K := fun r H' => ∃ hp' hj', r = .record (encPin (notD false m.signal ⟨dp, dj, m.number + dp.length, dpin⟩ y).pin) ∧ subP (mkrH c b b4 b5 bg hp' hj' (m.app (notD false m.signal ⟨dp, dj, m.number + dp.length, dpin⟩ y))) H') ?_) (fun r H' ⟨hp', hj', e, h⟩ => ⟨_, h, hp', hj', e, rfl⟩)
  simp [hy, encE_eq y]
  intro b4'
  simp at hih
  refine hih.c1.mono ?_
  rintro _ _ ⟨_, ⟨hp1, hj1, rfl, rfl⟩, rfl⟩
  simp
  intro b5'
  obtain ⟨m1, hm1⟩ : ∃ m1, m.app ⟨dp, dj, m.number + dp.length, dpin⟩ = m1 := ⟨_, rfl⟩
  have k1 : m1.parts = m.parts ++ dp := by rw [← hm1]; rfl
  have k2 : m1.joins = m.joins ++ dj := by rw [← hm1]; rfl
  have k3 : m1.number = m.number + dp.length := by rw [← hm1]; rfl
  have k4 : m1.signal = m.signal := by rw [← hm1]; rfl
  have k5 : m1.gates = m.gates := by rw [← hm1]; rfl
  have hpl : m1.parts.length = m.parts.length + dp.length := by simp [k1]
  have hjl : m1.joins.length = m.joins.length + dj.length := by simp [k2]
  rw [hm1]
  have hnx := next37_s (c := c) (b := b) (b4 := b4) (b5 := b5) (bg := bg) (hp := hp1) (hj := hj1) (m := m1) 5 [78] (by omega) (by omega) (by simp)
  simp at hnx
  refine hnx.c1.c1.mono ?_
  rintro _ _ ⟨_, ⟨_, ⟨rfl, hp2, rfl⟩, rfl⟩, rfl⟩
  have g1 : ((m1.parts.length : Int) + 1).toNat - 1 = m1.parts.length := by omega
  simp [Mk.add]
  refine V.drawX (fun _ => none) (by kernel_rfl) (by kernel_rfl) (by simp) ?_
  simp [argA, g1]
  refine ⟨by omega, by omega, by kernel_rfl, ?_⟩
  obtain ⟨m2, hm2⟩ : ∃ m2 : Mk, m2 = ⟨m1.parts ++ [⟨5, 78 :: numT m1.number, 0, m1.signal, some y, -1, -1⟩], m1.joins, m1.number + 1, m1.signal, m1.gates⟩ := ⟨_, rfl⟩
  have hfd := feed37_s (c := c) (b := b) (b4 := b4) (b5 := b5) (bg := bg) (hp := hp2) (hj := hj1) (m := m2) (78 :: numT m1.number) (by rw [hm2]; simp only; omega)
  have hj2 : (m2.feed (78 :: numT m1.number)).joins.length ≤ 1000000 := by
    have := joinD_len supPin ⟨78 :: numT m1.number, [49]⟩
    rw [hm2]
    simp only [Mk.feed, Mk.join, List.length_append]
    omega
  refine (hfd.on2 (by simp [hm2, argA, encE_eq y])).mono ?_
  rintro _ _ ⟨_, ⟨rfl, hj3, rfl⟩, rfl⟩
  simp
  have hjn := join37_s (c := c) (b := b) (b4 := b4) (b5 := b5) (bg := bg) (hp := hp2) (hj := hj3) (m := m2.feed (78 :: numT m1.number)) dpin ⟨78 :: numT m1.number, [49, 48]⟩ hj2
  refine (hjn.on2 rfl).mono ?_
  rintro _ _ ⟨_, ⟨rfl, hj4, rfl⟩, rfl⟩
  simp
  refine ⟨by simp [notD, k3], hp2, hj4, subP.c (subP.c (subP_of_eq ?_) _) _⟩
  simp [hm2, Mk.feed, Mk.join, Mk.app, notD, airD, k1, k2, k3, k4, k5]
theorem args_take {fl : Bool} {pf : Int → Pin} {sg : Int} {xs : List Expr} {i : Nat} {y : Expr} (h : xs[i]? = some y) (k : Nat) : argsD fl pf sg (xs.take (i + 1)) k =
    ⟨(argsD fl pf sg (xs.take i) k).parts ++ (exprD fl pf sg y (argsD fl pf sg (xs.take i) k).num).parts, (argsD fl pf sg (xs.take i) k).joins ++ (exprD fl pf sg y (argsD fl pf sg (xs.take i) k).num).joins,
      (exprD fl pf sg y (argsD fl pf sg (xs.take i) k).num).num, (argsD fl pf sg (xs.take i) k).pins ++ [(exprD fl pf sg y (argsD fl pf sg (xs.take i) k).num).pin]⟩ := by
  rw [List.take_add_one, h, Option.toList_some, argsD_snoc]
theorem sizeNL_more : ∀ {xs : List Expr} {i : Nat} {y : Expr}, xs[i]? = some y → sizeNL (xs.take i) + sizeN y ≤ sizeNL xs
  | [], i, y, h => by simp at h
  | x :: xs, 0, y, h => by
    simp at h
    subst h
    simp [sizeNL]
  | x :: xs, i + 1, y, h => by
    simp at h
    have := sizeNL_more h
    simp only [List.take_succ_cons, sizeNL]
    omega
abbrev rPin (p : Pin) : List A := [.dat (.str p.part), .dat (.str p.port)]
theorem rowsD_P (xs : List Pin) : rowsD (xs.map rPin) = xs.map encPin := by unfold rowsD; rw [List.map_map]; rfl
theorem allD_P (xs : List Pin) : allD (xs.map rPin) = true := by simp [allD, rPin, isD]
theorem rl_P (xs : List Pin) : rl (xs.map encPin) 2 = True := by simp
def Mk.argsM (c : Control) (m : Mk) (xs : List Expr) : Mk := { m with parts := m.parts ++ (argsD false (portM c m.gates) m.signal xs m.number).parts, joins := m.joins ++ (argsD false (portM c m.gates) m.signal xs m.number).joins, number := (argsD false (portM c m.gates) m.signal xs m.number).num }
def Mk.pinsM (c : Control) (m : Mk) (xs : List Expr) : List Pin := (argsD false (portM c m.gates) m.signal xs m.number).pins
theorem argsM_step {c : Control} {m : Mk} {xs : List Expr} {i : Nat} {y : Expr} (h : xs[i]? = some y) : (m.argsM c (xs.take i)).app ((m.argsM c (xs.take i)).expr c y) = m.argsM c (xs.take (i + 1)) ∧
    m.pinsM c (xs.take (i + 1)) = m.pinsM c (xs.take i) ++ [((m.argsM c (xs.take i)).expr c y).pin] := by
  unfold Mk.argsM Mk.pinsM Mk.app Mk.expr
  rw [args_take h]
  simp
@[simp] theorem argsM_nil (c : Control) (m : Mk) : m.argsM c [] = m := by simp [Mk.argsM, argsD]
@[simp] theorem pinsM_nil (c : Control) (m : Mk) : m.pinsM c [] = [] := rfl
abbrev twinL (sg kind : Int) (letter : UInt8) (r : Ds') (p : Pin) (ps : List Pin) (i : Nat) : Dl := (ps.take i).foldl (twinD sg kind letter) ⟨r.parts, r.joins, r.num, p⟩
theorem twinL_step {sg kind : Int} {letter : UInt8} {r : Ds'} {p q : Pin} {ps : List Pin} {i : Nat} (h : ps[i]? = some q) : twinL sg kind letter r p ps (i + 1) = twinD sg kind letter (twinL sg kind letter r p ps i) q := by
  unfold twinL
  rw [List.take_add_one, h, Option.toList_some, List.foldl_append]
  rfl
abbrev jkv (τ kb bp : Nat) (kind : Int) (letter : UInt8) (bq : Nat) (ps : List Pin) : List (Nat × A) := [(1, .ptr τ kb 0), (2, .rptr [.int .i64 kind]), (3, .rptr [.str [letter]]), (5, .ptr 5 bp 0), (9, .ptr 9 bq 0), (31, .dat (.sl (ps.map encPin))), (32, aI ps.length)]
theorem twin_row {c : Control} {b b4 b5 bg τ kb bp bq : Nat} {hp hj : Value} {kind : Int} {letter : UInt8} {m : Mk} {d : Dl} {ps : List Pin} {q : Pin} {Q : PostQ} {i : Nat} {F : Nat → Mk × Pin} (hk : (τ = 74 ∧ kb = b4) ∨ (τ = 75 ∧ kb = b5))
    (hi : ps[i]? = some q) (hps : ps.length ≤ 1000) (h1 : m.parts.length + d.parts.length ≤ 900000) (h2 : m.joins.length + d.joins.length ≤ 900000) (h3 : d.num ≤ 900000) (e1 : F i = (m.app d, d.pin)) (e2 : F (i + 1) = (m.app (twinD m.signal kind letter d q), (twinD m.signal kind letter d q).pin)) :
    vcC ⟨Tryz.prog, none, 55⟩ (loopC Tryz.f109 1) (hdE (jkv τ kb bp kind letter bq ps) [(33, aI i)]) (hcat ((9, .box bq [.dat (.str (F i).2.part), .dat (.str (F i).2.port)]) :: (5, .box bp [.dat (.str []), .dat (.str [])]) :: mkrH c b b4 b5 bg hp hj (F i).1) [])
      (LoopQ Q fun E' H' => ∃ g : Value × Value, True ∧ (∀ p ∈ [(33, aI (i + 1 : Nat))], wk (E' p.1) p.2) ∧ (∀ p ∈ jkv τ kb bp kind letter bq ps, E' p.1 = p.2) ∧
        subN (hcat ((9, .box bq [.dat (.str (F (i + 1)).2.part), .dat (.str (F (i + 1)).2.port)]) :: (5, .box bp [.dat (.str []), .dat (.str [])]) :: mkrH c b b4 b5 bg g.1 g.2 (F (i + 1)).1) []) H') := by
  obtain ⟨hil, hi1⟩ := List.getElem?_eq_some_iff.1 hi
  rw [e1, e2]
  obtain ⟨m1, hm1⟩ : ∃ m1, m.app d = m1 := ⟨_, rfl⟩
  have k1 : m1.parts = m.parts ++ d.parts := by rw [← hm1]; rfl
  have k2 : m1.joins = m.joins ++ d.joins := by rw [← hm1]; rfl
  have k3 : m1.number = d.num := by rw [← hm1]; rfl
  have k4 : m1.signal = m.signal := by rw [← hm1]; rfl
  have k5 : m1.gates = m.gates := by rw [← hm1]; rfl
  have hpl : m1.parts.length = m.parts.length + d.parts.length := by simp [k1]
  have hjl : m1.joins.length = m.joins.length + d.joins.length := by simp [k2]
  have hnx := next37_s (c := c) (b := b) (b4 := b4) (b5 := b5) (bg := bg) (hp := hp) (hj := hj) (m := m1) kind [letter] (by omega) (by omega) (by simp)
  obtain ⟨m2, hm2⟩ : ∃ m2 : Mk, { m1 with number := m1.number + 1 }.add kind ([letter] ++ numT m1.number) 0 (-1) = m2 := ⟨_, rfl⟩
  have hj2 : m2.joins.length ≤ 900000 := by
    rw [← hm2]
    show m1.joins.length ≤ _
    omega
  rw [hm2] at hnx
  have hja := fun hp hj => join37_s (c := c) (b := b) (b4 := b4) (b5 := b5) (bg := bg) (hp := hp) (hj := hj) (m := m2) d.pin ⟨letter :: numT m1.number, [49]⟩ (by omega)
  have hjb := fun hp hj => join37_s (c := c) (b := b) (b4 := b4) (b5 := b5) (bg := bg) (hp := hp) (hj := hj) (m := m2.join d.pin ⟨letter :: numT m1.number, [49]⟩) q ⟨letter :: numT m1.number, [49, 49]⟩ (by
    have := joinD_len d.pin ⟨letter :: numT m1.number, [49]⟩
    simp only [Mk.join, List.length_append]
    omega)
  have hfin : m.app (twinD m.signal kind letter d q) = (m2.join d.pin ⟨letter :: numT m1.number, [49]⟩).join q ⟨letter :: numT m1.number, [49, 49]⟩ := by
    rw [← hm2]
    simp [Mk.app, Mk.join, Mk.add, twinD, k1, k2, k3, k4, k5]
  rw [hm1, hfin]
  have hrl := rl_P ps
  refine vc_part rfl ?_
  rcases hk with ⟨rfl, rfl⟩ | ⟨rfl, rfl⟩
  all_goals
    simp [hil, hi1, hi]
    intro b11
    refine (hnx.on3 rfl).mono ?_
    rintro _ _ ⟨_, ⟨rfl, hp2, rfl⟩, rfl⟩
    simp
    refine ((hja hp2 hj).on3 rfl).mono ?_
    rintro _ _ ⟨_, ⟨rfl, hj3, rfl⟩, rfl⟩
    simp
    refine ((hjb hp2 hj3).on3 rfl).mono ?_
    rintro _ _ ⟨_, ⟨rfl, hj4, rfl⟩, rfl⟩
    simp
    exact ⟨by omega, by simp [twinD, k3]⟩
theorem foldD_cons {sg op : Int} {r : Ds'} {p : Pin} {ps : List Pin} (h : r.pins = p :: ps) : foldD sg op r = twinL sg (if op = 3 then 9 else 8) (if op = 3 then 80 else 81) r p ps ps.length := by
  unfold foldD twinL
  rw [h, List.take_length]
theorem joined37_s {c : Control} {b b4 b5 bg τ kb : Nat} {x : Expr} {kind : Int} {letter : UInt8} (hop : x.op ≠ 0 ∧ x.op ≠ 1 ∧ x.op ≠ 2) (hlen : 1 ≤ x.args.length ∧ x.args.length ≤ 256)
    (hk : (τ = 74 ∧ kb = b4) ∨ (τ = 75 ∧ kb = b5)) (hkl : kind = (if x.op = 3 then 9 else 8) ∧ letter = (if x.op = 3 then 80 else 81))
    (ih : ∀ y ∈ x.args, Makes c 105 [.ptr 70 b 0] [] b b4 b5 bg y) : Makes c 109 [] [.ptr τ kb 0, .rptr [.int .i64 kind], .rptr [.str [letter]]] b b4 b5 bg x := by
  intro hp hj m h1 h2 h3
  have hsx := sizeN_eq x
  have hxa := sizeNL_len x.args
  obtain ⟨s1, s2, s3⟩ := args_small false (portM c m.gates) m.signal x.args m.number
  have hpl := argsD_len false (portM c m.gates) m.signal x.args m.number
  obtain ⟨p0, ps, hpp⟩ : ∃ p ps, (argsD false (portM c m.gates) m.signal x.args m.number).pins = p :: ps := by
    cases hq : (argsD false (portM c m.gates) m.signal x.args m.number).pins with
    | nil => rw [hq] at hpl; simp at hpl; omega
    | cons p ps => exact ⟨p, ps, rfl⟩
  have e : m.expr c x = twinL m.signal kind letter (argsD false (portM c m.gates) m.signal x.args m.number) p0 ps ps.length := by
    unfold Mk.expr
    rw [exprD_eq, if_neg hop.1, if_neg hop.2.1, if_neg hop.2.2, foldD_cons hpp, hkl.1, hkl.2]
  rw [e]
  have hpsl : ps.length + 1 = x.args.length := by rw [← hpl, hpp]; rfl
  refine CallS.dropP (callS_cut 4 Tryz.func109 rfl Tryz.ntmps109 (rs := [.cell 5 98]) rfl (by kernel_rfl) (by simp) (by kernel_rfl) (K := fun r H' => ∃ hp' hj', r = .record (encPin (twinL m.signal kind letter (argsD false (portM c m.gates) m.signal x.args m.number) p0 ps ps.length).pin) ∧ subP (mkrH c b b4 b5 bg hp' hj' (m.app (twinL m.signal kind letter (argsD false (portM c m.gates) m.signal x.args m.number) p0 ps ps.length))) H') ?_) (fun r H' ⟨hp', hj', e, h⟩ => ⟨_, h, hp', hj', e, rfl⟩)
  simp
  intro bp
  have hrlE := rl_map (f := encE) (n := 3) (fun x => by rw [encE_eq]; rfl) x.args
  refine V.forI (σ := Value × Value × Value) x.args.length [1, 2, 3, 5, 14, 15] (by simp; exact rfl) (fun i g => [(6, .own 6 g.1), (16, aI i)]) (fun i g => (6, .seq g.1 98 2 ((m.pinsM c (x.args.take i)).map rPin)) :: (5, .box bp [.dat (.str []), .dat (.str [])]) :: mkrH c b b4 b5 bg g.2.1 g.2.2 (m.argsM c (x.args.take i))) (fun _ _ => True) (.slice none 0 0, hp, hj) trivial (by simp) ⟨by simp; exact rfl, by simp⟩ ?_ ?_
  · rintro i ⟨g, hp1, hj1⟩ hi -
    obtain ⟨y, hy1⟩ : ∃ y, x.args[i] = y := ⟨_, rfl⟩
    have hyo : x.args[i]? = some y := by rw [List.getElem?_eq_getElem hi, hy1]
    have hsm := sizeNL_more hyo
    obtain ⟨u1, u2, u3⟩ := args_small false (portM c m.gates) m.signal (x.args.take i) m.number
    obtain ⟨w1, w2⟩ := argsM_step (c := c) (m := m) hyo
    have hpn : (m.pinsM c (x.args.take i)).length = i := by
      unfold Mk.pinsM
      rw [argsD_len, List.length_take]
      omega
    have hih := ih y (List.mem_of_getElem? hyo) hp1 hj1 (m.argsM c (x.args.take i)) (by simp only [Mk.argsM, List.length_append]; omega) (by simp only [Mk.argsM, List.length_append]; omega) (by simp only [Mk.argsM]; omega)
    rw [w1] at hih
    rw [w2]
    generalize m.argsM c (x.args.take i) = m1 at *
    generalize m.argsM c (x.args.take (i + 1)) = m2 at *
    generalize m.pinsM c (x.args.take i) = pn at *
    generalize m1.expr c y = d at *
    simp at hih
    rcases hk with ⟨rfl, rfl⟩ | ⟨rfl, rfl⟩
    all_goals
      simp [hi, hy1, hyo, encE_eq y, hrlE]
      intro b8
      refine (hih.on3 rfl).mono ?_
      rintro _ _ ⟨_, ⟨hp2, hj2, rfl, rfl⟩, rfl⟩
      simp
      omega
  · rintro ⟨g, hp1, hj1⟩ -
    rw [List.take_length]
    have hpn : m.pinsM c x.args = p0 :: ps := hpp
    obtain ⟨r, hr⟩ : ∃ r, argsD false (portM c m.gates) m.signal x.args m.number = r := ⟨_, rfl⟩
    have hm0 : m.argsM c x.args = m.app (twinL m.signal kind letter r p0 ps 0) := by
      unfold Mk.argsM Mk.app twinL
      rw [hr]
      rfl
    rw [hr] at s1 s2 s3
    rw [hpn, hm0, hr]
    simp
    intro b9
    refine V.frz1 6 (τ := 6) (h := g) (e := 98) (sz := 2) (rows := (p0 :: ps).map rPin) (by simp) (by simp [hget]) (allD_P _) ?_
    rw [rowsD_P]
    refine V.cut (Hs := (9, .box b9 [.dat (.str p0.part), .dat (.str p0.port)]) :: (5, .box bp [.dat (.str []), .dat (.str [])]) :: mkrH c b b4 b5 bg hp1 hj1 (m.app (twinL m.signal kind letter r p0 ps 0))) [(1, .ptr τ kb 0), (2, .rptr [.int .i64 kind]), (3, .rptr [.str [letter]]), (5, .ptr 5 bp 0), (6, .dat (.sl ((p0 :: ps).map encPin))), (9, .ptr 9 b9 0)] (by simp) (by simp) ?_
    have hrl := rl_P ps
    have htk : List.take ps.length (List.map encPin ps) = List.map encPin ps := List.take_of_length_le (by simp)
    have ht0 : (twinL m.signal kind letter r p0 ps 0).pin = p0 := rfl
    simp [hrl, htk]
    refine V.forI (σ := Value × Value) (kv := jkv τ kb bp kind letter b9 ps) ps.length [1, 2, 3, 5, 9, 31, 32] (by simp) (fun i _ => [(33, aI i)]) (fun i g => (9, .box b9 [.dat (.str (twinL m.signal kind letter r p0 ps i).pin.part), .dat (.str (twinL m.signal kind letter r p0 ps i).pin.port)]) :: (5, .box bp [.dat (.str []), .dat (.str [])]) :: mkrH c b b4 b5 bg g.1 g.2 (m.app (twinL m.signal kind letter r p0 ps i))) (fun _ _ => True) (hp1, hj1) trivial (by simp) ⟨by simp; exact rfl, by simp [ht0]⟩ ?_ ?_
    · rintro i ⟨hp2, hj2⟩ hi -
      have hqo : ps[i]? = some ps[i] := List.getElem?_eq_getElem hi
      have hsmall := twin_small (sg := m.signal) (kind := kind) (letter := letter) (k := m.number) (n := sizeNL x.args - x.args.length) (ps.take i) (d := ⟨r.parts, r.joins, r.num, p0⟩) ⟨s1, s2, s3⟩
      obtain ⟨v1, v2, v3⟩ := hsmall
      rw [List.length_take] at v2
      have hstep := twinL_step (sg := m.signal) (kind := kind) (letter := letter) (r := r) (p := p0) hqo
      exact vc_of_part rfl (twin_row (F := fun i => (m.app (twinL m.signal kind letter r p0 ps i), (twinL m.signal kind letter r p0 ps i).pin)) hk hqo (by omega) (by simp only [twinL]; omega) (by simp only [twinL]; omega) (by simp only [twinL]; omega) rfl (by rw [hstep]))
    · rintro ⟨hp2, hj2⟩ -
      simp
      exact ⟨hp2, hj2, subP.c (subP.c (subP.refl _) _) _⟩
theorem expr_op {c : Control} {b b4 b5 bg : Nat} {x : Expr} {f : FuncId} {first caps : List A} (hop : (opsA b b4 b5)[x.op.toNat]? = some (.fn f first caps)) (h0 : 0 ≤ x.op ∧ x.op < 5) (h : Makes c f first caps b b4 b5 bg x) : Makes c 105 [.ptr 70 b 0] [] b b4 b5 bg x := by
  intro hp hj m h1 h2 h3
  have hh := h hp hj m h1 h2 h3
  refine CallS.dropP (callS_of Tryz.func105 rfl Tryz.ntmps105 (rs := [.cell 4 98]) rfl (by kernel_rfl) (by simp) (by kernel_rfl) (K := fun r H' => ∃ hp' hj', r = .record (encPin (m.expr c x).pin) ∧ subP (mkrH c b b4 b5 bg hp' hj' (m.app (m.expr c x))) H') ?_) (fun r H' ⟨hp', hj', e, h⟩ => ⟨_, h, hp', hj', e, rfl⟩)
  simp
  intro bp
  have hopC : (mkrC c b b4 b5 bg hp hj m)[10 + x.op.toNat]? = some (.fn f first caps) := by
    rw [List.getElem?_append_right (by simp)]
    simpa using hop
  simp only [List.cons_append, List.nil_append] at hopC
  refine V.drawC 8 [] (fun _ => none) rfl rfl (by kernel_rfl) (by kernel_rfl) ?_
  simp [hopC]
  refine ⟨h0, ?_⟩
  simp at hh
  refine hh.c1.mono ?_
  rintro _ _ ⟨_, ⟨hp1, hj1, rfl, rfl⟩, rfl⟩
  simp
  exact ⟨hp1, hj1, subP.c (subP.refl _) _⟩
theorem node_two {x : Expr} {n : Int} (h : nodeR x n = 0) (h3 : x.op = 3 ∨ x.op = 4) : 2 ≤ x.args.length ∧ x.args.length ≤ 256 := by
  unfold nodeR at h
  rw [if_neg (by omega)] at h
  simp only [show ¬ x.op ≤ 1 by omega, show ¬ x.op = 2 by omega, if_false] at h
  split at h
  · cases h
  · omega
theorem expr37_s {c : Control} (hc : Sm c) (h0 : 0 ≤ c.actuators ∧ c.actuators ≤ 12) {b b4 b5 bg : Nat} : ∀ (N : Nat) (x : Expr), SizeOf.sizeOf x < N → RightE (countC c) x → Makes c 105 [.ptr 70 b 0] [] b b4 b5 bg x
  | 0, _, h, _ => absurd h (Nat.not_lt_zero _)
  | N + 1, x, hN, hr => by
    have hnd := hr.node
    have hop := node_op hnd
    have ih : ∀ y ∈ x.args, Makes c 105 [.ptr 70 b 0] [] b b4 b5 bg y := fun y hy => expr37_s hc h0 N y (by have := Expr.lt_of_mem hy; omega) (hr.args y hy)
    obtain h | h | h | h | h : x.op = 0 ∨ x.op = 1 ∨ x.op = 2 ∨ x.op = 3 ∨ x.op = 4 := by omega
    · exact expr_op (f := 59) (first := [.ptr 70 b 0]) (caps := []) (by rw [h]; rfl) ⟨hop.1, hop.2.1⟩ (const37_s h)
    · exact expr_op (f := 60) (first := [.ptr 70 b 0]) (caps := []) (by rw [h]; rfl) ⟨hop.1, hop.2.1⟩ (var37_s hc h0 h (hop.2.2.2.1 h))
    · obtain ⟨y, hy⟩ := hop.2.2.2.2 h
      exact expr_op (f := 61) (first := [.ptr 70 b 0]) (caps := []) (by rw [h]; rfl) ⟨hop.1, hop.2.1⟩ (not37_s h hy (ih y (by rw [hy]; simp)))
    · have h2 := node_two hnd (.inl h)
      exact expr_op (f := 109) (first := []) (caps := [.ptr 74 b4 0, .rptr [.int .i64 9], .rptr [.str [80]]]) (by rw [h]; rfl) ⟨hop.1, hop.2.1⟩ (joined37_s ⟨by omega, by omega, by omega⟩ ⟨by omega, h2.2⟩ (.inl ⟨rfl, rfl⟩) ⟨by rw [if_pos h], by rw [if_pos h]⟩ ih)
    · have h2 := node_two hnd (.inr h)
      exact expr_op (f := 109) (first := []) (caps := [.ptr 75 b5 0, .rptr [.int .i64 8], .rptr [.str [81]]]) (by rw [h]; rfl) ⟨hop.1, hop.2.1⟩ (joined37_s ⟨by omega, by omega, by omega⟩ ⟨by omega, h2.2⟩ (.inr ⟨rfl, rfl⟩) ⟨by rw [if_neg (by omega)], by rw [if_neg (by omega)]⟩ ih)
end Go.Proofs.YtdnkpogfcpjkpaaGreatDoor
end

section
namespace Go.Proofs.YtdnkpogfcpjkpaaGreatDoor
set_option maxHeartbeats 1000000
theorem Flips.map {α : Type} {φ : Pin × Pin → α} (hφ : ∀ a b, φ (a, b) = φ (b, a)) {l m : List (Pin × Pin)} (h : Flips l m) : l.map φ = m.map φ := by
  induction h with
  | nil => rfl
  | keep _ ih => simp [ih]
  | swap _ ih => simp [ih, hφ]
theorem Flips.symm {l m : List (Pin × Pin)} (h : Flips l m) : Flips m l := by
  induction h with
  | nil => exact .nil
  | keep _ ih => exact .keep ih
  | swap _ ih => exact .swap ih
def endsL (c : Control) (g : List (Int × Pin)) : List Pin := (List.range (countC c).toNat).map fun l : Nat => portM c g l
theorem endsL_len (c : Control) (g : List (Int × Pin)) : (endsL c g).length = (countC c).toNat := by simp [endsL]
theorem endsL_at {c : Control} {g : List (Int × Pin)} {l : Int} (h : 0 ≤ l ∧ l < countC c) : (endsL c g).getD l.toNat noPin = portM c g l := by
  unfold endsL
  rw [List.getD_eq_getElem?_getD, List.getElem?_map, List.getElem?_range (by omega), Option.map_some, Option.getD_some, Int.toNat_of_nonneg h.1]
theorem get_put (g : List (Int × Pin)) (k j : Int) (p : Pin) : getG (putG g k p) j = if j = k then some p else getG g j := by
  induction g with
  | nil =>
    simp only [putG, getG]
    by_cases h : k = j
    · simp [h]
    · rw [if_neg h, if_neg fun e => h e.symm]
  | cons q r ih =>
    simp only [putG]
    split
    · rename_i h
      simp only [getG]
      by_cases h2 : k = j
      · simp [h2]
      · rw [if_neg h2, if_neg fun e => h2 e.symm, if_neg (by omega)]
    · simp only [getG, ih]
      split
      · rw [if_neg (by omega)]
      · rfl
theorem port_put {c : Control} {g : List (Int × Pin)} {i : Nat} (hk : kindAt c i = 0) (p : Pin) (l : Int) (h0 : 0 ≤ 2 * c.actuators) : portM c (putG g (firstC c + i) p) l = if l = firstC c + i then p else portM c g l := by
  have hf : 2 * c.actuators ≤ firstC c := by unfold firstC; omega
  unfold portM
  by_cases h : l = firstC c + i
  · subst h
    rw [if_neg (by omega), if_neg (by omega), show firstC c + (i : Int) - firstC c = i by omega, hk, if_neg (by omega), if_neg (by omega), if_pos rfl, get_put, if_pos rfl, Option.getD_some]
  · rw [if_neg h, get_put, if_neg h]
theorem ends_put {c : Control} {g : List (Int × Pin)} {i : Nat} (hi : i < c.signals.length) (hk : kindAt c i = 0) (p : Pin) (h0 : 0 ≤ 2 * c.actuators) : endsL c (putG g (firstC c + i) p) = (endsL c g).set (firstC c + i).toNat p := by
  have hc : countC c = firstC c + c.signals.length := rfl
  have hf : 2 * c.actuators ≤ firstC c := by unfold firstC; omega
  apply List.ext_getElem?
  intro n
  by_cases hn : n < (countC c).toNat
  · unfold endsL
    rw [List.getElem?_set, List.getElem?_map, List.getElem?_map, List.getElem?_range hn, Option.map_some, Option.map_some, port_put hk p n h0, List.length_map, List.length_range]
    by_cases e : (n : Int) = firstC c + i
    · rw [if_pos e, if_pos (by omega), if_pos (by omega)]
    · rw [if_neg e, if_neg (by omega)]
  · rw [List.getElem?_eq_none (by rw [endsL_len]; omega), List.getElem?_eq_none (by rw [List.length_set, endsL_len]; omega)]
structure Eq0 (m : Mk) (d : Dr) : Prop where
  parts : m.parts = d.gears
  joins : Flips m.joins d.links
  num : m.number = 0
  cnt : d.count = 0
  sig : m.signal = -1
  gates : m.gates = []
theorem set_last {α : Type} (l : List α) (a b : α) : (l ++ [a]).set ((l ++ [a]).length - 1) b = l ++ [b] := by
  rw [List.set_append]
  simp
theorem act_eq {m : Mk} {d : Dr} (h : Eq0 m d) (a : Nat) : Eq0 (actM m a) (actR d a) := by
  obtain ⟨p, j, n, s, g⟩ := m
  obtain ⟨p', j', e', n'⟩ := d
  obtain ⟨rfl, h2, rfl, rfl, rfl, rfl⟩ := h
  refine ⟨?_, ?_, rfl, rfl, rfl, rfl⟩
  · simp only [actM, Mk.valve, Mk.add, Mk.feed, Mk.join, actR, Dr.put, Dr.link, Dr.ended]
    rw [set_last]
    simp
  · simp only [actM, Mk.valve, Mk.add, Mk.feed, Mk.join, actR, Dr.put, Dr.link, Dr.ended, if_true, List.append_nil, if_false, Bool.false_eq_true]
    exact ((((h2.app (joinD_flip _ _)).app (joinD_flip _ _)).app (joinD_flip _ _)).app (Flips.refl _)).app (Flips.refl _)
theorem in_eq {c : Control} {m : Mk} {d : Dr} (h : Eq0 m d) (i : Nat) : Eq0 (inM c m i) (inR37 c d i) := by
  obtain ⟨p, j, n, s, g⟩ := m
  obtain ⟨p', j', e', n'⟩ := d
  obtain ⟨rfl, h2, rfl, rfl, rfl, rfl⟩ := h
  refine ⟨?_, ?_, rfl, rfl, rfl, rfl⟩
  · simp only [inM, Mk.add, Mk.feed, Mk.join, inR37, Dr.put, Dr.ended]
  · simp only [inM, Mk.add, Mk.feed, Mk.join, inR37, Dr.put, Dr.ended, if_true]
    exact h2.app (joinD_flip _ _)
theorem fold_rel {α β γ : Type} {R : α → β → Prop} {f : α → γ → α} {g : β → γ → β} (h : ∀ a b x, R a b → R (f a x) (g b x)) : ∀ (l : List γ) {a : α} {b : β}, R a b → R (l.foldl f a) (l.foldl g b)
  | [], _, _, hr => hr
  | x :: l, _, _, hr => fold_rel h l (h _ _ x hr)
def baseR (c : Control) : Dr := (List.range c.inputs.length).foldl (inR37 c) ((List.range c.actuators.toNat).foldl actR ((⟨[], [], [], 0⟩ : Dr).put ⟨0, [83], 0, -1, none, -1, -1⟩ false))
theorem base_eq (c : Control) : Eq0 (machineM c) (baseR c) := by
  have h0 : Eq0 ((⟨[], [], 0, -1, []⟩ : Mk).add 0 [83] 0 (-1)) ((⟨[], [], [], 0⟩ : Dr).put ⟨0, [83], 0, -1, none, -1, -1⟩ false) := ⟨rfl, Flips.nil, rfl, rfl, rfl, rfl⟩
  have h1 := fold_rel (R := Eq0) (f := actM) (g := actR) (fun _ _ x h => act_eq h x) (List.range c.actuators.toNat) h0
  exact fold_rel (R := Eq0) (f := inM c) (g := inR37 c) (fun _ _ x h => in_eq h x) (List.range c.inputs.length) h1
theorem act_ends (d : Dr) (a : Nat) : (actR d a).ends = d.ends ++ [⟨letterT a ++ [48], [50]⟩, ⟨letterT a ++ [49], [50]⟩] := rfl
theorem in_ends (c : Control) (d : Dr) (i : Nat) : (inR37 c d i).ends = d.ends ++ [⟨c.inputs.getD i [], [50]⟩] := rfl
theorem num0 : numT 0 = [48] := by unfold numT; rw [Go.Lib.decDigits]; rfl
theorem num1 : numT 1 = [49] := by unfold numT; rw [Go.Lib.decDigits]; rfl
theorem range_ends (c : Control) (g : List (Int × Pin)) (a b : Nat) : (List.range (a + b)).map (fun l : Nat => portM c g l) = (List.range a).map (fun l : Nat => portM c g l) ++ (List.range b).map (fun l : Nat => portM c g ((a + l : Nat) : Int)) := by
  rw [List.range_add, List.map_append, List.map_map]
  rfl
theorem acts_ends {c : Control} (h0 : 0 ≤ c.actuators) (g : List (Int × Pin)) : ∀ n : Nat, (n : Int) ≤ c.actuators → ∀ d : Dr, d.ends = [] → ((List.range n).foldl actR d).ends = (List.range (2 * n)).map fun l : Nat => portM c g l
  | 0, _, d, hd => by simpa using hd
  | n + 1, hn, d, hd => by
    rw [List.range_succ, List.foldl_append, List.foldl_cons, List.foldl_nil, act_ends, acts_ends h0 g n (by omega) d hd, show 2 * (n + 1) = 2 * n + 2 by omega, range_ends c g (2 * n) 2]
    congr 1
    simp only [List.range_succ, List.range_zero, List.nil_append, List.map_append, List.map_cons, List.map_nil, List.cons_append]
    have e1 : portM c g ((2 * n + 0 : Nat) : Int) = ⟨letterT n ++ [48], [50]⟩ := by
      unfold portM
      rw [if_pos (by omega), show ((2 * n + 0 : Nat) : Int).toNat / 2 = n by omega, show ((2 * n + 0 : Nat) : Int).toNat % 2 = 0 by omega, num0]
    have e2 : portM c g ((2 * n + 1 : Nat) : Int) = ⟨letterT n ++ [49], [50]⟩ := by
      unfold portM
      rw [if_pos (by omega), show ((2 * n + 1 : Nat) : Int).toNat / 2 = n by omega, show ((2 * n + 1 : Nat) : Int).toNat % 2 = 1 by omega, num1]
    rw [e1, e2]
theorem ins_ends {c : Control} (h0 : 0 ≤ c.actuators) (g : List (Int × Pin)) : ∀ n : Nat, n ≤ c.inputs.length → ∀ d : Dr, d.ends = ((List.range (2 * c.actuators.toNat)).map fun l : Nat => portM c g l) → ((List.range n).foldl (inR37 c) d).ends = (List.range (2 * c.actuators.toNat + n)).map fun l : Nat => portM c g l
  | 0, _, d, hd => by simpa using hd
  | n + 1, hn, d, hd => by
    rw [List.range_succ, List.foldl_append, List.foldl_cons, List.foldl_nil, in_ends, ins_ends h0 g n (by omega) d hd, ← Nat.add_assoc, range_ends c g (2 * c.actuators.toNat + n) 1]
    congr 1
    simp only [List.range_succ, List.range_zero, List.nil_append, List.map_cons, List.map_nil]
    unfold portM firstC
    rw [if_neg (by omega), if_pos (by omega), show (((2 * c.actuators.toNat + n + 0 : Nat) : Int) - 2 * c.actuators).toNat = n by omega]
def ownD (c : Control) (i : Nat) : List Made := match c.signals[i]? with
  | some x => if x.kind = 1 then [⟨2, ownT c i, 0, i, none, -1, firstC c + i⟩] else if x.kind = 2 then [⟨12, ownT c i, x.delay, i, none, -1, firstC c + i⟩] else []
  | none => []
def ownJ (c : Control) (i : Nat) : List (Pin × Pin) := match c.signals[i]? with
  | some x => if x.kind = 1 ∨ x.kind = 2 then joinD supPin ⟨ownT c i, [49]⟩ else []
  | none => []
theorem sigF_eq {c : Control} (d : Dr) {i : Nat} (hi : i < c.signals.length) (h0 : 0 ≤ c.actuators) : (sigF c d i).gears = d.gears ++ ownD c i ∧ (∃ j, Flips (ownJ c i) j ∧ (sigF c d i).links = d.links ++ j) ∧ (sigF c d i).ends = d.ends ++ [portM c [] (firstC c + i)] ∧ (sigF c d i).count = d.count := by
  have hx : c.signals[i]? = some c.signals[i] := List.getElem?_eq_getElem hi
  generalize c.signals[i] = x at hx
  have hk : kindAt c i = x.kind := by simp [kindAt, hx]
  have hp : portM c [] (firstC c + i) = if x.kind = 1 then ⟨ownT c i, [52]⟩ else if x.kind = 2 then ⟨ownT c i, [50]⟩ else noPin := by
    unfold portM firstC
    rw [if_neg (by omega), if_neg (by omega), show 2 * c.actuators + (c.inputs.length : Int) + i - (2 * c.actuators + c.inputs.length) = i by omega, hk, Int.toNat_natCast]
    rfl
  unfold sigF ownD ownJ
  rw [hx, hp]
  dsimp only
  by_cases h1 : x.kind = 1
  · have h3 : x.kind = 1 ∨ x.kind = 2 := .inl h1
    simp only [if_pos h1, if_pos h3]
    exact ⟨rfl, ⟨_, joinD_flip _ _, rfl⟩, rfl, rfl⟩
  · by_cases h2 : x.kind = 2
    · have h3 : x.kind = 1 ∨ x.kind = 2 := .inr h2
      simp only [if_neg h1, if_pos h2, if_pos h3]
      exact ⟨rfl, ⟨_, joinD_flip _ _, rfl⟩, rfl, rfl⟩
    · have h3 : ¬ (x.kind = 1 ∨ x.kind = 2) := by omega
      simp only [if_neg h1, if_neg h2, if_neg h3]
      exact ⟨by simp [Dr.ended], ⟨[], .nil, by simp [Dr.ended]⟩, rfl, rfl⟩
def ownDs (c : Control) (i n : Nat) : List Made := (List.range' i n).flatMap (ownD c)
def ownJs (c : Control) (i n : Nat) : List (Pin × Pin) := (List.range' i n).flatMap (ownJ c)
theorem frame_sigs {c : Control} (h0 : 0 ≤ c.actuators) (d : Dr) (hd : d.ends = (List.range (firstC c).toNat).map fun l : Nat => portM c [] l) : ∀ n, n ≤ c.signals.length → ((List.range n).foldl (sigF c) d).gears = d.gears ++ ownDs c 0 n ∧ (∃ j, Flips (ownJs c 0 n) j ∧ ((List.range n).foldl (sigF c) d).links = d.links ++ j) ∧
    ((List.range n).foldl (sigF c) d).ends = ((List.range ((firstC c).toNat + n)).map fun l : Nat => portM c [] l) ∧ ((List.range n).foldl (sigF c) d).count = d.count
  | 0, _ => ⟨by simp [ownDs], ⟨[], .nil, by simp⟩, by simpa using hd, rfl⟩
  | n + 1, hn => by
    obtain ⟨i1, ⟨j, i2, i3⟩, i4, i5⟩ := frame_sigs h0 d hd n (by omega)
    obtain ⟨k1, ⟨j', k2, k3⟩, k4, k5⟩ := sigF_eq ((List.range n).foldl (sigF c) d) (show n < c.signals.length by omega) h0
    rw [List.range_succ, List.foldl_append, List.foldl_cons, List.foldl_nil]
    refine ⟨?_, ⟨j ++ j', ?_, ?_⟩, ?_, k5.trans i5⟩
    · rw [k1, i1, ownDs, ownDs, List.range'_concat, List.flatMap_append]
      simp
    · rw [ownJs, List.range'_concat, List.flatMap_append]
      refine i2.app ?_
      simpa using k2
    · rw [k3, i3, List.append_assoc]
    · have hf : 0 ≤ firstC c := by unfold firstC; omega
      rw [k4, i4, ← Nat.add_assoc, range_ends c [] ((firstC c).toNat + n) 1]
      congr 1
      simp only [List.range_succ, List.range_zero, List.nil_append, List.map_cons, List.map_nil]
      rw [show (((firstC c).toNat + n + 0 : Nat) : Int) = firstC c + n by omega]
structure Rel (c : Control) (m : Mk) (d : Dr) (rest : List Made) (restJ : List (Pin × Pin)) : Prop where
  parts : (m.parts ++ rest).Perm d.gears
  joins : ∀ (α : Type) (φ : Pin × Pin → α), (∀ a b, φ (a, b) = φ (b, a)) → (m.joins.map φ ++ restJ.map φ).Perm (d.links.map φ)
  num : m.number = d.count
  ends : d.ends = endsL c m.gates
theorem frame_rel {c : Control} (h0 : 0 ≤ c.actuators) : Rel c (machineM c) (frameR c) (ownDs c 0 c.signals.length) (ownJs c 0 c.signals.length) := by
  have hb := base_eq c
  have he : (baseR c).ends = (List.range (firstC c).toNat).map fun l : Nat => portM c [] l := by
    unfold baseR
    rw [ins_ends h0 [] c.inputs.length (Nat.le_refl _) _ (acts_ends h0 [] c.actuators.toNat (by omega) _ rfl), show (firstC c).toNat = 2 * c.actuators.toNat + c.inputs.length by unfold firstC; omega]
  obtain ⟨i1, ⟨j, i2, i3⟩, i4, i5⟩ := frame_sigs h0 (baseR c) he c.signals.length (Nat.le_refl _)
  have e : frameR c = (List.range c.signals.length).foldl (sigF c) (baseR c) := rfl
  have hg := hb.gates
  rw [e]
  refine ⟨?_, fun α φ hφ => ?_, ?_, ?_⟩
  · rw [i1, hb.parts]
  · rw [i3, List.map_append, hb.joins.map hφ, i2.map hφ]
  · rw [i5, hb.num, hb.cnt]
  · rw [i4, hg]
    unfold endsL
    rw [show (countC c).toNat = (firstC c).toNat + c.signals.length by unfold countC firstC; omega]
theorem expr_both {c : Control} {m : Mk} {d : Dr} {rest : List Made} {restJ : List (Pin × Pin)} (h : Rel c m d rest restJ) {x : Expr} (hx : ∀ v ∈ varsE x, 0 ≤ v ∧ v < countC c) : SameD (m.expr c x) (d.expr x m.signal) := by
  unfold Mk.expr Dr.expr
  rw [← h.num]
  refine expr_same _ x _ fun v hv => ?_
  have := hx v hv
  rw [h.ends, endsL_at this]
theorem perm_mid {α : Type} {a b c d : List α} (h : (a ++ b).Perm d) : (a ++ c ++ b).Perm (d ++ c) := by
  rw [List.append_assoc]
  refine (List.Perm.append_left a List.perm_append_comm).trans ?_
  rw [← List.append_assoc]
  exact h.append_right c
theorem app_rel {c : Control} {m : Mk} {d : Dr} {rest : List Made} {restJ : List (Pin × Pin)} (h : Rel c m d rest restJ) {x y : Dl} (hs : SameD x y) : Rel c (m.app x) (d.app y) rest restJ := by
  obtain ⟨h1, h2, h3, h4⟩ := h
  obtain ⟨s1, s2, s3, s4⟩ := hs
  refine ⟨?_, fun α φ hφ => ?_, s3, h4⟩
  · simp only [Mk.app, Dr.app]
    rw [s1]
    exact perm_mid h1
  · simp only [Mk.app, Dr.app, List.map_append]
    rw [s2.map hφ]
    exact perm_mid (h2 α φ hφ)
theorem join_rel {c : Control} {m : Mk} {d : Dr} {rest : List Made} {restJ : List (Pin × Pin)} (h : Rel c m d rest restJ) (a b : Pin) : Rel c (m.join a b) (d.link a b) rest restJ := by
  obtain ⟨h1, h2, h3, h4⟩ := h
  refine ⟨h1, fun α φ hφ => ?_, h3, h4⟩
  simp only [Mk.join, Dr.link, List.map_append]
  exact perm_mid (h2 α φ hφ)
theorem to_rel {c : Control} {m : Mk} {d : Dr} {rest : List Made} {restJ : List (Pin × Pin)} (h : Rel c m d rest restJ) {x : Expr} (hx : ∀ v ∈ varsE x, 0 ≤ v ∧ v < countC c) (p : Pin) : Rel c (m.to c x p) (d.to x m.signal p) rest restJ := by
  have hs := expr_both h hx
  unfold Mk.to Dr.to
  rw [hs.pin]
  exact join_rel (app_rel h hs) _ _
theorem sig_rel {c : Control} {m : Mk} {d : Dr} {rest : List Made} {restJ : List (Pin × Pin)} (h : Rel c m d rest restJ) (i : Nat) : Rel c (m.sig i) d rest restJ := ⟨h.parts, h.joins, h.num, h.ends⟩
theorem gate_rel {c : Control} {m : Mk} {d : Dr} {rest : List Made} {restJ : List (Pin × Pin)} (h : Rel c m d rest restJ) {i : Nat} (hi : i < c.signals.length) (h0 : 0 ≤ c.actuators) (hx : ∀ x, c.signals[i]? = some x → ∀ v ∈ varsE x.on, 0 ≤ v ∧ v < countC c) : Rel c (gateM c m i) (gateR c d i) rest restJ := by
  have hxi : c.signals[i]? = some c.signals[i] := List.getElem?_eq_getElem hi
  generalize c.signals[i] = x at hxi
  have hk : kindAt c i = x.kind := by simp [kindAt, hxi]
  unfold gateM gateR
  rw [hxi, hk]
  dsimp only [Option.map_some, Option.getD_some]
  by_cases h1 : x.kind = 0
  · rw [if_pos h1, if_pos h1]
    have hs := expr_both (sig_rel h i) (hx x hxi)
    have ha := app_rel (sig_rel h i) hs
    refine ⟨ha.parts, ha.joins, ha.num, ?_⟩
    show d.ends.set _ _ = endsL c (putG m.gates _ _)
    rw [ends_put hi (hk.trans h1) _ (by omega), h.ends]
    congr 1
    exact hs.pin.symm
  · rw [if_neg h1, if_neg h1]
    exact sig_rel h i
theorem own_rel {c : Control} {m : Mk} {d : Dr} {i n : Nat} (h : Rel c m d (ownDs c i (n + 1)) (ownJs c i (n + 1))) : Rel c { m with parts := m.parts ++ ownD c i, joins := m.joins ++ ownJ c i } d (ownDs c (i + 1) n) (ownJs c (i + 1) n) := by
  obtain ⟨h1, h2, h3, h4⟩ := h
  have e1 : ownDs c i (n + 1) = ownD c i ++ ownDs c (i + 1) n := by simp [ownDs, List.range'_succ]
  have e2 : ownJs c i (n + 1) = ownJ c i ++ ownJs c (i + 1) n := by simp [ownJs, List.range'_succ]
  rw [e1] at h1
  refine ⟨?_, fun α φ hφ => ?_, h3, h4⟩
  · dsimp only
    rw [List.append_assoc]
    exact h1
  · have := h2 α φ hφ
    rw [e2, List.map_append] at this
    dsimp only
    rw [List.map_append, List.append_assoc]
    exact this
theorem sigs_rel {c : Control} {m : Mk} {d : Dr} {i n : Nat} (h : Rel c m d (ownDs c i (n + 1)) (ownJs c i (n + 1))) (hi : i < c.signals.length) (hx : ∀ x, c.signals[i]? = some x → (x.kind = 0 ∨ x.kind = 1 ∨ x.kind = 2) ∧ (∀ v ∈ varsE x.on, 0 ≤ v ∧ v < countC c) ∧ ∀ v ∈ varsE x.off, 0 ≤ v ∧ v < countC c) :
    Rel c (sigM c m i) (sigR c d i) (ownDs c (i + 1) n) (ownJs c (i + 1) n) := by
  have hxi : c.signals[i]? = some c.signals[i] := List.getElem?_eq_getElem hi
  generalize c.signals[i] = x at hxi
  have ho := own_rel (sig_rel h i)
  obtain ⟨hk, hon, hoff⟩ := hx x hxi
  unfold sigM sigR
  unfold ownD ownJ at ho
  rw [hxi] at ho ⊢
  dsimp only at ho ⊢
  rcases hk with hk | hk | hk
  · simp only [hk, show ¬ (0 : Int) = 1 by omega, show ¬ (0 : Int) = 2 by omega, if_false, if_true, or_self, List.append_nil] at ho ⊢
    exact ho
  · simp only [hk, show ¬ (1 : Int) = 0 by omega, show ¬ (1 : Int) = 2 by omega, if_false, if_true, or_false] at ho ⊢
    exact to_rel (to_rel ho hon _) hoff _
  · simp only [hk, show ¬ (2 : Int) = 0 by omega, show ¬ (2 : Int) = 1 by omega, if_false, if_true, or_true] at ho ⊢
    exact to_rel ho hon _
theorem pil_rel {c : Control} {m : Mk} {d : Dr} (h : Rel c m d [] []) (a : Nat) (hp : 0 ≤ c.plus.getD a 0 ∧ c.plus.getD a 0 < countC c) (hm : 0 ≤ c.minus.getD a 0 ∧ c.minus.getD a 0 < countC c) : Rel c (pilM c m a) (pilR c d a) [] [] := by
  unfold pilM pilR
  have e : ∀ d' : Dr, d'.ends = endsL c m.gates → ∀ l : Int, 0 ≤ l ∧ l < countC c → d'.ends.getD l.toNat noPin = portM c m.gates l := fun d' hd l hl => by rw [hd, endsL_at hl]
  rw [e d h.ends _ hp]
  show Rel c _ ((d.link _ _).link (d.ends.getD _ _) _) _ _
  rw [e d h.ends _ hm]
  exact join_rel (join_rel h _ _) _ _
structure InC (c : Control) : Prop where
  act : 0 ≤ c.actuators
  sig : ∀ (i : Nat) (x : Signal), c.signals[i]? = some x → (x.kind = 0 ∨ x.kind = 1 ∨ x.kind = 2) ∧ (∀ v ∈ varsE x.on, 0 ≤ v ∧ v < countC c) ∧ ∀ v ∈ varsE x.off, 0 ≤ v ∧ v < countC c
  pil : ∀ a : Nat, (a : Int) < c.actuators → (0 ≤ c.plus.getD a 0 ∧ c.plus.getD a 0 < countC c) ∧ 0 ≤ c.minus.getD a 0 ∧ c.minus.getD a 0 < countC c
theorem gates_rel {c : Control} (hc : InC c) {m : Mk} {d : Dr} {rest : List Made} {restJ : List (Pin × Pin)} (h : Rel c m d rest restJ) : ∀ n, n ≤ c.signals.length → Rel c ((List.range n).foldl (gateM c) m) ((List.range n).foldl (gateR c) d) rest restJ
  | 0, _ => h
  | n + 1, hn => by
    rw [List.range_succ, List.foldl_append, List.foldl_append]
    exact gate_rel (gates_rel hc h n (by omega)) (by omega) hc.act fun x hx => (hc.sig n x hx).2.1
theorem sigsAll_rel {c : Control} (hc : InC c) {m : Mk} {d : Dr} : ∀ (n k : Nat), n + k = c.signals.length → Rel c m d (ownDs c 0 c.signals.length) (ownJs c 0 c.signals.length) → Rel c ((List.range n).foldl (sigM c) m) ((List.range n).foldl (sigR c) d) (ownDs c n k) (ownJs c n k)
  | 0, k, hk, h => by
    obtain rfl : k = c.signals.length := by omega
    exact h
  | n + 1, k, hk, h => by
    rw [List.range_succ, List.foldl_append, List.foldl_append]
    exact sigs_rel (sigsAll_rel hc n (k + 1) (by omega) h) (by omega) (hc.sig n)
theorem whole_rel {c : Control} (hc : InC c) : Rel c (wholeM c) (wholeR c) [] [] := by
  have h1 := gates_rel hc (frame_rel hc.act) c.signals.length (Nat.le_refl _)
  have h2 := sigsAll_rel hc c.signals.length 0 (by omega) h1
  have h3 : ∀ n : Nat, (n : Int) ≤ c.actuators → ∀ {m : Mk} {d : Dr}, Rel c m d [] [] → Rel c ((List.range n).foldl (pilM c) m) ((List.range n).foldl (pilR c) d) [] [] := by
    intro n
    induction n with
    | zero => intro _ m d h; exact h
    | succ n ih =>
      intro hn m d h
      rw [List.range_succ, List.foldl_append, List.foldl_append]
      obtain ⟨p1, p2⟩ := hc.pil n (by omega)
      exact pil_rel (ih (by omega) h) n p1 p2
  exact h3 c.actuators.toNat (by have := hc.act; omega) h2
end Go.Proofs.YtdnkpogfcpjkpaaGreatDoor
end

section
namespace Go.Proofs.YtdnkpogfcpjkpaaGreatDoor
set_option maxHeartbeats 1000000
mutual
def opsE : Expr → Nat
  | ⟨op, _, args⟩ => if op = 0 then 0 else if op = 1 then 0 else if op = 2 then opsL args + min args.length 1 else opsL args + (args.length - 1)
def opsL : List Expr → Nat
  | [] => 0
  | x :: xs => opsE x + opsL xs
end
theorem opsE_eq (x : Expr) : opsE x = if x.op = 0 then 0 else if x.op = 1 then 0 else if x.op = 2 then opsL x.args + min x.args.length 1 else opsL x.args + (x.args.length - 1) := by cases x; rw [opsE]
theorem twin_parts {sg kind : Int} {letter : UInt8} : ∀ (ps : List Pin) (d : Dl), (ps.foldl (twinD sg kind letter) d).parts.length = d.parts.length + ps.length
  | [], d => by simp
  | p :: ps, d => by
    rw [List.foldl_cons, twin_parts ps]
    simp [twinD]
    omega
mutual
theorem ops_len (fl : Bool) (pf : Int → Pin) (sg : Int) : ∀ (x : Expr) (k : Nat), (exprD fl pf sg x k).parts.length = opsE x
  | ⟨op, ix, args⟩, k => by
    have h := opsL_len fl pf sg args k
    have hl := argsD_len fl pf sg args k
    rw [exprD_eq, opsE_eq]
    dsimp only
    split
    · rfl
    · split
      · rfl
      · generalize argsD fl pf sg args k = r at *
        obtain ⟨r1, r2, r3, r4⟩ := r
        dsimp only at h hl ⊢
        split
        · cases args with
          | nil => simpa [notsD] using h
          | cons y ys =>
            simp only [List.head?_cons, notsD, notD, List.length_append, List.length_cons, List.length_nil]
            omega
        · unfold foldD
          dsimp only
          cases r4 with
          | nil =>
            simp only [List.length_nil] at hl
            dsimp only
            omega
          | cons p ps =>
            rw [twin_parts]
            simp only [List.length_cons] at hl
            dsimp only
            omega
theorem opsL_len (fl : Bool) (pf : Int → Pin) (sg : Int) : ∀ (xs : List Expr) (k : Nat), (argsD fl pf sg xs k).parts.length = opsL xs
  | [], k => rfl
  | x :: xs, k => by
    rw [argsD, opsL]
    simp only [List.length_append]
    rw [ops_len fl pf sg x, opsL_len fl pf sg xs]
end
def costS (x : Signal) : Nat := if x.kind = 0 then opsE x.on else if x.kind = 1 then 1 + opsE x.on + opsE x.off else if x.kind = 2 then 1 + opsE x.on else 0
def countM (c : Control) : Nat := 1 + 4 * c.actuators.toNat + c.inputs.length + (c.signals.map costS).sum
@[simp] theorem add_parts (m : Mk) (kind : Int) (name : List UInt8) (delay line : Int) : (m.add kind name delay line).parts.length = m.parts.length + 1 := by simp [Mk.add]
@[simp] theorem join_parts (m : Mk) (a b : Pin) : (m.join a b).parts = m.parts := rfl
@[simp] theorem feed_parts (m : Mk) (name : List UInt8) : (m.feed name).parts = m.parts := rfl
@[simp] theorem valve_parts (m : Mk) (a : Int) : (m.valve a).parts.length = m.parts.length := by simp [Mk.valve]
theorem expr_parts (c : Control) (m : Mk) (x : Expr) : (m.expr c x).parts.length = opsE x := ops_len _ _ _ _ _
@[simp] theorem app_parts (m : Mk) (d : Dl) : (m.app d).parts.length = m.parts.length + d.parts.length := by simp [Mk.app]
@[simp] theorem to_parts (c : Control) (m : Mk) (x : Expr) (p : Pin) : (m.to c x p).parts.length = m.parts.length + opsE x := by
  rw [Mk.to, join_parts, app_parts, expr_parts]
@[simp] theorem sigm_parts (m : Mk) (i : Nat) : (m.sig i).parts = m.parts := rfl
theorem fold_len {α : Type} {f : Mk → α → Mk} {g : α → Nat} (h : ∀ m a, (f m a).parts.length = m.parts.length + g a) : ∀ (l : List α) (m : Mk), (l.foldl f m).parts.length = m.parts.length + (l.map g).sum
  | [], m => by simp
  | a :: l, m => by
    rw [List.foldl_cons, fold_len h l, h]
    simp
    omega
theorem sum_const {α : Type} (k : Nat) : ∀ l : List α, (l.map fun _ => k).sum = l.length * k
  | [] => by simp
  | _ :: l => by
    have := sum_const k l
    simp only [List.map_cons, List.sum_cons, List.length_cons, this, Nat.succ_mul]
    omega
theorem act_len (m : Mk) (a : Nat) : (actM m a).parts.length = m.parts.length + 4 := by simp [actM]
theorem in_len (c : Control) (m : Mk) (i : Nat) : (inM c m i).parts.length = m.parts.length + 1 := by simp [inM]
theorem machine_len (c : Control) : (machineM c).parts.length = 1 + 4 * c.actuators.toNat + c.inputs.length := by
  unfold machineM
  rw [fold_len (g := fun _ => 1) (in_len c), fold_len (g := fun _ => 4) act_len, sum_const, sum_const]
  simp [Mk.add]
  omega
def gCost (c : Control) (i : Nat) : Nat := match c.signals[i]? with
  | some x => if x.kind = 0 then opsE x.on else 0
  | none => 0
def sCost (c : Control) (i : Nat) : Nat := match c.signals[i]? with
  | some x => if x.kind = 1 then 1 + opsE x.on + opsE x.off else if x.kind = 2 then 1 + opsE x.on else 0
  | none => 0
theorem gate_len {c : Control} (m : Mk) {i : Nat} (hi : i < c.signals.length) : (gateM c m i).parts.length = m.parts.length + gCost c i := by
  have hx : c.signals[i]? = some c.signals[i] := List.getElem?_eq_getElem hi
  have hk : kindAt c i = c.signals[i].kind := by simp [kindAt, hx]
  unfold gateM gCost
  rw [hk, hx]
  dsimp only [Option.map_some, Option.getD_some]
  split
  · rw [app_parts, expr_parts, sigm_parts]
  · rw [sigm_parts, Nat.add_zero]
theorem sig_len (c : Control) (m : Mk) (i : Nat) : (sigM c m i).parts.length = m.parts.length + sCost c i := by
  unfold sigM sCost
  cases c.signals[i]? with
  | none => rfl
  | some x =>
    dsimp only
    split
    · simp
      omega
    · split
      · simp
        omega
      · simp
theorem pil_len (c : Control) (m : Mk) (i : Nat) : (pilM c m i).parts.length = m.parts.length + 0 := by simp [pilM]
theorem fold_lenI {f : Mk → Nat → Mk} {g : Nat → Nat} {n : Nat} (h : ∀ m i, i < n → (f m i).parts.length = m.parts.length + g i) : ∀ (k : Nat), k ≤ n → ∀ (m : Mk), ((List.range k).foldl f m).parts.length = m.parts.length + ((List.range k).map g).sum
  | 0, _, m => by simp
  | k + 1, hk, m => by
    rw [List.range_succ, List.foldl_append, List.map_append, List.sum_append]
    simp only [List.foldl_cons, List.foldl_nil, List.map_cons, List.map_nil, List.sum_cons, List.sum_nil]
    rw [h _ _ (by omega), fold_lenI h k (by omega)]
    omega
theorem cost_sum (l : List Signal) : ((List.range l.length).map fun i => (match l[i]? with
    | some x => if x.kind = 0 then opsE x.on else 0
    | none => 0)).sum + ((List.range l.length).map fun i => (match l[i]? with
    | some x => if x.kind = 1 then 1 + opsE x.on + opsE x.off else if x.kind = 2 then 1 + opsE x.on else 0
    | none => 0)).sum = (l.map costS).sum := by
  induction l with
  | nil => rfl
  | cons x l ih =>
    rw [List.length_cons, List.range_succ_eq_map]
    simp only [List.map_cons, List.map_map, List.sum_cons, List.getElem?_cons_zero, Function.comp_def, List.getElem?_cons_succ]
    have : costS x = (if x.kind = 0 then opsE x.on else 0) + (if x.kind = 1 then 1 + opsE x.on + opsE x.off else if x.kind = 2 then 1 + opsE x.on else 0) := by
      unfold costS
      by_cases h0 : x.kind = 0
      · simp [h0]
      · simp [h0]
    rw [this]
    omega
theorem whole_len (c : Control) : (wholeM c).parts.length = countM c := by
  unfold wholeM
  rw [fold_len (g := fun _ => 0) (pil_len c), fold_len (sig_len c), fold_lenI (f := gateM c) (n := c.signals.length) (fun m i hi => gate_len m hi) c.signals.length (Nat.le_refl _), machine_len, sum_const]
  have := cost_sum c.signals
  unfold countM
  rw [← this]
  unfold gCost sCost
  omega
end Go.Proofs.YtdnkpogfcpjkpaaGreatDoor
end
