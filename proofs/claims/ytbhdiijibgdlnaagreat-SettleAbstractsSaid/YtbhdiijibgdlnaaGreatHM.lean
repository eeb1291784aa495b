/- Texts joined by a program: Lm. -/
import Derived.Test.YtbhdiijibgdlnaaGreatH1
set_option linter.unusedSimpArgs false
set_option linter.unusedVariables false

/- What came in, as data: two bytes. -/
section
namespace Go.Proofs.YtbhdiijibgdlnaaGreat
open Go.ChangeShapes Go.WideShapes Go.ChangeAt Go.RowKit
set_option maxRecDepth 100000

theorem read_U2 {H : Type} {enc : TypeId × Value → H} {W : World} {base : Nat} {v : Value} {d : DataW H} {ps : List MemPlace} (hv : Value.okWide Tryz.prog W .any base 73 v) (_ : DataW.Trod enc Tryz.prog W 0 (fun _ => true) true 73 v d ps) :
    ∃ x : Int × Int, D (X0 W) (.record [.int .u8 x.1, .int .u8 x.2]) v ∧ True := by
  unfold Value.okWide at hv
  rw [Tryz.underlying73] at hv
  simp only at hv
  obtain ⟨cs, rfl, hs, ts, ht, _, hc⟩ := hv
  have hsz : cs.size = 2 := by
    have : (Tryz.prog).cellsOf 73 = 2 := by kernel_rfl
    omega
  have hts : ts = [5, 5] := by
    have : (Tryz.prog).cellTypes (Tryz.prog).depth 73 = some [5, 5] := by kernel_rfl
    rw [this] at ht
    exact (Option.some.inj ht).symm
  subst hts
  have key : ∀ i, i < 2 → ∃ n, cs[i]? = some (.int .u8 n) := by
    intro i hi
    have h1 : cs[i]? = some cs[i] := Array.getElem?_eq_getElem (by omega)
    obtain ⟨u, h2, h3⟩ := hc i _ h1
    have hu : u = 5 := by
      have : i = 0 ∨ i = 1 := by omega
      rcases this with rfl | rfl <;> simpa using h2.symm
    subst hu
    unfold Cell.okWide at h3
    rw [Tryz.underlying5] at h3
    simp only at h3
    unfold Cell.ok at h3
    rw [Tryz.underlying5] at h3
    rw [h1]
    generalize cs[i] = z at *
    cases z <;> simp at h3
    obtain ⟨rfl, _⟩ := h3
    exact ⟨_, rfl⟩
  obtain ⟨a, ha⟩ := key 0 (by omega)
  obtain ⟨b, hb⟩ := key 1 (by omega)
  refine ⟨(a, b), ?_, trivial⟩
  have e : cs = #[.int .u8 a, .int .u8 b] := by
    apply Array.ext (by simpa using hsz)
    intro i h1 h2
    have : i = 0 ∨ i = 1 := by omega
    rcases this with rfl | rfl
    · rw [Array.getElem?_eq_getElem h1] at ha
      simpa using Option.some.inj ha
    · rw [Array.getElem?_eq_getElem h1] at hb
      simpa using Option.some.inj hb
  rw [e]
  simp only [D]
  exact ⟨_, rfl, by simp [RdLs, RdL]⟩

end Go.Proofs.YtbhdiijibgdlnaaGreat
end
