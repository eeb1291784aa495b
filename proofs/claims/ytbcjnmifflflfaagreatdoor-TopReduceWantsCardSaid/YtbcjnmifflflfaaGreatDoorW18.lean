/- Texts joined by a program: Yi, Yj, Yf, Yk, Yl. -/
import Derived.Test.YtbcjnmifflflfaaGreatDoorW17
import Derived.Test.YtbcjnmifflflfaaGreatDoorW14
import Derived.Test.YtbcjnmifflflfaaGreatDoorW15
import Derived.Test.YtbcjnmifflflfaaGreatDoorW16
set_option linter.unusedSimpArgs false
set_option linter.unusedVariables false

section
namespace Go.Proofs.YtbcjnmifflflfaaGreatDoor
set_option maxHeartbeats 1000000
set_option maxRecDepth 10000
def likeX (o : Option (List Int)) (x y : Signal) : Bool := match o with
  | none => true
  | some l => sameX (repE x.on l) (repE y.on l) && sameX (repE x.off l) (repE y.off l)
def likeAt (c : Control) (o : Option (List Int)) (x : Signal) (v : Int) : Bool := match c.signals[(v - firstC c).toNat]? with
  | some y => likeX o x y
  | none => false
def oldAt (o : Option (List Int)) (k : Int) : Int := match o with
  | none => 0
  | some l => l.getD k.toNat 0
def keyX (o : Option (List Int)) (k : Int) (x : Signal) : Value := keyV x.kind x.delay x.init (oldAt o k)
theorem like_at {c : Control} {o : Option (List Int)} {x y : Signal} {m : Nat} (hy : c.signals[m]? = some y) : likeAt c o x (firstC c + m) = likeX o x y := by
  unfold likeAt
  rw [show (firstC c + (m : Int) - firstC c).toNat = m by omega, hy]
theorem same_iff {n : Int} {l : List Int} {x y : Expr} (hx : RightE n x) (hy : RightE n y) (lx : lightE x = true) (ly : lightE y = true) : sameX (repE x l) (repE y l) = true ↔ repE x l = repE y l := by
  unfold sameX
  rw [rep_light hx, rep_light hy, lx, ly]
  simp [eqE_true]
theorem id_key {c : Control} {o : Option (List Int)} (hf : Fine c) {a b : Nat} {x y : Signal} (hx : c.signals[a]? = some x) (hy : c.signals[b]? = some y) :
    idK c o a = idK c o b ↔ keyX o (firstC c + a) x = keyX o (firstC c + b) y ∧ likeX o x y = true := by
  have rx := sig_right hf hx
  have ry := sig_right hf hy
  have lx := fine_light hf hx
  have ly := fine_light hf hy
  unfold idK
  rw [hx, hy, Option.map_some, Option.map_some, Option.some.injEq]
  unfold keyX
  rw [keyV_inj]
  cases o with
  | none => simp [lookK, oldAt, likeX]
  | some l =>
    simp only [lookK, oldAt, likeX, Look.mk.injEq, Option.map_some, Option.some.injEq, Bool.and_eq_true, same_iff rx.1 ry.1 lx.1 ly.1, same_iff rx.2 ry.2 lx.2 ly.2]
    constructor
    · rintro ⟨h1, h2, h3, h4, h5, h6⟩; exact ⟨⟨h1, h2, h3, h4⟩, h5, h6⟩
    · rintro ⟨⟨h1, h2, h3, h4⟩, h5, h6⟩; exact ⟨h1, h2, h3, h4, h5, h6⟩
structure Fam (c : Control) (o : Option (List Int)) (k : Nat) (fam : List Grp) : Prop where
  good : GoodG Tryz.prog 261 fam
  mem : ∀ g ∈ fam, ∀ v ∈ g.2.2, ∃ (n : Nat) (x : Signal), v = firstC c + n ∧ firstC c + n < k ∧ c.signals[n]? = some x ∧ ownQ c n ∧ leadN c o n = n ∧ keyX o (firstC c + n) x = g.1
  len : ∀ g ∈ fam, g.2.2.length ≤ k
  all : ∀ (n : Nat) (x : Signal), firstC c + n < k → c.signals[n]? = some x → ownQ c n → ∃ g ∈ fam, g.1 = keyX o (firstC c + n) x ∧ firstC c + leadN c o n ∈ g.2.2
theorem Fam.zero (c : Control) (o : Option (List Int)) (h0 : 0 ≤ firstC c) : Fam c o 0 [] :=
  ⟨⟨by simp, by simp⟩, by simp, by simp, by intro n x h; omega⟩
theorem Fam.skip {c : Control} {o : Option (List Int)} {k : Nat} {fam : List Grp} (h : Fam c o k fam) (hk : (k : Int) < firstC c ∨ rootP c k ≠ k) : Fam c o (k + 1) fam := by
  refine ⟨h.good, fun g hg v hv => ?_, fun g hg => Nat.le_succ_of_le (h.len g hg), fun n x hn hx ho => ?_⟩
  · obtain ⟨n, x, h1, h2, h3⟩ := h.mem g hg v hv
    exact ⟨n, x, h1, by omega, h3⟩
  · refine h.all n x ?_ hx ho
    rcases Int.lt_or_le (firstC c + n) k with h1 | h1
    · exact h1
    · have h2 : (k : Int) = firstC c + n := by omega
      rcases hk with hk | hk
      · omega
      · unfold ownQ at ho
        rw [← h2] at ho
        exact absurd ho hk
theorem own_divL {c : Control} {o : Option (List Int)} {k : Int} (h : rootP c k = k) : divL c o k = if k < firstC c then k else firstC c + leadN c o (k - firstC c).toNat := by
  unfold divL
  rw [h]
theorem own_at {c : Control} {o : Option (List Int)} {n : Nat} (h : ownQ c n) : divL c o (firstC c + n) = firstC c + leadN c o n := by
  rw [own_divL h, if_neg (by omega), show (firstC c + (n : Int) - firstC c).toNat = n by omega]
theorem Fam.lead {c : Control} {o : Option (List Int)} (hf : Fine c) {n : Nat} {fam : List Grp} {x : Signal} {k : Nat} (h : Fam c o k fam) (hk : (k : Int) = firstC c + n) (hx : c.signals[n]? = some x)
    (hn : ∀ g ∈ fam, g.1 = keyX o k x → ∀ v ∈ g.2.2, likeAt c o x v = false) : leadN c o n = n := by
  refine lead_is (Nat.le_refl _) (fun h => absurd h (Nat.lt_irrefl _)) rfl fun j hj ho e => ?_
  have hnl : n < c.signals.length := (List.getElem?_eq_some_iff.1 hx).1
  have hy : c.signals[j]? = some c.signals[j] := List.getElem?_eq_getElem (by omega)
  obtain ⟨g, hg, h1, h2⟩ := h.all j _ (by omega) hy ho
  obtain ⟨a, b, d, e2⟩ := lead_spec c o j
  have hz : c.signals[leadN c o j]? = some c.signals[leadN c o j] := List.getElem?_eq_getElem (by omega)
  have h3 := (id_key hf hy hx).1 e
  have h4 := (id_key hf hx hz).1 (e.symm.trans d.symm)
  have h5 := hn g hg (by rw [h1, h3.1, hk]) _ h2
  rw [like_at hz, h4.2] at h5
  cases h5
theorem Fam.hit {c : Control} {o : Option (List Int)} (hf : Fine c) {n : Nat} {a b : List Grp} {key h0 : Value} {xs : List Int} {x : Signal} {k : Nat} (h : Fam c o k (a ++ (key, h0, xs) :: b)) (hk : (k : Int) = firstC c + n) (hx : c.signals[n]? = some x) (ho : ownQ c n) (hkey : key = keyX o k x)
    {v : Int} (hv : v ∈ xs) (hl : likeAt c o x v = true) : v = divL c o k ∧ Fam c o (k + 1) (a ++ (key, h0, xs) :: b) := by
  obtain ⟨m, y, h1, h2, h3, h4, h5, h6⟩ := h.mem (key, h0, xs) (by simp) v hv
  subst h1
  rw [like_at h3] at hl
  have h6 : keyX o (firstC c + m) y = key := h6
  have e : idK c o n = idK c o m := (id_key hf hx h3).2 ⟨by rw [h6, hkey, hk], hl⟩
  have hL : leadN c o n = m := (lead_same e ho h4).trans h5
  have e1 : divL c o k = firstC c + m := by rw [hk, own_at ho, hL]
  refine ⟨e1.symm, h.good, fun g hg v hv => ?_, fun g hg => Nat.le_succ_of_le (h.len g hg), fun n' x' hn' hx' ho' => ?_⟩
  · obtain ⟨n, x, h1, h2, h3⟩ := h.mem g hg v hv
    exact ⟨n, x, h1, by omega, h3⟩
  · rcases Int.lt_or_le (firstC c + n') k with h7 | h7
    · exact h.all n' x' h7 hx' ho'
    · have h8 : n' = n := by omega
      subst h8
      rw [hx] at hx'
      cases hx'
      exact ⟨(key, h0, xs), by simp, by rw [← hk]; exact hkey, by rw [hL]; exact hv⟩
theorem nodup_mid {α β : Type} {f : α → β} {a b : List α} {g : α} (h : ((a ++ g :: b).map f).Nodup) : f g ∉ a.map f ∧ f g ∉ b.map f := by
  rw [List.map_append, List.map_cons, List.nodup_append] at h
  obtain ⟨h1, h2, h3⟩ := h
  refine ⟨fun hm => h3 _ hm _ (by simp) rfl, (List.nodup_cons.1 h2).1⟩
theorem Fam.keys {c : Control} {o : Option (List Int)} {k : Nat} {a b : List Grp} {g : Grp} (h : Fam c o k (a ++ g :: b)) : ∀ g' ∈ a ++ g :: b, g'.1 = g.1 → g' = g := by
  have hn := nodup_mid h.good.nodup
  intro g' hg' e
  rcases List.mem_append.1 hg' with h1 | h1
  · exact absurd (e ▸ List.mem_map.2 ⟨g', h1, rfl⟩) hn.1
  · rcases List.mem_cons.1 h1 with h1 | h1
    · exact h1
    · exact absurd (e ▸ List.mem_map.2 ⟨g', h1, rfl⟩) hn.2
theorem Fam.add {c : Control} {o : Option (List Int)} (hf : Fine c) {n : Nat} {a b : List Grp} {key h0 : Value} {xs : List Int} {x : Signal} {k : Nat} (h : Fam c o k (a ++ (key, h0, xs) :: b)) (hk : (k : Int) = firstC c + n) (hx : c.signals[n]? = some x) (ho : ownQ c n) (hkey : key = keyX o k x)
    (hn : ∀ v ∈ xs, likeAt c o x v = false) : divL c o k = k ∧ ∀ h1, Fam c o (k + 1) (a ++ (key, h1, xs ++ [(k : Int)]) :: b) := by
  have hL : leadN c o n = n := h.lead hf hk hx (by
    intro g hg e v hv
    have := h.keys g hg (e.trans hkey.symm)
    rw [this] at hv
    exact hn v hv)
  have hdl : divL c o k = k := by rw [hk, own_at ho, hL]
  refine ⟨hdl, fun h1 => ⟨⟨?_, ?_⟩, fun g hg v hv => ?_, ?_, fun n' x' hn' hx' ho' => ?_⟩⟩
  · have := h.good.nodup
    simpa using this
  · intro g hg
    rcases List.mem_append.1 hg with h2 | h2
    · exact h.good.good g (by simp [h2])
    · rcases List.mem_cons.1 h2 with rfl | h2
      · exact h.good.good (key, h0, xs) (by simp)
      · exact h.good.good g (by simp [h2])
  · have hold : ∀ g' ∈ a ++ (key, h0, xs) :: b, v ∈ g'.2.2 → g'.1 = g.1 → ∃ (n : Nat) (x : Signal), v = firstC c + n ∧ firstC c + n < (k + 1 : Nat) ∧ c.signals[n]? = some x ∧ ownQ c n ∧ leadN c o n = n ∧ keyX o (firstC c + n) x = g.1 := by
      intro g' hg' hv' e
      obtain ⟨n, x, h1, h2, h3⟩ := h.mem g' hg' v hv'
      rw [e] at h3
      exact ⟨n, x, h1, by omega, h3⟩
    rcases List.mem_append.1 hg with h2 | h2
    · exact hold g (by simp [h2]) hv rfl
    · rcases List.mem_cons.1 h2 with rfl | h2
      · rcases List.mem_append.1 hv with h3 | h3
        · exact hold (key, h0, xs) (by simp) h3 rfl
        · simp only [List.mem_cons, List.not_mem_nil, or_false] at h3
          exact ⟨n, x, by omega, by omega, hx, ho, hL, by rw [← hk]; exact hkey.symm⟩
      · exact hold g (by simp [h2]) hv rfl
  · intro g hg
    rcases List.mem_append.1 hg with h2 | h2
    · exact Nat.le_succ_of_le (h.len g (by simp [h2]))
    · rcases List.mem_cons.1 h2 with rfl | h2
      · have := h.len (key, h0, xs) (by simp)
        simp at this ⊢
        exact this
      · exact Nat.le_succ_of_le (h.len g (by simp [h2]))
  · rcases Int.lt_or_le (firstC c + n') k with h7 | h7
    · obtain ⟨g, hg, e1, e2⟩ := h.all n' x' h7 hx' ho'
      rcases List.mem_append.1 hg with h2 | h2
      · exact ⟨g, by simp [h2], e1, e2⟩
      · rcases List.mem_cons.1 h2 with rfl | h2
        · exact ⟨(key, h1, xs ++ [(k : Int)]), by simp, e1, List.mem_append.2 (.inl e2)⟩
        · exact ⟨g, by simp [h2], e1, e2⟩
    · have h8 : n' = n := by omega
      subst h8
      rw [hx] at hx'
      cases hx'
      exact ⟨(key, h1, xs ++ [(k : Int)]), by simp, by rw [← hk]; exact hkey, by rw [hL]; simp; omega⟩
theorem Fam.new {c : Control} {o : Option (List Int)} (hf : Fine c) {n : Nat} {fam : List Grp} {key : Value} {x : Signal} {k : Nat} (h : Fam c o k fam) (hk : (k : Int) = firstC c + n) (hx : c.signals[n]? = some x) (ho : ownQ c n) (hkey : key = keyX o k x)
    (hg0 : goodK Tryz.prog 261 key) (hn : key ∉ fam.map (·.1)) : divL c o k = k ∧ ∀ h1, Fam c o (k + 1) (fam ++ [(key, h1, [(k : Int)])]) := by
  have hL : leadN c o n = n := h.lead hf hk hx (by
    intro g hg e v hv
    exact absurd (List.mem_map.2 ⟨g, hg, e.trans hkey.symm⟩) hn)
  have hdl : divL c o k = k := by rw [hk, own_at ho, hL]
  refine ⟨hdl, fun h1 => ⟨⟨?_, ?_⟩, fun g hg v hv => ?_, ?_, fun n' x' hn' hx' ho' => ?_⟩⟩
  · rw [List.map_append, List.nodup_append]
    refine ⟨h.good.nodup, by simp, ?_⟩
    intro u hu w hw
    simp at hw
    subst hw
    exact fun e => hn (e ▸ hu)
  · intro g hg
    rcases List.mem_append.1 hg with h2 | h2
    · exact h.good.good g h2
    · simp only [List.mem_cons, List.not_mem_nil, or_false] at h2
      subst h2
      exact hg0
  · rcases List.mem_append.1 hg with h2 | h2
    · obtain ⟨n, x, h1, h2, h3⟩ := h.mem g h2 v hv
      exact ⟨n, x, h1, by omega, h3⟩
    · simp only [List.mem_cons, List.not_mem_nil, or_false] at h2
      subst h2
      simp at hv
      exact ⟨n, x, by omega, by omega, hx, ho, hL, by rw [← hk]; exact hkey.symm⟩
  · intro g hg
    rcases List.mem_append.1 hg with h2 | h2
    · exact Nat.le_succ_of_le (h.len g h2)
    · simp only [List.mem_cons, List.not_mem_nil, or_false] at h2
      subst h2
      simp
  · rcases Int.lt_or_le (firstC c + n') k with h7 | h7
    · obtain ⟨g, hg, e1, e2⟩ := h.all n' x' h7 hx' ho'
      exact ⟨g, by simp [hg], e1, e2⟩
    · have h8 : n' = n := by omega
      subst h8
      rw [hx] at hx'
      cases hx'
      exact ⟨(key, h1, [(k : Int)]), by simp, by rw [← hk]; exact hkey, by rw [hL]; simp; omega⟩
theorem Inv.fam {x : X} {H : Heap} {t : Nat} (h : Inv x H) : Inv x ((t, .seqs []) :: H) := by
  refine ⟨h.bd, ?_, ?_, List.pairwise_cons.2 ⟨?_, h.apart⟩⟩
  · intro p hp
    rcases List.mem_cons.1 hp with rfl | hp
    · exact ⟨by simp, .nil⟩
    · exact h.sat p hp
  · intro p hp b hb
    rcases List.mem_cons.1 hp with rfl | hp
    · obtain ⟨q, hq, _⟩ := hb
      cases hq
    · exact h.own p hp b hb
  · rintro p hp b ⟨q, hq, _⟩
    cases hq
theorem V.fact {P : Program} {C : Cfg} {c : Code} {E : Env} {H : Heap} {Q : PostQ} {p : Prop} (hp : ∀ x H0, Inv x (H ++ H0) → p) (h : p → V C c E H Q) : V C c E H Q := by
  intro hf x act H0 ms hx he
  exact h (hp x _ hx) hf x act H0 ms hx he
theorem row_hd {x : X} {e sz n : Nat} {h : Value} {xs : List Value} (hr : x.w.ownsRow 0 e sz h n xs) : isHd h := by
  rcases hr.2 with h2 | ⟨g, cap, cur, rfl, _⟩
  · exact ⟨_, _, _, h2.1⟩
  · exact ⟨_, _, _, rfl⟩
theorem inv_hd {x : X} {t u : Nat} {q : Sq} {l : List Sq} {H : Heap} (h : Inv x ((u, sq q) :: (t, .seqs l) :: H)) : ∀ s ∈ q :: l, isHd s.1 := by
  intro s hs
  rcases List.mem_cons.1 hs with rfl | hs
  · obtain ⟨xs, h1, _⟩ := h.sat (u, sq s) (by simp)
    exact row_hd h1
  · obtain ⟨xs, h1, _⟩ := (h.sat (t, .seqs l) (by simp)).1 s hs
    exact row_hd h1
def rF (g : Grp) : Sq := (g.2.1, 3, 1, g.2.2.map rI)
def nilS : Sq := (.slice none 0 0, 3, 1, [])
theorem Fam.at {c : Control} {o : Option (List Int)} (hf : Fine c) {n : Nat} {fam : List Grp} {x : Signal} {k : Nat} (h : Fam c o k fam) (hk : (k : Int) = firstC c + n) (hx : c.signals[n]? = some x) (ho : ownQ c n)
    {key : Value} (hkey : key = keyX o k x) (hg0 : goodK Tryz.prog 261 key) {q : Sq} {l sp : List Sq} (hp : (q :: l).Perm (fam.map rF ++ sp)) (hhd : ∀ s ∈ q :: l, isHd s.1) :
    ∃ (h0 : Value) (xs : List Int) (l' : List Sq) (fam1 : List Grp) (i : Nat),
      (∀ (X : X) (H : Heap), Inv X ((90, sq q) :: (91, .seqs l) :: H) → Inv X ((90, .seq h0 3 1 (xs.map rI)) :: (91, .seqs l') :: H)) ∧
      valM (findM Tryz.prog 261 (msF fam).toList key) = h0 ∧ isHd h0 ∧ xs.length ≤ k ∧ (∀ v ∈ xs, ∃ (n : Nat) (y : Signal), v = firstC c + n ∧ c.signals[n]? = some y) ∧
      entM Tryz.prog 261 (msF fam) fam.length key = (msF fam1, fam1.length, h0, i) ∧ hasB (msF fam1) i ∧
      (∀ v ∈ xs, likeAt c o x v = true → v = divL c o k ∧ Fam c o (k + 1) fam ∧ ∃ sp', ((h0, 3, 1, xs.map rI) :: l').Perm (fam.map rF ++ sp')) ∧
      ((∀ v ∈ xs, likeAt c o x v = false) → divL c o k = k ∧ ∀ h1, ∃ fam2, setB (msF fam1) i h1 = msF fam2 ∧ fam2.length = fam1.length ∧ Fam c o (k + 1) fam2 ∧ ∃ sp', ((h1, 3, 1, (xs ++ [(k : Int)]).map rI) :: l').Perm (fam2.map rF ++ sp')) := by
  by_cases hin : key ∈ fam.map (·.1)
  · obtain ⟨⟨key', h0, xs⟩, hg, rfl⟩ := List.mem_map.1 hin
    obtain ⟨a, b, rfl⟩ := List.append_of_mem hg
    have hn := (nodup_mid h.good.nodup).1
    have hga : ∀ g ∈ a, goodK Tryz.prog 261 g.1 := fun g hg => h.good.good g (by simp [hg])
    have hpm : ∀ (h1 : Value) (ys : List Int), (rF (key', h1, ys) :: (a.map rF ++ b.map rF ++ sp)).Perm ((a ++ (key', h1, ys) :: b).map rF ++ sp) := by
      intro h1 ys
      rw [List.map_append, List.map_cons, List.append_assoc, List.append_assoc, List.cons_append]
      exact List.perm_middle.symm
    have hp2 := hp.trans (hpm h0 xs).symm
    refine ⟨h0, xs, a.map rF ++ b.map rF ++ sp, a ++ (key', h0, xs) :: b, a.length, fun X H hi => inv_other (b := rF (key', h0, xs)) hp2 hi, ?_, ?_, h.len _ hg, ?_, ent_at look_law hg0 hga hn, (set_at (h' := h0) (xs' := xs)).1, ?_, ?_⟩
    · rw [find_at look_law hg0 hga hn]
      rfl
    · exact hhd (rF (key', h0, xs)) (hp2.mem_iff.2 (by simp))
    · intro v hv
      obtain ⟨n, y, h1, _, h3, _⟩ := h.mem _ hg v hv
      exact ⟨n, y, h1, h3⟩
    · intro v hv hl
      have h1 := h.hit hf hk hx ho hkey hv hl
      exact ⟨h1.1, h1.2, sp, hpm h0 xs⟩
    · intro hno
      have h1 := h.add hf hk hx ho hkey hno
      refine ⟨h1.1, fun h' => ⟨_, set_at.2, by simp, h1.2 h', sp, hpm h' _⟩⟩
  · refine ⟨.slice none 0 0, [], q :: l, fam ++ [(key, .slice none 0 0, [])], fam.length, fun X H hi => Inv.nil (inv_shut hi) ⟨rfl, rfl⟩, ?_, ⟨_, _, _, rfl⟩, Nat.zero_le _, by simp, ?_, (set_at (h' := .slice none 0 0) (xs' := [])).1, by simp, ?_⟩
    · rw [show (msF fam).toList = msL fam 0 from rfl, find_none look_law hg0 h.good.good hin 0]
      rfl
    · rw [ent_new look_law hg0 h.good.good hin]
      simp
    · intro _
      have h1 := h.new hf hk hx ho hkey hg0 hin
      refine ⟨h1.1, fun h' => ⟨_, (set_at (xs' := [(k : Int)])).2, by simp, h1.2 h', sp, ?_⟩⟩
      have e : List.map rF (fam ++ [(key, h', [(k : Int)])]) ++ sp = List.map rF fam ++ (h', 3, 1, ([] ++ [(k : Int)]).map rI) :: sp := by simp [rF]
      rw [e]
      exact (List.Perm.cons _ hp).trans List.perm_middle.symm
noncomputable def gL (c : Control) (o : Option (List Int)) (i : Int) : Int := if rootP c i = i then divL c o i else i
noncomputable def outA (c : Control) (o : Option (List Int)) (k : Nat) : List Int := (List.range (countC c).toNat).map fun i => if i < k then gL c o i else 0
noncomputable def outB (c : Control) (o : Option (List Int)) (k : Nat) : List Int := (List.range (countC c).toNat).map fun i => if i < k then divL c o i else gL c o i
theorem set_map {M k : Nat} {f g : Nat → Int} (hk : k < M) (h : ∀ i, i ≠ k → f i = g i) : ((List.range M).map f).set k (g k) = (List.range M).map g := by
  apply List.ext_getElem
  · simp
  · intro i h1 h2
    rw [List.getElem_set]
    simp only [List.length_map, List.length_range] at h2
    split
    · rename_i e
      subst e
      simp
    · rename_i e
      simp
      exact h i (fun h => e h.symm)
theorem outA_zero (c : Control) (o : Option (List Int)) : outA c o 0 = List.replicate (countC c).toNat 0 := by
  unfold outA
  apply List.ext_getElem <;> simp
theorem outA_set {c : Control} {o : Option (List Int)} {k : Nat} (hk : (k : Int) < countC c) : (outA c o k).set k (gL c o k) = outA c o (k + 1) := by
  have := set_map (M := (countC c).toNat) (k := k) (f := fun i => if i < k then gL c o i else 0) (g := fun i => if i < k + 1 then gL c o i else 0) (by omega) (by
    intro i hi
    by_cases h : i < k
    · simp [h, show i < k + 1 by omega]
    · simp [h, show ¬ i < k + 1 by omega])
  simpa [outA] using this
theorem outA_all {c : Control} {o : Option (List Int)} {k : Nat} (hk : countC c ≤ k) : outA c o k = outB c o 0 := by
  unfold outA outB
  apply List.map_congr_left
  intro i hi
  have := List.mem_range.1 hi
  simp [show i < k by omega]
theorem outB_set {c : Control} {o : Option (List Int)} {k : Nat} (hk : (k : Int) < countC c) : (outB c o k).set k (divL c o k) = outB c o (k + 1) := by
  have := set_map (M := (countC c).toNat) (k := k) (f := fun i => if i < k then divL c o i else gL c o i) (g := fun i => if i < k + 1 then divL c o i else gL c o i) (by omega) (by
    intro i hi
    by_cases h : i < k
    · simp [h, show i < k + 1 by omega]
    · simp [h, show ¬ i < k + 1 by omega])
  simpa [outB] using this
theorem outB_all {c : Control} {o : Option (List Int)} {k : Nat} (hk : countC c ≤ k) : outB c o k = divP c o := by
  unfold outB divP
  apply List.map_congr_left
  intro i hi
  have := List.mem_range.1 hi
  simp [show i < k by omega]
theorem outA_len (c : Control) (o : Option (List Int)) (k : Nat) : (outA c o k).length = (countC c).toNat := by simp [outA]
theorem outB_len (c : Control) (o : Option (List Int)) (k : Nat) : (outB c o k).length = (countC c).toNat := by simp [outB]
theorem outB_root {c : Control} (hf : Fine c) {o : Option (List Int)} {k m : Nat} (hk : (k : Int) < countC c) : (outB c o m)[(rootP c k).toNat]? = some (divL c o k) := by
  have hr := root_range hf _ (k : Int) (Nat.le_refl _) ⟨by omega, hk⟩
  have hrr : rootP c (rootP c k) = rootP c k := by rw [root_step hf hr.1, if_neg (by rw [hr.2]; decide)]
  have e : divL c o (rootP c k) = divL c o k := by unfold divL; rw [hrr]
  unfold outB
  rw [List.getElem?_map, List.getElem?_range (by omega), Option.map_some]
  have e2 : (((rootP c k).toNat : Nat) : Int) = rootP c k := Int.toNat_of_nonneg hr.1.1
  rw [e2]
  unfold gL
  rw [hrr]
  simp [e]
end Go.Proofs.YtbcjnmifflflfaaGreatDoor
end

section
namespace Go.Proofs.YtbcjnmifflflfaaGreatDoor
set_option maxHeartbeats 8000000
set_option maxRecDepth 10000
@[simp] theorem mp_look : mpT Tryz.prog 259 = none := by kernel_rfl
@[simp] theorem rm_look : rmT Tryz.prog 259 = some 261 := by kernel_rfl
theorem idxG_s (xs : List Int) (p : Int → Bool) (f : FuncId) (first caps : List A) (H : Heap) (hx : Sh xs) (hp : ∀ n ∈ xs, CallS Tryz.prog f (first ++ [aI n] ++ caps) H fun r H' => r = aB (p n) ∧ H' = H) :
    CallS Tryz.prog 192 [aIs xs, .fn f first caps] H fun r H' => r = aI (idxI (xs.findIdx? p)) ∧ H' = H := by
  refine CallS.rt (k := 1000) (CallS.dropP (callS_of Tryz.func192 rfl Tryz.ntmps192 (rs := [.tmp 4]) rfl (by kernel_rfl) (by simp) (by kernel_rfl) (K := fun r H' => r = aI (idxI (xs.findIdx? p)) ∧ subP (rt 1000 H) H') ?_) ?_)
  · simp
    refine V.for' [0, 1, 7] (fun i : Nat => [(8, aI i)]) (fun _ => rt 1000 H) (fun i => i ≤ xs.length ∧ NoF p (xs.take i)) (fun i => xs.length - i) 0 ⟨by simp, by simp, subP.refl _⟩ ?_
    rintro i ⟨hi, hI⟩
    by_cases hlt : i < xs.length
    · have h1 := List.getElem?_eq_getElem hlt
      have hs := findIdx_step (p := p) hI h1
      have hc := (hp xs[i] (List.getElem_mem hlt)).rt' (k := 1000)
      simp at hc
      simp [hlt, h1]
      refine hc.mono ?_
      rintro r H' ⟨H2, rfl, rfl, rfl⟩
      cases e : p xs[i]
      · simp
        exact ⟨by omega, i + 1, ⟨hlt, hs.1 e⟩, by omega, by simp, subP.refl _⟩
      · rw [hs.2 e]
        simp
        exact subP.refl _
    · obtain rfl : i = xs.length := by omega
      rw [findIdx_none hI]
      simp
      exact subP.refl _
  · rintro r H' ⟨rfl, h⟩
    exact ⟨_, h, _, rfl, rfl, rfl⟩
theorem perm_at {α : Type} (G : List α) (d : α) (n : Nat) (hn : G.length = n) (ix : List Nat) (h : ix.Perm (List.range n)) : (ix.map fun i => G.getD i d).Perm G := by
  subst hn
  have h1 := h.map fun i => G.getD i d
  refine h1.trans ?_
  have e : (List.range G.length).map (fun i => G.getD i d) = G := by
    apply List.ext_getElem
    · simp
    · intro i h1 h2
      simp [h2]
  rw [e]
theorem perm7 {α : Type} (a b c d e f g : α) : [c, b, g, a, d, e, f].Perm [a, b, c, d, e, f, g] := perm_at [a, b, c, d, e, f, g] a 7 rfl [2, 1, 6, 0, 3, 4, 5] (by decide)
theorem perm6 {α : Type} (a b c d e f : α) : [c, b, a, d, e, f].Perm [a, b, c, d, e, f] := perm_at [a, b, c, d, e, f] a 6 rfl [2, 1, 0, 3, 4, 5] (by decide)
theorem Ds.three {x : X} {a b c : A} {vs : List Value} (h : Ds x [a, b, c] vs) : ∃ u v w, vs = [u, v, w] ∧ D x a u ∧ D x b v ∧ D x c w := by
  rcases vs with _ | ⟨u, _ | ⟨v, _ | ⟨w, _ | ⟨z, l⟩⟩⟩⟩ <;> simp only [Ds, and_false] at h
  exact ⟨u, v, w, rfl, h.1, h.2.1, h.2.2.1⟩
theorem idx_lend {f : FuncId} {c : Control} {x : Signal} {o3 o3' : A} {h0 : Value} {xs : List Int} {b8 : Nat} {H2 : Heap} {r0 : A} (hr : flatV r0 = true) (h3 : ∀ (w1 w2 : X) v, w1.le w2 → D w1 o3 v → D w2 o3' v)
    (h2 : ∀ p ∈ H2, flatB p.2 = true) (h : CallS Tryz.prog 192 [aIs xs, .fn f [] [.rptr (encC c), o3', .rptr (encS x)]] H2 fun r H' => r = r0 ∧ H' = H2) :
    CallS Tryz.prog 192 [.own 90 h0, .fn f [] [.rptr (encC c), o3, .ptr 8 b8 0]] ([(90, .seq h0 3 1 (xs.map rI)), (8, .box b8 (sigA x))] ++ H2) fun r H' => r = r0 ∧ H' = H2 ++ [(90, .seq h0 3 1 (xs.map rI)), (8, .box b8 (sigA x))] := by
  refine CallS.lendF h ?_ ?_
  · intro X Y H0 vs hi hle hw hok hd
    obtain ⟨v, w, rfl, d1, d2⟩ := Ds.two hd
    have e1 := own_dat (e := 3) (sz := 1) (H := [(90, .seq h0 3 1 (xs.map rI)), (8, .box b8 (sigA x))]) hi hle hw hok (by simp) (allD_I xs) d1
    rw [rowsD_I] at e1
    refine ⟨e1, ?_, trivial⟩
    simp only [D] at d2 ⊢
    obtain ⟨fs, cs, e, d3, d4⟩ := d2
    refine ⟨fs, cs, e, d3.mono hle, ?_⟩
    obtain ⟨v1, v2, v3, e4, k1, k2, k3⟩ := Ds.three d4
    rw [e4]
    exact ⟨k1.mono hle, h3 _ _ _ hle k2, ptr_rptr (ls := encS x) (H := [(90, .seq h0 3 1 (xs.map rI)), (8, .box b8 (sigA x))]) hi hle hw hok (by simp) k3, trivial⟩
  · rintro r H' ⟨rfl, rfl⟩
    exact ⟨hr, h2, rfl, rfl⟩
theorem idx_none {c : Control} {x : Signal} {b3 b8 : Nat} {h0 : Value} {xs : List Int} (hf : Fine c) (hs : Sh xs) (hxs : ∀ v ∈ xs, ∃ (n : Nat) (y : Signal), v = firstC c + n ∧ c.signals[n]? = some y) :
    CallS Tryz.prog 192 [.own 90 h0, .fn 190 [] [.rptr (encC c), .ptr 3 b3 0, .ptr 8 b8 0]] ([(90, .seq h0 3 1 (xs.map rI)), (8, .box b8 (sigA x))] ++ [(3, .box b3 [.nils])])
      fun r H' => r = aI (idxI (xs.findIdx? (likeAt c none x))) ∧ H' = [(3, .box b3 [.nils])] ++ [(90, .seq h0 3 1 (xs.map rI)), (8, .box b8 (sigA x))] := by
  refine idx_lend rfl (fun X Y v hle hd => D.mono hle _ _ hd) (by simp [flatB, flatV]) (idxG_s xs _ _ _ _ _ hs ?_)
  intro v hv
  obtain ⟨m, y, rfl, hy⟩ := hxs v hv
  have e : likeAt c none x (firstC c + m) = true := by rw [like_at hy]; rfl
  rw [e]
  exact like_none c m x y b3 hf hy
theorem idx_some {c : Control} {l : List Int} {a : Nat} {x : Signal} {b8 : Nat} {h0 : Value} {xs : List Int} (hf : Fine c) (hc : OkC c) (ho : OkO c (some l)) (hx : c.signals[a]? = some x) (hs : Sh xs) (hxs : ∀ v ∈ xs, ∃ (n : Nat) (y : Signal), v = firstC c + n ∧ c.signals[n]? = some y) :
    CallS Tryz.prog 192 [.own 90 h0, .fn 190 [] [.rptr (encC c), .rptr [.sl (l.map encI)], .ptr 8 b8 0]] ([(90, .seq h0 3 1 (xs.map rI)), (8, .box b8 (sigA x))] ++ [])
      fun r H' => r = aI (idxI (xs.findIdx? (likeAt c (some l) x))) ∧ H' = [] ++ [(90, .seq h0 3 1 (xs.map rI)), (8, .box b8 (sigA x))] := by
  refine idx_lend rfl (fun X Y v hle hd => D.mono hle _ _ hd) (by simp) (idxG_s xs _ _ _ _ _ hs ?_)
  intro v hv
  obtain ⟨m, y, rfl, hy⟩ := hxs v hv
  rw [like_at hy]
  exact like_some c l a m x y hf hc hx hy ho
theorem key_look (k d : Int) (i : Bool) (o : Int) : keyA (.record [.int .i64 k, .int .i64 d, .bool i, .int .i64 o]) = some (keyV k d i o) := by simp [keyA, cellVs, cellV, keyV]
theorem divided_none (c : Control) (hf : Fine c) (hc : OkC c) : CallFn Tryz.prog 108 [aC c, .nils] (aIs (divP c none)) := by
  have hsm := hf.sm
  have hact := hf.act
  have hin := hf.inp
  have hsg := hf.sig
  have hcn : countC c = firstC c + c.signals.length := rfl
  have hfc : firstC c = 2 * c.actuators + c.inputs.length := rfl
  obtain ⟨M, hM⟩ : ∃ M : Nat, countC c = M := ⟨(countC c).toNat, by omega⟩
  refine callFz_of Tryz.func108 rfl Tryz.ntmps108 (rs := [.tmp 4]) rfl (by kernel_rfl) (by simp) (by kernel_rfl) ?_
  simp
  intro b3
  refine (linesQ_fn c hsm).s ?_
  simp [hM]
  intro u
  refine ⟨by omega, fun b16 => ?_⟩
  refine V.inv (H' := [(90, sq nilS), (91, .seqs []), (16, .raw b16 (.map (msF []) 0)), (15, .seq u 3 1 ((outA c none 0).map rI)), (3, .box b3 [.nils])]) ?_ ?_
  · intro x H0 h
    have h1 : Inv x ((90, .seq (.slice none 0 0) 3 1 []) :: (91, .seqs []) :: _) := Inv.nil (Inv.fam (t := 91) h) ⟨rfl, rfl⟩
    rw [outA_zero, hM]
    exact (by simpa [sq, nilS, msF, msL] using h1)
  refine V.forI (σ := Sq × List Sq × List Grp × List Sq) M [2, 3, 4, 5, 6, 18] (by simp; exact rfl) (fun k g => [(19, aI k)]) (fun k g => [(90, sq g.1), (91, .seqs g.2.1), (16, .raw b16 (.map (msF g.2.2.1) g.2.2.1.length)), (15, .seq u 3 1 ((outA c none k).map rI)), (3, .box b3 [.nils])])
    (fun k g => Fam c none k g.2.2.1 ∧ (g.1 :: g.2.1).Perm (g.2.2.1.map rF ++ g.2.2.2)) (nilS, [], [], [nilS]) ⟨Fam.zero c none (by omega), by simp⟩ (by simp) ⟨by simp; exact rfl, by simp⟩ ?_ ?_
  · rintro k ⟨q, l, fam, sp⟩ hk ⟨hF, hp⟩
    simp only at hF hp
    have ml := outA_len c none k
    have ms := outA_set (o := none) (k := k) (c := c) (by omega)
    have hkr : (0 : Int) ≤ k ∧ (k : Int) < countC c := by omega
    have hr := root_range hf _ (k : Int) (Nat.le_refl _) hkr
    have c1 := root_fn c k hf hkr
    have hgl : gL c none k = if rootP c k = k then divL c none k else k := rfl
    have hsk := hF.skip (k := k)
    rw [← ms]
    generalize outA c none k = outQ at *
    have hok : outQ[k]? = some outQ[k] := List.getElem?_eq_getElem (by omega)
    have hol : k < outQ.length := by omega
    generalize outQ[k] = ok at *
    generalize gL c none k = v at *
    have hown : rootP c (rootP c k) = rootP c k := by rw [root_step hf hr.1, if_neg (by rw [hr.2]; decide)]
    simp [hk, hol, hok]
    refine (firstQ_fn c hsm).s ?_
    simp
    refine GCall.fn (aI (rootP c k)) (fun h => ⟨h, c1⟩) ?_
    generalize hr0 : rootP c k = r at *
    by_cases h1 : (k : Int) < firstC c
    · have hv : v = k := by
        rw [hgl]
        split
        · rename_i e
          rw [own_divL (hr0.trans e), if_pos h1]
        · rfl
      simp [h1]
      exact ⟨by omega, q.1, q.2.1, q.2.2.1, q.2.2.2, l, fam, ⟨hsk (.inl h1), sp, hp⟩, rfl, rfl, ⟨rfl, rfl⟩, by rw [hv]⟩
    · by_cases h2 : r = k
      · subst h2
        obtain ⟨n, hn⟩ : ∃ n : Nat, (k : Int) = firstC c + n := ⟨((k : Int) - firstC c).toNat, by omega⟩
        have hnl : n < c.signals.length := by omega
        obtain ⟨x, hx1⟩ : ∃ x, c.signals[n]'hnl = x := ⟨_, rfl⟩
        have hx : c.signals[n]? = some x := by rw [List.getElem?_eq_getElem hnl, hx1]
        have ho : ownQ c n := by
          unfold ownQ
          rw [← hn]
          exact hr0
        have hox := hc.sigs _ (List.mem_of_getElem? hx)
        have hg0 : goodK Tryz.prog 261 (keyV x.kind x.delay x.init 0) := look_good x.init hox.kind hox.delay ⟨by decide, by decide⟩
        have e1 : (k : Int) - firstC c = n := by omega
        simp [h1]
        refine ⟨by omega, V.fact (P := Tryz.prog) (p := ∀ s ∈ q :: l, isHd s.1) (fun x H0 h => inv_hd h) fun hhd => ?_⟩
        obtain ⟨h0, xs, l', fam1, i, a1, a2, a3, a4, a5, a6, a7, a8, a9⟩ := hF.at hf hn hx ho (key := keyV x.kind x.delay x.init 0) rfl hg0 hp hhd
        have hgm := hF.good.map
        refine V.inv (H' := [(90, .seq h0 3 1 (xs.map rI)), (91, .seqs l'), (16, .raw b16 (.map (msF fam) fam.length)), (15, .seq u 3 1 ((outQ.map rI).set k [.dat (.int .i64 k)])), (3, .box b3 [.nils])]) (fun X H0 h => a1 X _ h) ?_
        refine V.draw (fun s => if s = 41 then some (.fn (aI (firstC c))) else none) (by kernel_rfl) (by kernel_rfl) (by simp) ?_
        simp [e1, hx, hx1, hnl, a2, a3, hgm, hg0, key_look]
        refine ⟨firstQ_fn c hsm, by omega, fun b8 b9 => ?_⟩
        refine (((idx_none (x := x) (b3 := b3) (b8 := b8) (h0 := h0) hf (by unfold Sh; omega) a5).frame (H1 := [(9, _), (91, _), (16, _), (15, _)])).perm (perm7 _ _ _ _ _ _ _)).mono ?_
        rintro r' H' ⟨_, ⟨rfl, rfl⟩, rfl⟩
        rw [if_pos rfl] at hgl
        cases hj : xs.findIdx? (likeAt c none x) with
        | some j =>
          obtain ⟨hjl, hjp, _⟩ := List.findIdx?_eq_some_iff_getElem.1 hj
          obtain ⟨w, hw⟩ : ∃ w, xs[j] = w := ⟨_, rfl⟩
          have hwm : w ∈ xs := by rw [← hw]; exact List.getElem_mem hjl
          have hwo : xs[j]? = some w := by rw [List.getElem?_eq_getElem hjl, hw]
          rw [hw] at hjp
          obtain ⟨d1, d2, sp', d3⟩ := a8 w hwm hjp
          simp [key_look, a2, a3, hgm, hg0, hjl, hw, hwo, hol]
          exact ⟨by omega, h0, 3, 1, xs.map rI, l', fam, ⟨d2, sp', d3⟩, rfl, rfl, ⟨rfl, rfl⟩, by rw [hgl, ← d1]⟩
        | none =>
          have hno : ∀ v ∈ xs, likeAt c none x v = false := by
            intro v hv
            have := (List.findIdx?_eq_none_iff.1 hj) v hv
            simpa using this
          obtain ⟨d1, d2⟩ := a9 hno
          simp [key_look, a3, hgm, hg0, a6, a7, hol]
          intro u1
          obtain ⟨fam2, f1, f2, f3, sp', f4⟩ := d2 u1
          have e2 : xs.map rI ++ [[.dat (.int .i64 (k : Int))]] = (xs ++ [(k : Int)]).map rI := by simp
          simp [hdrA, f1]
          exact ⟨by omega, by omega, u1, 3, 1, (xs ++ [(k : Int)]).map rI, l', fam2, ⟨f3, sp', f4⟩, by rw [e2]; rfl, rfl, ⟨rfl, f2.symm⟩, by rw [hgl, d1]⟩
      · have hv : v = k := by rw [hgl, if_neg h2]
        simp [h1, h2]
        exact ⟨by omega, by omega, q.1, q.2.1, q.2.2.1, q.2.2.2, l, fam, ⟨hsk (.inr h2), sp, hp⟩, rfl, rfl, ⟨rfl, rfl⟩, by rw [hv]⟩
  · rintro ⟨q, l, fam, sp⟩ ⟨hF, hp⟩
    simp only at hF hp
    rw [outA_all (by omega)]
    have hl0 : (outB c none 0).length = M := by rw [outB_len]; omega
    simp [hl0]
    refine V.forI (σ := Unit) M [2, 4, 5, 86] (by simp; exact rfl) (fun k _ => [(87, aI k)]) (fun k _ => [(15, .seq u 3 1 ((outB c none k).map rI))]) (fun _ _ => True) () trivial (by simp [outB_len, hM]) ⟨by simp; exact rfl, by simp⟩ ?_ ?_
    · rintro k - hk -
      have hkr : (0 : Int) ≤ k ∧ (k : Int) < countC c := by omega
      have ml := outB_len c none k
      have ms := outB_set (o := none) (k := k) (c := c) (by omega)
      have hr := root_range hf _ (k : Int) (Nat.le_refl _) hkr
      have c1 := root_fn c k hf hkr
      have hro := outB_root hf (o := none) (k := k) (m := k) (by omega)
      rw [← ms]
      generalize outB c none k = outQ at *
      generalize rootP c k = r at *
      generalize divL c none k = v at *
      have hol : k < outQ.length := by omega
      obtain ⟨w, hw⟩ : ∃ w, outQ[k]? = some w := ⟨_, List.getElem?_eq_getElem hol⟩
      simp [hk]
      refine c1.s ?_
      simp [hro, hw]
      omega
    · rintro - -
      rw [outB_all (by omega)]
      simp
theorem divided_some (c : Control) (od : List Int) (hf : Fine c) (hc : OkC c) (ho : OkO c (some od)) : CallFn Tryz.prog 108 [aC c, aIs od] (aIs (divP c (some od))) := by
  have hsm := hf.sm
  have hact := hf.act
  have hin := hf.inp
  have hsg := hf.sig
  obtain ⟨hol0, hoi⟩ := ho od rfl
  have hod : ∀ j, I64 (od.getD j 0) := by
    intro j
    rcases Nat.lt_or_ge j od.length with h | h
    · rw [List.getD_eq_getElem?_getD, List.getElem?_eq_getElem h]
      exact hoi _ (List.getElem_mem h)
    · rw [List.getD_eq_getElem?_getD, List.getElem?_eq_none h]
      exact ⟨by decide, by decide⟩
  have hcn : countC c = firstC c + c.signals.length := rfl
  have hfc : firstC c = 2 * c.actuators + c.inputs.length := rfl
  obtain ⟨M, hM⟩ : ∃ M : Nat, countC c = M := ⟨(countC c).toNat, by omega⟩
  refine callFz_of Tryz.func108 rfl Tryz.ntmps108 (rs := [.tmp 4]) rfl (by kernel_rfl) (by simp) (by kernel_rfl) ?_
  simp
  refine (linesQ_fn c hsm).s ?_
  simp [hM]
  intro u
  refine ⟨by omega, fun b16 => ?_⟩
  refine V.inv (H' := [(90, sq nilS), (91, .seqs []), (16, .raw b16 (.map (msF []) 0)), (15, .seq u 3 1 ((outA c (some od) 0).map rI))]) ?_ ?_
  · intro x H0 h
    have h1 : Inv x ((90, .seq (.slice none 0 0) 3 1 []) :: (91, .seqs []) :: _) := Inv.nil (Inv.fam (t := 91) h) ⟨rfl, rfl⟩
    rw [outA_zero, hM]
    exact (by simpa [sq, nilS, msF, msL] using h1)
  refine V.forI (σ := Sq × List Sq × List Grp × List Sq) M [2, 3, 4, 5, 6, 18] (by simp; exact rfl) (fun k g => [(19, aI k)]) (fun k g => [(90, sq g.1), (91, .seqs g.2.1), (16, .raw b16 (.map (msF g.2.2.1) g.2.2.1.length)), (15, .seq u 3 1 ((outA c (some od) k).map rI))])
    (fun k g => Fam c (some od) k g.2.2.1 ∧ (g.1 :: g.2.1).Perm (g.2.2.1.map rF ++ g.2.2.2)) (nilS, [], [], [nilS]) ⟨Fam.zero c (some od) (by omega), by simp⟩ (by simp) ⟨by simp; exact rfl, by simp⟩ ?_ ?_
  · rintro k ⟨q, l, fam, sp⟩ hk ⟨hF, hp⟩
    simp only at hF hp
    have ml := outA_len c (some od) k
    have ms := outA_set (o := some od) (k := k) (c := c) (by omega)
    have hkr : (0 : Int) ≤ k ∧ (k : Int) < countC c := by omega
    have hr := root_range hf _ (k : Int) (Nat.le_refl _) hkr
    have c1 := root_fn c k hf hkr
    have hgl : gL c (some od) k = if rootP c k = k then divL c (some od) k else k := rfl
    have hsk := hF.skip (k := k)
    rw [← ms]
    generalize outA c (some od) k = outQ at *
    have hok : outQ[k]? = some outQ[k] := List.getElem?_eq_getElem (by omega)
    have hol : k < outQ.length := by omega
    generalize outQ[k] = ok at *
    generalize gL c (some od) k = v at *
    have hown : rootP c (rootP c k) = rootP c k := by rw [root_step hf hr.1, if_neg (by rw [hr.2]; decide)]
    simp [hk, hol, hok]
    refine (firstQ_fn c hsm).s ?_
    simp
    refine GCall.fn (aI (rootP c k)) (fun h => ⟨h, c1⟩) ?_
    generalize hr0 : rootP c k = r at *
    by_cases h1 : (k : Int) < firstC c
    · have hv : v = k := by
        rw [hgl]
        split
        · rename_i e
          rw [own_divL (hr0.trans e), if_pos h1]
        · rfl
      simp [h1]
      exact ⟨by omega, q.1, q.2.1, q.2.2.1, q.2.2.2, l, fam, ⟨hsk (.inl h1), sp, hp⟩, rfl, rfl, ⟨rfl, rfl⟩, by rw [hv]⟩
    · by_cases h2 : r = k
      · subst h2
        obtain ⟨n, hn⟩ : ∃ n : Nat, (k : Int) = firstC c + n := ⟨((k : Int) - firstC c).toNat, by omega⟩
        have hnl : n < c.signals.length := by omega
        obtain ⟨x, hx1⟩ : ∃ x, c.signals[n]'hnl = x := ⟨_, rfl⟩
        have hx : c.signals[n]? = some x := by rw [List.getElem?_eq_getElem hnl, hx1]
        have how : ownQ c n := by
          unfold ownQ
          rw [← hn]
          exact hr0
        have hox := hc.sigs _ (List.mem_of_getElem? hx)
        have hg0 : goodK Tryz.prog 261 (keyV x.kind x.delay x.init (od.getD k 0)) := look_good x.init hox.kind hox.delay (hod k)
        have e1 : (k : Int) - firstC c = n := by omega
        have hon : od ≠ [] := by
          rintro rfl
          simp at hol0
          omega
        have hkd : k < od.length := by omega
        obtain ⟨okey, hok2⟩ : ∃ w, od[k]'hkd = w := ⟨_, rfl⟩
        have e5 : od.getD k 0 = okey := by rw [List.getD_eq_getElem?_getD, List.getElem?_eq_getElem hkd, hok2]; rfl
        have hkey : keyV x.kind x.delay x.init (od.getD k 0) = keyX (some od) k x := rfl
        rw [e5] at hkey hg0
        simp [h1]
        refine ⟨by omega, V.fact (P := Tryz.prog) (p := ∀ s ∈ q :: l, isHd s.1) (fun x H0 h => inv_hd h) fun hhd => ?_⟩
        obtain ⟨h0, xs, l', fam1, i, a1, a2, a3, a4, a5, a6, a7, a8, a9⟩ := hF.at hf hn hx how (key := keyV x.kind x.delay x.init okey) hkey hg0 hp hhd
        have hgm := hF.good.map
        refine V.inv (H' := [(90, .seq h0 3 1 (xs.map rI)), (91, .seqs l'), (16, .raw b16 (.map (msF fam) fam.length)), (15, .seq u 3 1 ((outQ.map rI).set k [.dat (.int .i64 k)]))]) (fun X H0 h => a1 X _ h) ?_
        refine V.draw (fun s => if s = 41 then some (.fn (aI (firstC c))) else none) (by kernel_rfl) (by kernel_rfl) (by simp) ?_
        simp [e1, hx, hx1, hnl, a2, a3, hgm, hg0, key_look, hon, hok2, hkd]
        refine ⟨firstQ_fn c hsm, by omega, fun b8 b9 => ?_⟩
        refine (((idx_some (x := x) (b8 := b8) (h0 := h0) hf hc ho hx (by unfold Sh; omega) a5).frame (H1 := [(9, _), (91, _), (16, _), (15, _)])).perm (perm6 _ _ _ _ _ _)).mono ?_
        rintro r' H' ⟨_, ⟨rfl, rfl⟩, rfl⟩
        rw [if_pos rfl] at hgl
        cases hj : xs.findIdx? (likeAt c (some od) x) with
        | some j =>
          obtain ⟨hjl, hjp, _⟩ := List.findIdx?_eq_some_iff_getElem.1 hj
          obtain ⟨w, hw⟩ : ∃ w, xs[j] = w := ⟨_, rfl⟩
          have hwm : w ∈ xs := by rw [← hw]; exact List.getElem_mem hjl
          have hwo : xs[j]? = some w := by rw [List.getElem?_eq_getElem hjl, hw]
          rw [hw] at hjp
          obtain ⟨d1, d2, sp', d3⟩ := a8 w hwm hjp
          simp [key_look, a2, a3, hgm, hg0, hjl, hw, hwo, hol]
          exact ⟨by omega, h0, 3, 1, xs.map rI, l', fam, ⟨d2, sp', d3⟩, rfl, rfl, ⟨rfl, rfl⟩, by rw [hgl, ← d1]⟩
        | none =>
          have hno : ∀ v ∈ xs, likeAt c (some od) x v = false := by
            intro v hv
            have := (List.findIdx?_eq_none_iff.1 hj) v hv
            simpa using this
          obtain ⟨d1, d2⟩ := a9 hno
          simp [key_look, a3, hgm, hg0, a6, a7, hol]
          intro u1
          obtain ⟨fam2, f1, f2, f3, sp', f4⟩ := d2 u1
          have e2 : xs.map rI ++ [[.dat (.int .i64 (k : Int))]] = (xs ++ [(k : Int)]).map rI := by simp
          simp [hdrA, f1]
          exact ⟨by omega, by omega, u1, 3, 1, (xs ++ [(k : Int)]).map rI, l', fam2, ⟨f3, sp', f4⟩, by rw [e2]; rfl, rfl, ⟨rfl, f2.symm⟩, by rw [hgl, d1]⟩
      · have hv : v = k := by rw [hgl, if_neg h2]
        simp [h1, h2]
        exact ⟨by omega, by omega, q.1, q.2.1, q.2.2.1, q.2.2.2, l, fam, ⟨hsk (.inr h2), sp, hp⟩, rfl, rfl, ⟨rfl, rfl⟩, by rw [hv]⟩
  · rintro ⟨q, l, fam, sp⟩ ⟨hF, hp⟩
    simp only at hF hp
    rw [outA_all (by omega)]
    have hl0 : (outB c (some od) 0).length = M := by rw [outB_len]; omega
    simp [hl0]
    refine V.forI (σ := Unit) M [2, 4, 5, 86] (by simp; exact rfl) (fun k _ => [(87, aI k)]) (fun k _ => [(15, .seq u 3 1 ((outB c (some od) k).map rI))]) (fun _ _ => True) () trivial (by simp [outB_len, hM]) ⟨by simp; exact rfl, by simp⟩ ?_ ?_
    · rintro k - hk -
      have hkr : (0 : Int) ≤ k ∧ (k : Int) < countC c := by omega
      have ml := outB_len c (some od) k
      have ms := outB_set (o := some od) (k := k) (c := c) (by omega)
      have hr := root_range hf _ (k : Int) (Nat.le_refl _) hkr
      have c1 := root_fn c k hf hkr
      have hro := outB_root hf (o := some od) (k := k) (m := k) (by omega)
      rw [← ms]
      generalize outB c (some od) k = outQ at *
      generalize rootP c k = r at *
      generalize divL c (some od) k = v at *
      have hol : k < outQ.length := by omega
      obtain ⟨w, hw⟩ : ∃ w, outQ[k]? = some w := ⟨_, List.getElem?_eq_getElem hol⟩
      simp [hk]
      refine c1.s ?_
      simp [hro, hw]
      omega
    · rintro - -
      rw [outB_all (by omega)]
      simp
end Go.Proofs.YtbcjnmifflflfaaGreatDoor
end

section
namespace Go.Proofs.YtbcjnmifflflfaaGreatDoor
set_option maxHeartbeats 4000000
set_option maxRecDepth 10000
end Go.Proofs.YtbcjnmifflflfaaGreatDoor
end

section
namespace Go.Proofs.YtbcjnmifflflfaaGreatDoor
set_option maxHeartbeats 8000000
set_option maxRecDepth 10000
theorem okO_cls {c : Control} (hf : Fine c) (k : Nat) : OkO c (some (clsP c k)) := by
  intro l h
  cases h
  have h0 : 0 ≤ firstC c := by have := hf.act; unfold firstC; omega
  have hcn : countC c ≤ 1000 := by have := hf.act; have := hf.inp; have := hf.sig; unfold countC; omega
  refine ⟨cls_length h0 k, fun v hv => ?_⟩
  have := cls_mem hf hv
  exact ⟨by omega, by omega⟩
theorem cls_sh {c : Control} (hf : Fine c) (k : Nat) : Sh (clsP c k) := by
  have h0 : 0 ≤ firstC c := by have := hf.act; unfold firstC; omega
  have := cls_length h0 k
  have hcn : countC c ≤ 1000 := by have := hf.act; have := hf.inp; have := hf.sig; unfold countC; omega
  unfold Sh
  omega
theorem classes_fn (c : Control) (hf : Fine c) (hc : OkC c) : CallFn Tryz.prog 53 [aC c] (aIs (alikeC c)) := by
  refine callFz_of Tryz.func53 rfl Tryz.ntmps53 (rs := [.tmp 2]) rfl (by kernel_rfl) (by simp) (by kernel_rfl) ?_
  simp
  refine (divided_none c hf hc).s ?_
  simp
  refine V.for' [1] (fun k : Nat => [(3, aIs (clsP c k)), (2, .nils)]) (fun _ => []) (fun k => k ≤ leads c (clsO c k)) (fun k => c.signals.length - k) 0 ⟨Nat.zero_le _, by simp [clsP, clsO], subP.refl _⟩ ?_
  rintro k hk
  have c1 := divided_some c (clsP c k) hf hc (okO_cls hf k)
  rw [← cls_succ] at c1
  have c2 := eqI_fn (clsP c (k + 1)) (clsP c k) (cls_sh hf _) (cls_sh hf _)
  have hm := cls_more hf hk
  have ha := cls_alike hk
  have hle := leads_le c (clsO c (k + 1))
  generalize hP : clsP c (k + 1) = p at *
  generalize hQ : clsP c k = q at *
  simp
  refine c1.s ?_
  simp
  refine c2.s ?_
  by_cases h : p = q
  · simp [h, ha h]
  · simp [h]
    have h1 := hm h
    exact ⟨k + 1, h1, by omega, by rw [hP], subP.refl _⟩
end Go.Proofs.YtbcjnmifflflfaaGreatDoor
end

section
namespace Go.Proofs.YtbcjnmifflflfaaGreatDoor
set_option maxHeartbeats 8000000
set_option maxRecDepth 10000
def mapK (ns : List Int) : List (L × L) := ns.map fun n => (.int .i64 n, .bool true)
theorem mget_K (n : Int) : ∀ ns : List Int, mget (mapK ns) (.int .i64 n) = if n ∈ ns then some (.bool true) else none
  | [] => rfl
  | m :: ns => by
    have ih := mget_K n ns
    simp only [mapK, List.map_cons, mget, leq] at ih ⊢
    by_cases h : m = n
    · simp [h]
    · have h2 : ¬ n = m := fun e => h e.symm
      simp [h, h2]
      simpa using ih
theorem mput_K {n : Int} : ∀ {ns : List Int}, n ∉ ns → mput (mapK ns) (.int .i64 n) (.bool true) = mapK (ns ++ [n])
  | [], _ => rfl
  | m :: ns, h => by
    have h1 : ¬ m = n := fun e => h (by simp [e])
    have ih := mput_K (n := n) (ns := ns) fun hm => h (by simp [hm])
    simp only [mapK, List.map_cons, List.cons_append, mput, leq] at ih ⊢
    simp [h1]
    simpa using ih
theorem nodup_len : ∀ {l m : List Int}, l.Nodup → (∀ v ∈ l, v ∈ m) → l.length ≤ m.length
  | [], _, _, _ => Nat.zero_le _
  | v :: l, m, hn, hs => by
    have h1 := List.nodup_cons.1 hn
    have h2 := nodup_len (l := l) (m := m.erase v) h1.2 (by
      intro w hw
      have hne : w ≠ v := fun e => h1.1 (e ▸ hw)
      exact (List.mem_erase_of_ne hne).2 (hs w (by simp [hw])))
    have h3 := hs v (by simp)
    rw [List.length_erase_of_mem h3] at h2
    have : 0 < m.length := List.length_pos_of_mem h3
    simp only [List.length_cons]
    omega
structure Grown (c : Control) (ns ns' : List Int) : Prop where
  sub : ∀ v ∈ ns, v ∈ ns'
  nodup : ns'.Nodup
  closed : ∀ v ∈ ns', v ∉ ns → ∀ u ∈ useL c v, firstC c ≤ clsL c u → clsL c u ∈ ns'
  need : ∀ v ∈ ns', Need c v
theorem Grown.refl {c : Control} {ns : List Int} (h1 : ns.Nodup) (h2 : ∀ v ∈ ns, Need c v) : Grown c ns ns := ⟨fun _ h => h, h1, fun _ h k => absurd h k, h2⟩
theorem Grown.trans {c : Control} {ns ns1 ns2 : List Int} (h : Grown c ns ns1) (k : Grown c ns1 ns2) : Grown c ns ns2 := by
  refine ⟨fun v hv => k.sub v (h.sub v hv), k.nodup, fun v hv hn u hu h1 => ?_, k.need⟩
  by_cases h2 : v ∈ ns1
  · exact k.sub _ (h.closed v h2 hn u hu h1)
  · exact k.closed v hv h2 u hu h1
theorem grown_all {c : Control} {ns : List Int} (h : Grown c [] ns) (hp : ∀ p, p ∈ c.plus ∨ p ∈ c.minus → firstC c ≤ clsL c p → clsL c p ∈ ns) : ∀ v, Need c v ↔ v ∈ ns := by
  intro v
  refine ⟨fun hv => ?_, h.need v⟩
  induction hv with
  | pilot h1 h2 => exact hp _ h1 h2
  | use h1 h2 h3 ih => exact h.closed _ ih (by simp) _ h2 h3
noncomputable abbrev capM (c : Control) (b5 b6 : Nat) : List A := [.rptr [.sl ((alikeC c).map encI)], .rptr (encC c), .ptr 5 b5 0, .ptr 6 b6 0]
noncomputable abbrev mkH (c : Control) (b5 b6 r : Nat) (ns : List Int) : Heap := [(6, .box b6 [.fn 109 [] (capM c b5 b6)]), (5, .box b5 [.map 10 r]), (10, .map r (.int .i64) (mapK ns))]
@[simp] theorem mp_ib : mpT Tryz.prog 166 = some (.int .i64, .bool false) := by kernel_rfl
theorem usesLen {c : Control} (hf : Fine c) {i : Nat} {s : Signal} (hi : c.signals[i]? = some s) : (usesL s).length ≤ 1000 := by
  rw [used_met hf hi]
  have := metB_len (countC c).toNat fun k => occE s.on k || occE s.off k
  have h2 : countC c ≤ 1000 := by have := hf.act; have := hf.inp; have := hf.sig; unfold countC; omega
  omega
theorem mark_s (c : Control) (hf : Fine c) (hc : OkC c) (hp : PilC c) (hz : checkC c = 0) (b5 b6 r : Nat) : ∀ (N : Nat) (ns : List Int) (line : Int), (needL c).length - ns.length < N → 0 ≤ line ∧ line < countC c → ns.Nodup → (∀ v ∈ ns, Need c v) → (firstC c ≤ clsL c line → Need c (clsL c line)) →
    CallS Tryz.prog 109 (aI line :: capM c b5 b6) (mkH c b5 b6 r ns) fun z H' => ∃ ns', z = .tuple [] ∧ H' = mkH c b5 b6 r ns' ∧ Grown c ns ns' ∧ (firstC c ≤ clsL c line → clsL c line ∈ ns')
  | 0, _, _, h, _, _, _, _ => absurd h (Nat.not_lt_zero _)
  | N + 1, ns, line, hN, hl, hnd, hne, hnl => by
    have hcl := cls_at hf hl
    have hcr := cls_range hf hl
    have hcn := count_first c
    have h0 := hf.f0
    have hal := alike_len hf
    refine CallS.dropP (callS_of Tryz.func109 rfl Tryz.ntmps109 (rs := []) rfl (by kernel_rfl) (by simp) (by kernel_rfl) (K := fun z H' => ∃ ns', z = .tuple [] ∧ (Grown c ns ns' ∧ (firstC c ≤ clsL c line → clsL c line ∈ ns')) ∧ subP (mkH c b5 b6 r ns') H') ?_) (fun z H' ⟨ns', h1, h2, h3⟩ => ⟨_, h3, ns', h1, rfl, h2⟩)
    generalize hq : clsL c line = q at *
    have hlt : line < (alikeC c).length := by omega
    have hlt2 : line.toNat < (alikeC c).length := by omega
    have hcl1 : (alikeC c)[line.toNat]'hlt2 = q := by
      rw [List.getElem?_eq_getElem hlt2] at hcl
      exact Option.some.inj hcl
    simp [hcl, hcl1, hl.1, hlt]
    refine (firstQ_fn c hf.sm).s ?_
    by_cases h1 : q < firstC c
    · by_cases h2 : q ∈ ns
      all_goals
        simp [mget_K, hcl1, h1, h2]
        exact ⟨ns, ⟨.refl hnd hne, fun h => absurd h (by omega)⟩, subP.refl _⟩
    · by_cases h2 : q ∈ ns
      · simp [mget_K, hcl1, h1, h2]
        exact ⟨ns, ⟨.refl hnd hne, fun _ => h2⟩, subP.refl _⟩
      · have hnq : Need c q := hnl (by omega)
        obtain ⟨n, x, k1, k2, k3, k4, k5⟩ := need_sig hf hp hnq
        have hu := Uses_fn c q hc
        have hue : usesP c q = (usesL x, 0) := usesP_sig hz (by omega) (by omega) h0 (by rw [k1, show (firstC c + (n : Int) - firstC c).toNat = n by omega]; exact k2)
        rw [hue, ← k5] at hu
        have hur : ∀ u ∈ useL c q, 0 ≤ u ∧ u < countC c := fun u h => use_range hf h
        have hul : (useL c q).length ≤ 1000 := by rw [k5]; exact usesLen hf k2
        have hnd2 : (ns ++ [q]).Nodup := List.nodup_append.2 ⟨hnd, by simp, by intro a ha b hb e; simp at hb; exact h2 (by rw [← hb, ← e]; exact ha)⟩
        have hne2 : ∀ v ∈ ns ++ [q], Need c v := by
          intro v hv
          rcases List.mem_append.1 hv with h | h
          · exact hne v h
          · simp at h; rw [h]; exact hnq
        have hlen : (ns ++ [q]).length ≤ (needL c).length := nodup_len hnd2 fun v hv => (mem_need hf hp).2 (hne2 v hv)
        simp only [List.length_append, List.length_cons, List.length_nil] at hlen
        have hus : ∀ u ∈ useL c q, firstC c ≤ clsL c u → Need c (clsL c u) := fun u hu h => .use hnq hu h
        have ih := mark_s c hf hc hp hz b5 b6 r N
        generalize hU : useL c q = us at *
        simp [mget_K, hcl1, h1, h2, mput_K]
        refine hu.s ?_
        simp
        refine V.for' [4, 31, 32] (fun p : Nat × List Int => [(33, aI p.1)]) (fun p => mkH c b5 b6 r p.2)
          (fun p => p.1 ≤ us.length ∧ Grown c (ns ++ [q]) p.2 ∧ ∀ u ∈ us.take p.1, firstC c ≤ clsL c u → clsL c u ∈ p.2) (fun p => us.length - p.1) (0, ns ++ [q]) ⟨⟨Nat.zero_le _, .refl hnd2 hne2, by simp⟩, by simp, subP.refl _⟩ ?_
        rintro ⟨i, ns1⟩ ⟨hi, hG, hI⟩
        simp only at hi hG hI
        by_cases hlt3 : i < us.length
        · obtain ⟨u, hu1⟩ : ∃ u, us[i]'hlt3 = u := ⟨_, rfl⟩
          have huo : us[i]? = some u := by rw [List.getElem?_eq_getElem hlt3, hu1]
          have hum : u ∈ us := List.mem_of_getElem? huo
          have hl1 := nodup_len (l := ns ++ [q]) (m := ns1) hnd2 hG.sub
          simp only [List.length_append, List.length_cons, List.length_nil] at hl1
          have hl2 : ns1.length ≤ (needL c).length := nodup_len hG.nodup fun v hv => (mem_need hf hp).2 (hG.need v hv)
          have ih1 := ih ns1 u (by omega) (hur u hum) hG.nodup hG.need (hus u hum)
          simp [hlt3, hu1]
          refine ih1.mono ?_
          rintro z H' ⟨ns2, rfl, rfl, hG2, hI2⟩
          simp
          refine ⟨by omega, i + 1, ns2, ⟨hlt3, hG.trans hG2, ?_⟩, by omega, by simp, subP.refl _⟩
          intro w hw hw1
          rw [List.take_add_one, huo] at hw
          rcases List.mem_append.1 hw with h | h
          · exact hG2.sub _ (hI w h hw1)
          · simp at h
            subst h
            exact hI2 hw1
        · obtain rfl : i = us.length := by omega
          rw [List.take_length] at hI
          simp
          refine ⟨ns1, ⟨⟨fun v hv => hG.sub v (by simp [hv]), hG.nodup, fun v hv hvn w hw hw1 => ?_, hG.need⟩, fun _ => hG.sub q (by simp)⟩, subP.refl _⟩
          by_cases hvq : v = q
          · subst hvq
            rw [hU] at hw
            exact hI w hw hw1
          · exact hG.closed v hv (by simp [hvn, hvq]) w hw hw1
end Go.Proofs.YtbcjnmifflflfaaGreatDoor
end
