/-
  PLAIN: keys of numbers, as whole numbers: which keys are a number's, and what lies between two. No program in sight.
-/
import Derived.Test.YtllkhcejgoebbaaBitsRefN
namespace Go.Proofs.Ytllkhcejgoebbaa
namespace Fl

/-- the key of a number. -/
def keyN (b : Nat) : Nat := if canon b < S then canon b + S else 2 * S - 1 - canon b
/-- the bits that a key tells. -/
def unk (k : Nat) : Nat := if k < S then 2 * S - 1 - k else k - S
/-- whether a key is a number's. -/
def okK (k : Nat) : Bool := canonB (unk k)
/-- how two keys stand. -/
def cmpN (x y : Nat) : Int := if x < y then -1 else if y < x then 1 else 0
/-- the key in the middle of two. -/
def mid (x y : Nat) : Nat := min x y + (max x y - min x y) / 2
/-- whether there is a number in the middle. -/
def hasMid (x y : Nat) : Bool := decide (2 ≤ max x y - min x y) && okK (mid x y)

theorem S_val : S = 9223372036854775808 := rfl
theorem I_val : I = 9218868437227405312 := rfl
theorem nanU_val : nanU = 9221120237041090560 := rfl

theorem keyN_lt {b : Nat} (hb : b < 2 * S) : keyN b < 2 * S := by
  have := canon_lt hb
  unfold keyN
  split <;> omega
theorem unk_lt {k : Nat} (hk : k < 2 * S) : unk k < 2 * S := by
  unfold unk
  split <;> omega
theorem unk_key {b : Nat} (hb : b < 2 * S) : unk (keyN b) = canon b := by
  have := canon_lt hb
  unfold unk keyN
  split <;> split <;> omega
theorem key_of {a k : Nat} (hk : k < 2 * S) (h : canon a = unk k) : keyN a = k := by
  unfold keyN
  rw [h]
  unfold unk
  split <;> split <;> omega
theorem key_eq_iff {a b : Nat} (ha : a < 2 * S) (hb : b < 2 * S) : keyN a = keyN b ↔ canon a = canon b := by
  constructor
  · intro h; rw [← unk_key ha, ← unk_key hb, h]
  · intro h; unfold keyN; rw [h]

theorem nan_mod (u : Nat) : isNan u = decide (I < u % S) := rfl
theorem okK_iff {k : Nat} (hk : k < 2 * S) : okK k = true ↔ (S - 1 - I ≤ k ∧ k ≤ S + I) ∨ k = S + nanU := by
  unfold okK canonB
  rw [nan_mod]
  rw [Bool.or_eq_true, Bool.not_eq_true', decide_eq_false_iff_not, beq_iff_eq]
  unfold unk
  rcases Nat.lt_or_ge k S with h | h
  · rw [if_pos h]
    simp only [S_val, I_val, nanU_val] at hk h ⊢
    omega
  · rw [if_neg (Nat.not_lt.2 h)]
    simp only [S_val, I_val, nanU_val] at hk h ⊢
    omega
theorem okK_key {b : Nat} (hb : b < 2 * S) : okK (keyN b) = true := by
  unfold okK
  rw [unk_key hb]
  exact canonB_canon b
/-- a key beyond that of what is endless is that of no number. -/
theorem key_nan {b : Nat} (hb : b < 2 * S) : isNan b = decide (S + I < keyN b) := by
  have hS := S_val
  have hI := I_val
  have hN := nanU_val
  cases h : isNan b with
  | true =>
    unfold keyN
    rw [canon_nan h, if_pos (by rw [hS, hN]; decide)]
    symm
    rw [decide_eq_true_iff]
    omega
  | false =>
    symm
    rw [decide_eq_false_iff_not]
    have h' := h
    rw [nan_mod, decide_eq_false_iff_not] at h'
    unfold keyN
    rw [canon_word h]
    clear hS hI hN
    rcases Nat.lt_or_ge b S with g | g
    · rw [if_pos g]
      simp only [S_val, I_val] at hb h' g ⊢
      omega
    · rw [if_neg (Nat.not_lt.2 g)]
      simp only [S_val, I_val] at hb h' g ⊢
      omega
theorem key_wd (s : Bool) {r : Nat} (h : r ≤ I) : (keyN (wd s r) : Int) = if s then (S : Int) - 1 - r else S + r := by
  have hS := S_val
  have hI := I_val
  unfold keyN
  rw [canon_wd s h]
  cases s
  · show ((if r < S then r + S else 2 * S - 1 - r : Nat) : Int) = (S : Int) + r
    rw [if_pos (by omega)]; omega
  · show ((if S + r < S then S + r + S else 2 * S - 1 - (S + r) : Nat) : Int) = (S : Int) - 1 - r
    rw [if_neg (by omega)]; omega

/-! ### what is between two -/
theorem mid_bounds {x y : Nat} (h : 2 ≤ max x y - min x y) : min x y < mid x y ∧ mid x y < max x y := by unfold mid; omega
theorem mid_lt {x y : Nat} (hx : x < 2 * S) (hy : y < 2 * S) : mid x y < 2 * S := by unfold mid; omega
theorem mid_comm (x y : Nat) : mid x y = mid y x := by unfold mid; rw [Nat.min_comm, Nat.max_comm]
theorem hasMid_comm (x y : Nat) : hasMid x y = hasMid y x := by unfold hasMid; rw [mid_comm, Nat.min_comm, Nat.max_comm]
theorem hasMid_true {x y : Nat} (h : hasMid x y = true) : 2 ≤ max x y - min x y ∧ okK (mid x y) = true := by
  unfold hasMid at h
  rw [Bool.and_eq_true, decide_eq_true_iff] at h
  exact h
theorem hasMid_false {x y : Nat} (h : hasMid x y = false) (h2 : 2 ≤ max x y - min x y) : okK (mid x y) = false := by
  unfold hasMid at h
  rw [decide_eq_true h2, Bool.true_and] at h
  exact h

theorem cmpN_lt {x y : Nat} (h : x < y) : cmpN x y = -1 := by unfold cmpN; rw [if_pos h]
theorem cmpN_gt {x y : Nat} (h : y < x) : cmpN x y = 1 := by unfold cmpN; rw [if_neg (by omega), if_pos h]
theorem cmpN_eq (x : Nat) : cmpN x x = 0 := by unfold cmpN; rw [if_neg (by omega), if_neg (by omega)]
theorem cmpN_cases (x y : Nat) : (cmpN x y = -1 ∧ x < y) ∨ (cmpN x y = 1 ∧ y < x) ∨ (cmpN x y = 0 ∧ x = y) := by
  rcases Nat.lt_trichotomy x y with h | h | h
  · exact .inl ⟨cmpN_lt h, h⟩
  · exact .inr (.inr ⟨by rw [h]; exact cmpN_eq y, h⟩)
  · exact .inr (.inl ⟨cmpN_gt h, h⟩)
theorem cmpN_swap (x y : Nat) : cmpN x y = -cmpN y x := by
  rcases cmpN_cases x y with ⟨h, h'⟩ | ⟨h, h'⟩ | ⟨h, h'⟩
  · rw [h, cmpN_gt h']
  · rw [h, cmpN_lt h']; decide
  · rw [h, h', cmpN_eq]; rfl
theorem cmpN_mid {x y : Nat} (h : hasMid x y = true) : cmpN x y ≠ 0 ∧ cmpN x (mid x y) = cmpN x y ∧ cmpN (mid x y) y = cmpN x y := by
  obtain ⟨h2, _⟩ := hasMid_true h
  obtain ⟨h3, h4⟩ := mid_bounds h2
  rcases Nat.lt_trichotomy x y with h | h | h
  · rw [Nat.min_eq_left (by omega)] at h3
    rw [Nat.max_eq_right (by omega)] at h4
    rw [cmpN_lt h, cmpN_lt h3, cmpN_lt h4]
    exact ⟨by decide, rfl, rfl⟩
  · rw [h, Nat.min_self, Nat.max_self] at h2
    omega
  · rw [Nat.min_eq_right (by omega)] at h3
    rw [Nat.max_eq_left (by omega)] at h4
    rw [cmpN_gt h, cmpN_gt h3, cmpN_gt h4]
    exact ⟨by decide, rfl, rfl⟩
/-- what is in the middle of two keys of numbers is a number. -/
theorem mid_number {a b : Nat} (ha : a < 2 * S) (hb : b < 2 * S) (h : hasMid (keyN a) (keyN b) = true) : mid (keyN a) (keyN b) ≤ S + I := by
  have hS := S_val
  have hI := I_val
  have hN := nanU_val
  obtain ⟨h2, h3⟩ := hasMid_true h
  obtain ⟨h4, h5⟩ := mid_bounds h2
  have ka := (okK_iff (keyN_lt ha)).1 (okK_key ha)
  have kb := (okK_iff (keyN_lt hb)).1 (okK_key hb)
  have km := (okK_iff (mid_lt (keyN_lt ha) (keyN_lt hb))).1 h3
  generalize keyN a = x at *
  generalize keyN b = y at *
  generalize mid x y = m at *
  omega
/-- where there is no number in the middle of two numbers, there is none between them. -/
theorem mid_none {a b f : Nat} (ha : a < 2 * S) (hb : b < 2 * S) (na : isNan a = false) (nb : isNan b = false) (h : hasMid (keyN a) (keyN b) = false) :
    (cmpN (keyN a) (keyN f) == cmpN (keyN a) (keyN b) && cmpN (keyN f) (keyN b) == cmpN (keyN a) (keyN b) && cmpN (keyN a) (keyN b) != 0) = false := by
  have hS := S_val
  have hI := I_val
  have hN := nanU_val
  rw [key_nan ha, decide_eq_false_iff_not] at na
  rw [key_nan hb, decide_eq_false_iff_not] at nb
  have ka := (okK_iff (keyN_lt ha)).1 (okK_key ha)
  have kb := (okK_iff (keyN_lt hb)).1 (okK_key hb)
  have kl := keyN_lt ha
  have kl' := keyN_lt hb
  have hlow : ¬ 2 ≤ max (keyN a) (keyN b) - min (keyN a) (keyN b) := by
    intro h2
    have hf := hasMid_false h h2
    obtain ⟨h4, h5⟩ := mid_bounds h2
    have hc : okK (mid (keyN a) (keyN b)) = true := by
      rw [okK_iff (mid_lt kl kl')]
      generalize keyN a = x at *
      generalize keyN b = y at *
      generalize mid x y = m at *
      left
      omega
    rw [hc] at hf
    cases hf
  generalize keyN a = x at *
  generalize keyN b = y at *
  generalize keyN f = z at *
  rcases cmpN_cases x y with ⟨e, h1⟩ | ⟨e, h1⟩ | ⟨e, h1⟩
  · rcases cmpN_cases x z with ⟨e2, h2⟩ | ⟨e2, h2⟩ | ⟨e2, h2⟩
    · rcases cmpN_cases z y with ⟨e3, h3⟩ | ⟨e3, h3⟩ | ⟨e3, h3⟩
      · omega
      · rw [e, e2, e3]; decide
      · rw [e, e2, e3]; decide
    · rw [e, e2]; rfl
    · rw [e, e2]; rfl
  · rcases cmpN_cases x z with ⟨e2, h2⟩ | ⟨e2, h2⟩ | ⟨e2, h2⟩
    · rw [e, e2]; rfl
    · rcases cmpN_cases z y with ⟨e3, h3⟩ | ⟨e3, h3⟩ | ⟨e3, h3⟩
      · rw [e, e2, e3]; decide
      · omega
      · rw [e, e2, e3]; decide
    · rw [e, e2]; rfl
  · rw [e]; simp

/-- the middle one is half as far. -/
theorem mid_half {x y p : Nat} (h : max x y - min x y ≤ 2 * p) (h2 : 2 ≤ max x y - min x y) : max x (mid x y) - min x (mid x y) ≤ p := by
  unfold mid
  omega

/-- numbers stand as they are. -/
theorem order_keys {a b : Nat} (ha : a < 2 * S) (hb : b < 2 * S) (na : isNan a = false) (nb : isNan b = false) :
    (FloatKind.f64.format.order a b = some .lt ∧ keyN a < keyN b) ∨ (FloatKind.f64.format.order a b = some .gt ∧ keyN b < keyN a) ∨ FloatKind.f64.format.order a b = some .eq := by
  have hS := S_val
  have hI := I_val
  rcases word_cases ha with h | ⟨s, r, rfl, hr⟩
  · rw [h] at na; cases na
  rcases word_cases hb with h | ⟨t, q, rfl, hq⟩
  · rw [h] at nb; cases nb
  have k1 := key_wd s hr
  have k2 := key_wd t hq
  rcases Int.lt_trichotomy (sg s r) (sg t q) with h | h | h
  · refine .inl ⟨fo_lt s t hr hq h, ?_⟩
    cases s <;> cases t <;> simp only [sg, if_true, Bool.false_eq_true, if_false] at h k1 k2 <;> omega
  · exact .inr (.inr (fo_eq s t hr hq h))
  · refine .inr (.inl ⟨fo_gt s t hr hq h, ?_⟩)
    cases s <;> cases t <;> simp only [sg, if_true, Bool.false_eq_true, if_false] at h k1 k2 <;> omega

end Fl
end Go.Proofs.Ytllkhcejgoebbaa
