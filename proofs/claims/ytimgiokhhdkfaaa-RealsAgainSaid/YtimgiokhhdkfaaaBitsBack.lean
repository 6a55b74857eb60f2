/-
  Of what bits make the bits are those, where they may be; of any number's bits the number is it: the walk of the law. No condition.
-/
import Derived.Test.YtimgiokhhdkfaaaBitsLive
import Derived.Test.YtimgiokhhdkfaaaOpen
namespace Go.Proofs.Ytimgiokhhdkfaaa
open Go.RowKit
namespace Fl

theorem float_any (u : Nat) (w : World) (hu : u < 2 * S) :
    Calls Try.prog 33 #[.int .u64 u] w fun e w' => (∃ b, e = .returned (.float .f64 b) ∧ b < 2 * S ∧ canon b = canon u ∧ isNan b = isNan u ∧ (isNan u = false → b = u)) ∧ Below w.heap.size w w' := by
  cases h : isNan u with
  | true =>
    refine (float_nan u w hu h).mono ?_
    rintro e w' ⟨⟨b, rfl, h1, h2⟩, hb⟩
    exact ⟨⟨b, rfl, h2, by rw [canon_nan h1, canon_nan h], h1, fun h => by cases h⟩, hb⟩
  | false =>
    refine (float_word u w hu h).mono ?_
    rintro e w' ⟨rfl, hb⟩
    exact ⟨⟨u, rfl, hu, rfl, h, fun _ => rfl⟩, hb⟩

theorem canon_word {u : Nat} (h : isNan u = false) : canon u = u := by unfold canon; rw [h]; rfl
theorem canonB_canon (u : Nat) : canonB (canon u) = true := by
  unfold canonB
  cases h : isNan u with
  | true => rw [canon_nan h]; decide +kernel
  | false => rw [canon_word h, h]; rfl
theorem canonB_true {u : Nat} (h : canonB u = true) : canon u = u := by
  cases hn : isNan u with
  | true =>
    unfold canonB at h
    rw [hn] at h
    rw [canon_nan hn]
    have : (u == nanU) = true := by simpa using h
    exact (beq_iff_eq.1 this).symm
  | false => exact canon_word hn
theorem canonB_false {u : Nat} (h : canonB u = false) : canon u = nanU := by
  cases hn : isNan u with
  | true => exact canon_nan hn
  | false => unfold canonB at h; rw [hn] at h; cases h

theorem order_self {b : Nat} (hb : b < 2 * S) (h : isNan b = false) : FloatKind.f64.format.order b b = some .eq := by
  have hr : b % S ≤ I := by unfold isNan at h; simpa using h
  have e := wd_of b hb
  have := fo_num (neg b) (neg b) hr hr
  rw [← e] at this
  rw [this]
  simp
theorem order_nan {b : Nat} (hb : b < 2 * S) (h : isNan b = true) : FloatKind.f64.format.order b b = none := order_nan_left b b hb h

theorem chain2 {a b c : World} (h : Below a.heap.size a b) (h' : Below b.heap.size b c) : Below a.heap.size a c := h.trans (h'.mono h.size)

/-- how a number stands to nought. -/
theorem zero_cases {b : Nat} (hb : b < 2 * S) (h : isNan b = false) :
    (∃ s, b = wd s 0) ∨ FloatKind.f64.format.order b 0 = some .lt ∨ FloatKind.f64.format.order b 0 = some .gt := by
  have hr : b % S ≤ I := by unfold isNan at h; simpa using h
  have e := wd_of b hb
  rcases Nat.eq_zero_or_pos (b % S) with h0 | h0
  · rw [h0] at e; exact .inl ⟨_, e⟩
  · rw [e]
    cases neg b
    · exact .inr (.inr (fo_pos h0 hr))
    · exact .inr (.inl (fo_neg h0 hr))

/-- one divided by nought. -/
theorem run_inverse (s : Bool) (w : World) : (binOp .quo 33 (.float .f64 4607182418800017408) (.float .f64 (wd s 0))).run Try.prog w = .ok (.float .f64 (wd s I)) w :=
  run_div (by cases s <;> decide +kernel) w
theorem order_inf (s : Bool) : FloatKind.f64.format.order (wd s I) (wd s I) = some .eq := by cases s <;> decide +kernel

end Fl
end Go.Proofs.Ytimgiokhhdkfaaa
