/-
  Of two numbers without a minus the one with more bits is greater; with a minus, smaller: the walk of the law. No condition.
-/
import Derived.Test.YtimgiokhhdkfaaaBitsBack
namespace Go.Proofs.Ytimgiokhhdkfaaa
open Go.RowKit
namespace Fl

theorem wd_lt (s : Bool) {r : Nat} (h : r ≤ I) : wd s r < 2 * S := by
  have := I_lt_S
  unfold wd; split <;> omega
theorem not_nan (s : Bool) {r : Nat} (h : r ≤ I) : isNan (wd s r) = false := by
  have := I_lt_S
  have e : wd s r % S = r := by
    cases s
    · rw [wd_false, Nat.mod_eq_of_lt (by omega)]
    · show (S + r) % S = r
      rw [Nat.add_mod_left, Nat.mod_eq_of_lt (by omega)]
  unfold isNan
  rw [e]
  exact decide_eq_false (by omega)
theorem canon_wd (s : Bool) {r : Nat} (h : r ≤ I) : canon (wd s r) = wd s r := canon_word (not_nan s h)

theorem xor_sign (s : Bool) {r : Nat} (h : r ≤ I) : bits .xor .u64 ((wd s r : Nat) : Int) 9223372036854775808 = ((wd (!s) r : Nat) : Int) := by
  have hS : r < S := by have := I_lt_S; omega
  have e : (9223372036854775808 : Int) = ((S : Nat) : Int) := rfl
  rw [e, u64_xor_nat _ _ (lt64 (wd_lt s h)) (by decide)]
  congr 1
  obtain ⟨_, x1, x2⟩ := sign_add hS
  cases s
  · rw [wd_false, x1]; rfl
  · exact x2

theorem bits_wd (s : Bool) (r : Nat) (w : World) (h : r ≤ I) :
    Calls Try.prog 22 #[.float .f64 (wd s r)] w fun e w' => e = .returned (.int .u64 (wd s r : Nat)) ∧ Below w.heap.size w w' := by
  have := bits_any (wd s r) w (wd_lt s h)
  rw [canon_wd s h] at this
  exact this

theorem fo_lt (s t : Bool) {r q : Nat} (hr : r ≤ I) (hq : q ≤ I) (h : sg s r < sg t q) : FloatKind.f64.format.order (wd s r) (wd t q) = some .lt := by
  rw [fo_num s t hr hq, Int.compare_eq_lt.2 h]
theorem fo_gt (s t : Bool) {r q : Nat} (hr : r ≤ I) (hq : q ≤ I) (h : sg t q < sg s r) : FloatKind.f64.format.order (wd s r) (wd t q) = some .gt := by
  rw [fo_num s t hr hq, Int.compare_eq_gt.2 h]
theorem fo_eq (s t : Bool) {r q : Nat} (hr : r ≤ I) (hq : q ≤ I) (h : sg s r = sg t q) : FloatKind.f64.format.order (wd s r) (wd t q) = some .eq := by
  rw [fo_num s t hr hq, Int.compare_eq_eq.2 h]
theorem sg_t (r : Nat) : sg true r = -(r : Int) := rfl
theorem sg_f (r : Nat) : sg false r = (r : Int) := rfl

/-- what the law is told of two numbers with unlike signs. -/
theorem unlike_facts (s : Bool) {r q : Nat} (hr : r ≤ I) (hq : q ≤ I) :
    (s = true ∧ decide (wd (!s) q < wd s r) = true ∧ (FloatKind.f64.format.order (wd s r) (wd (!s) q) = some .lt ∨ FloatKind.f64.format.order (wd s r) (wd (!s) q) = some .eq)) ∨
    (s = false ∧ decide (wd (!s) q < wd s r) = false ∧
      ((FloatKind.f64.format.order (wd s r) (wd (!s) q) = some .eq ∧ FloatKind.f64.format.order (wd s r) 0 = some .eq ∧ FloatKind.f64.format.order (wd (!s) q) 0 = some .eq) ∨
       (FloatKind.f64.format.order (wd s r) (wd (!s) q) = some .gt ∧ FloatKind.f64.format.order (wd s r) 0 = some .gt) ∨
       (FloatKind.f64.format.order (wd s r) (wd (!s) q) = some .gt ∧ FloatKind.f64.format.order (wd s r) 0 = some .eq ∧ FloatKind.f64.format.order (wd (!s) q) 0 = some .lt))) := by
  have hS := I_lt_S
  cases s
  · refine .inr ⟨rfl, decide_eq_false (by show ¬ (S + q < wd false r); rw [wd_false]; omega), ?_⟩
    rcases Nat.eq_zero_or_pos r with h1 | h1
    · subst h1
      rcases Nat.eq_zero_or_pos q with h2 | h2
      · subst h2
        exact .inl ⟨fo_eq _ _ hr hq rfl, fo_zero _, fo_zero _⟩
      · exact .inr (.inr ⟨fo_gt _ _ hr hq (by show sg true q < sg false 0; rw [sg_t, sg_f]; omega), fo_zero _, fo_neg h2 hq⟩)
    · exact .inr (.inl ⟨fo_gt _ _ hr hq (by show sg true q < sg false r; rw [sg_t, sg_f]; omega), fo_pos h1 hr⟩)
  · refine .inl ⟨rfl, decide_eq_true (by show wd false q < S + r; rw [wd_false]; omega), ?_⟩
    rcases Nat.eq_zero_or_pos (r + q) with h1 | h1
    · exact .inr (fo_eq _ _ hr hq (by show sg true r = sg false q; rw [sg_t, sg_f]; omega))
    · exact .inl (fo_lt _ _ hr hq (by show sg true r < sg false q; rw [sg_t, sg_f]; omega))

/-- what the law is told of two numbers with one sign. -/
theorem like_facts (s : Bool) {r q : Nat} (hr : r ≤ I) (hq : q ≤ I) :
    (wd s r ≠ wd s q ∧ decide (wd s r < wd s q) = true ∧ decide (wd s q < wd s r) = false ∧ FloatKind.f64.format.order (wd s r) (wd s q) = if s then some .gt else some .lt) ∨
    (wd s r = wd s q ∧ FloatKind.f64.format.order (wd s r) (wd s q) = some .eq) ∨
    (wd s r ≠ wd s q ∧ decide (wd s r < wd s q) = false ∧ decide (wd s q < wd s r) = true ∧ FloatKind.f64.format.order (wd s r) (wd s q) = if s then some .lt else some .gt) := by
  have key : ∀ a b : Nat, (wd s a < wd s b ↔ a < b) := by
    intro a b
    cases s
    · rw [wd_false, wd_false]
    · show S + a < S + b ↔ a < b
      omega
  have k1 := key r q
  have k2 := key q r
  rcases Nat.lt_trichotomy r q with h | h | h
  · refine .inl ⟨by omega, decide_eq_true (by omega), decide_eq_false (by omega), ?_⟩
    cases s
    · exact fo_lt _ _ hr hq (by rw [sg_f, sg_f]; omega)
    · exact fo_gt _ _ hr hq (by rw [sg_t, sg_t]; omega)
  · subst h; exact .inr (.inl ⟨rfl, fo_eq _ _ hr hq rfl⟩)
  · refine .inr (.inr ⟨by omega, decide_eq_false (by omega), decide_eq_true (by omega), ?_⟩)
    cases s
    · exact fo_gt _ _ hr hq (by rw [sg_f, sg_f]; omega)
    · exact fo_lt _ _ hr hq (by rw [sg_t, sg_t]; omega)

end Fl
end Go.Proofs.Ytimgiokhhdkfaaa
