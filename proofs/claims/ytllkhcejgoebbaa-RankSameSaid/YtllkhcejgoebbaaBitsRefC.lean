/-
  WALKS: the document's answer for bits, its kinds, and whether they may be. No condition.
-/
import Derived.Test.YtllkhcejgoebbaaBitsRefB
namespace Go.Proofs.Ytllkhcejgoebbaa
open Go.RowKit
namespace Fl

theorem e_mod (u : Nat) : ((u : Int) / 4503599627370496) % 2048 = ((eOf u : Nat) : Int) := rfl
theorem m_mod (u : Nat) : (u : Int) % 4503599627370496 = ((mOf u : Nat) : Int) := rfl

theorem rbits_any (b : Nat) (w : World) (hb : b < 2 * S) :
    Calls Try.prog 28 #[.float .f64 b] w fun e w' => e = .returned (.int .u64 (canon b : Nat)) ∧ w = w' := by
  unfold canon
  by_cases h : isNan b = true
  · rw [if_pos h]; exact rbits_nan b w hb h
  · rw [if_neg h]
    have hr : b % S ≤ I := by unfold isNan at h; simpa using h
    rw [wd_of b hb]
    generalize b % S = r at *
    generalize neg b = s
    rcases Nat.eq_zero_or_pos r with h0 | h0
    · subst h0; exact rbits_zero s w
    · rcases Nat.lt_or_ge r I with h1 | h1
      · exact rbits_fin s r w h0 h1
      · obtain rfl : r = I := by omega
        exact rbits_inf s w

set_option maxHeartbeats 400000 in
theorem rsame_any (a b : Nat) (w : World) (ha : a < 2 * S) (hb : b < 2 * S) :
    Calls Try.prog 16 #[.float .f64 a, .float .f64 b] w fun e w' => e = .returned (.bool (canon a == canon b)) ∧ w = w' := by
  have h := nat_beq (canon a) (canon b)
  have HA := Lib.hid (fun w => rbits_any a w ha)
  have HB := Lib.hid (fun w => rbits_any b w hb)
  go_enter Try.func16, Try.ntmps16
  go_wp2_with fail
  refine (HA.out _).mono ?_
  rintro e w1 ⟨rfl, rfl⟩
  go_wp2_with fail
  refine (HB.out _).mono ?_
  rintro e w2 ⟨rfl, rfl⟩
  go_wp2_with fail
  go_ret
  exact ⟨rfl, rfl⟩

end Fl
end Go.Proofs.Ytllkhcejgoebbaa
