/-
  WALKS: the document's answer for bits, its kinds, and whether they may be. No condition.
-/
import Derived.Test.YtimgiokhhdkfaaaBitsRefB
namespace Go.Proofs.Ytimgiokhhdkfaaa
open Go.RowKit
namespace Fl

theorem e_mod (u : Nat) : ((u : Int) / 4503599627370496) % 2048 = ((eOf u : Nat) : Int) := rfl
theorem m_mod (u : Nat) : (u : Int) % 4503599627370496 = ((mOf u : Nat) : Int) := rfl

theorem rbits_any (b : Nat) (w : World) (hb : b < 2 * S) :
    Calls Try.prog 24 #[.float .f64 b] w fun e w' => e = .returned (.int .u64 (canon b : Nat)) ∧ w = w' := by
  unfold canon
  by_cases h : isNan b = true
  · rw [if_pos h]; exact rbits_nan b w hb h
  · rw [if_neg h]
    have hr : b % S ≤ I := by unfold isNan at h; simpa using h
    rw [wd_of b hb]
    generalize b % S = r at *
    generalize neg b = s
    rcases Nat.eq_zero_or_pos r with h0 | h0
    · subst h0; exact rbits_zero s w
    · rcases Nat.lt_or_ge r I with h1 | h1
      · exact rbits_fin s r w h0 h1
      · obtain rfl : r = I := by omega
        exact rbits_inf s w

set_option maxHeartbeats 4000000 in
theorem rcanon_any (u : Nat) (w : World) (hu : u < 2 * S) :
    Calls Try.prog 36 #[.int .u64 u] w fun e w' => e = .returned (.bool (canonB u)) ∧ w = w' := by
  have hw := lt64 hu
  have a1 := e_mod u
  have a2 := m_mod u
  have HN := Lib.hid (nan_iff u)
  have HC := Lib.hid (show canonB u = (!isNan u || u == nanU) from rfl)
  have hE := e_lt u
  have HU := Lib.hid (nat_beq u nanU)
  generalize eOf u = E at *
  generalize mOf u = M at *
  by_cases h1 : E = 2047
  · subst h1
    by_cases h2 : M = 0
    · subst h2
      go_enter Try.func36, Try.ntmps36
      go_wp2_with fail
      go_ret
      exact ⟨by rw [HC.out, HN.out]; rfl, rfl⟩
    · have h3 : ((M : Int) == 0) = false := by rw [beq_eq_false_iff_ne]; omega
      replace h2 := Lib.hid h2
      have h4 : (((u : Nat) : Int) == 9221120237041090560) = (u == nanU) := HU.out
      have h5 : (M != 0) = true := by rw [bne_iff_ne]; exact h2.out
      replace h5 := Lib.hid h5
      generalize hq : (u == nanU) = q at *
      go_enter Try.func36, Try.ntmps36
      go_wp2_with fail
      refine (rnone_any _).mono ?_
      rintro e w' ⟨rfl, rfl⟩
      go_wp2_with fail
      go_ret
      exact ⟨by rw [HC.out, HN.out, h5.out]; rfl, rfl⟩
  · have h3 : ((E : Int) != 2047) = true := by rw [bne_iff_ne]; omega
    have h5 : (E == 2047) = false := by rw [beq_eq_false_iff_ne]; exact h1
    replace h5 := Lib.hid h5
    replace h1 := Lib.hid h1
    go_enter Try.func36, Try.ntmps36
    go_wp2_with fail
    go_ret
    exact ⟨by rw [HC.out, HN.out, h5.out]; rfl, rfl⟩


set_option maxHeartbeats 400000 in
theorem rsame_any (a b : Nat) (w : World) (ha : a < 2 * S) (hb : b < 2 * S) :
    Calls Try.prog 27 #[.float .f64 a, .float .f64 b] w fun e w' => e = .returned (.bool (canon a == canon b)) ∧ w = w' := by
  have h := nat_beq (canon a) (canon b)
  have HA := Lib.hid (fun w => rbits_any a w ha)
  have HB := Lib.hid (fun w => rbits_any b w hb)
  go_enter Try.func27, Try.ntmps27
  go_wp2_with fail
  refine (HA.out _).mono ?_
  rintro e w1 ⟨rfl, rfl⟩
  go_wp2_with fail
  refine (HB.out _).mono ?_
  rintro e w2 ⟨rfl, rfl⟩
  go_wp2_with fail
  go_ret
  exact ⟨rfl, rfl⟩

end Fl
end Go.Proofs.Ytimgiokhhdkfaaa
