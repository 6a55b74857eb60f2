/-
  WALKS: what the document's answer for bits computes (bonsairef01). No condition.
-/
import Derived.Test.YtimgiokhhdkfaaaBitsOrder
namespace Go.Proofs.Ytimgiokhhdkfaaa
open Go.RowKit
namespace Fl

theorem rtop_any (w : World) : Calls Try.prog 45 #[] w fun e w' => e = .returned (.int .u64 9223372036854775808) ∧ w = w' := by
  go_enter Try.func45, Try.ntmps45
  go_wp2_with fail
  go_ret
  exact ⟨rfl, rfl⟩
theorem rnone_any (w : World) : Calls Try.prog 43 #[] w fun e w' => e = .returned (.int .u64 9221120237041090560) ∧ w = w' := by
  go_enter Try.func43, Try.ntmps43
  go_wp2_with fail
  go_ret
  exact ⟨rfl, rfl⟩

set_option maxHeartbeats 400000 in
theorem rminus_num (s : Bool) (r : Nat) (w : World) (hr : r ≤ I) :
    Calls Try.prog 44 #[.float .f64 (wd s r)] w fun e w' => e = .returned (.bool s) ∧ w = w' := by
  rcases Nat.eq_zero_or_pos r with h0 | h0
  · subst h0
    have ho := fo_zero s
    cases s
    · have hd := run_div (a := 4607182418800017408) (b := wd false 0) (r := wd false I) (by decide +kernel)
      have hi := fo_pos (r := I) (by decide) (Nat.le_refl _)
      generalize wd false 0 = b at *
      generalize wd false I = c at *
      go_enter Try.func44, Try.ntmps44
      go_wp2_with fail
      go_ret
      exact ⟨rfl, rfl⟩
    · have hd := run_div (a := 4607182418800017408) (b := wd true 0) (r := wd true I) (by decide +kernel)
      have hi := fo_neg (r := I) (by decide) (Nat.le_refl _)
      generalize wd true 0 = b at *
      generalize wd true I = c at *
      go_enter Try.func44, Try.ntmps44
      go_wp2_with fail
      go_ret
      exact ⟨rfl, rfl⟩
  · cases s
    · have ho := fo_pos h0 hr
      generalize wd false r = b at *
      go_enter Try.func44, Try.ntmps44
      go_wp2_with fail
      go_ret
      exact ⟨rfl, rfl⟩
    · have ho := fo_neg h0 hr
      generalize wd true r = b at *
      go_enter Try.func44, Try.ntmps44
      go_wp2_with fail
      go_ret
      exact ⟨rfl, rfl⟩

set_option maxHeartbeats 400000 in
theorem rminus_nan (b : Nat) (w : World) (hb : b < 2 * S) (h : isNan b = true) :
    Calls Try.prog 44 #[.float .f64 b] w fun e w' => e = .returned (.bool false) ∧ w = w' := by
  have ho : FloatKind.f64.format.order b 0 = none := order_nan_left b 0 hb h
  go_enter Try.func44, Try.ntmps44
  go_wp2_with fail
  go_ret
  exact ⟨rfl, rfl⟩

set_option maxHeartbeats 1000000 in
theorem rbits_nan (b : Nat) (w : World) (hb : b < 2 * S) (h : isNan b = true) :
    Calls Try.prog 24 #[.float .f64 b] w fun e w' => e = .returned (.int .u64 (nanU : Nat)) ∧ w = w' := by
  have ho : FloatKind.f64.format.order b b = none := order_nan_left b b hb h
  go_enter Try.func24, Try.ntmps24
  go_wp2_with fail
  refine (rnone_any _).mono ?_
  rintro e w' ⟨rfl, rfl⟩
  go_wp2_with fail
  go_ret
  exact ⟨rfl, rfl⟩

set_option maxHeartbeats 2000000 in
theorem rbits_zero (s : Bool) (w : World) :
    Calls Try.prog 24 #[.float .f64 (wd s 0)] w fun e w' => e = .returned (.int .u64 (wd s 0 : Nat)) ∧ w = w' := by
  have ho := fo_zero false
  have he := order_self (wd_lt s (r := 0) (by decide)) (not_nan s (by decide))
  cases s
  · go_enter Try.func24, Try.ntmps24
    go_wp2_with fail
    refine (rminus_num false 0 _ (by decide)).mono ?_
    rintro e w' ⟨rfl, rfl⟩
    go_wp2_with fail
    go_ret
    exact ⟨rfl, rfl⟩
  · have hn := run_neg true (r := 0) (by decide)
    go_enter Try.func24, Try.ntmps24
    go_wp2_with fail
    refine (rminus_num true 0 _ (by decide)).mono ?_
    rintro e w' ⟨rfl, rfl⟩
    go_wp2_with fail
    refine (rtop_any _).mono ?_
    rintro e w' ⟨rfl, rfl⟩
    go_wp2_with fail
    go_ret
    exact ⟨rfl, rfl⟩

set_option maxHeartbeats 2000000 in
theorem rbits_inf (s : Bool) (w : World) :
    Calls Try.prog 24 #[.float .f64 (wd s I)] w fun e w' => e = .returned (.int .u64 (wd s I : Nat)) ∧ w = w' := by
  have he := order_self (wd_lt s (Nat.le_refl I)) (not_nan s (Nat.le_refl I))
  have he' := eq_self (r := I) (Nat.le_refl _)
  have ho : FloatKind.f64.format.order (wd false I) 0 = some .gt := fo_pos (by decide) (Nat.le_refl _)
  have hd := run_mul (a := wd false I) (b := 4611686018427387904) (r := wd false I) (by decide +kernel)
  cases s
  · go_enter Try.func24, Try.ntmps24
    go_wp2_with fail
    refine (rminus_num false I _ (Nat.le_refl _)).mono ?_
    rintro e w' ⟨rfl, rfl⟩
    go_wp2_with fail
    go_ret
    exact ⟨rfl, rfl⟩
  · have hn := run_neg true (r := I) I_lt_S
    go_enter Try.func24, Try.ntmps24
    go_wp2_with fail
    refine (rminus_num true I _ (Nat.le_refl _)).mono ?_
    rintro e w' ⟨rfl, rfl⟩
    go_wp2_with fail
    refine (rtop_any _).mono ?_
    rintro e w' ⟨rfl, rfl⟩
    go_wp2_with fail
    go_ret
    exact ⟨rfl, rfl⟩

end Fl
end Go.Proofs.Ytimgiokhhdkfaaa
