/-
  WALKS: the document's answer for the number of any bits. No condition.
-/
import Derived.Test.YtimgiokhhdkfaaaBitsRefF
namespace Go.Proofs.Ytimgiokhhdkfaaa
open Go.RowKit
namespace Fl

set_option maxHeartbeats 2000000 in
theorem rfloat_inf (s : Bool) (w : World) :
    Calls Try.prog 37 #[.int .u64 (wd s I : Nat)] w fun e w' => e = .returned (.float .f64 (wd s I)) ∧ w = w' := by
  have hd := run_div (a := 4607182418800017408) (b := 0) (r := wd false I) (by decide +kernel)
  have hn : ∀ w, (Op.unary .neg (.float .f64 (wd false I))).run Try.prog w = .ok (.float .f64 (wd true I)) w := fun w => run_neg false (r := I) I_lt_S w
  have e0 : ((wd false I : Nat) : Int) = 9218868437227405312 := rfl
  have e1 : ((wd true I : Nat) : Int) = 18442240474082181120 := rfl
  cases s
  · generalize wd false I = F at *
    generalize wd true I = T at *
    rw [e0]
    clear e0 e1
    go_enter Try.func37, Try.ntmps37
    go_wp2_with fail
    refine (rtop_any _).mono ?_
    rintro e w' ⟨rfl, rfl⟩
    go_wp2_with fail
    go_ret
    exact ⟨rfl, rfl⟩
  · generalize wd false I = F at *
    generalize wd true I = T at *
    rw [e1]
    clear e0 e1
    go_enter Try.func37, Try.ntmps37
    go_wp2_with fail
    refine (rtop_any _).mono ?_
    rintro e w' ⟨rfl, rfl⟩
    go_wp2_with fail
    go_ret
    exact ⟨rfl, rfl⟩

set_option maxHeartbeats 2000000 in
theorem rfloat_nan (u : Nat) (w : World) (hu : u < 2 * S) (h : isNan u = true) :
    Calls Try.prog 37 #[.int .u64 u] w fun e w' => (∃ b, e = .returned (.float .f64 b) ∧ isNan b = true ∧ b < 2 * S) ∧ Below w.heap.size w w' := by
  have e1 : u / B % 2048 = 2047 ∧ u % B ≠ 0 := by
    have h' : I < u % S := by unfold isNan at h; simpa using h
    have hS : S = 9223372036854775808 := rfl
    have hI : I = 9218868437227405312 := rfl
    have hB : B = 4503599627370496 := rfl
    rw [hS, hI] at h'
    rw [hB]
    omega
  have u1 : ((u : Int) / 4503599627370496 % 2048 == 2047) = true := by
    have : (u : Int) / 4503599627370496 % 2048 = ((u / B % 2048 : Nat) : Int) := rfl
    rw [this, e1.1]; rfl
  have u2 : ((u : Int) % 4503599627370496 != 0) = true := by
    have : (u : Int) % 4503599627370496 = ((u % B : Nat) : Int) := rfl
    rw [this, bne_iff_ne]
    have := e1.2
    omega
  obtain ⟨b, hrun, hb1, hb2⟩ := run_nought w
  have hw : (u : Int) < 18446744073709551616 := Int.ofNat_lt.2 hu
  clear e1
  go_enter Try.func37, Try.ntmps37
  go_wp2_with fail
  go_ret
  exact ⟨⟨b, rfl, hb1, hb2⟩, (Below.refl _ _).drew⟩

theorem rfloat_any (u : Nat) (w : World) (hu : u < 2 * S) :
    Calls Try.prog 37 #[.int .u64 u] w fun e w' => (∃ b, e = .returned (.float .f64 b) ∧ b < 2 * S ∧ canon b = canon u ∧ isNan b = isNan u ∧ (isNan u = false → b = u)) ∧ Below w.heap.size w w' := by
  rcases word_cases hu with h | ⟨s, r, rfl, hr⟩
  · refine (rfloat_nan u w hu h).mono ?_
    rintro e w' ⟨⟨b, rfl, h1, h2⟩, hb⟩
    exact ⟨⟨b, rfl, h2, by rw [canon_nan h1, canon_nan h], by rw [h1, h], fun h' => by rw [h] at h'; cases h'⟩, hb⟩
  · have key : Calls Try.prog 37 #[.int .u64 (wd s r : Nat)] w fun e w' => e = .returned (.float .f64 (wd s r)) ∧ w = w' := by
      rcases Nat.lt_or_ge r B with h | h
      · exact rfloat_tiny s r w h
      · rcases Nat.lt_or_ge r I with h' | h'
        · exact rfloat_plain s r w h h'
        · obtain rfl : r = I := by omega
          exact rfloat_inf s w
    refine key.mono ?_
    rintro e w' ⟨rfl, rfl⟩
    exact ⟨⟨_, rfl, hu, rfl, rfl, fun _ => rfl⟩, Below.refl _ _⟩

end Fl
end Go.Proofs.Ytimgiokhhdkfaaa
