/-
  WALKS: the document's answer for the number of bits. No condition.
-/
import Derived.Test.YtimgiokhhdkfaaaBitsRefC
namespace Go.Proofs.Ytimgiokhhdkfaaa
open Go.RowKit
namespace Fl

set_option maxRecDepth 100000 in
set_option maxHeartbeats 16000000 in
theorem rfloat_tiny (s : Bool) (r : Nat) (w : World) (hr : r < B) :
    Calls Try.prog 37 #[.int .u64 (wd s r : Nat)] w fun e w' => e = .returned (.float .f64 (wd s r)) ∧ w = w' := by
  have hB : B = 4503599627370496 := rfl
  have hI : I = 9218868437227405312 := rfl
  have hS : S = 9223372036854775808 := rfl
  obtain ⟨p1, p2⟩ := parts_of s (r := r) (by omega)
  have hself := R_self r
  have hmg : mg r = r := by unfold mg; rw [if_pos hr]
  have hpl : pl r = 0 := by unfold pl; rw [if_pos hr]
  rw [hmg, hpl] at hself
  have hrI : r < I := by omega
  have HM2 : Hid (r < 2 * B) := Lib.hid (by omega)
  have hj0 : r / B = 0 := Nat.div_eq_of_lt hr
  rw [hj0] at p1
  rw [Nat.mod_eq_of_lt hr] at p2
  have a1 : ((wd s r : Nat) : Int) / 4503599627370496 % 2048 = 0 := by rw [show (0 : Int) = ((0 : Nat) : Int) from rfl, ← p1]; rfl
  have a2 : ((wd s r : Nat) : Int) % 4503599627370496 = (r : Int) := by
    have : ((wd s r : Nat) : Int) % 4503599627370496 = ((wd s r % B : Nat) : Int) := rfl
    rw [this, p2]
  have hfl := floatOf HM2.out
  have hfin : Hid (∀ j, j ≤ 1074 → R r j < I) := Lib.hid (fun j hj => Nat.lt_of_le_of_lt (R_mono HM2.out hj) (whole_fin HM2.out))
  have htop : decide (((wd s r : Nat) : Int) ≥ 9223372036854775808) = s := by
    cases s
    · rw [wd_false]; exact decide_eq_false (by omega)
    · exact decide_eq_true (by show ((S + r : Nat) : Int) ≥ _; omega)
  have hneg : ∀ w, (Op.unary .neg (.float .f64 r)).run Try.prog w = .ok (.float .f64 (wd true r)) w := fun w => run_neg false (r := r) (by omega) w
  have hend := Lib.hid hself
  have hres : Hid (s = false → r = wd s r) := Lib.hid (by intro h; rw [h, wd_false])
  have hlim : (r : Int) < 4503599627370496 := by omega
  have hres2 : Hid (s = true → wd true r = wd s r) := Lib.hid (by intro h; rw [h])
  clear hself hmg hpl hrI hj0 p1 p2 hr hB hI hS
  generalize wd s r = U at *
  generalize wd true r = T at *
  go_enter Try.func37, Try.ntmps37
  go_wp2_with fail
  clear hfl a1 a2
  go_loop [5, 7] (fun f x => ∃ i k : Nat, k + i = 1074 ∧ x = .int .i64 (i : Nat) ∧ f = .float .f64 (R r k)) (fun _ x => 1074 - (intOf x).toNat)
  case atStart => exact ⟨0, 1074, by omega, by go_num, rfl⟩
  case round =>
    obtain ⟨i, k, hi, rfl, rfl⟩ := hrel
    have hk : k ≤ 1074 := by omega
    have hi2 : i ≤ 1074 := by omega
    replace hi := Lib.hid hi
    by_cases hi1 : i < 1074
    · have hmul := run_mul (mul_half (m := r) (j := k) HM2.out (hfin.out _ hk) (by have := hi.out; omega))
      have d1 : decide ((i : Int) < 1074) = true := decide_eq_true (by omega)
      go_wp2_with fail
      go_round
      case rel => exact ⟨i + 1, k - 1, by have := hi.out; omega, by go_num, rfl⟩
      case measure => simp [intOf]; omega
    · obtain rfl : i = 1074 := by omega
      obtain rfl : k = 0 := by have := hi.out; omega
      clear hi hk hi1 hi2
      rw [hend.out]
      go_wp2_with fail
      go_loop [5, 8] (fun f x => x = .int .i64 0 ∧ f = .float .f64 r) (fun _ x => 0)
      case atStart => exact ⟨rfl, rfl⟩
      case round =>
        obtain ⟨rfl, rfl⟩ := hrel
        go_wp2_with fail
        refine (rtop_any _).mono ?_
        rintro e w' ⟨rfl, rfl⟩
        cases s
        · have h := Lib.hid (hres.out rfl)
          go_wp2_with fail
          go_ret
          exact ⟨congrArg (fun x => Ending.returned (.float .f64 x)) h.out, rfl⟩
        · have h := Lib.hid (hres2.out rfl)
          go_wp2_with fail
          go_ret
          exact ⟨congrArg (fun x => Ending.returned (.float .f64 x)) h.out, rfl⟩

set_option maxRecDepth 100000 in
set_option maxHeartbeats 16000000 in
theorem rfloat_plain (s : Bool) (r : Nat) (w : World) (h1 : B ≤ r) (hr : r < I) :
    Calls Try.prog 37 #[.int .u64 (wd s r : Nat)] w fun e w' => e = .returned (.float .f64 (wd s r)) ∧ w = w' := by
  have hB : B = 4503599627370496 := rfl
  have hI : I = 9218868437227405312 := rfl
  have hS : S = 9223372036854775808 := rfl
  obtain ⟨p1, p2⟩ := parts_of s (r := r) (by omega)
  have hself := R_self r
  have hmg : mg r = r % B + B := by unfold mg; rw [if_neg (by omega), Nat.add_comm]
  have hpl : pl r = r / B - 1 := by unfold pl; rw [if_neg (by omega)]
  have hEr : 1 ≤ r / B ∧ r / B ≤ 2046 := by rw [hB]; omega
  have hMr : r % B < B := Nat.mod_lt _ (by decide)
  rw [hmg, hpl] at hself
  have a1 : ((wd s r : Nat) : Int) / 4503599627370496 % 2048 = ((r / B : Nat) : Int) := by rw [← p1]; rfl
  have a2 : ((wd s r : Nat) : Int) % 4503599627370496 = ((r % B : Nat) : Int) := by
    have : ((wd s r : Nat) : Int) % 4503599627370496 = ((wd s r % B : Nat) : Int) := rfl
    rw [this, p2]
  have htop : decide (((wd s r : Nat) : Int) ≥ 9223372036854775808) = s := by
    cases s
    · rw [wd_false]; exact decide_eq_false (by omega)
    · exact decide_eq_true (by show ((S + r : Nat) : Int) ≥ _; omega)
  have hneg : ∀ w, (Op.unary .neg (.float .f64 r)).run Try.prog w = .ok (.float .f64 (wd true r)) w := fun w => run_neg false (r := r) (by omega) w
  have hres : Hid (s = false → r = wd s r) := Lib.hid (by intro h; rw [h, wd_false])
  have hres2 : Hid (s = true → wd true r = wd s r) := Lib.hid (by intro h; rw [h])
  generalize r / B = E at *
  generalize r % B = M at *
  have HM2 : Hid (M + B < 2 * B) := Lib.hid (by omega)
  have hfl : floatOfInt .f64 ((M : Int) + 4503599627370496) = R (M + B) 1074 := floatOf (m := M + B) HM2.out
  have hfin : Hid (∀ j, j + 1 ≤ E → R (M + B) j < I) := Lib.hid (fun j hj => Nat.lt_of_le_of_lt (R_mono HM2.out (show j ≤ E - 1 by omega)) (by rw [hself]; exact hr))
  have hfin2 : Hid (∀ j, j ≤ 1074 → R (M + B) j < I) := Lib.hid (fun j hj => Nat.lt_of_le_of_lt (R_mono HM2.out hj) (whole_fin HM2.out))
  have hend := Lib.hid hself
  have hM3 : (M : Int) < 4503599627370496 := by omega
  obtain ⟨hE0, hE1⟩ := hEr
  have t1 : ((E : Int) == 2047) = false := by rw [beq_eq_false_iff_ne]; omega
  have t2 : decide ((E : Int) > 0) = true := decide_eq_true (by omega)
  clear hself hmg hpl p1 p2 h1 hr hB hI hS hMr
  generalize wd s r = U at *
  generalize wd true r = T at *
  generalize hm : M + B = m at *
  clear hm
  have u1 : ((U : Int) / 4503599627370496 % 2048 == 2047) = false := by rw [a1]; exact t1
  have u2 : decide ((U : Int) / 4503599627370496 % 2048 > 0) = true := by rw [a1]; exact t2
  rw [← a2] at hfl
  clear t1 t2
  replace a1 := Lib.hid a1
  replace a2 := Lib.hid a2
  go_enter Try.func37, Try.ntmps37
  go_wp2_with fail
  rw [a1.out, a2.out]
  clear hfl a1 a2 u1 u2
  by_cases hE : E ≤ 1075
  · have t3 : decide ((0 : Int) < -(1075 - (E : Int))) = false := decide_eq_false (by omega)
    have t5 : decide (1075 < E) = false := decide_eq_false (by omega)
    have t6 : decide (1075 < (E : Int)) = false := decide_eq_false (by omega)
    have t7 : decide (1075 - (E : Int) < 0) = false := decide_eq_false (by omega)
    have t8 : decide (-(1075 - (E : Int)) > 0) = false := decide_eq_false (by omega)
    have t4 : decide ((0 : Int) < (E : Int) - 1075) = false := decide_eq_false (by omega)
    go_loop [5, 7] (fun f x => ∃ i k : Nat, k + i = 1074 ∧ i + E ≤ 1075 ∧ x = .int .i64 (i : Nat) ∧ f = .float .f64 (R m k)) (fun _ x => 1074 - (intOf x).toNat)
    case atStart => exact ⟨0, 1074, by omega, by omega, by go_num, rfl⟩
    case round =>
      obtain ⟨i, k, hi, hiE, rfl, rfl⟩ := hrel
      have hk : k ≤ 1074 := by omega
      have hi2 : i ≤ 1074 := by omega
      have hkE : k + 1 = E + (1075 - E - i) := by omega
      replace hi := Lib.hid hi
      by_cases hi1 : i + E < 1075
      · have hmul := run_mul (mul_half (m := m) (j := k) HM2.out (hfin2.out _ hk) (by have := hi.out; omega))
        have d1 : decide ((i : Int) < 1075 - (E : Int)) = true := decide_eq_true (by omega)
        clear hkE
        go_wp2_with fail
        go_round
        case rel => exact ⟨i + 1, k - 1, by have := hi.out; omega, by omega, by go_num, rfl⟩
        case measure => simp [intOf]; omega
      · obtain rfl : k = E - 1 := by have := hi.out; omega
        have d1 : decide ((i : Int) < 1075 - (E : Int)) = false := decide_eq_false (by omega)
        rw [hend.out]
        clear hi hk hi2 hkE hi1 hiE
        go_wp2_with fail
        go_loop [5, 8] (fun f x => x = .int .i64 0 ∧ f = .float .f64 r) (fun _ x => 0)
        case atStart => exact ⟨rfl, rfl⟩
        case round =>
        obtain ⟨rfl, rfl⟩ := hrel
        go_wp2_with fail
        refine (rtop_any _).mono ?_
        rintro e w' ⟨rfl, rfl⟩
        cases s
        · have h := Lib.hid (hres.out rfl)
          go_wp2_with fail
          go_ret
          exact ⟨congrArg (fun x => Ending.returned (.float .f64 x)) h.out, rfl⟩
        · have h := Lib.hid (hres2.out rfl)
          go_wp2_with fail
          go_ret
          exact ⟨congrArg (fun x => Ending.returned (.float .f64 x)) h.out, rfl⟩
  · have t3 : decide ((0 : Int) < 1075 - (E : Int)) = false := decide_eq_false (by omega)
    have t5 : decide (E < 1075) = false := decide_eq_false (by omega)
    have t6 : decide ((E : Int) < 1075) = false := decide_eq_false (by omega)
    go_loop [5, 7] (fun f x => x = .int .i64 0 ∧ f = .float .f64 (R m 1074)) (fun _ x => 0)
    case atStart => exact ⟨rfl, rfl⟩
    case round =>
      obtain ⟨rfl, rfl⟩ := hrel
      go_wp2_with fail
      clear t3 t5 t6
      go_loop [5, 8] (fun f x => ∃ i k : Nat, k = i + 1074 ∧ i + 1075 ≤ E ∧ x = .int .i64 (i : Nat) ∧ f = .float .f64 (R m k)) (fun _ x => 4096 - (intOf x).toNat)
      case atStart => exact ⟨0, 1074, by omega, by omega, by go_num, rfl⟩
      case round =>
      obtain ⟨i, k, hi, hiE, rfl, rfl⟩ := hrel
      have hi2 : i ≤ 1074 := by omega
      replace hi := Lib.hid hi
      by_cases hi1 : i + 1075 < E
      · have hmul := run_mul (mul_two (m := m) (j := k) HM2.out (hfin.out _ (by have := hi.out; omega)))
        have d1 : decide ((i : Int) < -(1075 - (E : Int))) = true := decide_eq_true (by omega)
        have d2 : decide ((i : Int) < (E : Int) - 1075) = true := decide_eq_true (by omega)
        go_wp2_with fail
        go_round
        case rel => exact ⟨i + 1, k + 1, by have := hi.out; omega, by omega, by go_num, rfl⟩
        case measure => simp [intOf]; omega
      · obtain rfl : k = E - 1 := by have := hi.out; omega
        have d1 : decide ((i : Int) < -(1075 - (E : Int))) = false := decide_eq_false (by omega)
        have d2 : decide ((i : Int) < (E : Int) - 1075) = false := decide_eq_false (by omega)
        rw [hend.out]
        clear hi hi2 hi1 hiE
        go_wp2_with fail
        refine (rtop_any _).mono ?_
        rintro e w' ⟨rfl, rfl⟩
        cases s
        · have h := Lib.hid (hres.out rfl)
          go_wp2_with fail
          go_ret
          exact ⟨congrArg (fun x => Ending.returned (.float .f64 x)) h.out, rfl⟩
        · have h := Lib.hid (hres2.out rfl)
          go_wp2_with fail
          go_ret
          exact ⟨congrArg (fun x => Ending.returned (.float .f64 x)) h.out, rfl⟩

end Fl
end Go.Proofs.Ytimgiokhhdkfaaa
