/-
  WALKS: the document's answer for a number's bits. No condition.
-/
import Derived.Test.YtimgiokhhdkfaaaBitsRef
namespace Go.Proofs.Ytimgiokhhdkfaaa
open Go.RowKit
namespace Fl

theorem two_R : 4611686018427387904 = R 1 1075 := by decide +kernel
theorem one_R : 4607182418800017408 = R 1 1074 := by decide +kernel
theorem half_R : 4602678819172646912 = R 1 1073 := by decide +kernel

theorem mul_two {m j : Nat} (hm : m < 2 * B) (hf : R m (j + 1) < I) : Ieee.double.mul (R m j) 4611686018427387904 = some (R m (j + 1)) := by
  have := mul_pow false (m := m) (j := j) (i := 1075) hm (Nat.lt_of_le_of_lt (R_mono hm (by omega)) hf) (by decide +kernel) (by omega)
  rw [wd_false, wd_false, show j + 1075 - 1074 = j + 1 from by omega, Nat.min_eq_left (Nat.le_of_lt hf)] at this
  rw [two_R]; exact this
theorem mul_half {m j : Nat} (hm : m < 2 * B) (hf : R m j < I) (hj : 1 ≤ j) : Ieee.double.mul (R m j) 4602678819172646912 = some (R m (j - 1)) := by
  have hf' : R m (j - 1) < I := Nat.lt_of_le_of_lt (R_mono hm (by omega)) hf
  have := mul_pow false (m := m) (j := j) (i := 1073) hm hf (by decide +kernel) (by omega)
  rw [wd_false, wd_false, show j + 1073 - 1074 = j - 1 from by omega, Nat.min_eq_left (Nat.le_of_lt hf')] at this
  rw [half_R]; exact this

set_option maxRecDepth 100000 in
set_option maxHeartbeats 16000000 in
theorem rbits_fin (s : Bool) (r : Nat) (w : World) (h0 : 0 < r) (hr : r < I) :
    Calls Try.prog 24 #[.float .f64 (wd s r)] w fun e w' => e = .returned (.int .u64 (wd s r : Nat)) ∧ w = w' := by
  have hself := R_self r
  have hm0 := mg_pos h0
  have hm := mg_lt r
  have hlog := log2_of_fin h0 hr
  generalize mg r = m at *
  generalize pl r = j at *
  subst hself
  obtain ⟨n1, n2, n3⟩ := norm_range hm0 hm
  have he := order_self (wd_lt s (Nat.le_of_lt hr)) (not_nan s (Nat.le_of_lt hr))
  have ho : FloatKind.f64.format.order (wd false (R m j)) 0 = some .gt := fo_pos h0 (Nat.le_of_lt hr)
  have hd := run_mul (a := wd false (R m j)) (b := 4611686018427387904) (r := wd false (min (R m (j + 1)) I)) (by
    have := mul_pow false (m := m) (j := j) (i := 1075) hm hr (by decide +kernel) (by omega)
    rw [show j + 1075 - 1074 = j + 1 from by omega] at this
    rw [two_R]; exact this)
  have hlt : FloatKind.f64.format.order (wd false (min (R m (j + 1)) I)) (wd false (R m j)) = some .gt := by
    refine fo_gt _ _ (Nat.min_le_right _ _) (Nat.le_of_lt hr) ?_
    have h1 : R m j < R m (j + 1) := by
      have a := @R_le m (j + 1) m j hm hm
      have b : ¬ m * 2 ^ (j + 1) ≤ m * 2 ^ j := by
        rw [Nat.pow_succ, ← Nat.mul_assoc]
        have := Nat.mul_pos hm0 (Nat.two_pow_pos j)
        omega
      omega
    rw [sg_f, sg_f]
    omega
  have hnf : ∀ w, (Op.unary .neg (.float .f64 (wd true (R m j)))).run Try.prog w = .ok (.float .f64 (wd false (R m j))) w := fun w => run_neg true (r := R m j) (by have := I_lt_S; omega) w
  have HM := Lib.hid (fun s w => rminus_num s (R m j) w (Nat.le_of_lt hr))
  have HW := Lib.hid (show ∀ s, wd s (R m j) = (if s then 9223372036854775808 else 0) + R m j from fun s => by cases s <;> simp [wd, S])
  have HR : Hid (R m j = if m.log2 + j < 52 then m * 2 ^ j else (m.log2 + j - 51) * 4503599627370496 + (m * 2 ^ (52 - m.log2) - 4503599627370496)) := Lib.hid (by
    have hB : B = 4503599627370496 := rfl
    unfold R
    rw [if_neg (by omega)]
    by_cases h : m.log2 + j < 52
    · rw [if_pos h, if_pos h]
    · rw [if_neg h, if_neg h, show m.log2 + j - 51 = (m.log2 + j - 52) + 1 from by omega, Nat.succ_mul, hB]
      omega)
  have HS := Lib.hid (hr)
  have HI : Hid (I = 9218868437227405312) := Lib.hid rfl
  have hfin : ∀ i, m.log2 + i < 2098 → R m i < I := fun i h => fin_of hm0 hm h
  replace hfin := Lib.hid hfin
  have HM2 := Lib.hid hm
  have HM0 := Lib.hid hm0
  have HN1 := Lib.hid n1
  have HN2 := Lib.hid n2
  generalize hQ : wd false (min (R m (j + 1)) I) = Q at *
  clear hQ h0 hr hm hm0 n1 n2
  have HMF := Lib.hid (HM.out false)
  have HMT := Lib.hid (HM.out true)
  have hF' : Hid (wd false (R m j) = R m j) := Lib.hid (wd_false _)
  have hT' : Hid (wd true (R m j) = 9223372036854775808 + R m j) := Lib.hid rfl
  clear HM HW
  cases s
  · generalize wd false (R m j) = F at *
    generalize wd true (R m j) = T at *
    go_enter Try.func24, Try.ntmps24
    go_wp2_with fail
    refine (HMF.out _).mono ?_
    rintro e w' ⟨rfl, rfl⟩
    go_wp2_with fail
    clear hd hlt ho he hnf
    go_loop [0, 4] (fun f e => ∃ i E : Nat, f = .float .f64 (R m i) ∧ e = .int .u64 (E : Nat) ∧ E + i = 1023 + j ∧ 1 ≤ E ∧ m.log2 + i < 2098) (fun _ e => (4096 - intOf e).toNat)
    case atStart => exact ⟨j, 1023, by rw [hF'.out], rfl, rfl, by omega, hlog⟩
    case round =>
      obtain ⟨i, E, rfl, rfl, hE, hE1, hi⟩ := hrel
      by_cases hge : 1075 ≤ m.log2 + i
      · have hmul := run_mul (mul_half HM2.out (hfin.out i hi) (by omega))
        have ho : FloatKind.f64.format.order (R m i) 4611686018427387904 = some .gt ∨ FloatKind.f64.format.order (R m i) 4611686018427387904 = some .eq := by
          rw [two_R]; exact pow_ge HM0.out HM2.out (hfin.out i hi) hge
        rcases ho with ho | ho
        all_goals
          go_wp2_with fail
          go_round
          case rel => exact ⟨i - 1, E + 1, rfl, by go_num, by omega, by omega, by omega⟩
          case measure => simp [intOf]; omega
      · have ho : FloatKind.f64.format.order (R m i) 4611686018427387904 = some .lt := by
          rw [two_R]; exact pow_lt HM0.out HM2.out (by decide) (by omega)
        go_wp2_with fail
        clear ho
        go_loop [0, 4] (fun f e => ∃ i E : Nat, f = .float .f64 (R m i) ∧ e = .int .u64 (E : Nat) ∧ E + i = 1023 + j ∧ 1 ≤ E ∧ m.log2 + i ≤ 1074) (fun _ e => (intOf e).toNat)
        case atStart => exact ⟨i, E, rfl, rfl, hE, hE1, by omega⟩
        case round =>
          clear hE hE1 hi hge
          obtain ⟨i, E, rfl, rfl, hE, hE1, hi⟩ := hrel
          by_cases hlt : m.log2 + i < 1074
          · have ho : FloatKind.f64.format.order (R m i) 4607182418800017408 = some .lt := by
              rw [one_R]; exact pow_lt HM0.out HM2.out (by decide) (by omega)
            by_cases h1 : 1 < E
            · have hmul := run_mul (mul_two HM2.out (hfin.out (i + 1) (by omega)))
              go_wp2_with fail
              go_round
              case rel => exact ⟨i + 1, E - 1, rfl, by go_num, by omega, by omega, by omega⟩
              case measure => simp [intOf]; omega
            · obtain rfl : E = 1 := by omega
              obtain rfl : i = 1022 + j := by omega
              clear hE hE1 h1
              go_wp2_with fail
              clear ho
              have hjj : m.log2 + j < 52 := by omega
              have hp : m * 2 ^ j ≤ m * 2 ^ (52 - m.log2) := Nat.mul_le_mul_left _ (Nat.pow_le_pow_right (by decide) (by omega))
              have hV : m * 2 ^ j < 2 * B := Nat.lt_of_le_of_lt hp HN2.out
              have hB : B = 4503599627370496 := rfl
              have hc := run_to_u64 (a := R m (1022 + j + 52)) (n := m * 2 ^ j) (by
                rw [show 1022 + j + 52 = j + 1074 from by omega, ← R_move hV]
                exact to_whole hV (whole_fin hV)) (by omega)
              have hR := HR.out
              rw [if_pos hjj] at hR
              have hfinal := Lib.hid (show (m * 2 ^ j : Nat) = R m j from hR.symm)
              replace hV : m * 2 ^ j < 9007199254740992 := hV
              clear hR hp HR HN2 HN1 hB
              generalize m * 2 ^ j = V at *
              go_loop [0, 5] (fun f x => ∃ k : Nat, k ≤ 52 ∧ x = .int .i64 (k : Nat) ∧ f = .float .f64 (R m (1022 + j + k))) (fun _ x => 52 - (intOf x).toNat)
              case atStart => exact ⟨0, by omega, by go_num, rfl⟩
              case round =>
                obtain ⟨k, hk, rfl, rfl⟩ := hrel
                by_cases hk1 : k < 52
                · have hmul := run_mul (mul_two HM2.out (hfin.out (1022 + j + k + 1) (by omega)))
                  go_wp2_with fail
                  go_round
                  case rel => exact ⟨k + 1, by omega, by go_num, rfl⟩
                  case measure => simp [intOf]; omega
                · obtain rfl : k = 52 := by omega
                  go_wp2_with fail
                  go_ret
                  refine ⟨ret_u64 ?_, rfl⟩
                  rw [hF'.out, ← hfinal.out]
                  all_goals omega
          · have ho : FloatKind.f64.format.order (R m i) 4607182418800017408 = some .gt ∨ FloatKind.f64.format.order (R m i) 4607182418800017408 = some .eq := by
              rw [one_R]; exact pow_ge HM0.out HM2.out (hfin.out i (by omega)) (by omega)
            have hsub := run_sub (a := R m i) (b := 4607182418800017408) (r := R (m * 2 ^ (52 - m.log2) - B) 1022) (by
              have e := R_move (m := m) (a := 52 - m.log2) (j := 1022) HN2.out
              rw [show 52 - m.log2 + 1022 = i from by omega] at e
              rw [← e, one_R]
              exact sub_one HN1.out HN2.out)
            rcases ho with ho | ho
            all_goals
              go_wp2_with fail
              clear ho
              have hB : B = 4503599627370496 := rfl
              have hN : m * 2 ^ (52 - m.log2) - B < 2 * B := by have := HN2.out; omega
              have hc := run_to_u64 (a := R (m * 2 ^ (52 - m.log2) - B) (1022 + 52)) (n := m * 2 ^ (52 - m.log2) - B) (to_whole hN (whole_fin hN)) (by omega)
              have hR := HR.out
              rw [if_neg (show ¬ m.log2 + j < 52 by omega), show m.log2 + j - 51 = E from by omega] at hR
              have hNN := Lib.hid hN
              have hE2 : (E : Int) ≤ 2046 := by omega
              have hf3 : ∀ k, k ≤ 52 → R (m * 2 ^ (52 - m.log2) - B) (1022 + k) < I := fun k hk => Nat.lt_of_le_of_lt (R_mono hN (show 1022 + k ≤ 1074 by omega)) (whole_fin hN)
              have HF3 := Lib.hid hf3
              rw [← hB] at hR
              have hN3 : m * 2 ^ (52 - m.log2) - B < 9007199254740992 := by omega
              clear hsub HR HN2 HN1 hf3 hN
              generalize m * 2 ^ (52 - m.log2) - B = N at *
              have hfinal := Lib.hid hR
              clear hR hB
              go_loop [0, 5] (fun f x => ∃ k : Nat, k ≤ 52 ∧ x = .int .i64 (k : Nat) ∧ f = .float .f64 (R N (1022 + k))) (fun _ x => 52 - (intOf x).toNat)
              case atStart => exact ⟨0, by omega, by go_num, rfl⟩
              case round =>
                obtain ⟨k, hk, rfl, rfl⟩ := hrel
                by_cases hk1 : k < 52
                · have hmul := run_mul (mul_two (m := N) (j := 1022 + k) hNN.out (HF3.out (k + 1) (by omega)))
                  go_wp2_with fail
                  go_round
                  case rel => exact ⟨k + 1, by omega, by go_num, rfl⟩
                  case measure => simp [intOf]; omega
                · obtain rfl : k = 52 := by omega
                  go_wp2_with fail
                  go_ret
                  refine ⟨ret_u64 ?_, rfl⟩
                  rw [hF'.out, hfinal.out]
                  show _ = (((_ : Nat)) : Int)
                  have hb : B = 4503599627370496 := rfl
                  rw [hb]
                  all_goals omega
  · generalize wd false (R m j) = F at *
    generalize wd true (R m j) = T at *
    go_enter Try.func24, Try.ntmps24
    go_wp2_with fail
    refine (HMT.out _).mono ?_
    rintro e w' ⟨rfl, rfl⟩
    go_wp2_with fail
    refine (rtop_any _).mono ?_
    rintro e w' ⟨rfl, rfl⟩
    go_wp2_with fail
    clear hd hlt ho he hnf
    go_loop [0, 4] (fun f e => ∃ i E : Nat, f = .float .f64 (R m i) ∧ e = .int .u64 (E : Nat) ∧ E + i = 1023 + j ∧ 1 ≤ E ∧ m.log2 + i < 2098) (fun _ e => (4096 - intOf e).toNat)
    case atStart => exact ⟨j, 1023, by rw [hF'.out], rfl, rfl, by omega, hlog⟩
    case round =>
      obtain ⟨i, E, rfl, rfl, hE, hE1, hi⟩ := hrel
      by_cases hge : 1075 ≤ m.log2 + i
      · have hmul := run_mul (mul_half HM2.out (hfin.out i hi) (by omega))
        have ho : FloatKind.f64.format.order (R m i) 4611686018427387904 = some .gt ∨ FloatKind.f64.format.order (R m i) 4611686018427387904 = some .eq := by
          rw [two_R]; exact pow_ge HM0.out HM2.out (hfin.out i hi) hge
        rcases ho with ho | ho
        all_goals
          go_wp2_with fail
          go_round
          case rel => exact ⟨i - 1, E + 1, rfl, by go_num, by omega, by omega, by omega⟩
          case measure => simp [intOf]; omega
      · have ho : FloatKind.f64.format.order (R m i) 4611686018427387904 = some .lt := by
          rw [two_R]; exact pow_lt HM0.out HM2.out (by decide) (by omega)
        go_wp2_with fail
        clear ho
        go_loop [0, 4] (fun f e => ∃ i E : Nat, f = .float .f64 (R m i) ∧ e = .int .u64 (E : Nat) ∧ E + i = 1023 + j ∧ 1 ≤ E ∧ m.log2 + i ≤ 1074) (fun _ e => (intOf e).toNat)
        case atStart => exact ⟨i, E, rfl, rfl, hE, hE1, by omega⟩
        case round =>
          clear hE hE1 hi hge
          obtain ⟨i, E, rfl, rfl, hE, hE1, hi⟩ := hrel
          by_cases hlt : m.log2 + i < 1074
          · have ho : FloatKind.f64.format.order (R m i) 4607182418800017408 = some .lt := by
              rw [one_R]; exact pow_lt HM0.out HM2.out (by decide) (by omega)
            by_cases h1 : 1 < E
            · have hmul := run_mul (mul_two HM2.out (hfin.out (i + 1) (by omega)))
              go_wp2_with fail
              go_round
              case rel => exact ⟨i + 1, E - 1, rfl, by go_num, by omega, by omega, by omega⟩
              case measure => simp [intOf]; omega
            · obtain rfl : E = 1 := by omega
              obtain rfl : i = 1022 + j := by omega
              clear hE hE1 h1
              go_wp2_with fail
              clear ho
              have hjj : m.log2 + j < 52 := by omega
              have hp : m * 2 ^ j ≤ m * 2 ^ (52 - m.log2) := Nat.mul_le_mul_left _ (Nat.pow_le_pow_right (by decide) (by omega))
              have hV : m * 2 ^ j < 2 * B := Nat.lt_of_le_of_lt hp HN2.out
              have hB : B = 4503599627370496 := rfl
              have hc := run_to_u64 (a := R m (1022 + j + 52)) (n := m * 2 ^ j) (by
                rw [show 1022 + j + 52 = j + 1074 from by omega, ← R_move hV]
                exact to_whole hV (whole_fin hV)) (by omega)
              have hR := HR.out
              rw [if_pos hjj] at hR
              have hfinal := Lib.hid (show (m * 2 ^ j : Nat) = R m j from hR.symm)
              replace hV : m * 2 ^ j < 9007199254740992 := hV
              clear hR hp HR HN2 HN1 hB
              generalize m * 2 ^ j = V at *
              go_loop [0, 5] (fun f x => ∃ k : Nat, k ≤ 52 ∧ x = .int .i64 (k : Nat) ∧ f = .float .f64 (R m (1022 + j + k))) (fun _ x => 52 - (intOf x).toNat)
              case atStart => exact ⟨0, by omega, by go_num, rfl⟩
              case round =>
                obtain ⟨k, hk, rfl, rfl⟩ := hrel
                by_cases hk1 : k < 52
                · have hmul := run_mul (mul_two HM2.out (hfin.out (1022 + j + k + 1) (by omega)))
                  go_wp2_with fail
                  go_round
                  case rel => exact ⟨k + 1, by omega, by go_num, rfl⟩
                  case measure => simp [intOf]; omega
                · obtain rfl : k = 52 := by omega
                  go_wp2_with fail
                  go_ret
                  refine ⟨ret_u64 ?_, rfl⟩
                  rw [hT'.out, ← hfinal.out]
                  all_goals omega
          · have ho : FloatKind.f64.format.order (R m i) 4607182418800017408 = some .gt ∨ FloatKind.f64.format.order (R m i) 4607182418800017408 = some .eq := by
              rw [one_R]; exact pow_ge HM0.out HM2.out (hfin.out i (by omega)) (by omega)
            have hsub := run_sub (a := R m i) (b := 4607182418800017408) (r := R (m * 2 ^ (52 - m.log2) - B) 1022) (by
              have e := R_move (m := m) (a := 52 - m.log2) (j := 1022) HN2.out
              rw [show 52 - m.log2 + 1022 = i from by omega] at e
              rw [← e, one_R]
              exact sub_one HN1.out HN2.out)
            rcases ho with ho | ho
            all_goals
              go_wp2_with fail
              clear ho
              have hB : B = 4503599627370496 := rfl
              have hN : m * 2 ^ (52 - m.log2) - B < 2 * B := by have := HN2.out; omega
              have hc := run_to_u64 (a := R (m * 2 ^ (52 - m.log2) - B) (1022 + 52)) (n := m * 2 ^ (52 - m.log2) - B) (to_whole hN (whole_fin hN)) (by omega)
              have hR := HR.out
              rw [if_neg (show ¬ m.log2 + j < 52 by omega), show m.log2 + j - 51 = E from by omega] at hR
              have hNN := Lib.hid hN
              have hE2 : (E : Int) ≤ 2046 := by omega
              have hf3 : ∀ k, k ≤ 52 → R (m * 2 ^ (52 - m.log2) - B) (1022 + k) < I := fun k hk => Nat.lt_of_le_of_lt (R_mono hN (show 1022 + k ≤ 1074 by omega)) (whole_fin hN)
              have HF3 := Lib.hid hf3
              rw [← hB] at hR
              have hN3 : m * 2 ^ (52 - m.log2) - B < 9007199254740992 := by omega
              clear hsub HR HN2 HN1 hf3 hN
              generalize m * 2 ^ (52 - m.log2) - B = N at *
              have hfinal := Lib.hid hR
              clear hR hB
              go_loop [0, 5] (fun f x => ∃ k : Nat, k ≤ 52 ∧ x = .int .i64 (k : Nat) ∧ f = .float .f64 (R N (1022 + k))) (fun _ x => 52 - (intOf x).toNat)
              case atStart => exact ⟨0, by omega, by go_num, rfl⟩
              case round =>
                obtain ⟨k, hk, rfl, rfl⟩ := hrel
                by_cases hk1 : k < 52
                · have hmul := run_mul (mul_two (m := N) (j := 1022 + k) hNN.out (HF3.out (k + 1) (by omega)))
                  go_wp2_with fail
                  go_round
                  case rel => exact ⟨k + 1, by omega, by go_num, rfl⟩
                  case measure => simp [intOf]; omega
                · obtain rfl : k = 52 := by omega
                  go_wp2_with fail
                  go_ret
                  refine ⟨ret_u64 ?_, rfl⟩
                  rw [hT'.out, hfinal.out]
                  show _ = (((_ : Nat)) : Int)
                  have hb : B = 4503599627370496 := rfl
                  rw [hb]
                  all_goals omega

end Fl
end Go.Proofs.Ytimgiokhhdkfaaa
