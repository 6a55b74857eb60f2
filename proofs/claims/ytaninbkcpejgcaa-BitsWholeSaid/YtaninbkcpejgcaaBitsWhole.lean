/-
  A whole number's bits: the walk of the law. No condition.
-/
import Derived.Test.YtaninbkcpejgcaaBitsOrder
namespace Go.Proofs.Ytaninbkcpejgcaa
open Go.RowKit
namespace Fl

/-- a whole number as one of 53 bits. -/
def full (n : Nat) : Nat := if n.log2 = 53 then n / 2 else n * 2 ^ (52 - n.log2)
/-- the rung of a whole number. -/
def rung (n : Nat) : Nat := (1022 + n.log2) * B + full n

theorem log2_whole {n : Nat} (h0 : 0 < n) (h : n ≤ 2 * B) : n.log2 ≤ 53 ∧ (n.log2 = 53 → n = 2 * B) := by
  have e1 : 2 * B = 2 ^ 53 := by decide
  have h1 : n.log2 < 54 := (Nat.log2_lt (by omega)).2 (by rw [show (2 : Nat) ^ 54 = 4 * B from by decide]; unfold B at *; omega)
  refine ⟨by omega, fun h2 => ?_⟩
  have h3 : 2 ^ n.log2 ≤ n := Nat.log2_self_le (by omega)
  rw [h2, ← e1] at h3
  omega

theorem full_range {n : Nat} (h0 : 0 < n) (h : n ≤ 2 * B) : B ≤ full n ∧ full n < 2 * B := by
  obtain ⟨h1, h2⟩ := log2_whole h0 h
  unfold full
  by_cases h3 : n.log2 = 53
  · rw [if_pos h3, h2 h3]; decide
  · rw [if_neg h3]
    have hlt : n < 2 * B := by
      refine Nat.lt_of_lt_of_le (Nat.lt_log2_self) ?_
      rw [show 2 * B = 2 ^ 53 from by decide]
      exact Nat.pow_le_pow_right (by decide) (by omega)
    have := norm_range h0 hlt
    exact ⟨this.1, this.2.1⟩

theorem rung_range {n : Nat} (h0 : 0 < n) (h : n ≤ 2 * B) : B ≤ rung n ∧ rung n < I ∧ eOf (rung n) ≠ 2047 ∧ 0 < eOf (rung n) := by
  obtain ⟨h1, h2⟩ := full_range h0 h
  have h3 := (log2_whole h0 h).1
  have h4 : rung n = (1022 + n.log2) * B + full n := rfl
  have h5 : (1022 + n.log2) * B ≤ 1075 * B := Nat.mul_le_mul_right _ (by omega)
  have h6 : 1022 * B ≤ (1022 + n.log2) * B := Nat.mul_le_mul_right _ (by omega)
  have hB : B = 4503599627370496 := rfl
  have hI : I = 9218868437227405312 := rfl
  have e : eOf (rung n) = rung n / B % 2048 := rfl
  refine ⟨by omega, by omega, ?_, ?_⟩
  · rw [e, hB]; omega
  · rw [e, hB]; omega

theorem float_whole {n : Nat} (h0 : 0 < n) (h : n ≤ 2 * B) : floatOfInt .f64 (n : Int) = rung n := by
  obtain ⟨h1, h2⟩ := log2_whole h0 h
  by_cases h3 : n.log2 = 53
  · obtain rfl := h2 h3
    decide +kernel
  · have hlt : n < 2 * B := by
      refine Nat.lt_of_lt_of_le (Nat.lt_log2_self) ?_
      rw [show 2 * B = 2 ^ 53 from by decide]
      exact Nat.pow_le_pow_right (by decide) (by omega)
    rw [floatOf hlt]
    unfold R rung full
    rw [if_neg (by omega), if_neg (by omega), if_neg h3, show n.log2 + 1074 - 52 = 1022 + n.log2 from by omega]

theorem kind_rung (s : Bool) {n : Nat} (h0 : 0 < n) (h : n ≤ 2 * B) : kindN (canon (wd s (rung n))) = 2 := by
  obtain ⟨h1, h2, h3, h4⟩ := rung_range h0 h
  rw [canon_wd s (Nat.le_of_lt h2)]
  have hp := (parts_of s (r := rung n) (by have := I_lt_S; omega)).1
  have e : eOf (wd s (rung n)) = eOf (rung n) := by
    have hq := (parts_of false (r := rung n) (by have := I_lt_S; omega)).1
    rw [wd_false] at hq
    unfold eOf
    rw [hp, hq]
  unfold kindN
  rw [e, if_neg h3, if_pos h4]

/-- half of a number has one bit less. -/
theorem log2_half {k : Nat} (h : 2 ≤ k) : k.log2 = (k / 2).log2 + 1 := by
  rw [Nat.log2_def k, if_pos h]

theorem kind_wd (n : Nat) (s : Bool) (w : World) (h0 : 0 < n) (h : n ≤ 2 * B) :
    Calls Try.prog 14 #[.float .f64 (wd s (rung n))] w fun e w' => e = .returned (.int .i64 2) ∧ Below w.heap.size w w' := by
  have := kind_any (wd s (rung n)) w (wd_lt s (Nat.le_of_lt (rung_range h0 h).2.1))
  rw [kind_rung s h0 h] at this
  exact this

theorem float_wd' (s : Bool) (r : Nat) (w : World) (h : r ≤ I) :
    Calls Try.prog 8 #[.int .u64 (wd s r : Nat)] w fun e w' => e = .returned (.float .f64 (wd s r)) ∧ Below w.heap.size w w' :=
  float_word _ w (wd_lt s h) (not_nan s h)

set_option maxRecDepth 100000 in
set_option maxHeartbeats 8000000 in
theorem whole_far (n : Int) (s : Bool) (w : World) (h : n < 1 ∨ 9007199254740992 < n) :
    Calls Try.prog 7 #[.int .i64 n, .bool s] w fun e w' => e = .returned (.bool true) ∧ Below w.heap.size w w' := by
  rcases h with h | h
  all_goals
    go_enter Try.func7, Try.ntmps7
    go_wp2_with fail
    refine (live_any _).mono ?_
    rintro e w6 ⟨rfl, h6⟩
    go_wp2_with fail
    go_ret
    exact ⟨rfl, h6⟩

theorem whole_step {n L j : Nat} (hn : n < 2 ^ (L + 1)) (h : L + 1 + j ≤ 53) : n * 2 ^ j ≤ 9007199254740992 := by
  have h1 : n * 2 ^ j ≤ 2 ^ (L + 1) * 2 ^ j := Nat.mul_le_mul_right _ (Nat.le_of_lt hn)
  rw [← Nat.pow_add] at h1
  exact Nat.le_trans h1 (Nat.le_trans (Nat.pow_le_pow_right (by decide) h) (by decide))

set_option maxRecDepth 100000 in
set_option maxHeartbeats 16000000 in
theorem whole_walk (n : Nat) (s : Bool) (w : World) (V : Bool → Nat) (h0 : 0 < n) (h : n ≤ 9007199254740992)
    (HB : Hid (∀ s w, Calls Try.prog 10 #[.float .f64 (V s)] w fun e w' => e = .returned (.int .u64 (V s : Nat)) ∧ Below w.heap.size w w'))
    (HG : Hid (∀ s w, Calls Try.prog 8 #[.int .u64 (V s : Nat)] w fun e w' => e = .returned (.float .f64 (V s)) ∧ Below w.heap.size w w'))
    (HK : Hid (∀ s w, Calls Try.prog 14 #[.float .f64 (V s)] w fun e w' => e = .returned (.int .i64 2) ∧ Below w.heap.size w w'))
    (HM : Hid (∀ s w, Calls Try.prog 16 #[.float .f64 (V s)] w fun e w' => e = .returned (.bool s) ∧ w = w'))
    (ho : Hid (∀ s, FloatKind.f64.format.order (V s) (V s) = some .eq))
    (hneg : ∀ w, (Op.unary .neg (.float .f64 (V false))).run Try.prog w = .ok (.float .f64 (V true)) w)
    (hfl : floatOfInt .f64 (n : Int) = V false)
    (hL1 : n.log2 ≤ 53) (hL2 : Hid (n.log2 = 53 → n = 9007199254740992)) (hfull : 4503599627370496 ≤ full n ∧ full n < 2 * 4503599627370496) (hpow : n < 2 ^ (n.log2 + 1))
    (HF : Hid (full n = if n.log2 = 53 then n / 2 else n * 2 ^ (52 - n.log2)))
    (HR : Hid (V false = (1022 + n.log2) * 4503599627370496 + full n)) (HT : Hid (V true = 9223372036854775808 + V false)) :
    Calls Try.prog 7 #[.int .i64 (n : Nat), .bool s] w fun e w' => e = .returned (.bool true) ∧ Below w.heap.size w w' := by
  go_enter Try.func7, Try.ntmps7
  go_wp2_with fail
  go_loop [5, 6] (fun c k => ∃ c' K : Nat, c = .int .i64 c' ∧ k = .int .i64 K ∧ K ≤ n ∧ c' ≤ 54 ∧ (K = 0 → c' = n.log2 + 1) ∧ (0 < K → c' + K.log2 = n.log2)) (fun _ k => (intOf k).toNat)
  case atStart => exact ⟨0, n, rfl, rfl, by omega, by omega, by omega, by omega⟩
  case round =>
    obtain ⟨c, K, rfl, rfl, hKn, hc, hc0, hc1⟩ := hrel
    by_cases hK : 0 < K
    · have hc1 := hc1 hK
      have hlog : K / 2 = 0 → K.log2 = 0 := by intro h2; have : K = 1 := by omega
                                               subst this; rfl
      have hlog2 : 0 < K / 2 → K.log2 = (K / 2).log2 + 1 := by intro h2; exact log2_half (by omega)
      replace hlog := Lib.hid hlog
      replace hlog2 := Lib.hid hlog2
      go_wp2_with fail
      go_round
      case rel => exact ⟨c + 1, K / 2, by go_num, by go_num, by omega, by omega, by have := hlog.out; omega, by have := hlog2.out; omega⟩
      case measure => simp [intOf]; omega
    · obtain rfl : K = 0 := by omega
      obtain rfl : c = n.log2 + 1 := hc0 rfl
      clear hc0 hc1 hKn hK hc
      generalize n.log2 = L at *
      go_wp2_with fail
      go_loop [7, 8] (fun m k => ∃ j : Nat, m = .int .u64 (n * 2 ^ j : Nat) ∧ k = .int .i64 (L + 1 + j : Nat) ∧ (j = 0 ∨ L + 1 + j ≤ 53) ∧ n * 2 ^ j ≤ 9007199254740992) (fun _ k => 53 - (intOf k).toNat)
      case atStart => exact ⟨0, by go_num, by go_num, by omega, by rw [Nat.pow_zero]; omega⟩
      case round =>
        obtain ⟨j, rfl, rfl, hj, hx⟩ := hrel
        by_cases hlt : L + 1 + j < 53
        · have hnx := whole_step (j := j + 1) hpow (by omega)
          have hs2 : n * 2 ^ (j + 1) = 2 * (n * 2 ^ j) := by rw [Nat.pow_succ, Nat.mul_comm (2 ^ j) 2, ← Nat.mul_assoc, Nat.mul_comm n 2, Nat.mul_assoc]
          replace hnx := Lib.hid hnx
          replace hs2 := Lib.hid hs2
          generalize hX : n * 2 ^ j = X at *
          go_wp2_with fail
          go_round
          case rel => exact ⟨j + 1, by rw [hs2.out]; go_num, by go_num, by omega, hnx.out⟩
          case measure => simp [intOf]; omega
        · by_cases hL : L = 53
          · have hn := hL2.out hL
            subst hL
            obtain rfl : j = 0 := by omega
            have hv := HR.out
            have hf := HF.out
            rw [if_pos rfl] at hf
            rw [hf] at hv hfull
            have hnn : (n : Int) = 9007199254740992 := by omega
            rw [hnn] at hfl
            have hw0 := Lib.hid (show (4845873199050653696 : Int) = (V false : Int) by omega)
            have hw1 := Lib.hid (show (14069245235905429504 : Int) = (V true : Int) by have := HT.out; omega)
            clear hL2 HR HF HT hv hf hfull hpow hL1 hx hlt hj hn
            rw [Nat.pow_zero, Nat.mul_one]
            cases s
            · replace HB := Lib.hid (HB.out false)
              replace HG := Lib.hid (HG.out false)
              replace HK := Lib.hid (HK.out false)
              replace HM := Lib.hid (HM.out false)
              have o1 := ho.out false
              clear ho
              generalize V false = F at *
              generalize V true = T at *
              go_wp2_with fail
              rw [hw0.out]
              refine (HB.out _).mono ?_
              rintro e w1 ⟨rfl, h1⟩
              go_wp2_with fail
              refine (HG.out _).mono ?_
              rintro e w2 ⟨rfl, h2⟩
              replace h2 := chain2 h1 h2
              clear h1
              go_wp2_with fail
              refine (HK.out _).mono ?_
              rintro e w3 ⟨rfl, h3⟩
              replace h3 := chain2 h2 h3
              clear h2
              go_wp2_with fail
              refine (HM.out _).mono ?_
              rintro e w4 ⟨rfl, rfl⟩
              go_wp2_with fail
              refine (live_any _).mono ?_
              rintro e w6 ⟨rfl, h6⟩
              go_wp2_with fail
              go_ret
              exact ⟨rfl, chain2 h3 h6⟩
            · replace HB := Lib.hid (HB.out true)
              replace HG := Lib.hid (HG.out true)
              replace HK := Lib.hid (HK.out true)
              replace HM := Lib.hid (HM.out true)
              have o1 := ho.out true
              clear ho
              generalize V false = F at *
              generalize V true = T at *
              go_wp2_with fail
              rw [hw1.out]
              refine (HB.out _).mono ?_
              rintro e w1 ⟨rfl, h1⟩
              go_wp2_with fail
              refine (HG.out _).mono ?_
              rintro e w2 ⟨rfl, h2⟩
              replace h2 := chain2 h1 h2
              clear h1
              go_wp2_with fail
              refine (HK.out _).mono ?_
              rintro e w3 ⟨rfl, h3⟩
              replace h3 := chain2 h2 h3
              clear h2
              go_wp2_with fail
              refine (HM.out _).mono ?_
              rintro e w4 ⟨rfl, rfl⟩
              go_wp2_with fail
              refine (live_any _).mono ?_
              rintro e w6 ⟨rfl, h6⟩
              go_wp2_with fail
              go_ret
              exact ⟨rfl, chain2 h3 h6⟩
          · obtain rfl : j = 52 - L := by omega
            have hv := HR.out
            have hf := HF.out
            rw [if_neg hL] at hf
            rw [hf] at hv hfull
            generalize n * 2 ^ (52 - L) = X at *
            have hw0 := Lib.hid (show (1022 + ((L : Int) + 1)) * 4503599627370496 + (X : Int) - 4503599627370496 = (V false : Int) by omega)
            have hw1 := Lib.hid (show (1022 + ((L : Int) + 1)) * 4503599627370496 + (X : Int) - 4503599627370496 + 9223372036854775808 = (V true : Int) by have := HT.out; omega)
            clear hL2 HR HF HT hv hf
            cases s
            · replace HB := Lib.hid (HB.out false)
              replace HG := Lib.hid (HG.out false)
              replace HK := Lib.hid (HK.out false)
              replace HM := Lib.hid (HM.out false)
              have o1 := ho.out false
              clear ho
              generalize V false = F at *
              generalize V true = T at *
              go_wp2_with fail
              rw [hw0.out]
              refine (HB.out _).mono ?_
              rintro e w1 ⟨rfl, h1⟩
              go_wp2_with fail
              refine (HG.out _).mono ?_
              rintro e w2 ⟨rfl, h2⟩
              replace h2 := chain2 h1 h2
              clear h1
              go_wp2_with fail
              refine (HK.out _).mono ?_
              rintro e w3 ⟨rfl, h3⟩
              replace h3 := chain2 h2 h3
              clear h2
              go_wp2_with fail
              refine (HM.out _).mono ?_
              rintro e w4 ⟨rfl, rfl⟩
              go_wp2_with fail
              refine (live_any _).mono ?_
              rintro e w6 ⟨rfl, h6⟩
              go_wp2_with fail
              go_ret
              exact ⟨rfl, chain2 h3 h6⟩
            · replace HB := Lib.hid (HB.out true)
              replace HG := Lib.hid (HG.out true)
              replace HK := Lib.hid (HK.out true)
              replace HM := Lib.hid (HM.out true)
              have o1 := ho.out true
              clear ho
              generalize V false = F at *
              generalize V true = T at *
              go_wp2_with fail
              rw [hw1.out]
              refine (HB.out _).mono ?_
              rintro e w1 ⟨rfl, h1⟩
              go_wp2_with fail
              refine (HG.out _).mono ?_
              rintro e w2 ⟨rfl, h2⟩
              replace h2 := chain2 h1 h2
              clear h1
              go_wp2_with fail
              refine (HK.out _).mono ?_
              rintro e w3 ⟨rfl, h3⟩
              replace h3 := chain2 h2 h3
              clear h2
              go_wp2_with fail
              refine (HM.out _).mono ?_
              rintro e w4 ⟨rfl, rfl⟩
              go_wp2_with fail
              refine (live_any _).mono ?_
              rintro e w6 ⟨rfl, h6⟩
              go_wp2_with fail
              go_ret
              exact ⟨rfl, chain2 h3 h6⟩

theorem whole_near (n : Nat) (s : Bool) (w : World) (h0 : 0 < n) (h : n ≤ 2 * B) :
    Calls Try.prog 7 #[.int .i64 (n : Nat), .bool s] w fun e w' => e = .returned (.bool true) ∧ Below w.heap.size w w' := by
  obtain ⟨hB1, hI1, hE1, hE2⟩ := rung_range h0 h
  have hI := Nat.le_of_lt hI1
  exact whole_walk n s w (fun s => wd s (rung n)) h0 h (Lib.hid fun s w => bits_wd s _ w hI) (Lib.hid fun s w => float_wd' s _ w hI) (Lib.hid fun s w => kind_wd n s w h0 h) (Lib.hid fun s w => minus_num s _ w hI)
    (Lib.hid fun s => order_self (wd_lt s hI) (not_nan s hI)) (fun w => run_neg false (r := rung n) (by have := I_lt_S; omega) w) (by rw [float_whole h0 h]; exact (wd_false _).symm)
    (log2_whole h0 h).1 (Lib.hid (log2_whole h0 h).2) (full_range h0 h) Nat.lt_log2_self (Lib.hid rfl) (Lib.hid (wd_false _)) (Lib.hid (by show S + rung n = _ + wd false (rung n); rw [wd_false]; rfl))

theorem whole_ok (W : World) (b : Nat) (v0 v1 : Value) (o0 : Value.okWide Try.prog W .any b 3 v0) (o1 : Value.okWide Try.prog W .any b 4 v1) :
    Calls Try.prog 7 #[v0, v1] W fun e w' => e = .returned (.bool true) ∧ Below W.heap.size W w' := by
  obtain ⟨n, rfl, h0, h1⟩ := Opened.ok_int Try.underlying3 o0
  obtain ⟨s, rfl⟩ := Opened.ok_bool Try.underlying4 o1
  by_cases h : n < 1 ∨ 9007199254740992 < n
  · exact whole_far n s W h
  · obtain ⟨m, rfl⟩ := Int.eq_ofNat_of_zero_le (show 0 ≤ n by omega)
    exact whole_near m s W (by omega) (by show m ≤ 9007199254740992; omega)

end Fl
end Go.Proofs.Ytaninbkcpejgcaa
