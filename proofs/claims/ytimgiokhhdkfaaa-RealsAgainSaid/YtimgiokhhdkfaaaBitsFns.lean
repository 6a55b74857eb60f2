/-
  WALKS: package bits' exported functions: Bits, Float, Canon, Kind, Same. Conditions: the numbers are of their kinds.
-/
import Derived.Test.YtimgiokhhdkfaaaBitsWalks
namespace Go.Proofs.Ytimgiokhhdkfaaa
open Go.RowKit
namespace Fl

/-! ### words and bits -/
theorem S_pow : S = 2 ^ 63 := by decide
theorem sign_add {r : Nat} (h : r < S) : S ||| r = S + r ∧ r ^^^ S = S + r ∧ (S + r) ^^^ S = r := by
  rw [S_pow] at *
  have o : 2 ^ 63 * 1 + r = 2 ^ 63 * 1 ||| r := Nat.two_pow_add_eq_or_of_lt h 1
  rw [Nat.mul_one] at o
  have x : r ^^^ 2 ^ 63 = 2 ^ 63 + r := by
    apply Nat.eq_of_testBit_eq
    intro i
    have t := Nat.testBit_two_pow_mul_add 1 h i
    rw [Nat.mul_one] at t
    rw [t, Nat.testBit_xor, Nat.testBit_two_pow]
    by_cases hi : i < 63
    · rw [if_pos hi]
      have : decide (63 = i) = false := decide_eq_false (by omega)
      rw [this, Bool.xor_false]
    · rw [if_neg hi, Nat.testBit_lt_two_pow (Nat.lt_of_lt_of_le h (Nat.pow_le_pow_right (by decide) (by omega))), Bool.false_xor]
      by_cases h63 : 63 = i
      · subst h63; simp
      · have e : i - 63 ≠ 0 := by omega
        have : decide (63 = i) = false := decide_eq_false h63
        rw [this]
        symm
        exact Nat.testBit_lt_two_pow (Nat.one_lt_two_pow e)
  refine ⟨o.symm, x, ?_⟩
  rw [← x, Nat.xor_assoc, Nat.xor_self, Nat.xor_zero]

theorem neg_wd (s : Bool) {r : Nat} (h : r < S) : Op.negFloat .f64 (wd s r) = wd (!s) r := by
  have h2 : 2 ^ (FloatKind.f64.format.exponentBits + FloatKind.f64.format.fractionBits) = S := by decide
  obtain ⟨_, e1, e2⟩ := sign_add h
  unfold Op.negFloat
  rw [h2]
  cases s
  · rw [wd_false]; rw [e1]; rfl
  · exact e2

theorem run_neg (s : Bool) {r : Nat} (h : r < S) (w : World) : (Op.unary .neg (.float .f64 (wd s r))).run Try.prog w = .ok (.float .f64 (wd (!s) r)) w := by
  rw [← neg_wd s h]
  rfl

theorem or64 {a b : Nat} (ha : a < 18446744073709551616) (hb : b < 18446744073709551616) : bits .or .u64 (a : Int) (b : Int) = ((a ||| b : Nat) : Int) := u64_or_nat a b ha hb
theorem and_low {M : Nat} (h : M < 18446744073709551616) : bits .and .u64 (M : Int) 4503599627370495 = ((M % B : Nat) : Int) := by
  have := u64_and_nat M 4503599627370495 h (by decide)
  rw [show (4503599627370495 : Nat) = 2 ^ 52 - 1 from by decide, Nat.and_two_pow_sub_one_eq_mod] at this
  exact this
theorem join52 {E x : Nat} (hx : x < B) : E * B ||| x = E * B + x := by
  rw [B_pow] at *
  rw [Nat.mul_comm]
  exact (Nat.two_pow_add_eq_or_of_lt hx E).symm

theorem I_lt_S : I < S := by decide

/-- the bits of a plain number, put together. -/
theorem bits_plain (sv : Nat) (s : Bool) (hsv : sv = if s then S else 0) {E M : Nat} (hE : E ≤ 2046) (h1 : B ≤ M) (h2 : M < 2 * B) :
    bits .or .u64 (bits .or .u64 (sv : Int) ((E : Int) * 4503599627370496)) (bits .and .u64 (M : Int) 4503599627370495) = ((wd s (E * B + (M - B)) : Nat) : Int) := by
  have hB : B = 4503599627370496 := rfl
  have hI : I = 2047 * B := by decide
  have hS : S = 2048 * B := by decide
  have hEB : E * B ≤ 2046 * B := Nat.mul_le_mul_right _ hE
  have e1 : (E : Int) * 4503599627370496 = ((E * B : Nat) : Int) := by rw [Int.natCast_mul, hB]; rfl
  have e2 : M % B = M - B := by rw [Nat.mod_eq_sub_mod h1, Nat.mod_eq_of_lt (by omega)]
  have hx : M - B < B := by omega
  rw [and_low (by omega), e1, e2, or64 (by subst hsv; split <;> omega) (by omega)]
  have l1 : sv ||| E * B < 18446744073709551616 := Nat.or_lt_two_pow (n := 64) (by subst hsv; split <;> omega) (by omega)
  rw [or64 l1 (by omega), Nat.or_assoc, join52 hx]
  subst hsv
  cases s
  · rw [if_neg (by decide), Nat.zero_or, wd_false]
  · rw [if_pos rfl, (sign_add (by omega)).1]; rfl

theorem bits_small (sv : Nat) (s : Bool) (hsv : sv = if s then S else 0) {r : Nat} (h : r < S) : bits .or .u64 (sv : Int) (r : Int) = ((wd s r : Nat) : Int) := by
  have hS : S = 9223372036854775808 := rfl
  rw [or64 (by subst hsv; split <;> omega) (by omega)]
  subst hsv
  cases s
  · rw [if_neg (by decide), Nat.zero_or, wd_false]
  · rw [if_pos rfl, (sign_add h).1]; rfl

theorem run_to_u64 {a n : Nat} (h : (Ieee.double.read a).toInt .zero = some (n : Int)) (hn : n < 18446744073709551616) (w : World) :
    (convert 33 23 (.float .f64 a)).run Try.prog w = .ok (.int .u64 n) w := by
  refine run_convert_float_int w 33 23 .f64 .u64 a n (by rw [Try.underlying33]; rfl) Try.underlying23 ?_
  unfold floatToIntVal
  rw [show FloatKind.f64.decode a = Ieee.double.read a from rfl, h]
  have h1 : IntKind.u64.min = 0 := rfl
  have h2 : IntKind.u64.max = 18446744073709551615 := rfl
  simp only
  rw [if_pos (by omega)]

/-- what split and the numbers behind it come to. -/
theorem norm_whole {m : Nat} (h0 : 0 < m) (hm : m < 2 * B) : R m (1126 - m.log2) = R (m * 2 ^ (52 - m.log2)) 1074 ∧ R (m * 2 ^ (52 - m.log2)) 1074 < I := by
  obtain ⟨n1, n2, n3⟩ := norm_range h0 hm
  have e := R_move (m := m) (a := 52 - m.log2) (j := 1074) n2
  rw [show 52 - m.log2 + 1074 = 1126 - m.log2 from by omega] at e
  exact ⟨e.symm, by rw [e]; exact fin_of h0 hm (by omega)⟩

set_option maxHeartbeats 1000000 in
theorem bits_nan (b : Nat) (w : World) (hb : b < 2 * S) (h : isNan b = true) :
    Calls Try.prog 22 #[.float .f64 b] w fun e w' => e = .returned (.int .u64 (nanU : Nat)) ∧ Below w.heap.size w w' := by
  have ho : FloatKind.f64.format.order b b = none := order_nan_left b b hb h
  go_enter Try.func22, Try.ntmps22
  go_wp2_with fail
  refine (minus_nan b _ hb h).mono ?_
  rintro e w' ⟨rfl, rfl⟩
  go_wp2_with fail
  go_ret
  exact ⟨rfl, Below.refl _ _⟩

theorem ret_u64 {a b : Int} (h : a = b) : Ending.returned (.int .u64 a) = .returned (.int .u64 b) := by rw [h]

/-- behind the sign: a number of no minus, s set aside. -/
theorem eq_self {r : Nat} (h : r ≤ I) : FloatKind.f64.format.order (wd false r) (wd false r) = some .eq := by
  rw [fo_num false false h h]
  simp

set_option maxHeartbeats 2000000 in
theorem bits_zero (s : Bool) (w : World) :
    Calls Try.prog 22 #[.float .f64 (wd s 0)] w fun e w' => e = .returned (.int .u64 (wd s 0 : Nat)) ∧ Below w.heap.size w w' := by
  have ho := fo_zero false
  have he := eq_self (r := 0) (by decide)
  cases s
  · go_enter Try.func22, Try.ntmps22
    go_wp2_with fail
    refine (minus_num false 0 _ (by decide)).mono ?_
    rintro e w' ⟨rfl, rfl⟩
    go_wp2_with fail
    go_ret
    exact ⟨rfl, Below.refl _ _⟩
  · have hn := run_neg true (r := 0) (by decide)
    go_enter Try.func22, Try.ntmps22
    go_wp2_with fail
    refine (minus_num true 0 _ (by decide)).mono ?_
    rintro e w' ⟨rfl, rfl⟩
    go_wp2_with fail
    go_ret
    exact ⟨rfl, Below.refl _ _⟩

set_option maxHeartbeats 2000000 in
theorem bits_inf (s : Bool) (w : World) :
    Calls Try.prog 22 #[.float .f64 (wd s I)] w fun e w' => e = .returned (.int .u64 (wd s I : Nat)) ∧ Below w.heap.size w w' := by
  have he := eq_self (r := I) (Nat.le_refl _)
  have ho : FloatKind.f64.format.order (wd false I) 0 = some .gt := fo_pos (by decide) (Nat.le_refl _)
  have hd := run_mul (a := wd false I) (b := 4611686018427387904) (r := wd false I) (by decide +kernel)
  have HZ := Lib.hid (bits_small (if s then S else 0) s rfl I_lt_S)
  cases s
  · go_enter Try.func22, Try.ntmps22
    go_wp2_with fail
    refine (minus_num false I _ (Nat.le_refl _)).mono ?_
    rintro e w' ⟨rfl, rfl⟩
    go_wp2_with fail
    go_ret
    exact ⟨by rw [← HZ.out]; rfl, Below.refl _ _⟩
  · have hn := run_neg true (r := I) I_lt_S
    go_enter Try.func22, Try.ntmps22
    go_wp2_with fail
    refine (minus_num true I _ (Nat.le_refl _)).mono ?_
    rintro e w' ⟨rfl, rfl⟩
    go_wp2_with fail
    go_ret
    exact ⟨by rw [← HZ.out]; rfl, Below.refl _ _⟩

theorem shr_small {m L j : Nat} (hL : L ≤ 52) (h : L + j < 52) : m * 2 ^ (52 - L) / 2 ^ (52 - L - j) = m * 2 ^ j := by
  rw [show 52 - L = j + (52 - L - j) from by omega, Nat.pow_add, ← Nat.mul_assoc, show j + (52 - L - j) - j = 52 - L - j from by omega, Nat.mul_div_cancel _ (Nat.two_pow_pos _)]

set_option maxHeartbeats 4000000 in
theorem bits_fin (s : Bool) (r : Nat) (w : World) (h0 : 0 < r) (hr : r < I) :
    Calls Try.prog 22 #[.float .f64 (wd s r)] w fun e w' => e = .returned (.int .u64 (wd s r : Nat)) ∧ Below w.heap.size w w' := by
  have hself := R_self r
  have hm0 := mg_pos h0
  have hm := mg_lt r
  have hlog := log2_of_fin h0 hr
  generalize mg r = m at *
  generalize pl r = j at *
  subst hself
  obtain ⟨n1, n2, n3⟩ := norm_range hm0 hm
  have he := eq_self (Nat.le_of_lt hr)
  have ho : FloatKind.f64.format.order (wd false (R m j)) 0 = some .gt := fo_pos h0 (Nat.le_of_lt hr)
  have hd := run_mul (a := wd false (R m j)) (b := 4611686018427387904) (r := wd false (min (R m (j + 1)) I)) (by
    have := mul_pow false (m := m) (j := j) (i := 1075) hm hr (by decide +kernel) (by omega)
    rw [show j + 1075 - 1074 = j + 1 from by omega] at this
    rw [show 4611686018427387904 = R 1 1075 from by decide +kernel]; exact this)
  have hlt : FloatKind.f64.format.order (wd false (R m j)) (wd false (min (R m (j + 1)) I)) = some .lt := by
    rw [wd_false, wd_false]
    refine ord_lt (Nat.min_le_right _ _) ?_
    have h1 : R m j < R m (j + 1) := by
      have a := @R_le m (j + 1) m j hm hm
      have b : ¬ m * 2 ^ (j + 1) ≤ m * 2 ^ j := by
        rw [Nat.pow_succ, ← Nat.mul_assoc]
        have := Nat.mul_pos hm0 (Nat.two_pow_pos j)
        omega
      omega
    omega
  obtain ⟨w1, w2⟩ := norm_whole hm0 hm
  have hg := run_mul (a := R m (1074 - m.log2)) (b := 4841369599423283200) (r := R m (1126 - m.log2)) (by
    have := mul_pow false (m := m) (j := 1074 - m.log2) (i := 1126) hm (fin_of hm0 hm (by omega)) (by decide +kernel) (by omega)
    rw [show 1074 - m.log2 + 1126 - 1074 = 1126 - m.log2 from by omega, wd_false, Nat.min_eq_left (by rw [w1]; exact Nat.le_of_lt w2), wd_false] at this
    rw [show 4841369599423283200 = R 1 1126 from by decide +kernel]; exact this)
  have hB : B = 4503599627370496 := rfl
  have hc := run_to_u64 (a := R m (1126 - m.log2)) (n := m * 2 ^ (52 - m.log2)) (by rw [w1]; exact to_whole n2 w2) (by omega)
  have hsp := Lib.hid (fun w => split_any m j w hm0 hm hlog)
  have HRS : Hid (R m j < S) := Lib.hid (by have := I_lt_S; omega)
  have hnf := fun w => run_neg true HRS.out w
  have HM := Lib.hid (fun s => minus_num s (R m j) w (Nat.le_of_lt hr))
  by_cases hpl : 52 ≤ m.log2 + j
  · have HF := Lib.hid (bits_plain (if s then S else 0) s rfl (E := m.log2 + j - 51) (M := m * 2 ^ (52 - m.log2)) (by omega) n1 n2)
    have HR := Lib.hid (show R m j = (m.log2 + j - 51) * B + (m * 2 ^ (52 - m.log2) - B) by
      unfold R
      rw [if_neg (by omega), if_neg (by omega), show m.log2 + j - 51 = (m.log2 + j - 52) + 1 from by omega, Nat.succ_mul]
      omega)
    have HE := Lib.hid (show (m.log2 : Int) + j - 1074 + 1023 = ((m.log2 + j - 51 : Nat) : Int) by omega)
    generalize hQ : wd false (min (R m (j + 1)) I) = Q at *
    clear hQ w1 w2
    generalize m * 2 ^ (52 - m.log2) = M at *
    generalize R m (1074 - m.log2) = G at *
    generalize R m (1126 - m.log2) = G2 at *
    generalize R m j = r at *
    generalize m.log2 = L at *
    have hMl : M < 9007199254740992 := n2
    cases s
    · go_enter Try.func22, Try.ntmps22
      go_wp2_with fail
      refine (HM.out false).mono ?_
      rintro e w' ⟨rfl, rfl⟩
      go_wp2_with fail
      refine (hsp.out _).mono ?_
      rintro e w' ⟨rfl, hb⟩
      go_wp2_with fail
      go_ret
      refine ⟨ret_u64 ?_, hb⟩
      rw [HE.out, HR.out]
      exact HF.out
    · go_enter Try.func22, Try.ntmps22
      go_wp2_with fail
      refine (HM.out true).mono ?_
      rintro e w' ⟨rfl, rfl⟩
      go_wp2_with fail
      refine (hsp.out _).mono ?_
      rintro e w' ⟨rfl, hb⟩
      go_wp2_with fail
      go_ret
      refine ⟨ret_u64 ?_, hb⟩
      rw [HE.out, HR.out]
      exact HF.out
  · have HF := Lib.hid (bits_small (if s then S else 0) s rfl (r := R m j) HRS.out)
    have HR := Lib.hid (show R m j = m * 2 ^ (52 - m.log2) / 2 ^ (52 - m.log2 - j) by
      rw [shr_small n3 (by omega)]
      unfold R
      rw [if_neg (by omega), if_pos (by omega)])
    have hc1 : (m.log2 : Int) + j - 1074 + 1023 ≤ 0 := by omega
    have HSH := Lib.hid (show ((m * 2 ^ (52 - m.log2) : Nat) : Int) / 2 ^ (1 - ((m.log2 : Int) + j - 1074) - 1023).toNat = ((R m j : Nat) : Int) by
      rw [HR.out, show (1 - ((m.log2 : Int) + j - 1074) - 1023).toNat = 52 - m.log2 - j from by omega, Int.natCast_ediv _ (2 ^ (52 - m.log2 - j))]
      congr 1)
    generalize hQ : wd false (min (R m (j + 1)) I) = Q at *
    clear hQ w1 w2
    generalize m * 2 ^ (52 - m.log2) = M at *
    generalize R m (1074 - m.log2) = G at *
    generalize R m (1126 - m.log2) = G2 at *
    generalize R m j = r at *
    generalize m.log2 = L at *
    have hMl : M < 9007199254740992 := n2
    cases s
    · go_enter Try.func22, Try.ntmps22
      go_wp2_with fail
      refine (HM.out false).mono ?_
      rintro e w' ⟨rfl, rfl⟩
      go_wp2_with fail
      refine (hsp.out _).mono ?_
      rintro e w' ⟨rfl, hb⟩
      go_wp2_with fail
      go_ret
      refine ⟨ret_u64 ?_, hb⟩
      rw [HSH.out]
      exact HF.out
    · go_enter Try.func22, Try.ntmps22
      go_wp2_with fail
      refine (HM.out true).mono ?_
      rintro e w' ⟨rfl, rfl⟩
      go_wp2_with fail
      refine (hsp.out _).mono ?_
      rintro e w' ⟨rfl, hb⟩
      go_wp2_with fail
      go_ret
      refine ⟨ret_u64 ?_, hb⟩
      rw [HSH.out]
      exact HF.out

/-- the bits of a word: itself, but of no number the one. -/
def canon (b : Nat) : Nat := if isNan b then nanU else b

theorem bits_any (b : Nat) (w : World) (hb : b < 2 * S) :
    Calls Try.prog 22 #[.float .f64 b] w fun e w' => e = .returned (.int .u64 (canon b : Nat)) ∧ Below w.heap.size w w' := by
  unfold canon
  by_cases h : isNan b = true
  · rw [if_pos h]; exact bits_nan b w hb h
  · rw [if_neg h]
    have hr : b % S ≤ I := by unfold isNan at h; simpa using h
    rw [wd_of b hb]
    generalize b % S = r at *
    generalize neg b = s
    rcases Nat.eq_zero_or_pos r with h0 | h0
    · subst h0; exact bits_zero s w
    · rcases Nat.lt_or_ge r I with h1 | h1
      · exact bits_fin s r w h0 h1
      · obtain rfl : r = I := by omega
        exact bits_inf s w

/-! ### Float -/
theorem whole_fin {m : Nat} (hm : m < 2 * B) : R m 1074 < I := by
  by_cases h0 : m = 0
  · rw [h0, R_zero]; decide
  · refine fin_of (by omega) hm ?_
    have := (norm_range (by omega) hm).2.2
    omega
theorem run_to_float {m : Nat} (hm : m < 2 * B) (w : World) : (convert 23 33 (.int .u64 m)).run Try.prog w = .ok (.float .f64 (R m 1074)) w := by
  have h := of_whole hm (whole_fin hm)
  have e : FloatKind.f64.nearest (m : Int) = R m 1074 := by
    rw [← h]
    show Ieee.double.nearest (decide ((m : Int) < 0)) (m : Int).natAbs 0 = _
    rw [Int.natAbs_natCast, decide_eq_false (by omega)]
  rw [← e]
  simp [convert, run_underlying Try.underlying23, run_underlying Try.underlying33, Conv.intToFloat]

theorem floatOf {m : Nat} (hm : m < 2 * B) : floatOfInt .f64 (m : Int) = R m 1074 := by
  have h := of_whole hm (whole_fin hm)
  rw [← h]
  show Ieee.double.nearest (decide ((m : Int) < 0)) (m : Int).natAbs 0 = _
  rw [Int.natAbs_natCast, decide_eq_false (by omega)]

theorem and_2047 {x : Nat} (h : x < 18446744073709551616) : bits .and .u64 (x : Int) 2047 = ((x % 2048 : Nat) : Int) := by
  have := u64_and_nat x 2047 h (by decide)
  rw [show (2047 : Nat) = 2 ^ 11 - 1 from by decide, Nat.and_two_pow_sub_one_eq_mod] at this
  exact this
theorem or_B {x : Nat} (h : x < B) : bits .or .u64 (x : Int) 4503599627370496 = ((x + B : Nat) : Int) := by
  have hB : B = 4503599627370496 := rfl
  have := or64 (a := x) (b := B) (by omega) (by omega)
  have e := join52 (E := 1) h
  rw [Nat.one_mul, Nat.or_comm] at e
  rw [e, Nat.add_comm] at this
  exact this
theorem and_sign (s : Bool) {r : Nat} (h : r < S) : bits .and .u64 ((wd s r : Nat) : Int) 9223372036854775808 = ((if s then S else 0 : Nat) : Int) := by
  have hS : S = 9223372036854775808 := rfl
  have := u64_and_nat (wd s r) S (by cases s <;> simp [wd] <;> omega) (by omega)
  rw [show ((S : Nat) : Int) = 9223372036854775808 from rfl] at this
  rw [this]
  congr 1
  apply Nat.eq_of_testBit_eq
  intro i
  have hp : S = 2 ^ 63 := S_pow
  rw [Nat.testBit_and, hp, Nat.testBit_two_pow]
  by_cases hi : 63 = i
  · subst hi
    cases s
    · rw [wd_false, Nat.testBit_lt_two_pow (by rw [← hp]; exact h)]
      simp
    · have t := Nat.testBit_two_pow_mul_add 1 (b := r) (i := 63) (by rw [← hp]; exact h) 63
      rw [Nat.mul_one, ← hp] at t
      show (Nat.testBit (S + r) 63 && _) = _
      rw [t, if_neg (by decide), if_pos rfl]
      decide +kernel
  · rw [decide_eq_false hi, Bool.and_false]
    cases s
    · simp
    · rw [if_pos rfl, Nat.testBit_two_pow, decide_eq_false hi]

theorem parts_of (s : Bool) {r : Nat} (h : r < S) : wd s r / B % 2048 = r / B ∧ wd s r % B = r % B := by
  have hS : S = 2048 * B := by decide
  cases s
  · rw [wd_false]
    exact ⟨Nat.mod_eq_of_lt ((Nat.div_lt_iff_lt_mul (by decide)).2 (by rw [← hS]; exact h)), rfl⟩
  · show (S + r) / B % 2048 = _ ∧ (S + r) % B = _
    rw [hS, Nat.mul_comm 2048 B, Nat.mul_add_div (by decide), Nat.mul_add_mod]
    refine ⟨?_, rfl⟩
    rw [Nat.add_mod_left]
    exact Nat.mod_eq_of_lt ((Nat.div_lt_iff_lt_mul (by decide)).2 (by rw [← hS]; exact h))

/-- what the masks give of a word. -/
theorem masks (s : Bool) {r : Nat} (hr : r ≤ I) :
    bits .and .u64 (((wd s r : Nat) : Int) / 4503599627370496) 2047 = ((r / B : Nat) : Int) ∧ bits .and .u64 ((wd s r : Nat) : Int) 4503599627370495 = ((r % B : Nat) : Int) ∧
    bits .and .u64 ((wd s r : Nat) : Int) 9223372036854775808 = ((if s then S else 0 : Nat) : Int) ∧ wd s r < 18446744073709551616 ∧ r / B ≤ 2047 ∧ r % B < B := by
  have hS : r < S := by have := I_lt_S; omega
  have hw : wd s r < 18446744073709551616 := by
    have e : S = 9223372036854775808 := rfl
    unfold wd; split <;> omega
  obtain ⟨p1, p2⟩ := parts_of s hS
  have a1 := and_2047 (x := wd s r / B) (Nat.lt_of_le_of_lt (Nat.div_le_self _ _) hw)
  have a2 := and_low hw
  rw [p1] at a1
  rw [p2] at a2
  have a0 : ((wd s r / B : Nat) : Int) = ((wd s r : Nat) : Int) / 4503599627370496 := Int.natCast_ediv _ _
  rw [a0] at a1
  have hI : I = 2047 * B := by decide
  exact ⟨a1, a2, and_sign s hS, hw, by rw [hI] at hr; exact Nat.div_le_of_le_mul (by rw [Nat.mul_comm]; exact hr), Nat.mod_lt _ (by decide)⟩

/-- the sign that is set. -/
def sv (s : Bool) : Int := ((if s then S else 0 : Nat) : Int)
theorem sv_ne (s : Bool) : (sv s != 0) = s := by cases s <;> decide

set_option maxHeartbeats 1000000 in
theorem float_tiny (s : Bool) (r : Nat) (w : World) (hr : r < B) :
    Calls Try.prog 33 #[.int .u64 (wd s r : Nat)] w fun e w' => e = .returned (.float .f64 (wd s r)) ∧ Below w.heap.size w w' := by
  have hBI : B < I := by decide
  obtain ⟨a1, a2, a3, hw, -, -⟩ := masks s (r := r) (by omega)
  rw [Nat.div_eq_of_lt hr] at a1
  rw [Nat.mod_eq_of_lt hr] at a2
  change bits .and .u64 ((wd s r : Nat) : Int) 9223372036854775808 = sv s at a3
  have a4 := sv_ne s
  have hf := floatOf (m := r) (by omega)
  have hsc := Lib.hid (fun w => scale_any r 1074 0 (-1074) w (by omega) (by omega) (whole_fin (by omega)) (by
    rcases Nat.eq_zero_or_pos r with h | h
    · rw [h, R_zero]; decide
    · exact fin_of h (by omega) (by have := (norm_range h (by omega)).2.2; omega)) (by omega))
  have HR : Hid (R r 0 = wd false r) := Lib.hid (by
    rw [wd_false]
    unfold R
    split
    · omega
    · rename_i h0
      have : r.log2 < 52 := (Nat.log2_lt h0).2 (by rw [← B_pow]; exact hr)
      rw [if_pos (by omega), Nat.pow_zero, Nat.mul_one])
  have hn := fun w => run_neg false (r := r) (by have := I_lt_S; omega) w
  generalize sv s = V at *
  generalize hU : wd s r = U at *
  replace hU := Lib.hid hU
  generalize R r 1074 = G at *
  replace hr := Lib.hid hr
  replace hBI := Lib.hid hBI
  go_enter Try.func33, Try.ntmps33
  go_wp2_with fail
  refine (hsc.out _).mono ?_
  rintro e w' ⟨rfl, hb⟩
  rw [HR.out]
  cases s
  all_goals
    go_wp2_with fail
    go_ret
    exact ⟨by rw [← hU.out]; rfl, hb⟩

set_option maxHeartbeats 1000000 in
theorem float_plain (s : Bool) (r : Nat) (w : World) (h1 : B ≤ r) (hr : r < I) :
    Calls Try.prog 33 #[.int .u64 (wd s r : Nat)] w fun e w' => e = .returned (.float .f64 (wd s r)) ∧ Below w.heap.size w w' := by
  obtain ⟨a1, a2, a3, hw, hE, hM⟩ := masks s (r := r) (by omega)
  change bits .and .u64 ((wd s r : Nat) : Int) 9223372036854775808 = sv s at a3
  have a4 := sv_ne s
  have hI : I = 2047 * B := by decide
  have hz : 1 ≤ r / B := (Nat.one_le_div_iff (by decide)).2 h1
  have hlt : r / B < 2047 := (Nat.div_lt_iff_lt_mul (by decide)).2 (by rw [← hI]; exact hr)
  have hsum := Nat.div_add_mod r B
  have hf : floatOfInt .f64 (((r % B : Nat) : Int) + (B : Int)) = R (r % B + B) 1074 := by rw [← Int.natCast_add]; exact floatOf (by omega)
  have hor := or_B hM
  have hmm : (r % B + B).log2 = 52 := by
    have a : (r % B + B).log2 < 53 := (Nat.log2_lt (by omega)).2 (by rw [show (2 : Nat) ^ 53 = 2 * B from by decide]; omega)
    have b : 52 ≤ (r % B + B).log2 := (Nat.le_log2 (by omega)).2 (by rw [← B_pow]; omega)
    omega
  have hJ : R (r % B + B) (r / B - 1) < I := fin_of (by omega) (by omega) (by omega)
  have hsc := Lib.hid (fun w => scale_any (r % B + B) 1074 (r / B - 1) (((r / B : Nat) : Int) - 1023 - 52) w (by omega) (by omega) (whole_fin (by omega)) hJ (by omega))
  have HR : Hid (R (r % B + B) (r / B - 1) = wd false r) := Lib.hid (by
    rw [wd_false]
    unfold R
    rw [if_neg (by omega), if_neg (by omega), hmm, Nat.sub_self, Nat.pow_zero, Nat.mul_one, show 52 + (r / B - 1) - 52 = r / B - 1 from by omega]
    have : (r / B - 1) * B + B = B * (r / B) := by
      rw [← Nat.succ_mul, Nat.mul_comm]; congr 1; omega
    omega)
  have hn := fun w => run_neg false (r := r) (by have := I_lt_S; omega) w
  have hne : (((r / B : Nat) : Int) == 2047) = false := by rw [beq_eq_false_iff_ne]; omega
  have hne0 : (((r / B : Nat) : Int) == 0) = false := by rw [beq_eq_false_iff_ne]; omega
  clear hmm hJ hsum hI h1 hr
  generalize r / B = E at *
  generalize R (r % B + B) 1074 = G at *
  generalize r % B = M at *
  generalize sv s = V at *
  generalize hU : wd s r = U at *
  replace hU := Lib.hid hU
  replace hM := Lib.hid hM
  go_enter Try.func33, Try.ntmps33
  go_wp2_with fail
  refine (hsc.out _).mono ?_
  rintro e w' ⟨rfl, hb⟩
  rw [HR.out]
  cases s
  all_goals
    go_wp2_with fail
    go_ret
    exact ⟨by rw [← hU.out]; rfl, hb⟩

set_option maxHeartbeats 1000000 in
theorem float_inf (s : Bool) (w : World) :
    Calls Try.prog 33 #[.int .u64 (wd s I : Nat)] w fun e w' => e = .returned (.float .f64 (wd s I)) ∧ Below w.heap.size w w' := by
  obtain ⟨a1, a2, a3, hw, hE, hM⟩ := masks s (r := I) (Nat.le_refl _)
  change bits .and .u64 ((wd s I : Nat) : Int) 9223372036854775808 = sv s at a3
  have a4 := sv_ne s
  rw [show I / B = 2047 from by decide] at a1
  rw [show I % B = 0 from by decide] at a2
  have hd := run_div (a := 4607182418800017408) (b := 0) (r := wd false I) (by decide +kernel)
  have hn := fun w => run_neg false (r := I) I_lt_S w
  clear hE hM
  generalize sv s = V at *
  generalize hU : wd s I = U at *
  replace hU := Lib.hid hU
  cases s
  all_goals
    go_enter Try.func33, Try.ntmps33
    go_wp2_with fail
    go_ret
    exact ⟨by rw [← hU.out]; rfl, Below.refl _ _⟩

theorem float_num (s : Bool) (r : Nat) (w : World) (hr : r ≤ I) :
    Calls Try.prog 33 #[.int .u64 (wd s r : Nat)] w fun e w' => e = .returned (.float .f64 (wd s r)) ∧ Below w.heap.size w w' := by
  rcases Nat.lt_or_ge r B with h | h
  · exact float_tiny s r w h
  · rcases Nat.lt_or_ge r I with h' | h'
    · exact float_plain s r w h h'
    · obtain rfl : r = I := by omega
      exact float_inf s w

/-- no number, whatever its bits. -/
theorem run_nought (w : World) : ∃ b, (binOp .quo 33 (.float .f64 0) (.float .f64 0)).run Try.prog w = .ok (.float .f64 b) w.drew ∧ isNan b = true ∧ b < 2 * S := by
  have hd : Ieee.double.div 0 0 = none := by decide +kernel
  have hd' : FloatKind.f64.format.div 0 0 = none := hd
  refine ⟨(Question.nanBits .f64 0 0).cut (w.tape w.drawn (.nanBits .f64 0 0)), ?_, ?_⟩
  · simp [binOp, Op.floatArith, hd', Question.forced]
  · have hc : ∀ t : Nat, (Question.nanBits .f64 0 0).cut t = t % 2 * 9223372036854775808 + 9218868437227405312 + 1 + t / 2 % (2 ^ 52 - 1) := fun _ => rfl
    rw [hc]
    unfold isNan
    generalize w.tape w.drawn (.nanBits .f64 0 0) = t
    have hS : S = 9223372036854775808 := rfl
    have hI : I = 9218868437227405312 := rfl
    rw [decide_eq_true_iff]
    have h1 : t % 2 = 0 ∨ t % 2 = 1 := by omega
    have h2 : t / 2 % (2 ^ 52 - 1) < 2 ^ 52 - 1 := Nat.mod_lt _ (by decide)
    generalize t / 2 % (2 ^ 52 - 1) = x at *
    rw [hS, hI]
    rcases h1 with h1 | h1 <;> rw [h1] <;> omega

set_option maxHeartbeats 1000000 in
theorem float_nan (u : Nat) (w : World) (hu : u < 2 * S) (h : isNan u = true) :
    Calls Try.prog 33 #[.int .u64 u] w fun e w' => (∃ b, e = .returned (.float .f64 b) ∧ isNan b = true ∧ b < 2 * S) ∧ Below w.heap.size w w' := by
  have hw : u < 18446744073709551616 := hu
  have a1 := and_2047 (x := u / B) (Nat.lt_of_le_of_lt (Nat.div_le_self _ _) hw)
  have a2 := and_low hw
  have a0 : ((u / B : Nat) : Int) = (u : Int) / 4503599627370496 := Int.natCast_ediv _ _
  rw [a0] at a1
  have e1 : u / B % 2048 = 2047 ∧ u % B ≠ 0 := by
    have h' : I < u % S := by unfold isNan at h; simpa using h
    have hS : S = 9223372036854775808 := rfl
    have hI : I = 9218868437227405312 := rfl
    have hB : B = 4503599627370496 := rfl
    rw [hS, hI] at h'
    rw [hB]
    omega
  rw [e1.1] at a1
  have hne : (((u % B : Nat) : Int) != 0) = true := by rw [bne_iff_ne]; omega
  obtain ⟨b, hrun, hb1, hb2⟩ := run_nought w
  replace e1 := Lib.hid e1
  generalize u % B = M at *
  go_enter Try.func33, Try.ntmps33
  go_wp2_with fail
  go_ret
  exact ⟨⟨b, rfl, hb1, hb2⟩, (Below.refl _ _).drew⟩

end Fl
end Go.Proofs.Ytimgiokhhdkfaaa
