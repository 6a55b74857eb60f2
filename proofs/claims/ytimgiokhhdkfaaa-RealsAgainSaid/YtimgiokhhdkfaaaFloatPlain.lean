/-
  PLAIN: numbers with a point, as the model has them: what a word stands for, the word that is written for an exact number, times and against powers of two, how two stand. No condition.
-/
import Ieee.Arith
import GoSem.Core.Float
namespace Go.Proofs.Ytimgiokhhdkfaaa
namespace Fl
open Ieee

def B : Nat := 4503599627370496            -- 2^52
def S : Nat := 9223372036854775808         -- 2^63
def I : Nat := 9218868437227405312         -- the rung of what is endless
def nanU : Nat := 9221120237041090560      -- 0x7ff8000000000000
theorem B_pow : B = 2 ^ 52 := by decide
theorem binade_eq : double.binade = B := by decide
theorem sign_eq : double.signWeight = S := by decide
theorem inf_eq : double.infRung = I := by decide
theorem least_eq : double.leastPlace = -1074 := by decide

/-- the m and the place of a rung. -/
def mg (r : Nat) : Nat := if r < B then r else B + r % B
def pl (r : Nat) : Nat := if r < B then 0 else r / B - 1
/-- its size, in so many 2^-1074. -/
def X (r : Nat) : Nat := mg r * 2 ^ pl r

/-- the word of a sign and a rung. -/
def wd (s : Bool) (r : Nat) : Nat := if s then S + r else r
theorem wd_false (r : Nat) : wd false r = r := by unfold wd; rw [if_neg (by decide)]
def isNan (b : Nat) : Bool := decide (I < b % S)
def neg (b : Nat) : Bool := decide (S ≤ b)

theorem read_fin (s : Bool) (r : Nat) (h : r < I) : double.read (wd s r) = .number s (mg r) (-1074 + (pl r : Int)) := by
  unfold Format.read wd mg pl
  rw [sign_eq, binade_eq, inf_eq, least_eq]
  have hI : I < S := by decide
  cases s
  · have e1 : r / S % 2 = 0 := by rw [Nat.div_eq_of_lt (by omega)]
    have e2 : r % S = r := Nat.mod_eq_of_lt (by omega)
    simp only [Bool.false_eq_true, if_false, e1, e2]
    by_cases hB : r < B
    · simp [hB]
    · simp [hB, h]
  · have e1 : (S + r) / S % 2 = 1 := by
      rw [Nat.add_div_left _ (by decide), Nat.div_eq_of_lt (by omega)]
    have e2 : (S + r) % S = r := by rw [Nat.add_mod_left, Nat.mod_eq_of_lt (by omega)]
    simp only [if_true, e1, e2]
    by_cases hB : r < B
    · simp [hB]
    · simp [hB, h]

theorem read_inf (s : Bool) : double.read (wd s I) = .infinity s := by cases s <;> decide +kernel

theorem read_nan (b : Nat) (_hb : b < 2 * S) (h : isNan b = true) : ∃ s t, double.read b = .nan s t := by
  unfold isNan at h
  have h' := of_decide_eq_true h
  unfold Format.read
  rw [sign_eq, binade_eq, inf_eq]
  have hBI : B ≤ I := by decide
  simp only
  rw [if_neg (by omega), if_neg (by omega), if_neg (by omega)]
  exact ⟨_, _, rfl⟩

/-- a word is a sign and a rung. -/
theorem wd_of (b : Nat) (hb : b < 2 * S) : b = wd (neg b) (b % S) := by
  unfold wd neg
  by_cases h : S ≤ b
  · rw [if_pos (by simpa using h)]
    have : b % S = b - S := by rw [Nat.mod_eq_sub_mod h, Nat.mod_eq_of_lt (by omega)]
    omega
  · rw [if_neg (by simpa using h), Nat.mod_eq_of_lt (by omega)]

theorem mg_lt (r : Nat) : mg r < 2 * B := by
  unfold mg
  have : 0 < B := by decide
  have := Nat.mod_lt r this
  split <;> omega

theorem mg_pos {r : Nat} (h : 0 < r) : 0 < mg r := by
  unfold mg
  have : 0 < B := by decide
  split <;> omega

/-- the rung out of them. -/
theorem rung_eq (r : Nat) : r = pl r * B + mg r := by
  unfold pl mg
  by_cases h : r < B
  · rw [if_pos h, if_pos h]; omega
  · rw [if_neg h, if_neg h]
    have h1 := Nat.div_add_mod r B
    have h2 : 1 ≤ r / B := (Nat.one_le_div_iff (by decide)).2 (by omega)
    have h3 : (r / B - 1) * B + B = B * (r / B) := by
      rw [← Nat.succ_mul, Nat.mul_comm]
      congr 1
      omega
    omega

theorem pl_lt {r : Nat} (h : r < I) : pl r < 2046 := by
  unfold pl
  split
  · omega
  · have : r / B < 2047 := (Nat.div_lt_iff_lt_mul (by decide)).2 h
    omega

/-! ### what is written -/
theorem cut_exact (s : Bool) (n j : Nat) : Toward.even.cut s (n * 2 ^ j) j = n := by
  unfold Toward.cut
  by_cases h0 : n = 0
  · subst h0
    simp
  · have hl : j ≤ (n * 2 ^ j).log2 + 2 := by
      have h1 : 2 ^ j ≤ n * 2 ^ j := Nat.le_mul_of_pos_left _ (by omega)
      have h2 := (Nat.le_log2 (n := n * 2 ^ j) (k := j) (by have := Nat.two_pow_pos j; have : 0 < n * 2 ^ j := Nat.mul_pos (by omega) this; omega)).2 h1
      omega
    simp only [Nat.min_eq_left hl, Nat.one_shiftLeft]
    rw [Nat.mul_div_cancel _ (Nat.two_pow_pos j), Nat.mul_mod_left]
    have hp := Nat.two_pow_pos j
    simp

theorem log2_mul_pow (n j : Nat) (h : 0 < n) : (n * 2 ^ j).log2 = n.log2 + j := by
  have hp := Nat.two_pow_pos j
  rw [Nat.log2_eq_iff (by have := Nat.mul_pos h hp; omega)]
  refine ⟨?_, ?_⟩
  · rw [Nat.pow_add]
    exact Nat.mul_le_mul_right _ (Nat.log2_self_le (by omega))
  · rw [show n.log2 + j + 1 = (n.log2 + 1) + j from by omega, Nat.pow_add]
    exact Nat.mul_lt_mul_of_pos_right Nat.lt_log2_self hp

/-- the least digit that is kept of a rung's number. -/
theorem log2_mg (r : Nat) (h : 0 < r) : max (-1074 + (pl r : Int) + ((mg r).log2 : Int) - 52) (-1074) = -1074 + (pl r : Int) := by
  have hm := mg_lt r
  have hp := mg_pos h
  have h1 : (mg r).log2 < 53 := (Nat.log2_lt (by omega)).2 (by rw [show (2 : Nat) ^ 53 = 2 * B from by decide]; exact hm)
  by_cases hB : r < B
  · have : pl r = 0 := by unfold pl; rw [if_pos hB]
    rw [this]
    have : (mg r).log2 < 52 := (Nat.log2_lt (by omega)).2 (by rw [show (2 : Nat) ^ 52 = B from by decide]; unfold mg; rw [if_pos hB]; exact hB)
    omega
  · have : 52 ≤ (mg r).log2 := (Nat.le_log2 (by omega)).2 (by rw [show (2 : Nat) ^ 52 = B from by decide]; unfold mg; rw [if_neg hB]; omega)
    omega

/-- THE WORD THAT IS WRITTEN FOR AN EXACT NUMBER IS THE RUNG's (or the endless one's): 'mag' of so many places is the rung's m, moved. -/
theorem near_down (s : Bool) (r j : Nat) : double.nearest s (mg r * 2 ^ j) (-1074 + (pl r : Int) - (j : Int)) = wd s (min r I) := by
  by_cases h0 : r = 0
  · subst h0
    unfold Format.nearest
    have : mg 0 * 2 ^ j = 0 := by
      have e : mg 0 = 0 := by decide
      rw [e, Nat.zero_mul]
    rw [if_pos this]
    unfold Format.word wd
    rw [sign_eq, Nat.zero_min]
  · have hp : 0 < r := by omega
    have hm := mg_pos hp
    unfold Format.nearest
    rw [if_neg (by have := Nat.two_pow_pos j; have : 0 < mg r * 2 ^ j := Nat.mul_pos hm this; omega)]
    simp only
    rw [log2_mul_pow _ _ hm, least_eq, binade_eq, inf_eq, show double.fractionBits = 52 from rfl]
    have hl := log2_mg r hp
    have e : max (-1074 + (pl r : Int) - (j : Int) + (((mg r).log2 + j : Nat) : Int) - ((52 : Nat) : Int)) (-1074) = -1074 + (pl r : Int) := by omega
    rw [e]
    have e1 : (-1074 + (pl r : Int) - (j : Int) - (-1074 + (pl r : Int))).toNat = 0 := by omega
    have e2 : ((-1074 + (pl r : Int)) - (-1074 + (pl r : Int) - (j : Int))).toNat = j := by omega
    have e3 : (-1074 + (pl r : Int) - -1074).toNat = pl r := by omega
    rw [e1, e2, e3, Nat.shiftLeft_zero, cut_exact, ← rung_eq]
    unfold Format.word wd
    rw [sign_eq]

theorem near_up (s : Bool) (r j n : Nat) (hn : n * 2 ^ j = mg r) : double.nearest s n (-1074 + (pl r : Int) + (j : Int)) = wd s (min r I) := by
  by_cases h0 : r = 0
  · subst h0
    unfold Format.nearest
    have : n = 0 := by
      have e : mg 0 = 0 := by decide
      rw [e] at hn
      rcases Nat.mul_eq_zero.1 hn with h | h
      · exact h
      · have := Nat.two_pow_pos j; omega
    rw [if_pos this]
    unfold Format.word wd
    rw [sign_eq, Nat.zero_min]
  · have hp : 0 < r := by omega
    have hm := mg_pos hp
    have hn0 : 0 < n := by
      rcases Nat.eq_zero_or_pos n with h | h
      · subst h; omega
      · exact h
    unfold Format.nearest
    rw [if_neg (by omega)]
    simp only
    rw [least_eq, binade_eq, inf_eq, show double.fractionBits = 52 from rfl]
    have hl := log2_mg r hp
    rw [← hn, log2_mul_pow _ _ hn0] at hl
    have e : max (-1074 + (pl r : Int) + (j : Int) + (n.log2 : Int) - ((52 : Nat) : Int)) (-1074) = -1074 + (pl r : Int) := by omega
    rw [e]
    have e1 : (-1074 + (pl r : Int) + (j : Int) - (-1074 + (pl r : Int))).toNat = j := by omega
    have e2 : ((-1074 + (pl r : Int)) - (-1074 + (pl r : Int) + (j : Int))).toNat = 0 := by omega
    have e3 : (-1074 + (pl r : Int) - -1074).toNat = pl r := by omega
    have e4 : Toward.even.cut s (mg r) 0 = mg r := by have := cut_exact s (mg r) 0; rwa [Nat.pow_zero, Nat.mul_one] at this
    rw [e1, e2, e3, Nat.shiftLeft_eq, hn, e4, ← rung_eq]
    unfold Format.word wd
    rw [sign_eq]

/-! ### the rung of m times 2^j, in so many 2^-1074 -/
def R (m j : Nat) : Nat := if m = 0 then 0 else if m.log2 + j < 52 then m * 2 ^ j else (m.log2 + j - 52) * B + m * 2 ^ (52 - m.log2)

theorem norm_range {m : Nat} (h0 : 0 < m) (h : m < 2 * B) : B ≤ m * 2 ^ (52 - m.log2) ∧ m * 2 ^ (52 - m.log2) < 2 * B ∧ m.log2 ≤ 52 := by
  have h1 : m.log2 < 53 := (Nat.log2_lt (by omega)).2 (by rw [show (2 : Nat) ^ 53 = 2 * B from by decide]; exact h)
  have h2 : 2 ^ m.log2 ≤ m := Nat.log2_self_le (by omega)
  have h3 : m < 2 ^ (m.log2 + 1) := Nat.lt_log2_self
  have e1 : (2 : Nat) ^ m.log2 * 2 ^ (52 - m.log2) = B := by rw [← Nat.pow_add, show m.log2 + (52 - m.log2) = 52 from by omega]; decide
  have e2 : (2 : Nat) ^ (m.log2 + 1) * 2 ^ (52 - m.log2) = 2 * B := by rw [← Nat.pow_add, show m.log2 + 1 + (52 - m.log2) = 53 from by omega]; decide
  refine ⟨?_, ?_, by omega⟩
  · rw [← e1]; exact Nat.mul_le_mul_right _ h2
  · rw [← e2]; exact Nat.mul_lt_mul_of_pos_right h3 (Nat.two_pow_pos _)

/-- its m is m, moved; its place is j, by so much less. -/
theorem R_read {m j : Nat} (hm : m < 2 * B) (h0 : 0 < m) : ∃ c : Nat, mg (R m j) = m * 2 ^ c ∧ (pl (R m j) : Int) = (j : Int) - (c : Int) := by
  obtain ⟨n1, n2, n3⟩ := norm_range h0 hm
  have hB : 0 < B := by decide
  unfold R
  rw [if_neg (by omega)]
  by_cases hc : m.log2 + j < 52
  · rw [if_pos hc]
    have hlt : m * 2 ^ j < B := by
      have h3 : m < 2 ^ (m.log2 + 1) := Nat.lt_log2_self
      calc m * 2 ^ j < 2 ^ (m.log2 + 1) * 2 ^ j := Nat.mul_lt_mul_of_pos_right h3 (Nat.two_pow_pos _)
        _ = 2 ^ (m.log2 + 1 + j) := (Nat.pow_add ..).symm
        _ ≤ 2 ^ 52 := Nat.pow_le_pow_right (by decide) (by omega)
        _ = B := by decide
    refine ⟨j, ?_, ?_⟩
    · unfold mg; rw [if_pos hlt]
    · unfold pl; rw [if_pos hlt]; omega
  · rw [if_neg hc]
    refine ⟨52 - m.log2, ?_⟩
    generalize m * 2 ^ (52 - m.log2) = K at *
    obtain ⟨E, hE⟩ : ∃ E, m.log2 + j - 52 = E := ⟨_, rfl⟩
    rw [hE]
    have hge : ¬ E * B + K < B := by have := Nat.zero_le (E * B); omega
    have hK : E * B + K = B * (E + 1) + (K - B) := by
      have : B * (E + 1) = E * B + B := by rw [Nat.mul_succ, Nat.mul_comm]
      omega
    have hd : (E * B + K) / B = E + 1 := by rw [hK, Nat.mul_add_div hB, Nat.div_eq_of_lt (by omega)]
    have hmod : (E * B + K) % B = K - B := by rw [hK, Nat.mul_add_mod, Nat.mod_eq_of_lt (by omega)]
    unfold mg pl
    rw [if_neg hge, if_neg hge, hd, hmod]
    omega

/-- THE WORD WRITTEN FOR 'm * 2^j' of 2^-1074, HOWEVER IT STANDS: so many times 2^a, at a places less. -/
theorem near_R (s : Bool) {m j : Nat} (a : Nat) (hm : m < 2 * B) (p : Int) (hp : p = (j : Int) - 1074 - (a : Int)) : double.nearest s (m * 2 ^ a) p = wd s (min (R m j) I) := by
  subst hp
  by_cases h0 : m = 0
  · subst h0
    unfold Format.nearest R
    rw [Nat.zero_mul, if_pos rfl, if_pos rfl]
    unfold Format.word wd
    rw [sign_eq, Nat.zero_min]
  · obtain ⟨c, e1, e2⟩ := R_read (j := j) hm (by omega)
    by_cases ha : c ≤ a
    · have := near_down s (R m j) (a - c)
      rw [e1, Nat.mul_assoc, ← Nat.pow_add, show c + (a - c) = a from by omega] at this
      rw [← this]
      congr 1
      omega
    · have := near_up s (R m j) (c - a) (m * 2 ^ a) (by rw [e1, Nat.mul_assoc, ← Nat.pow_add, show a + (c - a) = c from by omega])
      rw [← this]
      congr 1
      omega

theorem mg_zero : mg 0 = 0 := by decide
theorem R_zero (j : Nat) : R 0 j = 0 := by unfold R; rw [if_pos rfl]

theorem X_R {m j : Nat} (hm : m < 2 * B) : X (R m j) = m * 2 ^ j := by
  by_cases h0 : m = 0
  · subst h0
    rw [R_zero, Nat.zero_mul]
    unfold X
    rw [mg_zero, Nat.zero_mul]
  · obtain ⟨c, e1, e2⟩ := R_read (j := j) hm (by omega)
    unfold X
    rw [e1, Nat.mul_assoc, ← Nat.pow_add]
    congr 2
    omega

theorem pl_mono {r r' : Nat} (h : r ≤ r') : pl r ≤ pl r' := by
  unfold pl
  have := Nat.div_le_div_right (c := B) h
  split <;> split <;> omega

theorem X_lt {r r' : Nat} (h : r < r') : X r < X r' := by
  have hp := pl_mono (Nat.le_of_lt h)
  have e := rung_eq r
  have e' := rung_eq r'
  unfold X
  by_cases hpl : pl r = pl r'
  · rw [← hpl] at e' ⊢
    exact Nat.mul_lt_mul_of_pos_right (by omega) (Nat.two_pow_pos _)
  · have h1 := mg_lt r
    have h2 : B ≤ mg r' := by
      unfold mg
      split
      · rename_i hlt
        have : pl r' = 0 := by unfold pl; rw [if_pos hlt]
        omega
      · omega
    calc mg r * 2 ^ pl r < 2 * B * 2 ^ pl r := Nat.mul_lt_mul_of_pos_right h1 (Nat.two_pow_pos _)
      _ = B * 2 ^ (pl r + 1) := by rw [Nat.pow_succ, Nat.mul_comm 2 B, Nat.mul_assoc, Nat.mul_comm 2]
      _ ≤ B * 2 ^ pl r' := Nat.mul_le_mul_left _ (Nat.pow_le_pow_right (by decide) (by omega))
      _ ≤ mg r' * 2 ^ pl r' := Nat.mul_le_mul_right _ h2
theorem X_le_iff {r r' : Nat} : X r ≤ X r' ↔ r ≤ r' := by
  constructor
  · intro h
    rcases Nat.lt_or_ge r' r with h' | h'
    · have := X_lt h'; omega
    · exact h'
  · intro h
    rcases Nat.lt_or_ge r r' with h' | h'
    · have := X_lt h'; omega
    · have : r = r' := by omega
      rw [this]; exact Nat.le_refl _

theorem R_le {m j n i : Nat} (hm : m < 2 * B) (hn : n < 2 * B) : R m j ≤ R n i ↔ m * 2 ^ j ≤ n * 2 ^ i := by
  rw [← X_le_iff, X_R hm, X_R hn]

theorem R_self (r : Nat) : R (mg r) (pl r) = r := by
  have h := X_R (m := mg r) (j := pl r) (mg_lt r)
  have h1 : X (R (mg r) (pl r)) = X r := h
  have a := X_le_iff.1 (Nat.le_of_eq h1)
  have b := X_le_iff.1 (Nat.le_of_eq h1.symm)
  omega

theorem R_move {m a j : Nat} (h : m * 2 ^ a < 2 * B) : R (m * 2 ^ a) j = R m (a + j) := by
  have hm : m < 2 * B := Nat.lt_of_le_of_lt (Nat.le_mul_of_pos_right _ (Nat.two_pow_pos a)) h
  have e : m * 2 ^ a * 2 ^ j = m * 2 ^ (a + j) := by rw [Nat.mul_assoc, ← Nat.pow_add]
  have a1 := (R_le (j := j) (i := a + j) h hm).2 (Nat.le_of_eq e)
  have a2 := (R_le (j := a + j) (i := j) hm h).2 (Nat.le_of_eq e.symm)
  omega

theorem one_lt : 1 < 2 * B := by decide
theorem pow_le_R {m j i : Nat} (h0 : 0 < m) (hm : m < 2 * B) : R 1 i ≤ R m j ↔ i ≤ m.log2 + j := by
  rw [R_le one_lt hm, Nat.one_mul, ← log2_mul_pow _ _ h0, Nat.le_log2 (by have := Nat.two_pow_pos j; have := Nat.mul_pos h0 this; omega)]

theorem R_fin {m j : Nat} (h0 : 0 < m) (hm : m < 2 * B) (h : m.log2 + j < 2098) : R m j < I := by
  have e : R 1 2098 = I := by decide +kernel
  have := (pow_le_R (i := 2098) (j := j) h0 hm)
  rw [e] at this
  omega
theorem R_inf {m j : Nat} (h0 : 0 < m) (hm : m < 2 * B) (h : 2098 ≤ m.log2 + j) : I ≤ R m j := by
  have e : R 1 2098 = I := by decide +kernel
  rw [← e]
  exact (pow_le_R h0 hm).2 h
theorem log2_of_fin {r : Nat} (h0 : 0 < r) (h : r < I) : (mg r).log2 + pl r < 2098 := by
  have := R_inf (m := mg r) (j := pl r) (mg_pos h0) (mg_lt r)
  rw [R_self] at this
  omega

/-! ### times a power of two -/
/-- i: the power's place, in so many 2^-1074. -/
theorem mul_pow (s : Bool) {m j i : Nat} (hm : m < 2 * B) (hf : R m j < I) (hi : R 1 i < I) (h : 1074 ≤ j + i) :
    double.mul (wd s (R m j)) (R 1 i) = some (wd s (min (R m (j + i - 1074)) I)) := by
  unfold Format.mul
  have r1 := read_fin s (R m j) hf
  have r2 := read_fin false (R 1 i) hi
  rw [show wd false (R 1 i) = R 1 i from rfl] at r2
  rw [r1, r2]
  show some (double.nearest (s ^^ false) (mg (R m j) * mg (R 1 i)) (-1074 + (pl (R m j) : Int) + (-1074 + (pl (R 1 i) : Int)))) = _
  rw [Bool.xor_false]
  obtain ⟨c2, e3, e4⟩ := R_read (j := i) one_lt (by decide)
  by_cases h0 : m = 0
  · subst h0
    rw [R_zero, mg_zero, Nat.zero_mul, R_zero]
    have := near_R s (m := 0) (j := 0) 0 (by decide) (-1074) rfl
    rw [Nat.zero_mul, R_zero] at this
    have u : ∀ p q, double.nearest s 0 p = double.nearest s 0 q := by intro p q; unfold Format.nearest; rw [if_pos rfl, if_pos rfl]
    rw [u _ (-1074), this]
  · obtain ⟨c1, e1, e2⟩ := R_read (j := j) hm (by omega)
    rw [e1, e3, Nat.one_mul, Nat.mul_assoc, ← Nat.pow_add]
    rw [near_R s (j := j + i - 1074) (c1 + c2) hm _ (by omega)]

/-! ### how two stand -/
def sg (s : Bool) (r : Nat) : Int := if s then -(r : Int) else r

theorem cmp_scale (a b : Int) (k : Nat) : compare (a * 2 ^ k) (b * 2 ^ k) = compare a b := by
  have hp : (0 : Int) < 2 ^ k := Int.pow_pos (by decide)
  rcases Int.lt_trichotomy a b with h | h | h
  · rw [Int.compare_eq_lt.2 h, Int.compare_eq_lt.2 (Int.mul_lt_mul_of_pos_right h hp)]
  · rw [h]; simp
  · rw [Int.compare_eq_gt.2 h, Int.compare_eq_gt.2 (Int.mul_lt_mul_of_pos_right h hp)]

theorem signed_eq (s : Bool) (m k : Nat) : signed s m k = (if s then -1 else 1) * ((m * 2 ^ k : Nat) : Int) := by
  unfold signed
  rw [Nat.shiftLeft_eq]
  cases s <;> simp

theorem cmp_X (s t : Bool) (r q : Nat) : compare ((if s then -1 else 1) * (X r : Int)) ((if t then -1 else 1) * (X q : Int)) = compare (sg s r) (sg t q) := by
  have z : X 0 = 0 := by unfold X; rw [mg_zero, Nat.zero_mul]
  have h1 : X r = 0 ↔ r = 0 := by
    constructor
    · intro h
      rcases Nat.eq_zero_or_pos r with h' | h'
      · exact h'
      · have := X_lt h'; omega
    · intro h; rw [h, z]
  have h2 : X q = 0 ↔ q = 0 := by
    constructor
    · intro h
      rcases Nat.eq_zero_or_pos q with h' | h'
      · exact h'
      · have := X_lt h'; omega
    · intro h; rw [h, z]
  have h3 := @X_le_iff r q
  have h4 := @X_le_iff q r
  generalize X r = a at *
  generalize X q = b at *
  unfold sg
  have key : ∀ x y x' y' : Int, (x < y ↔ x' < y') → (y < x ↔ y' < x') → compare x y = compare x' y' := by
    intro x y x' y' e1 e2
    rcases Int.lt_trichotomy x y with h | h | h
    · rw [Int.compare_eq_lt.2 h, Int.compare_eq_lt.2 (e1.1 h)]
    · have : x' = y' := by
        rcases Int.lt_trichotomy x' y' with g | g | g
        · have := e1.2 g; omega
        · exact g
        · have := e2.2 g; omega
      rw [Int.compare_eq_eq.2 h, Int.compare_eq_eq.2 this]
    · rw [Int.compare_eq_gt.2 h, Int.compare_eq_gt.2 (e2.1 h)]
  cases s <;> cases t <;> simp only [Bool.false_eq_true, if_false, if_true] <;> exact key _ _ _ _ (by omega) (by omega)

theorem order_fin (s t : Bool) {r q : Nat} (hr : r < I) (hq : q < I) : double.order (wd s r) (wd t q) = some (compare (sg s r) (sg t q)) := by
  unfold Format.order
  rw [read_fin s r hr, read_fin t q hq]
  show some (compare (signed s (mg r) _) (signed t (mg q) _)) = _
  rw [signed_eq, signed_eq, ← cmp_X]
  congr 1
  obtain ⟨b, hb⟩ : ∃ b : Nat, min (-1074 + (pl r : Int)) (-1074 + (pl q : Int)) = -1074 + (b : Int) := ⟨min (pl r) (pl q), by omega⟩
  rw [hb]
  have a1 : (-1074 + (pl r : Int) - (-1074 + (b : Int))).toNat + b = pl r := by omega
  have a2 : (-1074 + (pl q : Int) - (-1074 + (b : Int))).toNat + b = pl q := by omega
  unfold X
  rw [← a1, ← a2, Nat.pow_add, Nat.pow_add, ← Nat.mul_assoc, ← Nat.mul_assoc]
  rw [Int.natCast_mul _ (2 ^ b), Int.natCast_mul _ (2 ^ b), ← Int.mul_assoc, ← Int.mul_assoc]
  have : ((2 ^ b : Nat) : Int) = 2 ^ b := by simp
  rw [this, cmp_scale, a1, a2]

theorem order_all (s t : Bool) {r q : Nat} (hr : r ≤ I) (hq : q ≤ I) : double.order (wd s r) (wd t q) = some (compare (sg s r) (sg t q)) := by
  rcases Nat.lt_or_ge r I with h1 | h1
  · rcases Nat.lt_or_ge q I with h2 | h2
    · exact order_fin s t h1 h2
    · have e : q = I := by omega
      subst e
      unfold Format.order
      rw [read_fin s r h1, read_inf]
      show some (if t then Ordering.gt else Ordering.lt) = _
      congr 1
      symm
      have hI : 0 < I := by decide
      unfold sg
      cases t <;> cases s <;> simp only [Bool.false_eq_true, if_false, if_true] <;> first | exact Int.compare_eq_lt.2 (by omega) | exact Int.compare_eq_gt.2 (by omega)
  · have e : r = I := by omega
    subst e
    rcases Nat.lt_or_ge q I with h2 | h2
    · unfold Format.order
      rw [read_fin t q h2, read_inf]
      show some (if s then Ordering.lt else Ordering.gt) = _
      congr 1
      symm
      have hI : 0 < I := by decide
      unfold sg
      cases t <;> cases s <;> simp only [Bool.false_eq_true, if_false, if_true] <;> first | exact Int.compare_eq_lt.2 (by omega) | exact Int.compare_eq_gt.2 (by omega)
    · have e : q = I := by omega
      subst e
      unfold Format.order
      rw [read_inf, read_inf]
      show some (compare t.toNat s.toNat) = _
      congr 1
      have hI : 0 < I := by decide
      unfold sg
      cases t <;> cases s <;> simp only [Bool.false_eq_true, if_false, if_true, Bool.toNat_false, Bool.toNat_true]
      · simp
      · rw [Int.compare_eq_lt.2 (by omega)]; rfl
      · rw [Int.compare_eq_gt.2 (by omega)]; rfl
      · simp

theorem order_nan_left (a b : Nat) (ha : a < 2 * S) (h : isNan a = true) : double.order a b = none := by
  obtain ⟨s, t, e⟩ := read_nan a ha h
  unfold Format.order
  rw [e]
  rfl
theorem order_nan_right (a b : Nat) (hb : b < 2 * S) (h : isNan b = true) : double.order a b = none := by
  obtain ⟨s, t, e⟩ := read_nan b hb h
  unfold Format.order
  rw [e]
  cases double.read a <;> rfl

/-! ### whole numbers -/
theorem of_whole {m : Nat} (hm : m < 2 * B) (h : R m 1074 < I) : double.nearest false m 0 = R m 1074 := by
  have := near_R false (m := m) (j := 1074) 0 hm 0 rfl
  rw [Nat.pow_zero, Nat.mul_one, Nat.min_eq_left (Nat.le_of_lt h)] at this
  exact this

theorem to_whole {m : Nat} (hm : m < 2 * B) (h : R m 1074 < I) : (double.read (R m 1074)).toInt .zero = some (m : Int) := by
  have r1 := read_fin false (R m 1074) h
  rw [show wd false (R m 1074) = R m 1074 from rfl] at r1
  rw [r1]
  have cz : ∀ n j : Nat, Toward.zero.cut false (n * 2 ^ j) j = n := by
    intro n j
    unfold Toward.cut
    by_cases h0 : n = 0
    · subst h0; simp
    · have hl : j ≤ (n * 2 ^ j).log2 + 2 := by rw [log2_mul_pow _ _ (by omega)]; omega
      simp only [Nat.min_eq_left hl, Nat.one_shiftLeft]
      rw [Nat.mul_div_cancel _ (Nat.two_pow_pos j)]
      simp
  show some (signed false (Toward.zero.cut false (mg (R m 1074) <<< (-1074 + (pl (R m 1074) : Int)).toNat) (-(-1074 + (pl (R m 1074) : Int))).toNat) 0) = _
  have fin : ∀ k : Nat, signed false k 0 = (k : Int) := by intro k; rw [signed_eq]; simp
  rw [fin]
  congr 2
  by_cases h0 : m = 0
  · subst h0
    rw [R_zero, mg_zero]
    have cz0 : ∀ j : Nat, Toward.zero.cut false 0 j = 0 := fun j => by have := cz 0 j; rwa [Nat.zero_mul] at this
    rw [Nat.zero_shiftLeft]
    exact cz0 _
  · obtain ⟨c, e1, e2⟩ := R_read (j := 1074) hm (by omega)
    rw [e1, show (-1074 + (pl (R m 1074) : Int)).toNat = 0 from by omega, show (-(-1074 + (pl (R m 1074) : Int))).toNat = c from by omega, Nat.shiftLeft_zero, cz]

/-- one less than a number of one to two. -/
theorem sub_one {m : Nat} (h1 : B ≤ m) (h2 : m < 2 * B) : double.sub (R m 1022) (R 1 1074) = some (R (m - B) 1022) := by
  have hB : 0 < B := by decide
  have hlog : m.log2 = 52 := by
    have a : m.log2 < 53 := (Nat.log2_lt (by omega)).2 (by rw [show (2 : Nat) ^ 53 = 2 * B from by decide]; exact h2)
    have b : 52 ≤ m.log2 := (Nat.le_log2 (by omega)).2 (by rw [show (2 : Nat) ^ 52 = B from by decide]; exact h1)
    omega
  have f1 : R m 1022 < I := R_fin (by omega) h2 (by omega)
  have f2 : R 1 1074 < I := by decide +kernel
  unfold Format.sub
  have r1 := read_fin false _ f1
  have r2 := read_fin false _ f2
  rw [show wd false (R m 1022) = R m 1022 from rfl] at r1
  rw [show wd false (R 1 1074) = R 1 1074 from rfl] at r2
  rw [r1, r2]
  have em : mg (R m 1022) = m ∧ pl (R m 1022) = 1022 := by
    obtain ⟨c, e1, e2⟩ := R_read (j := 1022) h2 (by omega)
    have hl := mg_lt (R m 1022)
    have : c = 0 := by
      rcases Nat.eq_zero_or_pos c with h | h
      · exact h
      · exfalso
        have : m * 2 ≤ m * 2 ^ c := Nat.mul_le_mul_left _ (by
          calc 2 = 2 ^ 1 := rfl
            _ ≤ 2 ^ c := Nat.pow_le_pow_right (by decide) h)
        omega
    subst this
    rw [e1, Nat.pow_zero, Nat.mul_one]
    exact ⟨rfl, by omega⟩
  have e1 : mg (R 1 1074) = B ∧ pl (R 1 1074) = 1022 := by decide +kernel
  rw [em.1, em.2, e1.1, e1.2]
  show some (double.nearest _ _ _) = _
  have d : signed false m (-1074 + ((1022 : Nat) : Int) - min (-1074 + ((1022 : Nat) : Int)) (-1074 + ((1022 : Nat) : Int))).toNat + signed true B (-1074 + ((1022 : Nat) : Int) - min (-1074 + ((1022 : Nat) : Int)) (-1074 + ((1022 : Nat) : Int))).toNat = ((m - B : Nat) : Int) := by
    rw [signed_eq, signed_eq]
    simp
    omega
  have dn : (!false) = true := rfl
  rw [dn, d, Int.natAbs_natCast]
  have e3 : (if ((m - B : Nat) : Int) = 0 then false && true else decide (((m - B : Nat) : Int) < 0)) = false := by
    split
    · rfl
    · exact decide_eq_false (by omega)
  rw [e3]
  have := near_R false (m := m - B) (j := 1022) 0 (by omega) (min (-1074 + ((1022 : Nat) : Int)) (-1074 + ((1022 : Nat) : Int))) (by omega)
  rw [Nat.pow_zero, Nat.mul_one] at this
  rw [this]
  have hf : R (m - B) 1022 < I := by
    by_cases h0 : m - B = 0
    · rw [h0, R_zero]; decide
    · refine R_fin (by omega) (by omega) ?_
      have : (m - B).log2 < 52 := (Nat.log2_lt h0).2 (by rw [show (2 : Nat) ^ 52 = B from by decide]; omega)
      omega
  rw [Nat.min_eq_left (Nat.le_of_lt hf), wd_false]

end Fl
end Go.Proofs.Ytimgiokhhdkfaaa
