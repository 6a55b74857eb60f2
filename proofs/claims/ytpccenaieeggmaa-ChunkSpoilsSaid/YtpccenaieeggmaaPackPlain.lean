/-
  PLAIN: how numbers are bytes, and back, by lists and whole numbers alone. No program in sight.
-/
import Derived.Test.YtpccenaieeggmaaMem
namespace Go.Proofs.Ytpccenaieeggmaa
namespace Pk
open Mem

def W64 : Nat := 18446744073709551616
theorem W64_pow : W64 = 2 ^ 64 := by decide

/-! ### bytes of a number, seven bits each -/
def putF : Nat → Nat → List UInt8
  | 0, _ => []
  | f + 1, n => if n < 128 then [UInt8.ofNat n] else UInt8.ofNat (n % 128 + 128) :: putF f (n / 128)
def putL (n : Nat) : List UInt8 := putF 10 n
theorem putF_lt {f n : Nat} (h : n < 128) : putF (f + 1) n = [UInt8.ofNat n] := by rw [putF, if_pos h]
theorem putF_ge {f n : Nat} (h : ¬ n < 128) : putF (f + 1) n = UInt8.ofNat (n % 128 + 128) :: putF f (n / 128) := by rw [putF, if_neg h]
theorem putF_length (f : Nat) : ∀ n, (putF f n).length ≤ f := by
  induction f with
  | zero => intro n; exact Nat.le_refl _
  | succ f ih =>
    intro n
    by_cases h : n < 128
    · rw [putF_lt h]; simp
    · rw [putF_ge h]; simp; exact ih _
theorem putL_length (n : Nat) : (putL n).length ≤ 10 := putF_length 10 n

/-- where Put's loop stands: k bytes are done, m is left. -/
structure PutAt (n k m : Nat) (acc : List UInt8) : Prop where
  len : acc.length = k
  le : k ≤ 9
  lt : m * 2 ^ (7 * k) < 2 ^ 64
  eq : acc ++ putF (10 - k) m = putL n
theorem PutAt.start {n : Nat} (h : n < W64) : PutAt n 0 n [] := ⟨rfl, by omega, by rw [W64_pow] at h; simpa using h, rfl⟩
theorem PutAt.next {n k m : Nat} {acc : List UInt8} (h : PutAt n k m acc) (hm : ¬ m < 128) : PutAt n (k + 1) (m / 128) (acc ++ [UInt8.ofNat (m % 128 + 128)]) := by
  obtain ⟨h1, h2, h3, h4⟩ := h
  have e : 2 ^ (7 * (k + 1)) = 128 * 2 ^ (7 * k) := by rw [Nat.mul_add, Nat.pow_add]; omega
  have h5 : m / 128 * 2 ^ (7 * (k + 1)) < 2 ^ 64 := by
    rw [e, ← Nat.mul_assoc]
    exact Nat.lt_of_le_of_lt (Nat.mul_le_mul_right _ (Nat.div_mul_le_self m 128)) h3
  have hk : k + 1 ≤ 9 := by
    rcases (show k = 9 ∨ k + 1 ≤ 9 by omega) with rfl | h'
    · exfalso
      have : 128 * 2 ^ (7 * 9) ≤ m * 2 ^ (7 * 9) := Nat.mul_le_mul_right _ (by omega)
      have e2 : 128 * 2 ^ (7 * 9) = 2 ^ 70 := by decide
      have e3 : (2 : Nat) ^ 64 ≤ 2 ^ 70 := by decide
      omega
    · exact h'
  refine ⟨by simp [h1], hk, h5, ?_⟩
  rw [← h4, show 10 - k = (10 - (k + 1)) + 1 from by omega, putF_ge hm, List.append_assoc]
  rfl
theorem PutAt.last {n k m : Nat} {acc : List UInt8} (h : PutAt n k m acc) (hm : m < 128) : acc ++ [UInt8.ofNat m] = putL n := by
  obtain ⟨h1, h2, h3, h4⟩ := h
  rw [← h4, show 10 - k = (9 - k) + 1 from by omega, putF_lt hm]
theorem PutAt.lt64 {n k m : Nat} {acc : List UInt8} (h : PutAt n k m acc) : m < W64 := by
  have := h.lt
  rw [W64_pow]
  exact Nat.lt_of_le_of_lt (Nat.le_mul_of_pos_right _ (Nat.two_pow_pos _)) this
theorem cell_of {m : Nat} (h : m < 256) : cells8 [UInt8.ofNat m] = [Value.int .u8 (m : Int)] := by
  unfold cells8
  simp [UInt8.toNat_ofNat', Nat.mod_eq_of_lt h]

/-! ### eight bytes -/
def fixF : Nat → Nat → List UInt8
  | 0, _ => []
  | f + 1, n => UInt8.ofNat (n % 256) :: fixF f (n / 256)
def fixL (n : Nat) : List UInt8 := fixF 8 n
theorem fixF_length (f : Nat) : ∀ n, (fixF f n).length = f := by
  induction f with
  | zero => intro n; rfl
  | succ f ih => intro n; rw [fixF]; simp [ih]
theorem fixL_length (n : Nat) : (fixL n).length = 8 := fixF_length 8 n
structure FixAt (n k m : Nat) (acc : List UInt8) : Prop where
  len : acc.length = k
  le : k ≤ 8
  eq : acc ++ fixF (8 - k) m = fixL n
  lt : m < W64
theorem FixAt.start {n : Nat} (h : n < W64) : FixAt n 0 n [] := ⟨rfl, by omega, rfl, h⟩
theorem FixAt.next {n k m : Nat} {acc : List UInt8} (h : FixAt n k m acc) (hk : k < 8) : FixAt n (k + 1) (m / 256) (acc ++ [UInt8.ofNat (m % 256)]) := by
  obtain ⟨h1, h2, h3, h4⟩ := h
  refine ⟨by simp [h1], by omega, ?_, Nat.lt_of_le_of_lt (Nat.div_le_self _ _) h4⟩
  rw [← h3, show 8 - k = (8 - (k + 1)) + 1 from by omega, fixF, List.append_assoc]
  rfl
theorem FixAt.last {n m : Nat} {acc : List UInt8} (h : FixAt n 8 m acc) : acc = fixL n := by
  have := h.eq
  rw [show (8 : Nat) - 8 = 0 from rfl, fixF, List.append_nil] at this
  exact this

/-! ### signs -/
def zigN (i : Int) : Nat := if 0 ≤ i then (2 * i).toNat else (2 * (-1 - i) + 1).toNat
def zagI (u : Nat) : Int := if u % 2 = 1 then -1 - (u / 2 : Nat) else (u / 2 : Nat)
theorem zig_lt {i : Int} (h0 : -9223372036854775808 ≤ i) (h1 : i ≤ 9223372036854775807) : zigN i < W64 := by
  unfold zigN W64
  split <;> omega
theorem zag_zig (i : Int) : zagI (zigN i) = i := by
  unfold zagI zigN
  split <;> split <;> omega
theorem zig_zag (u : Nat) : zigN (zagI u) = u := by
  unfold zagI zigN
  split <;> split <;> omega
theorem zag_bounds {u : Nat} (h : u < W64) : -9223372036854775808 ≤ zagI u ∧ zagI u ≤ 9223372036854775807 := by
  unfold zagI
  unfold W64 at h
  split <;> omega

/-! ### a number of bytes -/
/-- the error (0: none), the number, how many bytes it is. -/
def numGo : Nat → Nat → List UInt8 → Int × Nat × Nat
  | _, _, [] => (2, 0, 0)
  | i, acc, b :: t =>
    if (i = 9 ∧ 1 < b.toNat) ∨ (0 < i ∧ b.toNat = 0) then (3, 0, 0)
    else if b.toNat < 128 then (0, acc + b.toNat * 2 ^ (7 * i), i + 1)
    else numGo (i + 1) (acc + b.toNat % 128 * 2 ^ (7 * i)) t
def numR (l : List UInt8) : Int × Nat × Nat := numGo 0 0 l

/-- fixed eight bytes as a number, the last one first. -/
def fixN : List UInt8 → Nat
  | [] => 0
  | b :: t => b.toNat + 256 * fixN t

end Pk
end Go.Proofs.Ytpccenaieeggmaa
