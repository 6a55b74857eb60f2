/-
  WALKS: signs: package pack's Zig and Zag, and the document's. Conditions: the numbers are of their kinds.
-/
import Derived.Test.YtpccenaieeggmaaPackPut
namespace Go.Proofs.Ytpccenaieeggmaa
open Go.RowKit
namespace Pk
open Mem

theorem xor_all {u : Nat} (h : u < 18446744073709551616) : bits .xor .u64 (u : Int) 18446744073709551615 = ((18446744073709551615 - u : Nat) : Int) := by
  rw [show (18446744073709551615 : Int) = ((18446744073709551615 : Nat) : Int) from rfl, u64_xor_nat _ _ h (by decide)]
  have e : u ^^^ 18446744073709551615 = 18446744073709551615 - u := by
    have h' : u < 2 ^ 64 := h
    apply Nat.eq_of_testBit_eq
    intro i
    have e2 : 18446744073709551615 - u = 2 ^ 64 - (u + 1) := by omega
    rw [Nat.testBit_xor, e2, Nat.testBit_two_pow_sub_succ h', show (18446744073709551615 : Nat) = 2 ^ 64 - 1 from rfl, Nat.testBit_two_pow_sub_one]
    by_cases hi : i < 64
    · simp [hi]
    · have : u.testBit i = false := Nat.testBit_lt_two_pow (Nat.lt_of_lt_of_le h' (Nat.pow_le_pow_right (by decide) (by omega)))
      simp [hi, this]
  rw [e]
theorem xor_none {u : Nat} (h : u < 18446744073709551616) : bits .xor .u64 (u : Int) 0 = (u : Int) := by
  rw [show (0 : Int) = ((0 : Nat) : Int) from rfl, u64_xor_nat _ _ h (by decide), Nat.xor_zero]
theorem zig_pos {n : Int} (h : 0 ≤ n) (h1 : n ≤ 9223372036854775807) : bits .xor .u64 (n * 2) (n / 9223372036854775808) = ((zigN n : Nat) : Int) := by
  have e1 : n / 9223372036854775808 = 0 := by omega
  have e2 : n * 2 = ((zigN n : Nat) : Int) := by unfold zigN; rw [if_pos h]; omega
  rw [e1, e2, xor_none (zig_lt (by omega) h1)]
theorem zig_neg {n : Int} (h : n < 0) (h1 : -9223372036854775808 ≤ n) : bits .xor .u64 (IntKind.u64.wrap (IntKind.u64.wrap n * 2)) (IntKind.u64.wrap (n / 9223372036854775808)) = ((zigN n : Nat) : Int) := by
  have e0 : zigN n = (2 * (-1 - n) + 1).toNat := by unfold zigN; rw [if_neg (by omega)]
  have e1 : IntKind.u64.wrap (n / 9223372036854775808) = 18446744073709551615 := by rw [IntKind.wrap_u64]; omega
  have e2 : IntKind.u64.wrap (IntKind.u64.wrap n * 2) = (((2 * n + 18446744073709551616).toNat : Nat) : Int) := by rw [IntKind.wrap_u64, IntKind.wrap_u64]; omega
  rw [e1, e2, xor_all (by omega), e0]
  omega

theorem xor_i64_none (x : Int) (h0 : -9223372036854775808 ≤ x) (h1 : x ≤ 9223372036854775807) : bits .xor .i64 x 0 = x := by
  show IntKind.i64.wrap ((BitVec.ofInt 64 x ^^^ BitVec.ofInt 64 0).toNat : Nat) = x
  rw [show BitVec.ofInt 64 0 = 0#64 from rfl, BitVec.xor_zero, BitVec.toNat_ofInt, IntKind.wrap_i64]
  omega
theorem xor_i64_all (x : Int) (h0 : -9223372036854775808 ≤ x) (h1 : x ≤ 9223372036854775807) : bits .xor .i64 x (-1) = -1 - x := by
  show IntKind.i64.wrap ((BitVec.ofInt 64 x ^^^ BitVec.ofInt 64 (-1)).toNat : Nat) = -1 - x
  rw [show BitVec.ofInt 64 (-1) = BitVec.allOnes 64 from by decide, BitVec.xor_allOnes, BitVec.toNat_not, BitVec.toNat_ofInt, IntKind.wrap_i64]
  omega
theorem zag_form {u : Nat} (h : u < 18446744073709551616) : bits .xor .i64 ((u : Int) / 2) (wrap64 (-wrap64 (bits .and .u64 (u : Int) 1))) = zagI u := by
  rw [and_one_u64 _ (by omega) (by omega)]
  unfold zagI
  by_cases hu : u % 2 = 1
  · rw [if_pos hu, show (u : Int) % 2 = 1 from by omega, show wrap64 (-wrap64 1) = -1 from by unfold wrap64; omega, xor_i64_all _ (by omega) (by omega)]
    omega
  · rw [if_neg hu, show (u : Int) % 2 = 0 from by omega, show wrap64 (-wrap64 0) = 0 from by unfold wrap64; omega, xor_i64_none _ (by omega) (by omega)]
    omega

end Pk
end Go.Proofs.Ytpccenaieeggmaa
