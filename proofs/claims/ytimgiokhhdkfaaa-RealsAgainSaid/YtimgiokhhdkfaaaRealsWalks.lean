/-
  WALKS: the other way about (Swap), by masks and by bytes. Conditions: the numbers are of their kinds.
-/
import Derived.Test.YtimgiokhhdkfaaaRealsPlain
namespace Go.Proofs.Ytimgiokhhdkfaaa
open Go.RowKit
namespace Rl
open Mem Pk Fl

theorem and64 {a b : Nat} (ha : a < 2 * S) (hb : b < 2 * S) : bits .and .u64 (a : Int) (b : Int) = ((a &&& b : Nat) : Int) := u64_and_nat a b ha hb
theorem or64 {a b : Nat} (ha : a < 2 * S) (hb : b < 2 * S) : bits .or .u64 (a : Int) (b : Int) = ((a ||| b : Nat) : Int) := u64_or_nat a b ha hb
theorem xor64 {a b : Nat} (ha : a < 2 * S) (hb : b < 2 * S) : bits .xor .u64 (a : Int) (b : Int) = ((a ^^^ b : Nat) : Int) := u64_xor_nat a b ha hb

theorem m_lt1 : m1 < 2 * S := by decide
theorem m_lt2 : m2 < 2 * S := by decide
theorem mod_lt64 (n : Nat) : n % 18446744073709551616 < 2 * S := Nat.mod_lt _ (by decide)
theorem step1_int {a : Nat} (h : a < 2 * S) : bits .or .u64 (bits .and .u64 ((a : Int) / 256) 71777214294589695) (IntKind.u64.wrap (bits .and .u64 (a : Int) 71777214294589695 * 256)) = ((step1 a : Nat) : Int) := by
  have e1 := and64 (a := a / 256) (b := m1) (Nat.lt_of_le_of_lt (Nat.div_le_self _ _) h) m_lt1
  have e2 := and64 (a := a) (b := m1) h m_lt1
  have c1 : ((a / 256 : Nat) : Int) = (a : Int) / 256 := Int.natCast_ediv _ _
  have c2 : ((m1 : Nat) : Int) = 71777214294589695 := rfl
  rw [c1, c2] at e1
  rw [c2] at e2
  have e3 : IntKind.u64.wrap (((a &&& m1 : Nat) : Int) * 256) = (((a &&& m1) * 256 % 18446744073709551616 : Nat) : Int) := by rw [IntKind.wrap_u64]; omega
  rw [e1, e2, e3, or64 (Nat.lt_of_le_of_lt Nat.and_le_right m_lt1) (mod_lt64 _)]
  rfl
theorem step2_int {a : Nat} (h : a < 2 * S) : bits .or .u64 (bits .and .u64 ((a : Int) / 65536) 281470681808895) (IntKind.u64.wrap (bits .and .u64 (a : Int) 281470681808895 * 65536)) = ((step2 a : Nat) : Int) := by
  have e1 := and64 (a := a / 65536) (b := m2) (Nat.lt_of_le_of_lt (Nat.div_le_self _ _) h) m_lt2
  have e2 := and64 (a := a) (b := m2) h m_lt2
  have c1 : ((a / 65536 : Nat) : Int) = (a : Int) / 65536 := Int.natCast_ediv _ _
  have c2 : ((m2 : Nat) : Int) = 281470681808895 := rfl
  rw [c1, c2] at e1
  rw [c2] at e2
  have e3 : IntKind.u64.wrap (((a &&& m2 : Nat) : Int) * 65536) = (((a &&& m2) * 65536 % 18446744073709551616 : Nat) : Int) := by rw [IntKind.wrap_u64]; omega
  rw [e1, e2, e3, or64 (Nat.lt_of_le_of_lt Nat.and_le_right m_lt2) (mod_lt64 _)]
  rfl
theorem step3_int {a : Nat} (h : a < 2 * S) : bits .or .u64 ((a : Int) / 4294967296) (IntKind.u64.wrap ((a : Int) * 4294967296)) = ((step3 a : Nat) : Int) := by
  have c1 : ((a / 4294967296 : Nat) : Int) = (a : Int) / 4294967296 := Int.natCast_ediv _ _
  have e3 : IntKind.u64.wrap ((a : Int) * 4294967296) = ((a * 4294967296 % 18446744073709551616 : Nat) : Int) := by rw [IntKind.wrap_u64]; omega
  rw [← c1, e3, or64 (Nat.lt_of_le_of_lt (Nat.div_le_self _ _) h) (mod_lt64 _)]
  rfl
theorem ret_u64 {a b : Int} (h : a = b) : Ending.returned (.int .u64 a) = .returned (.int .u64 b) := by rw [h]

set_option maxRecDepth 100000 in
set_option maxHeartbeats 1000000 in
theorem swap_any (u : Nat) (w : World) (hu : u < 2 * S) :
    Calls Try.prog 9 #[.int .u64 u] w fun e w' => e = .returned (.int .u64 (swapN u : Nat)) ∧ w = w' := by
  have hw : u < 18446744073709551616 := hu
  go_enter Try.func9, Try.ntmps9
  have HS := Lib.hid (swap_steps hw)
  have H1 := Lib.hid (step1_int hu)
  have H2 := Lib.hid (step2_int (a := step1 u) HS.out.2.1)
  have H3 := Lib.hid (step3_int (a := step2 (step1 u)) HS.out.2.2)
  go_wp2_with fail
  go_ret
  exact ⟨ret_u64 (by rw [H1.out, H2.out, H3.out, HS.out.1]), rfl⟩

theorem rev_succ (k : Nat) : ∀ v u, rev (k + 1) v u = 256 * rev k v u + u / 256 ^ k % 256 := by
  induction k with
  | zero => intro v u; show 256 * v + u % 256 = 256 * v + u / 256 ^ 0 % 256; rw [Nat.pow_zero, Nat.div_one]
  | succ k ih =>
    intro v u
    rw [rev, ih, rev, Nat.div_div_eq_div_mul, Nat.pow_succ, Nat.mul_comm (256 ^ k) 256]
theorem rev_lt (k : Nat) (u : Nat) : rev k 0 u < 256 ^ k := by
  induction k with
  | zero => exact (by decide : 0 < 256 ^ 0)
  | succ k ih =>
    rw [rev_succ, Nat.pow_succ]
    omega
theorem pow_le8 {k : Nat} (h : k ≤ 7) : 256 ^ k ≤ 256 ^ 7 := Nat.pow_le_pow_right (by decide) h

set_option maxRecDepth 100000 in
set_option maxHeartbeats 1000000 in
theorem rswap_any (u : Nat) (w : World) (hu : u < 2 * S) :
    Calls Try.prog 10 #[.int .u64 u] w fun e w' => e = .returned (.int .u64 (swapN u : Nat)) ∧ w = w' := by
  have hw : u < 18446744073709551616 := hu
  go_enter Try.func10, Try.ntmps10
  go_wp2_with fail
  go_loop [0, 3, 4] (fun a v i => ∃ k : Nat, k ≤ 8 ∧ i = .int .i64 k ∧ v = .int .u64 (rev k 0 u : Nat) ∧ a = .int .u64 (u / 256 ^ k : Nat)) (fun _ _ i => 8 - (intOf i).toNat)
  case atStart => exact ⟨0, by omega, rfl, rfl, by rw [Nat.pow_zero, Nat.div_one]⟩
  case round =>
    obtain ⟨k, hk, rfl, rfl, rfl⟩ := hrel
    by_cases hlt : k < 8
    · have hr := rev_lt k u
      have hp := pow_le8 (show k ≤ 7 by omega)
      have hp7 : (256 : Nat) ^ 7 = 72057594037927936 := by decide
      have hv : rev k 0 u < 72057594037927936 := by omega
      have hd : u / 256 ^ k < 18446744073709551616 := Nat.lt_of_le_of_lt (Nat.div_le_self _ _) hw
      have HS := Lib.hid (rev_succ k 0 u)
      have HD := Lib.hid (show u / 256 ^ (k + 1) = u / 256 ^ k / 256 by rw [Nat.pow_succ, Nat.div_div_eq_div_mul])
      clear hr hp hp7
      generalize rev k 0 u = v at *
      generalize u / 256 ^ k = a at *
      go_wp2_with fail
      go_round
      case rel => exact ⟨k + 1, by omega, by go_num, by rw [HS.out]; go_num, by rw [HD.out]; go_num⟩
      case measure => simp [intOf]; omega
    · obtain rfl : k = 8 := by omega
      go_wp2_with fail
      go_ret
      exact ⟨rfl, rfl⟩

end Rl
end Go.Proofs.Ytimgiokhhdkfaaa
