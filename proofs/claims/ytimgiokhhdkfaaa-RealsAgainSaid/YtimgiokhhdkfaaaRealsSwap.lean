/-
  PLAIN: a number of eight bytes, the other way about: by masks and by bytes it is the same; twice it is itself. No program.
-/
import Derived.Test.YtimgiokhhdkfaaaRows
import Derived.ProofKit
import Derived.Laws.BitsAllLaws
import Derived.IntWalk
import Derived.Lib.Hide
namespace Go.Proofs.Ytimgiokhhdkfaaa
open Go.RowKit
namespace Rl

theorem and_cat {x y m n : Nat} (hx : x < 256) (hm : m < 256) : (x + 256 * y) &&& (m + 256 * n) = (x &&& m) + 256 * (y &&& n) := by
  have h1 : ((x + 256 * y) &&& (m + 256 * n)) % 2 ^ 8 = x &&& m := by
    rw [Nat.and_mod_two_pow]
    congr 1 <;> omega
  have h2 : ((x + 256 * y) &&& (m + 256 * n)) / 2 ^ 8 = y &&& n := by
    rw [Nat.and_div_two_pow]
    congr 1 <;> omega
  have h3 := Nat.div_add_mod ((x + 256 * y) &&& (m + 256 * n)) (2 ^ 8)
  rw [h1, h2] at h3
  omega
theorem or_cat {x y m n : Nat} (hx : x < 256) (hm : m < 256) : (x + 256 * y) ||| (m + 256 * n) = (x ||| m) + 256 * (y ||| n) := by
  have h1 : ((x + 256 * y) ||| (m + 256 * n)) % 2 ^ 8 = x ||| m := by
    rw [Nat.or_mod_two_pow]
    congr 1 <;> omega
  have h2 : ((x + 256 * y) ||| (m + 256 * n)) / 2 ^ 8 = y ||| n := by
    rw [Nat.or_div_two_pow]
    congr 1 <;> omega
  have h3 := Nat.div_add_mod ((x + 256 * y) ||| (m + 256 * n)) (2 ^ 8)
  rw [h1, h2] at h3
  omega
theorem and_all {x : Nat} (hx : x < 256) : x &&& 255 = x := by
  have := Nat.and_two_pow_sub_one_eq_mod x 8
  rw [show (2 : Nat) ^ 8 - 1 = 255 from rfl] at this
  rw [this]
  omega
/-- a number by its bytes, the least one first. -/
def num8 (b0 b1 b2 b3 b4 b5 b6 b7 : Nat) : Nat := b0 + 256 * (b1 + 256 * (b2 + 256 * (b3 + 256 * (b4 + 256 * (b5 + 256 * (b6 + 256 * (b7 + 256 * 0)))))))
theorem cat_lt {x y B : Nat} (hx : x < 256) (hy : y < B) : x + 256 * y < 256 * B := by omega
theorem num8_lt {b0 b1 b2 b3 b4 b5 b6 b7 : Nat} (h0 : b0 < 256) (h1 : b1 < 256) (h2 : b2 < 256) (h3 : b3 < 256) (h4 : b4 < 256) (h5 : b5 < 256) (h6 : b6 < 256) (h7 : b7 < 256) : num8 b0 b1 b2 b3 b4 b5 b6 b7 < 18446744073709551616 :=
  cat_lt h0 (cat_lt h1 (cat_lt h2 (cat_lt h3 (cat_lt h4 (cat_lt h5 (cat_lt h6 (cat_lt (B := 1) h7 (by decide))))))))
theorem and8 {b0 b1 b2 b3 b4 b5 b6 b7 c0 c1 c2 c3 c4 c5 c6 c7 : Nat} (h0 : b0 < 256) (h1 : b1 < 256) (h2 : b2 < 256) (h3 : b3 < 256) (h4 : b4 < 256) (h5 : b5 < 256) (h6 : b6 < 256) (h7 : b7 < 256)
    (k0 : c0 < 256) (k1 : c1 < 256) (k2 : c2 < 256) (k3 : c3 < 256) (k4 : c4 < 256) (k5 : c5 < 256) (k6 : c6 < 256) (k7 : c7 < 256) :
    num8 b0 b1 b2 b3 b4 b5 b6 b7 &&& num8 c0 c1 c2 c3 c4 c5 c6 c7 = num8 (b0 &&& c0) (b1 &&& c1) (b2 &&& c2) (b3 &&& c3) (b4 &&& c4) (b5 &&& c5) (b6 &&& c6) (b7 &&& c7) := by
  unfold num8
  rw [and_cat h0 k0, and_cat h1 k1, and_cat h2 k2, and_cat h3 k3, and_cat h4 k4, and_cat h5 k5, and_cat h6 k6, and_cat h7 k7]
  rfl
theorem or8 {b0 b1 b2 b3 b4 b5 b6 b7 c0 c1 c2 c3 c4 c5 c6 c7 : Nat} (h0 : b0 < 256) (h1 : b1 < 256) (h2 : b2 < 256) (h3 : b3 < 256) (h4 : b4 < 256) (h5 : b5 < 256) (h6 : b6 < 256) (h7 : b7 < 256)
    (k0 : c0 < 256) (k1 : c1 < 256) (k2 : c2 < 256) (k3 : c3 < 256) (k4 : c4 < 256) (k5 : c5 < 256) (k6 : c6 < 256) (k7 : c7 < 256) :
    num8 b0 b1 b2 b3 b4 b5 b6 b7 ||| num8 c0 c1 c2 c3 c4 c5 c6 c7 = num8 (b0 ||| c0) (b1 ||| c1) (b2 ||| c2) (b3 ||| c3) (b4 ||| c4) (b5 ||| c5) (b6 ||| c6) (b7 ||| c7) := by
  unfold num8
  rw [or_cat h0 k0, or_cat h1 k1, or_cat h2 k2, or_cat h3 k3, or_cat h4 k4, or_cat h5 k5, or_cat h6 k6, or_cat h7 k7]
  rfl
theorem split8 {u : Nat} (h : u < 18446744073709551616) : ∃ b0 b1 b2 b3 b4 b5 b6 b7, b0 < 256 ∧ b1 < 256 ∧ b2 < 256 ∧ b3 < 256 ∧ b4 < 256 ∧ b5 < 256 ∧ b6 < 256 ∧ b7 < 256 ∧ u = num8 b0 b1 b2 b3 b4 b5 b6 b7 := by
  refine ⟨u % 256, u / 256 % 256, u / 256 / 256 % 256, u / 256 / 256 / 256 % 256, u / 256 / 256 / 256 / 256 % 256, u / 256 / 256 / 256 / 256 / 256 % 256, u / 256 / 256 / 256 / 256 / 256 / 256 % 256, u / 256 / 256 / 256 / 256 / 256 / 256 / 256, by omega, by omega, by omega, by omega, by omega, by omega, by omega, by omega, ?_⟩
  unfold num8
  omega

/-- k bytes of a number, turned about. -/
def rev : Nat → Nat → Nat → Nat
  | 0, v, _ => v
  | k + 1, v, u => rev k (256 * v + u % 256) (u / 256)
/-- a number, the other way about. -/
def swapN (u : Nat) : Nat := rev 8 0 u
theorem low8 {x y : Nat} (hx : x < 256) : (x + 256 * y) % 256 = x ∧ (x + 256 * y) / 256 = y := by omega
theorem swap8 {b0 b1 b2 b3 b4 b5 b6 b7 : Nat} (h0 : b0 < 256) (h1 : b1 < 256) (h2 : b2 < 256) (h3 : b3 < 256) (h4 : b4 < 256) (h5 : b5 < 256) (h6 : b6 < 256) (h7 : b7 < 256) : swapN (num8 b0 b1 b2 b3 b4 b5 b6 b7) = num8 b7 b6 b5 b4 b3 b2 b1 b0 := by
  unfold swapN num8
  simp only [rev, (low8 h0).1, (low8 h0).2, (low8 h1).1, (low8 h1).2, (low8 h2).1, (low8 h2).2, (low8 h3).1, (low8 h3).2, (low8 h4).1, (low8 h4).2, (low8 h5).1, (low8 h5).2, (low8 h6).1, (low8 h6).2, (low8 h7).1]
  omega
theorem swap_lt {u : Nat} (h : u < 18446744073709551616) : swapN u < 18446744073709551616 := by
  obtain ⟨b0, b1, b2, b3, b4, b5, b6, b7, h0, h1, h2, h3, h4, h5, h6, h7, rfl⟩ := split8 h
  rw [swap8 h0 h1 h2 h3 h4 h5 h6 h7]
  exact num8_lt h7 h6 h5 h4 h3 h2 h1 h0
theorem swap_swap {u : Nat} (h : u < 18446744073709551616) : swapN (swapN u) = u := by
  obtain ⟨b0, b1, b2, b3, b4, b5, b6, b7, h0, h1, h2, h3, h4, h5, h6, h7, rfl⟩ := split8 h
  rw [swap8 h0 h1 h2 h3 h4 h5 h6 h7, swap8 h7 h6 h5 h4 h3 h2 h1 h0]
theorem swap_zero : swapN 0 = 0 := by decide
theorem swap_one : swapN 1 = 72057594037927936 := by decide

def m1 : Nat := 71777214294589695
def m2 : Nat := 281470681808895
theorem m1_bytes : m1 = num8 255 0 255 0 255 0 255 0 := by decide
theorem m2_bytes : m2 = num8 255 255 0 0 255 255 0 0 := by decide
theorem z256 : 0 < 256 := by decide
theorem f256 : 255 < 256 := by decide
/-- bytes beside each other change places. -/
def step1 (u : Nat) : Nat := (u / 256 &&& m1) ||| ((u &&& m1) * 256 % 18446744073709551616)
/-- pairs of bytes change places. -/
def step2 (u : Nat) : Nat := (u / 65536 &&& m2) ||| ((u &&& m2) * 65536 % 18446744073709551616)
/-- the halves change places. -/
def step3 (u : Nat) : Nat := (u / 4294967296) ||| (u * 4294967296 % 18446744073709551616)
section
variable {b0 b1 b2 b3 b4 b5 b6 b7 : Nat} (h0 : b0 < 256) (h1 : b1 < 256) (h2 : b2 < 256) (h3 : b3 < 256) (h4 : b4 < 256) (h5 : b5 < 256) (h6 : b6 < 256) (h7 : b7 < 256)
include h0 h1 h2 h3 h4 h5 h6 h7
theorem step1_bytes : step1 (num8 b0 b1 b2 b3 b4 b5 b6 b7) = num8 b1 b0 b3 b2 b5 b4 b7 b6 := by
  have e1 : num8 b0 b1 b2 b3 b4 b5 b6 b7 / 256 = num8 b1 b2 b3 b4 b5 b6 b7 0 := by unfold num8; omega
  unfold step1
  rw [e1, m1_bytes, and8 h1 h2 h3 h4 h5 h6 h7 z256 f256 z256 f256 z256 f256 z256 f256 z256, and8 h0 h1 h2 h3 h4 h5 h6 h7 f256 z256 f256 z256 f256 z256 f256 z256]
  simp only [Nat.and_zero, and_all h0, and_all h1, and_all h2, and_all h3, and_all h4, and_all h5, and_all h6, and_all h7]
  have e2 : num8 b0 0 b2 0 b4 0 b6 0 * 256 % 18446744073709551616 = num8 0 b0 0 b2 0 b4 0 b6 := by unfold num8; omega
  rw [e2, or8 h1 z256 h3 z256 h5 z256 h7 z256 z256 h0 z256 h2 z256 h4 z256 h6]
  simp only [Nat.or_zero, Nat.zero_or]
theorem step2_bytes : step2 (num8 b0 b1 b2 b3 b4 b5 b6 b7) = num8 b2 b3 b0 b1 b6 b7 b4 b5 := by
  have e1 : num8 b0 b1 b2 b3 b4 b5 b6 b7 / 65536 = num8 b2 b3 b4 b5 b6 b7 0 0 := by unfold num8; omega
  unfold step2
  rw [e1, m2_bytes, and8 h2 h3 h4 h5 h6 h7 z256 z256 f256 f256 z256 z256 f256 f256 z256 z256, and8 h0 h1 h2 h3 h4 h5 h6 h7 f256 f256 z256 z256 f256 f256 z256 z256]
  simp only [Nat.and_zero, and_all h0, and_all h1, and_all h2, and_all h3, and_all h4, and_all h5, and_all h6, and_all h7]
  have e2 : num8 b0 b1 0 0 b4 b5 0 0 * 65536 % 18446744073709551616 = num8 0 0 b0 b1 0 0 b4 b5 := by unfold num8; omega
  rw [e2, or8 h2 h3 z256 z256 h6 h7 z256 z256 z256 z256 h0 h1 z256 z256 h4 h5]
  simp only [Nat.or_zero, Nat.zero_or]
theorem step3_bytes : step3 (num8 b0 b1 b2 b3 b4 b5 b6 b7) = num8 b4 b5 b6 b7 b0 b1 b2 b3 := by
  have e1 : num8 b0 b1 b2 b3 b4 b5 b6 b7 / 4294967296 = num8 b4 b5 b6 b7 0 0 0 0 := by unfold num8; omega
  have e2 : num8 b0 b1 b2 b3 b4 b5 b6 b7 * 4294967296 % 18446744073709551616 = num8 0 0 0 0 b0 b1 b2 b3 := by unfold num8; omega
  unfold step3
  rw [e1, e2, or8 h4 h5 h6 h7 z256 z256 z256 z256 z256 z256 z256 z256 h0 h1 h2 h3]
  simp only [Nat.or_zero, Nat.zero_or]
end
theorem swap_steps {u : Nat} (h : u < 18446744073709551616) : step3 (step2 (step1 u)) = swapN u ∧ step1 u < 18446744073709551616 ∧ step2 (step1 u) < 18446744073709551616 := by
  obtain ⟨b0, b1, b2, b3, b4, b5, b6, b7, h0, h1, h2, h3, h4, h5, h6, h7, rfl⟩ := split8 h
  rw [step1_bytes h0 h1 h2 h3 h4 h5 h6 h7, step2_bytes h1 h0 h3 h2 h5 h4 h7 h6, step3_bytes h3 h2 h1 h0 h7 h6 h5 h4, swap8 h0 h1 h2 h3 h4 h5 h6 h7]
  exact ⟨rfl, num8_lt h1 h0 h3 h2 h5 h4 h7 h6, num8_lt h3 h2 h1 h0 h7 h6 h5 h4⟩

end Rl
end Go.Proofs.Ytimgiokhhdkfaaa
