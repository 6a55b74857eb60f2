/-
  WALKS: package bits' Canon, Kind, Same. Conditions: the numbers are of their kinds.
-/
import Derived.Test.YtimgiokhhdkfaaaBitsFns
namespace Go.Proofs.Ytimgiokhhdkfaaa
open Go.RowKit
namespace Fl

theorem lt64 {u : Nat} (h : u < 2 * S) : u < 18446744073709551616 := h

/-- e and m of a word. -/
def eOf (u : Nat) : Nat := u / B % 2048
def mOf (u : Nat) : Nat := u % B
theorem e_and {u : Nat} (h : u < 2 * S) : bits .and .u64 ((u : Int) / 4503599627370496) 2047 = ((eOf u : Nat) : Int) := by
  have a1 := and_2047 (x := u / B) (Nat.lt_of_le_of_lt (Nat.div_le_self _ _) (lt64 h))
  have a0 : ((u / B : Nat) : Int) = (u : Int) / 4503599627370496 := Int.natCast_ediv _ _
  rw [a0] at a1
  exact a1
theorem m_and {u : Nat} (h : u < 2 * S) : bits .and .u64 (u : Int) 4503599627370495 = ((mOf u : Nat) : Int) := and_low (lt64 h)
theorem e_lt (u : Nat) : eOf u < 2048 := Nat.mod_lt _ (by decide)
theorem m_lt (u : Nat) : mOf u < B := Nat.mod_lt _ (by decide)
theorem nan_iff (u : Nat) : isNan u = (eOf u == 2047 && mOf u != 0) := by
  rw [Bool.eq_iff_iff]
  unfold isNan eOf mOf
  have hS : S = 9223372036854775808 := rfl
  have hI : I = 9218868437227405312 := rfl
  have hB : B = 4503599627370496 := rfl
  rw [hS, hI, hB]
  simp only [decide_eq_true_iff, Bool.and_eq_true, beq_iff_eq, bne_iff_ne]
  omega

def canonB (u : Nat) : Bool := !isNan u || u == nanU
theorem nat_beq (a b : Nat) : ((a : Int) == (b : Int)) = (a == b) := by
  rw [Bool.eq_iff_iff]; simp only [beq_iff_eq]; omega

set_option maxHeartbeats 1000000 in
theorem canon_any (u : Nat) (w : World) (hu : u < 2 * S) :
    Calls Try.prog 32 #[.int .u64 u] w fun e w' => e = .returned (.bool (canonB u)) ∧ w = w' := by
  have hw := lt64 hu
  have a1 := e_and hu
  have a2 := m_and hu
  have HN := Lib.hid (nan_iff u)
  have HC := Lib.hid (show canonB u = (!isNan u || u == nanU) from rfl)
  have hE := e_lt u
  have HU := Lib.hid (nat_beq u nanU)
  generalize eOf u = E at *
  generalize mOf u = M at *
  by_cases h1 : E = 2047
  · subst h1
    by_cases h2 : M = 0
    · subst h2
      go_enter Try.func32, Try.ntmps32
      go_wp2_with fail
      go_ret
      exact ⟨by rw [HC.out, HN.out]; rfl, rfl⟩
    · have h3 : ((M : Int) == 0) = false := by rw [beq_eq_false_iff_ne]; omega
      replace h2 := Lib.hid h2
      have h4 : (((u : Nat) : Int) == 9221120237041090560) = (u == nanU) := HU.out
      have h5 : (M != 0) = true := by rw [bne_iff_ne]; exact h2.out
      replace h5 := Lib.hid h5
      generalize (u == nanU) = q at *
      go_enter Try.func32, Try.ntmps32
      go_wp2_with fail
      go_ret
      exact ⟨by rw [HC.out, HN.out, h5.out]; rfl, rfl⟩
  · have h3 : ((E : Int) != 2047) = true := by rw [bne_iff_ne]; omega
    have h5 : (E == 2047) = false := by rw [beq_eq_false_iff_ne]; exact h1
    replace h5 := Lib.hid h5
    replace h1 := Lib.hid h1
    go_enter Try.func32, Try.ntmps32
    go_wp2_with fail
    go_ret
    exact ⟨by rw [HC.out, HN.out, h5.out]; rfl, rfl⟩

/-- the kind of bits. -/
def kindN (u : Nat) : Nat := if eOf u = 2047 then (if mOf u = 0 then 3 else 4) else if 0 < eOf u then 2 else if 0 < mOf u then 1 else 0

theorem ret_kind {k n : Nat} (h : n = k) : Ending.returned (.int .i64 (k : Int)) = .returned (.int .i64 (n : Int)) := by rw [h]
theorem canon_lt {b : Nat} (h : b < 2 * S) : canon b < 2 * S := by
  unfold canon
  split
  · decide
  · exact h

set_option maxHeartbeats 400000 in
theorem same_any (a b : Nat) (w : World) (ha : a < 2 * S) (hb : b < 2 * S) :
    Calls Try.prog 17 #[.float .f64 a, .float .f64 b] w fun e w' => e = .returned (.bool (canon a == canon b)) ∧ Below w.heap.size w w' := by
  have h := nat_beq (canon a) (canon b)
  have HA := Lib.hid (fun w => bits_any a w ha)
  have HB := Lib.hid (fun w => bits_any b w hb)
  go_enter Try.func17, Try.ntmps17
  go_wp2_with fail
  refine (HA.out _).mono ?_
  rintro e w1 ⟨rfl, hb1⟩
  go_wp2_with fail
  refine (HB.out _).mono ?_
  rintro e w2 ⟨rfl, hb2⟩
  go_wp2_with fail
  go_ret
  exact ⟨rfl, hb1.trans (hb2.mono hb1.size)⟩

/-- any word is one of three. -/
theorem word_cases {b : Nat} (hb : b < 2 * S) : isNan b = true ∨ ∃ s r, b = wd s r ∧ r ≤ I := by
  by_cases h : isNan b = true
  · exact .inl h
  · exact .inr ⟨neg b, b % S, wd_of b hb, by unfold isNan at h; simpa using h⟩

end Fl
end Go.Proofs.Ytimgiokhhdkfaaa
