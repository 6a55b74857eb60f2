/-
  WALKS: a Reader's reading: a number's bytes, by a closure that panics where it can't go on. Conditions: the reader is one.
-/
import Derived.Test.YtpccenaieeggmaaPackZig
import Derived.Defers
import Derived.Recover
import Derived.Outline
namespace Go.Proofs.Ytpccenaieeggmaa
open Go.RowKit
namespace Pk
open Mem

/-- what is left of bytes. -/
def rest (s : ByteArray) (k : Nat) : ByteArray := s.extract k s.size
/-- what panics. -/
def wrong (c : Int) : List PanicEntry := [{ v := .iface 82 (.int .i64 c), recovered := false }]

set_option maxRecDepth 100000 in
theorem must_yes (c : Int) (w : World) : Calls Try.prog 49 #[.bool true, .int .i64 c] w fun e w' => e = .returned (.tuple #[]) ∧ w = w' := by
  go_enter Try.func49, Try.ntmps49
  go_wp2_with fail
  go_end0
  exact ⟨rfl, rfl⟩
set_option maxRecDepth 100000 in
theorem must_no (c : Int) (w : World) : Calls Try.prog 49 #[.bool false, .int .i64 c] w fun e w' => e = .panicked (wrong c) ∧ w = w' := by
  go_enter Try.func49, Try.ntmps49
  go_wp2_with fail
  exact ⟨rfl, rfl, rfl⟩

theorem andNot128 (b : UInt8) : bits .andNot .u8 ((b.toNat : Nat) : Int) 128 = ((b.toNat % 128 : Nat) : Int) := by
  have h : ∀ x : Nat, x < 256 → x &&& (255 - 128) = x % 128 := by decide +kernel
  rw [show (128 : Int) = ((128 : Nat) : Int) from rfl, u8_andNot_nat _ _ (UInt8.toNat_lt b) (by decide), h _ (UInt8.toNat_lt b)]
theorem or_shift {acc x k : Nat} (hacc : acc < 2 ^ (7 * k)) (hx : acc + x % 128 * 2 ^ (7 * k) < 2 ^ 64) :
    bits .or .u64 (acc : Int) (IntKind.u64.wrap ((x : Int) % 128 * 2 ^ (7 * k))) = ((acc + x % 128 * 2 ^ (7 * k) : Nat) : Int) := by
  have e : (x : Int) % 128 * 2 ^ (7 * k) = ((x % 128 * 2 ^ (7 * k) : Nat) : Int) := by
    rw [Int.natCast_mul, Int.natCast_emod, Int.natCast_pow]
    rfl
  have e2 : ((x % 128 * 2 ^ (7 * k) : Nat) : Int) % 18446744073709551616 = ((x % 128 * 2 ^ (7 * k) : Nat) : Int) := by omega
  rw [e, IntKind.wrap_u64, e2, u64_or_nat _ _ (by omega) (by omega)]
  have e3 := Nat.two_pow_add_eq_or_of_lt hacc (x % 128)
  rw [Nat.mul_comm] at e3
  rw [Nat.or_comm, ← e3, Nat.add_comm]
theorem small_shift {acc x k : Nat} (hk : k < 9) (hacc : acc < 2 ^ (7 * k)) : acc + x % 128 * 2 ^ (7 * k) < 2 ^ (7 * (k + 1)) ∧ acc + x % 128 * 2 ^ (7 * k) < 2 ^ 64 := by
  have e : 2 ^ (7 * (k + 1)) = 128 * 2 ^ (7 * k) := by rw [Nat.mul_add, Nat.pow_add]; omega
  have h1 : x % 128 * 2 ^ (7 * k) ≤ 127 * 2 ^ (7 * k) := Nat.mul_le_mul_right _ (by omega)
  have h2 : (2 : Nat) ^ (7 * (k + 1)) ≤ 2 ^ 64 := Nat.pow_le_pow_right (by decide) (by omega)
  rw [e] at h2 ⊢
  omega
theorem top_shift {acc x k : Nat} (hk : k = 9) (hacc : acc < 2 ^ (7 * k)) (hx : x ≤ 1) : acc + x % 128 * 2 ^ (7 * k) < 2 ^ 64 := by
  subst hk
  have e : (2 : Nat) ^ 64 = 2 * 2 ^ (7 * 9) := by decide
  rw [e]
  rcases (show x = 0 ∨ x = 1 by omega) with rfl | rfl <;> omega

theorem drop_at (s : ByteArray) (k : Nat) (h : k < s.size) : s.data.toList.drop k = s[k] :: s.data.toList.drop (k + 1) :=
  List.drop_eq_getElem_cons (by rw [size_list]; exact h)
theorem go_bad {k acc : Nat} {s : ByteArray} (h : k < s.size) (hb : (k = 9 ∧ 1 < s[k].toNat) ∨ (0 < k ∧ s[k].toNat = 0)) : numGo k acc (s.data.toList.drop k) = (3, 0, 0) := by
  rw [drop_at s k h, numGo, if_pos hb]
theorem go_last {k acc : Nat} {s : ByteArray} (h : k < s.size) (hb : ¬ ((k = 9 ∧ 1 < s[k].toNat) ∨ (0 < k ∧ s[k].toNat = 0))) (hl : s[k].toNat < 128) : numGo k acc (s.data.toList.drop k) = (0, acc + s[k].toNat % 128 * 2 ^ (7 * k), k + 1) := by
  rw [drop_at s k h, numGo, if_neg hb, if_pos hl, Nat.mod_eq_of_lt hl]
theorem go_more {k acc : Nat} {s : ByteArray} (h : k < s.size) (hb : ¬ ((k = 9 ∧ 1 < s[k].toNat) ∨ (0 < k ∧ s[k].toNat = 0))) (hl : ¬ s[k].toNat < 128) : numGo k acc (s.data.toList.drop k) = numGo (k + 1) (acc + s[k].toNat % 128 * 2 ^ (7 * k)) (s.data.toList.drop (k + 1)) := by
  rw [drop_at s k h, numGo, if_neg hb, if_neg hl]
theorem go_cut' {k acc : Nat} {s : ByteArray} (h : ¬ k < s.size) : numGo k acc (s.data.toList.drop k) = (2, 0, 0) := by
  rw [List.drop_eq_nil_of_le (by rw [size_list]; omega)]
  rfl

/-- how Num's closure ends. -/
def Num1End (s : ByteArray) (q : Nat) (w : World) (e : Ending) (w' : World) : Prop :=
  ((numR s.data.toList).1 = 0 ∧ e = .returned (.string (rest s (numR s.data.toList).2.2)) ∧ w' = w.setCell ⟨q, 0, none⟩ (.int .u64 (numR s.data.toList).2.1)) ∨
  ((numR s.data.toList).1 ≠ 0 ∧ e = .panicked (wrong (numR s.data.toList).1) ∧ w' = w)
theorem end_ok {s : ByteArray} {q N k : Nat} {w : World} (h : numR s.data.toList = (0, N, k)) : Num1End s q w (.returned (.string (s.extract k s.size))) (w.setCell ⟨q, 0, none⟩ (.int .u64 N)) :=
  .inl ⟨by rw [h], by rw [h]; rfl, by rw [h]⟩
theorem end_bad {s : ByteArray} {q : Nat} {c : Int} {w : World} (h : numR s.data.toList = (c, 0, 0)) (hc : c ≠ 0) : Num1End s q w (.panicked (wrong c)) w :=
  .inr ⟨by rw [h]; exact hc, by rw [h], rfl⟩

set_option maxRecDepth 100000 in
set_option maxHeartbeats 1000000 in
theorem num1_any (s : ByteArray) (q old : Nat) (w : World) (hq : w.heap[q]? = some (.cells #[.int .u64 old] 56 (0, 0))) (hs : s.size ≤ 9223372036854775807) :
    Calls Try.prog 50 #[.string s, .pointer (some ⟨q, 0, none⟩)] w (Num1End s q w) := by
  have hcell := cell_of_one hq
  have hfree := free_of_one hq
  clear hq
  go_enter Try.func50, Try.ntmps50
  go_wp2_with fail
  go_loop [4, 5] (fun n i => ∃ (k acc : Nat), n = .int .u64 acc ∧ i = .int .i64 k ∧ k ≤ 9 ∧ k ≤ s.size ∧ Hid (acc < 2 ^ (7 * k)) ∧ Hid (numGo k acc (s.data.toList.drop k) = numR s.data.toList)) (fun _ i => 10 - (intOf i).toNat)
  case atStart => exact ⟨0, 0, rfl, rfl, by omega, by omega, Lib.hid (by decide), Lib.hid rfl⟩
  case round =>
    obtain ⟨k, acc, rfl, rfl, hk9, hks, hacc, HG⟩ := hrel
    by_cases hlt : k < s.size
    · by_cases h9 : k < 9
      · have c9 : (k : Int) < 9 := by omega
        have hkk := h9
        by_cases h0 : k = 0
        · have c0 : ((k : Int) == 0) = true := by rw [beq_iff_eq]; omega
          have not_bad : ¬ ((k = 9 ∧ 1 < s[k].toNat) ∨ (0 < k ∧ s[k].toNat = 0)) := by omega
          clear h0
          have hbad := not_bad
          have e8 := andNot128 s[k]
          have e9 := or_shift (x := s[k].toNat) hacc.out (small_shift hkk hacc.out).2
          by_cases hl : s[k].toNat < 128
          · have HE := Lib.hid (end_ok (q := q) (w := w) (HG.out.symm.trans (go_last hlt hbad hl)))
            have hl' : (s[k].toNat : Int) < 128 := by omega
            clear hl hbad
            generalize acc + s[k].toNat % 128 * 2 ^ (7 * k) = N at *
            go_wp2_with fail
            refine (must_yes _ _).mono ?_
            rintro e w' ⟨rfl, rfl⟩
            go_wp2_with fail
            refine (must_yes _ _).mono ?_
            rintro e w' ⟨rfl, rfl⟩
            go_wp2_with fail
            go_ret
            exact HE.out
          · have HA := Lib.hid (small_shift (x := s[k].toNat) hkk hacc.out).1
            have HN := Lib.hid ((go_more hlt hbad hl).symm.trans HG.out)
            have hl' : 128 ≤ (s[k].toNat : Int) := by omega
            clear hl hbad
            generalize acc + s[k].toNat % 128 * 2 ^ (7 * k) = N at *
            go_wp2_with fail
            refine (must_yes _ _).mono ?_
            rintro e w' ⟨rfl, rfl⟩
            go_wp2_with fail
            refine (must_yes _ _).mono ?_
            rintro e w' ⟨rfl, rfl⟩
            go_wp2_with fail
            go_round
            case rel => exact ⟨k + 1, N, rfl, by go_num, by omega, by omega, HA, HN⟩
            case measure => simp [intOf]; omega
        · have c0 : ((k : Int) == 0) = false := by rw [beq_eq_false_iff_ne]; omega
          by_cases hz : s[k].toNat = 0
          · have hb : (k = 9 ∧ 1 < s[k].toNat) ∨ (0 < k ∧ s[k].toNat = 0) := .inr ⟨by omega, hz⟩
            have cz : ((s[k].toNat : Int) != 0) = false := by rw [bne_eq_false_iff_eq]; omega
            clear hz
            have HE := Lib.hid (end_bad (q := q) (w := w) (HG.out.symm.trans (go_bad hlt hb)) (by decide))
            clear hb
            go_wp2_with fail
            refine (must_yes _ _).mono ?_
            rintro e w' ⟨rfl, rfl⟩
            go_wp2_with fail
            refine (must_no _ _).mono ?_
            rintro e w' ⟨rfl, rfl⟩
            go_wp2_with fail
            exact ⟨rfl, HE.out⟩
          · have not_bad : ¬ ((k = 9 ∧ 1 < s[k].toNat) ∨ (0 < k ∧ s[k].toNat = 0)) := by omega
            have cz : ((s[k].toNat : Int) != 0) = true := by rw [bne_iff_ne]; omega
            clear hz
            have hbad := not_bad
            have e8 := andNot128 s[k]
            have e9 := or_shift (x := s[k].toNat) hacc.out (small_shift hkk hacc.out).2
            by_cases hl : s[k].toNat < 128
            · have HE := Lib.hid (end_ok (q := q) (w := w) (HG.out.symm.trans (go_last hlt hbad hl)))
              have hl' : (s[k].toNat : Int) < 128 := by omega
              clear hl hbad
              generalize acc + s[k].toNat % 128 * 2 ^ (7 * k) = N at *
              go_wp2_with fail
              refine (must_yes _ _).mono ?_
              rintro e w' ⟨rfl, rfl⟩
              go_wp2_with fail
              refine (must_yes _ _).mono ?_
              rintro e w' ⟨rfl, rfl⟩
              go_wp2_with fail
              go_ret
              exact HE.out
            · have HA := Lib.hid (small_shift (x := s[k].toNat) hkk hacc.out).1
              have HN := Lib.hid ((go_more hlt hbad hl).symm.trans HG.out)
              have hl' : 128 ≤ (s[k].toNat : Int) := by omega
              clear hl hbad
              generalize acc + s[k].toNat % 128 * 2 ^ (7 * k) = N at *
              go_wp2_with fail
              refine (must_yes _ _).mono ?_
              rintro e w' ⟨rfl, rfl⟩
              go_wp2_with fail
              refine (must_yes _ _).mono ?_
              rintro e w' ⟨rfl, rfl⟩
              go_wp2_with fail
              go_round
              case rel => exact ⟨k + 1, N, rfl, by go_num, by omega, by omega, HA, HN⟩
              case measure => simp [intOf]; omega
      · have c9 : decide ((k : Int) < 9) = false := by rw [decide_eq_false_iff_not]; omega
        have c0 : ((k : Int) == 0) = false := by rw [beq_eq_false_iff_ne]; omega
        have H9 := Lib.hid (show k = 9 by omega)
        by_cases hx : s[k].toNat ≤ 1
        · have cx : (s[k].toNat : Int) ≤ 1 := by omega
          by_cases hz : s[k].toNat = 0
          · have hb : (k = 9 ∧ 1 < s[k].toNat) ∨ (0 < k ∧ s[k].toNat = 0) := .inr ⟨by omega, hz⟩
            have cz : ((s[k].toNat : Int) != 0) = false := by rw [bne_eq_false_iff_eq]; omega
            clear hz h9
            have HE := Lib.hid (end_bad (q := q) (w := w) (HG.out.symm.trans (go_bad hlt hb)) (by decide))
            clear hb
            go_wp2_with fail
            refine (must_yes _ _).mono ?_
            rintro e w' ⟨rfl, rfl⟩
            go_wp2_with fail
            refine (must_no _ _).mono ?_
            rintro e w' ⟨rfl, rfl⟩
            go_wp2_with fail
            exact ⟨rfl, HE.out⟩
          · have not_bad : ¬ ((k = 9 ∧ 1 < s[k].toNat) ∨ (0 < k ∧ s[k].toNat = 0)) := by omega
            have cz : ((s[k].toNat : Int) != 0) = true := by rw [bne_iff_ne]; omega
            clear hz h9
            have hbad := not_bad
            have e8 := andNot128 s[k]
            have e9 := or_shift (x := s[k].toNat) hacc.out (top_shift H9.out hacc.out hx)
            by_cases hl : s[k].toNat < 128
            · have HE := Lib.hid (end_ok (q := q) (w := w) (HG.out.symm.trans (go_last hlt hbad hl)))
              have hl' : (s[k].toNat : Int) < 128 := by omega
              clear hl hbad
              generalize acc + s[k].toNat % 128 * 2 ^ (7 * k) = N at *
              go_wp2_with fail
              refine (must_yes _ _).mono ?_
              rintro e w' ⟨rfl, rfl⟩
              go_wp2_with fail
              refine (must_yes _ _).mono ?_
              rintro e w' ⟨rfl, rfl⟩
              go_wp2_with fail
              go_ret
              exact HE.out
            · omega
        · have cx : ¬ (s[k].toNat : Int) ≤ 1 := by omega
          have hb : (k = 9 ∧ 1 < s[k].toNat) ∨ (0 < k ∧ s[k].toNat = 0) := .inl ⟨H9.out, by omega⟩
          clear h9
          have HE := Lib.hid (end_bad (q := q) (w := w) (HG.out.symm.trans (go_bad hlt hb)) (by decide))
          clear hb
          go_wp2_with fail
          refine (must_yes _ _).mono ?_
          rintro e w' ⟨rfl, rfl⟩
          go_wp2_with fail
          refine (must_no _ _).mono ?_
          rintro e w' ⟨rfl, rfl⟩
          go_wp2_with fail
          exact ⟨rfl, HE.out⟩
    · have hk' : k = s.size := by omega
      have HE := Lib.hid (end_bad (q := q) (w := w) (HG.out.symm.trans (go_cut' hlt)) (by decide))
      have hge : decide (k < s.size) = false := decide_eq_false hlt
      clear hk' hlt
      go_wp2_with fail
      refine (must_no _ _).mono ?_
      rintro e w' ⟨rfl, rfl⟩
      go_wp2_with fail
      exact ⟨rfl, HE.out⟩

end Pk
end Go.Proofs.Ytpccenaieeggmaa
