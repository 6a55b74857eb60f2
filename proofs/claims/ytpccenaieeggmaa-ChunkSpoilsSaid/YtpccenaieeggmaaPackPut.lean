/-
  WALKS: numbers put as bytes: package pack's Put, Fixed, Zig, Zag, and the document's. Conditions: the numbers are of their kinds.
-/
import Derived.Test.YtpccenaieeggmaaPackPlain
import Derived.Outline
namespace Go.Proofs.Ytpccenaieeggmaa
open Go.RowKit
namespace Pk
open Mem

theorem info8 : (Try.prog.info? 5).map (fun i => (i.zero, i.size, i.bytes)) = some (some (.int .u8 0), 1, 1) := by kernel_rfl
theorem w64 {n : Nat} (h : n < W64) : n < 18446744073709551616 := h

theorem one_cell (m : Int) : ∀ x ∈ [Value.int .u8 m], x.oneCell' = true := fun x hx => by simp at hx; subst hx; rfl
theorem or128 (m : Nat) : bits .or .u8 ((m : Int) % 256) 128 = ((m % 128 + 128 : Nat) : Int) := by
  have e : (m : Int) % 256 = ((m % 256 : Nat) : Int) := by omega
  have h : ∀ b : Nat, b < 256 → b ||| 128 = b % 128 + 128 := by decide +kernel
  rw [e, show (128 : Int) = ((128 : Nat) : Int) from rfl, u8_or_nat _ _ (by omega) (by decide), h _ (by omega)]
  congr 1
  omega
theorem own8_snoc {w : World} {base : Nat} {v : Value} {acc : List UInt8} {m : Nat} (hc : cells8 [UInt8.ofNat m] = [Value.int .u8 (m : Int)]) (h : w.ownsRow base 5 1 v (acc.length + 1) (cells8 acc ++ [.int .u8 (m : Int)])) : Own8 w base v (acc ++ [UInt8.ofNat m]) := by
  unfold Own8
  rw [cells8_append, hc, List.length_append, List.length_singleton]
  exact h
theorem _root_.Go.RowKit.Below.grown8 {w wr w3 : World} {v : Value} {n : Nat} {x : Obj} {xs : List Value} (hb : Below w.heap.size w wr) (hg : (wr.alloc x).grownBy w3 v.ownBlock) (hO : wr.ownsRow w.heap.size 5 1 v n xs) : Below w.heap.size w w3 :=
  (hb.alloc hb.size x).grown hg (by have := hb.size; simp; omega) (fun k e => (hO.lt k e).1)

set_option maxRecDepth 100000 in
set_option maxHeartbeats 1000000 in
theorem put_any (n : Nat) (w : World) (hn : n < W64) :
    Calls Try.prog 25 #[.int .u64 n] w fun e w' => e = .returned (.string (str (putL n))) ∧ Below w.heap.size w w' := by
  obtain ⟨i0, hi, hz0, hz1, hz2⟩ := info_parts info8
  have HN := Lib.hid hn
  clear hn
  go_enter Try.func25, Try.ntmps25
  go_wp2_with fail
  go_loopw [0, 3] (fun x v wr => ∃ (k m : Nat) (acc : List UInt8), x = .int .u64 m ∧ Hid (PutAt n k m acc) ∧ Hid (Own8 wr w.heap.size v acc) ∧ Below w.heap.size w wr) (fun x _ _ => (intOf x).toNat)
  case atStart => exact ⟨0, n, [], rfl, Lib.hid (PutAt.start HN.out), Lib.hid (own8_nil _ _), Below.refl _ _⟩
  case round =>
    obtain ⟨k, m, acc, rfl, hP, hO, hb⟩ := hrel
    have hm64 := w64 hP.out.lt64
    have hl : acc.length ≤ 9 := by rw [hP.out.len]; exact hP.out.le
    have hO' := hO.out
    unfold Own8 at hO'
    have hsz := hb.size
    by_cases hm : m < 128
    · have hm' : (m : Int) < 128 := by omega
      have HL := Lib.hid (hP.out.last hm)
      have HC := Lib.hid (cell_of (m := m) (by omega))
      clear hm
      go_wp2_with (at_builtin; refine wpList_append_own _ rfl _ _ 42 rfl w.heap.size 5 i0 (.int .u8 0) 1 1 Try.underlying42 hi hz0 hz1 hz2 rfl (by decide) _ _ _ rfl (hO'.alloc _) ⟨wr.heap.size, 0, none⟩ 1 1 [.int .u8 m] rfl rfl (cell_one_new _ _ _) (one_cell _) (by unfold maxLen; omega) (by omega) (by simp; omega) ?_; intro v' w3 hown hgrow _; have hS := own8_string (own8_snoc HC.out hown); rw [HL.out] at hS; have hB := hb.grown8 hgrow hO'; clear hown hgrow)
      go_ret
      exact ⟨rfl, hB⟩
    · have hm' : ¬ (m : Int) < 128 := by omega
      have hP' := hP.out.next hm
      have HC := Lib.hid (cell_of (m := m % 128 + 128) (by omega))
      have e8 := or128 m
      have hm2 : 128 ≤ m := by omega
      clear hm
      generalize m % 128 + 128 = x at *
      go_wp2_with (at_builtin; refine wpList_append_own _ rfl _ _ 42 rfl w.heap.size 5 i0 (.int .u8 0) 1 1 Try.underlying42 hi hz0 hz1 hz2 rfl (by decide) _ _ _ rfl (hO'.alloc _) ⟨wr.heap.size, 0, none⟩ 1 1 [.int .u8 x] rfl rfl (cell_one_new _ _ _) (one_cell _) (by unfold maxLen; omega) (by omega) (by simp; omega) ?_; intro v' w3 hown hgrow _)
      have hO2 : Own8 w3 w.heap.size v' (acc ++ [UInt8.ofNat x]) := own8_snoc HC.out hown
      have hB := hb.grown8 hgrow hO'
      clear hown hgrow hO'
      go_wp2_with fail
      go_roundw
      case rel => exact ⟨k + 1, m / 128, _, rfl, Lib.hid hP', Lib.hid hO2, hB⟩
      case measure => simp [intOf]; omega

set_option maxRecDepth 100000 in
set_option maxHeartbeats 1000000 in
theorem rput_any (n : Nat) (w : World) (hn : n < W64) :
    Calls Try.prog 26 #[.int .u64 n] w fun e w' => e = .returned (.string (str (putL n))) ∧ Below w.heap.size w w' := by
  obtain ⟨i0, hi, hz0, hz1, hz2⟩ := info_parts info8
  have HN := Lib.hid hn
  clear hn
  go_enter Try.func26, Try.ntmps26
  go_wp2_with fail
  go_loopw [0, 3] (fun x v wr => ∃ (k m : Nat) (acc : List UInt8), x = .int .u64 m ∧ Hid (PutAt n k m acc) ∧ Hid (Own8 wr w.heap.size v acc) ∧ Below w.heap.size w wr) (fun x _ _ => (intOf x).toNat)
  case atStart => exact ⟨0, n, [], rfl, Lib.hid (PutAt.start HN.out), Lib.hid (World.ownsRow_made w #[] 0 (Nat.le_refl _) (by decide) rfl), (Below.refl _ _).alloc (Nat.le_refl _) _⟩
  case round =>
    obtain ⟨k, m, acc, rfl, hP, hO, hb⟩ := hrel
    have hm64 := w64 hP.out.lt64
    have hl : acc.length ≤ 9 := by rw [hP.out.len]; exact hP.out.le
    have hO' := hO.out
    unfold Own8 at hO'
    have hsz := hb.size
    by_cases hm : m < 128
    · have hm' : (m : Int) < 128 := by omega
      have HL := Lib.hid (hP.out.last hm)
      have HC := Lib.hid (cell_of (m := m) (by omega))
      clear hm
      go_wp2_with (at_builtin; refine wpList_append_own _ rfl _ _ 42 rfl w.heap.size 5 i0 (.int .u8 0) 1 1 Try.underlying42 hi hz0 hz1 hz2 rfl (by decide) _ _ _ rfl (hO'.alloc _) ⟨wr.heap.size, 0, none⟩ 1 1 [.int .u8 m] rfl rfl (cell_one_new _ _ _) (one_cell _) (by unfold maxLen; omega) (by omega) (by simp; omega) ?_; intro v' w3 hown hgrow _; have hS := own8_string (own8_snoc HC.out hown); rw [HL.out] at hS; have hB := hb.grown8 hgrow hO'; clear hown hgrow)
      go_ret
      exact ⟨rfl, hB⟩
    · have hm' : ¬ (m : Int) < 128 := by omega
      have hP' := hP.out.next hm
      have HC := Lib.hid (cell_of (m := m % 128 + 128) (by omega))
      have e8 : (m : Int) % 128 + 128 = ((m % 128 + 128 : Nat) : Int) := by omega
      have hm2 : 128 ≤ m := by omega
      clear hm
      generalize m % 128 + 128 = x at *
      go_wp2_with (at_builtin; refine wpList_append_own _ rfl _ _ 42 rfl w.heap.size 5 i0 (.int .u8 0) 1 1 Try.underlying42 hi hz0 hz1 hz2 rfl (by decide) _ _ _ rfl (hO'.alloc _) ⟨wr.heap.size, 0, none⟩ 1 1 [.int .u8 x] rfl rfl (cell_one_new _ _ _) (one_cell _) (by unfold maxLen; omega) (by omega) (by simp; omega) ?_; intro v' w3 hown hgrow _)
      have hO2 : Own8 w3 w.heap.size v' (acc ++ [UInt8.ofNat x]) := own8_snoc HC.out hown
      have hB := hb.grown8 hgrow hO'
      clear hown hgrow hO'
      go_wp2_with fail
      go_roundw
      case rel => exact ⟨k + 1, m / 128, _, rfl, Lib.hid hP', Lib.hid hO2, hB⟩
      case measure => simp [intOf]; omega

set_option maxRecDepth 100000 in
set_option maxHeartbeats 1000000 in
theorem rfixed_any (n : Nat) (w : World) (hn : n < W64) :
    Calls Try.prog 27 #[.int .u64 n] w fun e w' => e = .returned (.string (str (fixL n))) ∧ Below w.heap.size w w' := by
  obtain ⟨i0, hi, hz0, hz1, hz2⟩ := info_parts info8
  have HN := Lib.hid hn
  clear hn
  go_enter Try.func27, Try.ntmps27
  go_wp2_with fail
  go_loopw [0, 3, 4] (fun x v i wr => ∃ (k m : Nat) (acc : List UInt8), x = .int .u64 m ∧ i = .int .i64 k ∧ k ≤ 8 ∧ Hid (FixAt n k m acc) ∧ Hid (Own8 wr w.heap.size v acc) ∧ Below w.heap.size w wr) (fun _ _ i _ => 8 - (intOf i).toNat)
  case atStart => exact ⟨0, n, [], rfl, rfl, by omega, Lib.hid (FixAt.start HN.out), Lib.hid (World.ownsRow_made w #[] 0 (Nat.le_refl _) (by decide) rfl), (Below.refl _ _).alloc (Nat.le_refl _) _⟩
  case round =>
    obtain ⟨k, m, acc, rfl, rfl, hk8, hP, hO, hb⟩ := hrel
    have hm64 := w64 hP.out.lt
    have hl : acc.length ≤ 8 := by rw [hP.out.len]; exact hk8
    have hO' := hO.out
    unfold Own8 at hO'
    have hsz := hb.size
    by_cases hk : k < 8
    · have hk' : (k : Int) < 8 := by omega
      have hP' := hP.out.next hk
      have HC := Lib.hid (cell_of (m := m % 256) (by omega))
      have e8 : (m : Int) % 256 = ((m % 256 : Nat) : Int) := by omega
      clear hk
      generalize m % 256 = x at *
      go_wp2_with (at_builtin; refine wpList_append_own _ rfl _ _ 42 rfl w.heap.size 5 i0 (.int .u8 0) 1 1 Try.underlying42 hi hz0 hz1 hz2 rfl (by decide) _ _ _ rfl (hO'.alloc _) ⟨wr.heap.size, 0, none⟩ 1 1 [.int .u8 x] rfl rfl (cell_one_new _ _ _) (one_cell _) (by unfold maxLen; omega) (by omega) (by simp; omega) ?_; intro v' w3 hown hgrow _)
      have hO2 : Own8 w3 w.heap.size v' (acc ++ [UInt8.ofNat x]) := own8_snoc HC.out hown
      have hB := hb.grown8 hgrow hO'
      clear hown hgrow hO'
      go_wp2_with fail
      go_roundw
      case rel => exact ⟨k + 1, m / 256, _, rfl, by go_num, by omega, Lib.hid hP', Lib.hid hO2, hB⟩
      case measure => simp [intOf]; omega
    · have hk' : k = 8 := by omega
      subst hk'
      have hS := own8_string hO.out
      rw [hP.out.last] at hS
      clear hk hO'
      go_wp2_with fail
      go_ret
      exact ⟨rfl, hb⟩

theorem cast_byte (n j : Nat) : (n : Int) / 2 ^ j % 256 = ((n / 2 ^ j % 256 : Nat) : Int) := by
  rw [Int.natCast_emod, Int.natCast_ediv, Int.natCast_pow]
  rfl
theorem byte_val (m : Nat) : Value.int .u8 ((m % 256 : Nat) : Int) = Value.int .u8 (((UInt8.ofNat (m % 256)).toNat : Nat) : Int) := by
  rw [UInt8.toNat_ofNat', Nat.mod_eq_of_lt (show m % 256 < 2 ^ 8 from Nat.mod_lt _ (by decide))]
theorem fill_get {acc : List UInt8} {k : Nat} (hl : acc.length = k) (hk : k < 8) : (cells8 (acc ++ List.replicate (8 - k) 0)).toArray[k]? = some (.int .u8 0) := by
  subst hl
  rw [List.getElem?_toArray]
  unfold cells8
  rw [List.getElem?_map, List.getElem?_append_right (Nat.le_refl _), Nat.sub_self, show 8 - acc.length = (7 - acc.length) + 1 from by omega, List.replicate_succ]
  rfl
theorem fill_set {acc : List UInt8} {k : Nat} (b : UInt8) (hl : acc.length = k) (hk : k < 8) : (cells8 (acc ++ List.replicate (8 - k) 0)).toArray.setIfInBounds k (.int .u8 (b.toNat : Int)) = (cells8 ((acc ++ [b]) ++ List.replicate (8 - (k + 1)) 0)).toArray := by
  subst hl
  rw [List.setIfInBounds_toArray]
  congr 1
  rw [show 8 - acc.length = (8 - (acc.length + 1)) + 1 from by omega, List.replicate_succ, cells8_append, List.set_append_right _ _ (by rw [cells8_length]; exact Nat.le_refl _), cells8_length, Nat.sub_self, List.append_assoc, cells8_append]
  rfl
theorem whole8 {w : World} {base : Nat} {acc : List UInt8} (h : w.heap[base]? = some (.cells (cells8 (acc ++ List.replicate (8 - 8) 0)).toArray 5 (0, 0))) (hl : acc.length = 8) : Own8 w base (.slice (some ⟨base, 0, none⟩) 8 8) acc := by
  rw [show List.replicate (8 - 8) (0 : UInt8) = [] from rfl, List.append_nil] at h
  refine ⟨by rw [cells8_length]; omega, .inr ⟨base, 8, _, by rw [hl], Nat.le_refl _, h, by omega, by decide, by simp [cells8_length, hl], ?_⟩⟩
  rw [hl, List.take_of_length_le (by simp [cells8_length, hl])]

set_option maxRecDepth 100000 in
set_option maxHeartbeats 1000000 in
theorem fixed_any (n : Nat) (w : World) (hn : n < W64) :
    Calls Try.prog 35 #[.int .u64 n] w fun e w' => e = .returned (.string (str (fixL n))) ∧ Below w.heap.size w w' := by
  have HN := Lib.hid hn
  clear hn
  have hmk : ∀ w, (Instr.makeSlice 42 (.int .i64 8) (.int .i64 8)).run Try.prog w = .ok (.slice (some ⟨w.heap.size, 0, none⟩) 8 8) (w.alloc (.cells #[.int .u8 0, .int .u8 0, .int .u8 0, .int .u8 0, .int .u8 0, .int .u8 0, .int .u8 0, .int .u8 0] 5)) := fun _ => by kernel_rfl
  go_enter Try.func35, Try.ntmps35
  go_wp2_with fail
  go_loopw [8] (fun i wr => ∃ (k m : Nat) (acc : List UInt8), i = .int .i64 k ∧ k ≤ 8 ∧ Hid (FixAt n k m acc) ∧ Hid (m = n / 2 ^ (8 * k)) ∧ Hid (wr.heap[w.heap.size]? = some (.cells (cells8 (acc ++ List.replicate (8 - k) 0)).toArray 5 (0, 0))) ∧ Below w.heap.size w wr) (fun i _ => 8 - (intOf i).toNat)
  case atStart => exact ⟨0, n, [], rfl, by omega, Lib.hid (FixAt.start HN.out), Lib.hid (by simp), Lib.hid (alloc_new _ _), (Below.refl _ _).alloc (Nat.le_refl _) _⟩
  case round =>
    obtain ⟨k, m, acc, rfl, hk8, hP, hM, hO, hb⟩ := hrel
    by_cases hk : k < 8
    · have hk' : (k : Int) < 8 := by omega
      have hn' := w64 HN.out
      have hcell : wr.cell? ⟨w.heap.size, k, none⟩ = some (.int .u8 0) := by
        rw [cell_at hO.out]
        exact fill_get hP.out.len hk
      have hfree := free_at hO.out k
      have hb1 : Below w.heap.size w (wr.setCell ⟨w.heap.size, k, none⟩ (.int .u8 ((n : Int) / 2 ^ (8 * k) % 256))) := hb.setCell (p := ⟨w.heap.size, k, none⟩) (Nat.le_refl _) _
      have hO1 := set_at hO.out k (.int .u8 ((n : Int) / 2 ^ (8 * k) % 256))
      rw [cast_byte n (8 * k), ← hM.out, byte_val m, fill_set _ hP.out.len hk] at hO1
      have HO1 := Lib.hid hO1
      clear hO1
      go_wp2_with fail
      go_roundw
      case rel => exact ⟨k + 1, m / 256, _, by go_num, by omega, Lib.hid (hP.out.next hk), Lib.hid (by rw [hM.out, Nat.div_div_eq_div_mul, Nat.mul_add, Nat.pow_add]), by rw [cast_byte n (8 * k), ← hM.out, byte_val m]; exact HO1, hb1⟩
      case measure => simp [intOf]; omega
    · have hk' : k = 8 := by omega
      subst hk'
      have hS := own8_string (whole8 hO.out hP.out.len)
      rw [hP.out.last] at hS
      clear hk
      go_wp2_with fail
      go_ret
      exact ⟨rfl, hb⟩

end Pk
end Go.Proofs.Ytpccenaieeggmaa
