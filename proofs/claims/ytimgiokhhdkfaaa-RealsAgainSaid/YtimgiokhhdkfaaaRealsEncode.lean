/-
  WALKS: package reals' Encode, and the document's. Conditions: lists of at most 1000 numbers.
-/
import Derived.Test.YtimgiokhhdkfaaaRealsChain
import Derived.Test.YtimgiokhhdkfaaaBuild
import Derived.Test.YtimgiokhhdkfaaaRealsShelf
namespace Go.Proofs.Ytimgiokhhdkfaaa
open Go.RowKit Go.Shelf
namespace Rl
open Mem Pk Fl Bd

theorem take_next (l : List Nat) (k : Nat) (h : k < l.length) : l.take (k + 1) = l.take k ++ [l[k]?.getD 0] := by
  rw [List.take_succ_eq_append_getElem h, List.getElem?_eq_getElem h]
  rfl
theorem getD_lt {l : List Nat} (h : ∀ b ∈ l, b < 2 * S) {k : Nat} (hk : k < l.length) : l[k]?.getD 0 < 2 * S := by
  rw [List.getElem?_eq_getElem hk]
  exact h _ (List.getElem_mem hk)
theorem S_pos : 0 < 2 * S := by decide
theorem lastR_take {l : List Nat} (h : ∀ b ∈ l, b < 2 * S) (k : Nat) : lastR 0 (l.take k) < 2 * S := lastR_lt _ 0 S_pos (fun b hb => h b (List.mem_of_mem_take hb))
/-- what holds at the head of each round of Encode. -/
structure EncAt (w : World) (l : List Nat) (k : Nat) (W : World) : Prop where
  keep : W.heap[w.heap.size]? = some (keepO 19)
  last : W.heap[w.heap.size + 1]? = some (lastO (lastR 0 (l.take k)))
  build : ∃ p v, (p = .pointer none ∨ p = .pointer (some ⟨w.heap.size + 2, 0, none⟩)) ∧ W.heap[w.heap.size + 2]? = some (bd p v) ∧ Own8 W (w.heap.size + 3) v (encR 0 (l.take k))
  bel : Below w.heap.size w W
  size : w.heap.size + 3 ≤ W.heap.size

set_option maxRecDepth 100000 in
set_option maxHeartbeats 2000000 in
theorem encode_any (v : Value) (l : List Nat) (w : World) (hv : Flts w v l) (hl : l.length ≤ 1000) :
    Calls Try.prog 11 #[v] w fun e w' => e = .returned (.string (str (encR 0 l))) ∧ Below w.heap.size w w' := by
  have HV := Lib.hid hv
  have HB := Lib.hid hv.bound
  obtain ⟨⟨a, cap, rfl, -, hcells⟩, -⟩ := hv
  have HC := Lib.hid hcells
  clear hcells
  go_enter Try.func11, Try.ntmps11
  go_wp2_with fail
  refine (chain_any _ _).mono ?_
  rintro e w1 ⟨rfl, h1, h2, h3, h4⟩
  have HE : Hid (EncAt w l 0 (w1.alloc (bd (.pointer none) (.slice none 0 0)))) := Lib.hid
    ⟨alloc_at _ h1, alloc_at _ h2, ⟨.pointer none, .slice none 0 0, .inl rfl, by rw [← h3]; exact alloc_new _ _, own8_nil _ _⟩, h4.alloc h4.size _, by simp; omega⟩
  clear h1 h2 h4
  replace h3 := Lib.hid h3
  go_wp2_with fail
  rw [h3.out]
  go_loopw [10] (fun i wr => ∃ k : Nat, i = .int .i64 k ∧ k ≤ l.length ∧ Hid (EncAt w l k wr)) (fun i _ => l.length - (intOf i).toNat)
  case atStart => exact ⟨0, rfl, by omega, HE⟩
  case round =>
    clear h3 HE
    obtain ⟨k, rfl, hk, HE⟩ := hrel
    by_cases hlt : k < l.length
    · obtain ⟨cb, off, rfl, hcb, hcell⟩ := HC.out (by omega)
      have hck : wr.cell? ⟨cb, off + k, none⟩ = some (.float .f64 (l[k]?.getD 0)) := (HE.out.bel.cell (p := ⟨cb, off + k, none⟩) hcb).trans (hcell k hlt)
      have hlt' : (k : Int) < l.length := by omega
      have hc := getD_lt HB.out hlt
      have hL := lastR_take HB.out k
      have hel : (encR 0 (l.take k)).length ≤ 10000 := by have := encR_len (l.take k) 0; rw [List.length_take] at this; omega
      have HT1 := Lib.hid (show encR 0 (l.take (k + 1)) = _ by rw [take_next l k hlt, encR_snoc])
      have HT2 := Lib.hid (show lastR 0 (l.take (k + 1)) = _ by rw [take_next l k hlt, lastR_snoc])
      obtain ⟨hA, hA2, ⟨p, v0, hp, hA3, hA4⟩, hA5, hA6⟩ := HE.out
      replace hA := Lib.hid hA
      replace hA2 := Lib.hid hA2
      replace hA3 := Lib.hid hA3
      replace hA4 := Lib.hid hA4
      replace hA5 := Lib.hid hA5
      clear hcell hlt HE
      have hcan := canon_lt hc
      generalize lastR 0 (l.take k) = L at *
      generalize encR 0 (l.take k) = E at *
      generalize l[k]?.getD 0 = c at *
      have HN : Hid (swapN (canon c ^^^ L) < W64) := Lib.hid (swap_lt (xor_lt hcan hL))
      have hpl := putL_length (swapN (canon c ^^^ L))
      go_wp2_with fail
      refine (bits_any c _ hc).mono ?_
      rintro e w2 ⟨rfl, hb2⟩
      have hK2 := Lib.hid (below_at hb2 hA.out (by omega))
      have hL2 := Lib.hid (below_at hb2 hA2.out (by omega))
      have hB2 := Lib.hid (below_at hb2 hA3.out (by omega))
      have k2 := Lib.hid (Kept.of_below (T := fun _ => False) hb2)
      have hs2 := hb2.size
      clear hb2
      go_wp2_with fail
      refine (next_enc _ _ _ _ _ hK2.out hL2.out hcan hL).mono ?_
      rintro e w3 ⟨rfl, rfl⟩
      have hK3 := Lib.hid (set_other (p := ⟨w.heap.size + 1, 0, none⟩) hK2.out (show w.heap.size ≠ w.heap.size + 1 by omega) (.int .u64 ((canon c : Nat) : Int)))
      have hL3 := Lib.hid ((set_at hL2.out 0 (.int .u64 ((canon c : Nat) : Int))).trans (show some _ = some (lastO (canon c)) from rfl))
      have hB3 := Lib.hid (set_other (p := ⟨w.heap.size + 1, 0, none⟩) hB2.out (show w.heap.size + 2 ≠ w.heap.size + 1 by omega) (.int .u64 ((canon c : Nat) : Int)))
      have k3 := Lib.hid (k2.out.mono (T' := fun i => i = w.heap.size + 1) (fun _ _ h => h.elim) |>.setCell (p := ⟨w.heap.size + 1, 0, none⟩) (fun _ => rfl) (.int .u64 ((canon c : Nat) : Int)))
      have hs3 : wr.heap.size ≤ (w2.setCell ⟨w.heap.size + 1, 0, none⟩ (.int .u64 ((canon c : Nat) : Int))).heap.size := k3.out.size
      clear k2 hK2 hL2 hB2
      generalize w2.setCell ⟨w.heap.size + 1, 0, none⟩ (.int .u64 ((canon c : Nat) : Int)) = w3 at *
      go_wp2_with fail
      refine (swap_any _ _ (xor_lt hcan hL)).mono ?_
      rintro e w4 ⟨rfl, rfl⟩
      go_wp2_with fail
      refine (put_any _ _ HN.out).mono ?_
      rintro e w4 ⟨rfl, hb4⟩
      have hK4 := Lib.hid (below_at hb4 hK3.out (by omega))
      have hL4 := Lib.hid (below_at hb4 hL3.out (by omega))
      have hB4 := below_at hb4 hB3.out (by omega)
      have k4 := k3.out.below hb4
      have hO4 : Own8 w4 (w.heap.size + 3) v0 E := own8_kept k4 hA4.out (fun i hi h => by omega)
      have hs4 := k4.size
      have HW := Lib.hid (wstr_any (w.heap.size + 2) (w.heap.size + 3) p v0 hp E (str (putL (swapN (canon c ^^^ L)))) w4 hB4 hO4 (by omega) (by omega) (by omega) (by rw [str_size]; omega))
      replace k4 := Lib.hid k4
      clear hb4 hK3 hL3 hB3 k3 hB4 hO4
      go_wp2_with fail
      refine HW.out.mono ?_
      rintro e w5 ⟨rfl, ⟨v5, hB5, hO5⟩, k5, -⟩
      rw [str_data, ← HT1.out] at hO5
      have hK5 := k5.at hK4.out (by omega)
      have hL5 := k5.at hL4.out (by omega)
      rw [← HT2.out] at hL5
      have k6 := (k4.out.mono (T' := fun i => w.heap.size < i) (fun i _ h => by omega)).trans (k5.mono (T' := fun i => w.heap.size < i) (fun i _ h => by omega))
      have HF : Hid (EncAt w l (k + 1) w5) := Lib.hid ⟨hK5, hL5, ⟨_, v5, .inr rfl, hB5, hO5⟩, hA5.out.trans (k6.to_below hA5.out.size (fun i hi h => by omega)), by have := k6.size; omega⟩
      clear hK4 hL4 k4 k5 k6 hB5 hO5 hK5 hL5 HW hA hA2 hA3 hA4 hA5
      go_wp2_with fail
      go_roundw
      case rel => exact ⟨k + 1, by go_num, by omega, HF⟩
      case measure => simp [intOf]; omega
    · obtain rfl : k = l.length := by omega
      have hge : decide (l.length < l.length) = false := decide_eq_false hlt
      obtain ⟨-, -, ⟨p, v0, hp, hA3, hA4⟩, hA5, hA6⟩ := HE.out
      rw [List.take_of_length_le (Nat.le_refl _)] at hA4
      have HS := Lib.hid (Try.Builder_String_any_k (w.heap.size + 2) (w.heap.size + 2) _ _ (Lib.IsBuilderF.of (builder_of hp hA3 hA4 (by omega))) (by omega))
      replace hA5 := Lib.hid hA5
      clear hlt HE hA3 hA4
      go_wp2_with fail
      refine HS.out.mono ?_
      rintro e' w4 ⟨rfl, -, hb4, -⟩
      go_wp2_with fail
      go_ret
      exact ⟨rfl, hA5.out.trans (hb4.mono (by omega))⟩

theorem str_append (l m : List UInt8) : str (l ++ m) = str l ++ str m := by
  apply ext_list
  rw [str_data, ByteArray.data_append, Array.toList_append, str_data, str_data]
set_option maxRecDepth 100000 in
set_option maxHeartbeats 2000000 in
theorem rencode_any (v : Value) (l : List Nat) (w : World) (hv : Flts w v l) (hl : l.length ≤ 1000) :
    Calls Try.prog 12 #[v] w fun e w' => e = .returned (.string (str (encR 0 l))) ∧ Below w.heap.size w w' := by
  have HB := Lib.hid hv.bound
  obtain ⟨⟨a, cap, rfl, -, hcells⟩, -⟩ := hv
  have HC := Lib.hid hcells
  clear hcells
  go_enter Try.func12, Try.ntmps12
  go_wp2_with fail
  go_loopw [3, 4, 5] (fun s x i wr => ∃ k : Nat, s = .string (str (encR 0 (l.take k))) ∧ x = .int .u64 (lastR 0 (l.take k) : Nat) ∧ i = .int .i64 k ∧ k ≤ l.length ∧ Below w.heap.size w wr) (fun _ _ i _ => l.length - (intOf i).toNat)
  case atStart => exact ⟨0, rfl, rfl, rfl, by omega, Below.refl _ _⟩
  case round =>
    obtain ⟨k, rfl, rfl, rfl, hk, hb⟩ := hrel
    by_cases hlt : k < l.length
    · obtain ⟨cb, off, rfl, hcb, hcell⟩ := HC.out (by omega)
      have hck : wr.cell? ⟨cb, off + k, none⟩ = some (.float .f64 (l[k]?.getD 0)) := (hb.cell (p := ⟨cb, off + k, none⟩) hcb).trans (hcell k hlt)
      have hlt' : (k : Int) < l.length := by omega
      have hc := getD_lt HB.out hlt
      have hL := lastR_take HB.out k
      have hel : (encR 0 (l.take k)).length ≤ 10000 := by have := encR_len (l.take k) 0; rw [List.length_take] at this; omega
      have HT1 := Lib.hid (show encR 0 (l.take (k + 1)) = _ by rw [take_next l k hlt, encR_snoc])
      have HT2 := Lib.hid (show lastR 0 (l.take (k + 1)) = _ by rw [take_next l k hlt, lastR_snoc])
      clear hcell hlt
      have hcan := canon_lt hc
      generalize lastR 0 (l.take k) = L at *
      generalize encR 0 (l.take k) = E at *
      generalize l[k]?.getD 0 = c at *
      have HX := Lib.hid (xor64 hcan hL)
      have HN : Hid (swapN (canon c ^^^ L) < W64) := Lib.hid (swap_lt (xor_lt hcan hL))
      have hpl := putL_length (swapN (canon c ^^^ L))
      have z1 : (str E).size ≤ 10000 := by rw [str_size]; exact hel
      have z2 : (str (putL (swapN (canon c ^^^ L)))).size ≤ 10 := by rw [str_size]; exact hpl
      clear hel hpl
      go_wp2_with fail
      refine (rbits_any c _ hc).mono ?_
      rintro e w2 ⟨rfl, rfl⟩
      go_wp2_with fail
      rw [HX.out]
      refine (rswap_any _ _ (xor_lt hcan hL)).mono ?_
      rintro e w4 ⟨rfl, rfl⟩
      go_wp2_with fail
      refine (rput_any _ _ HN.out).mono ?_
      rintro e w4 ⟨rfl, hb4⟩
      replace hb := hb.trans (hb4.mono hb.size)
      clear hb4
      go_wp2_with fail
      go_roundw
      case rel => exact ⟨k + 1, by rw [HT1.out, str_append], by rw [HT2.out], by go_num, by omega, hb⟩
      case measure => simp [intOf]; omega
    · obtain rfl : k = l.length := by omega
      have hge : decide (l.length < l.length) = false := decide_eq_false hlt
      rw [List.take_of_length_le (Nat.le_refl _)]
      clear hlt HC
      go_wp2_with fail
      go_ret
      exact ⟨rfl, hb⟩

end Rl
end Go.Proofs.Ytimgiokhhdkfaaa
