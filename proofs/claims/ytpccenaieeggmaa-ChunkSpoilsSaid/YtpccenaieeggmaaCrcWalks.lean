/-
  WALKS: what package crc computes (More, Sum). Conditions: the numbers are of their kinds.
-/
import Derived.Test.YtpccenaieeggmaaCrcRef
import Derived.KernelRfl
import Derived.Deep.WholeRow
import Derived.Deep.QuietTactic
import Derived.BigQuiet
namespace Go.Proofs.Ytpccenaieeggmaa
open Go.RowKit
namespace Crc


/-! ### More, Sum -/
theorem neg_low {x : Nat} (_hx : x < lid) : bits .and .u32 3988292384 (-(bits .and .u32 (x : Int) 1) % 4294967296) = (if x % 2 = 1 then (poly : Int) else 0) := by
  have e : bits .and .u32 (x : Int) 1 = ((x % 2 : Nat) : Int) := by
    have := u32_and_nat x 1 _hx (by decide)
    rw [Nat.and_one_is_mod] at this
    exact this
  rw [e]
  by_cases h : x % 2 = 1
  · rw [if_pos h, h]; decide +kernel
  · have h0 : x % 2 = 0 := by omega
    rw [if_neg h, h0]; decide +kernel

theorem bit1_mask {x : Nat} (hx : x < lid) : bits .xor .u32 ((x : Int) / 2) (if x % 2 = 1 then (poly : Int) else 0) = ((bit1 x : Nat) : Int) := by
  have hl : x / 2 < lid := by unfold lid at *; omega
  unfold bit1
  by_cases h : x % 2 = 1
  · rw [if_pos h, if_pos h]
    exact xor32 hl poly_lt
  · rw [if_neg h, if_neg h]
    have := xor32 hl (show 0 < lid by decide)
    rw [Nat.xor_zero] at this
    exact this

/-- '[]byte(s)': a new row of its bytes. -/
theorem bytes_of (w : World) (s : ByteArray) : ∃ (C : Array Value) (cap : Nat), (convert 9 42 (.string s)).run Try.prog w = .ok (.slice (some ⟨w.heap.size, 0, none⟩) s.size cap) (w.drew.alloc (.cells C 5 (C.size, C.size + 1))) ∧
    ∀ j (h : j < s.size), C[j]? = some (.int .u8 (s[j].toNat : Int)) := by
  refine ⟨_, _, run_bytes_of_string w 9 42 5 s Try.underlying9 Try.underlying42 Try.underlying5, fun j h => ?_⟩
  have h' : j < s.data.size := h
  unfold bytesRow
  rw [Array.getElem?_append_left (by simpa using h'), Array.getElem?_map, Array.getElem?_eq_getElem h']
  rfl

set_option maxHeartbeats 400000 in
theorem more_any (a : Nat) (s : ByteArray) (w : World) (ha : a < lid) (hs : s.size ≤ maxLen) :
    Calls Try.prog 45 #[.int .u32 a, .string s] w fun e w' => e = .returned (.int .u32 (more a s.data.toList : Nat)) ∧ Below w.heap.size w w' := by
  unfold maxLen at hs
  have HX := Lib.hid (xorAll ha)
  have hca := xor_lt ha all_lt
  have ha' : a < 4294967296 := ha
  obtain ⟨C, cap, hconv, HC⟩ := bytes_of w s
  replace HC := Lib.hid HC
  go_enter Try.func45, Try.ntmps45
  go_wp2
  clear hconv
  go_loop [5, 13] (fun x i => ∃ k : Nat, k ≤ s.size ∧ i = .int .i64 k ∧ x = .int .u32 (feed (a ^^^ all) (s.data.toList.take k) : Nat)) (fun _ i => s.size - (intOf i).toNat)
  case atStart => exact ⟨0, Nat.zero_le _, rfl, by rw [HX.out]; rfl⟩
  case round =>
    obtain ⟨k, hk, rfl, rfl⟩ := hrel
    have hl := feed_lt hca (s.data.toList.take k)
    by_cases hlt : k < s.size
    · have HS := Lib.hid (show feed (a ^^^ all) (s.data.toList.take (k + 1)) = bitN 8 (feed (a ^^^ all) (s.data.toList.take k) ^^^ s[k].toNat) by rw [take_snoc s k hlt, feed_snoc])
      generalize feed (a ^^^ all) (s.data.toList.take k) = X at *
      have hb := s[k].toNat_lt
      have hcell : (w.alloc (.cells C 5 (C.size, C.size + 1))).cell? ⟨w.heap.size, k, none⟩ = some (.int .u8 (s[k].toNat : Int)) := by
        rw [World.cell?_alloc_mark, HC.out k hlt]
      generalize s[k].toNat = B at *
      have HXB := Lib.hid (xor32 hl (show B < lid by unfold lid; omega))
      have hXB := xor_lt hl (show B < lid by unfold lid; omega)
      have hl' : X < 4294967296 := hl
      go_wp2
      go_loop [5, 21] (fun x i => ∃ j : Nat, j ≤ 8 ∧ i = .int .i64 j ∧ x = .int .u32 (bitN j (X ^^^ B) : Nat)) (fun _ i => 8 - (intOf i).toNat)
      case atStart => exact ⟨0, by omega, rfl, by rw [HXB.out]; rfl⟩
      case round =>
        obtain ⟨j, hj, rfl, rfl⟩ := hrel
        have hY := bitN_lt hXB j
        by_cases hj8 : j < 8
        · have HJ := Lib.hid (show bitN (j + 1) (X ^^^ B) = bit1 (bitN j (X ^^^ B)) from rfl)
          generalize bitN j (X ^^^ B) = Y at *
          have HN := Lib.hid (neg_low hY)
          have HO := Lib.hid (bit1_mask hY)
          have hY' : Y < 4294967296 := hY
          go_wp2
          go_round
          case rel => exact ⟨j + 1, by omega, by go_num, by rw [HN.out, HO.out, HJ.out]⟩
          case measure => simp [intOf]; omega
        · have hj8 : j = 8 := by omega
          subst hj8
          generalize bitN 8 (X ^^^ B) = Y at *
          go_wp2
          go_round
          case rel => exact ⟨k + 1, by omega, by go_num, by rw [HS.out]⟩
          case measure => simp [intOf]; omega
    · have HT := Lib.hid (List.take_of_length_le (show s.data.toList.length ≤ k by simp; omega))
      have HM := Lib.hid (show more a s.data.toList = feed (a ^^^ all) (s.data.toList.take k) ^^^ all by rw [HT.out]; rfl)
      generalize feed (a ^^^ all) (s.data.toList.take k) = X at *
      have HY := Lib.hid (xorAll hl)
      go_wp2
      go_ret
      exact ⟨ret_u32 (by rw [HM.out, HY.out]), (Below.refl _ _).drew.alloc (Nat.le_refl _) _⟩

set_option maxHeartbeats 400000 in
theorem sum_any (s : ByteArray) (w : World) (hs : s.size ≤ maxLen) :
    Calls Try.prog 36 #[.string s] w fun e w' => e = .returned (.int .u32 (more 0 s.data.toList : Nat)) ∧ Below w.heap.size w w' := by
  go_enter Try.func36, Try.ntmps36
  go_wp2_with (go_at_call 45; refine (more_any 0 _ _ (by decide) hs).mono ?_; rintro e w' ⟨rfl, hb⟩)
  go_ret
  exact ⟨rfl, hb⟩

end Crc
end Go.Proofs.Ytpccenaieeggmaa
