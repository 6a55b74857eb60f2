/-
  WALKS: what the document's own answer for layer 10 computes (step, More, Sum, Zeros, Combine). Conditions: the numbers are of their kinds.
-/
import Derived.Test.YtpccenaieeggmaaRows
import Derived.Test.YtpccenaieeggmaaCrcPlain
import Derived.WalkKit
import Derived.WalkSpells
import Derived.WalkLawsBesides
import Derived.Lib.Hide
namespace Go.Proofs.Ytpccenaieeggmaa
open Go.RowKit
namespace Crc

theorem xor32 {a b : Nat} (ha : a < lid) (hb : b < lid) : bits .xor .u32 (a : Int) (b : Int) = ((a ^^^ b : Nat) : Int) := u32_xor_nat a b ha hb

theorem xorAll {a : Nat} (ha : a < lid) : bits .xor .u32 (a : Int) 4294967295 = ((a ^^^ all : Nat) : Int) := xor32 ha all_lt

theorem ret_u32 {a b : Int} (h : a = b) : Ending.returned (.int .u32 a) = .returned (.int .u32 b) := by rw [h]

theorem bit1_odd {x : Nat} (hx : x < lid) (h : ((x : Int) % 2 == 1) = true) : bits .xor .u32 ((x : Int) / 2) 3988292384 = ((bit1 x : Nat) : Int) := by
  have h1 : x % 2 = 1 := by have := eq_of_beq h; omega
  have e := xor32 (a := x / 2) (b := poly) (by unfold lid at *; omega) (by decide)
  unfold bit1
  rw [if_pos h1, ← e]
  rfl

theorem bit1_even' {x : Nat} (h : ((x : Int) % 2 == 1) = false) : ((x : Int) / 2) = ((bit1 x : Nat) : Int) := by
  have h1 : ¬ x % 2 = 1 := by have := ne_of_beq_false h; omega
  unfold bit1
  rw [if_neg h1]
  rfl

set_option maxHeartbeats 400000 in
theorem step_any (c b : Nat) (w : World) (hc : c < lid) (hb : b < 256) :
    Calls Try.prog 46 #[.int .u32 c, .int .u8 b] w fun e w' => e = .returned (.int .u32 (bitN 8 (c ^^^ b) : Nat)) ∧ w = w' := by
  have HX := Lib.hid (xor32 hc (show b < lid by unfold lid; omega))
  have hcb := xor_lt hc (show b < lid by unfold lid; omega)
  have hc' : c < 4294967296 := hc
  go_enter Try.func46, Try.ntmps46
  go_wp2
  go_loop [5, 6] (fun x i => ∃ k : Nat, k ≤ 8 ∧ i = .int .i64 k ∧ x = .int .u32 (bitN k (c ^^^ b) : Nat)) (fun _ i => 8 - (intOf i).toNat)
  case atStart => exact ⟨0, by omega, rfl, by rw [HX.out]; rfl⟩
  case round =>
    obtain ⟨k, hk, rfl, rfl⟩ := hrel
    have hl := bitN_lt hcb k
    have HS := Lib.hid (show bitN (k + 1) (c ^^^ b) = bit1 (bitN k (c ^^^ b)) from rfl)
    by_cases hlt : k < 8
    · generalize bitN k (c ^^^ b) = X at *
      have hl' : X < 4294967296 := hl
      go_wp2
      · have ht : ((X : Int) % 2 == 1) = true := by assumption
        go_round
        case rel => exact ⟨k + 1, by omega, by go_num, by rw [HS.out, bit1_odd hl ht]⟩
        case measure => simp [intOf]; omega
      · have ht : ((X : Int) % 2 == 1) = false := by assumption
        go_round
        case rel => exact ⟨k + 1, by omega, by go_num, by rw [HS.out, bit1_even' ht]⟩
        case measure => simp [intOf]; omega
    · have hk8 : k = 8 := by omega
      subst hk8
      go_wp2
      go_ret
      exact ⟨rfl, rfl⟩

theorem take_snoc (s : ByteArray) (k : Nat) (h : k < s.size) : s.data.toList.take (k + 1) = s.data.toList.take k ++ [s[k]] := by
  rw [List.take_succ_eq_append_getElem (by simpa using h)]; rfl

set_option maxHeartbeats 400000 in
theorem ref_more (a : Nat) (s : ByteArray) (w : World) (ha : a < lid) (hs : s.size ≤ maxLen) :
    Calls Try.prog 37 #[.int .u32 a, .string s] w fun e w' => e = .returned (.int .u32 (more a s.data.toList : Nat)) ∧ w = w' := by
  unfold maxLen at hs
  have HX := Lib.hid (xorAll ha)
  have hca := xor_lt ha all_lt
  have ha' : a < 4294967296 := ha
  go_enter Try.func37, Try.ntmps37
  go_wp2
  go_loop [5, 6] (fun x i => ∃ k : Nat, k ≤ s.size ∧ i = .int .i64 k ∧ x = .int .u32 (feed (a ^^^ all) (s.data.toList.take k) : Nat)) (fun _ i => s.size - (intOf i).toNat)
  case atStart => exact ⟨0, Nat.zero_le _, rfl, by rw [HX.out]; rfl⟩
  case round =>
    obtain ⟨k, hk, rfl, rfl⟩ := hrel
    have hl := feed_lt hca (s.data.toList.take k)
    by_cases hlt : k < s.size
    · have HS := Lib.hid (show feed (a ^^^ all) (s.data.toList.take (k + 1)) = bitN 8 (feed (a ^^^ all) (s.data.toList.take k) ^^^ s[k].toNat) by rw [take_snoc s k hlt, feed_snoc])
      generalize feed (a ^^^ all) (s.data.toList.take k) = X at *
      have hb := s[k].toNat_lt
      go_wp2_with (go_at_call 46; refine (step_any _ _ _ hl hb).mono ?_; rintro e w' ⟨rfl, rfl⟩)
      go_round
      case rel => exact ⟨k + 1, by omega, by go_num, by rw [HS.out]⟩
      case measure => simp [intOf]; omega
    · have HT := Lib.hid (List.take_of_length_le (show s.data.toList.length ≤ k by simp; omega))
      have HM := Lib.hid (show more a s.data.toList = feed (a ^^^ all) (s.data.toList.take k) ^^^ all by rw [HT.out]; rfl)
      generalize feed (a ^^^ all) (s.data.toList.take k) = X at *
      have HY := Lib.hid (xorAll hl)
      go_wp2
      go_ret
      exact ⟨ret_u32 (by rw [HM.out, HY.out]), rfl⟩

set_option maxHeartbeats 400000 in
theorem ref_sum (s : ByteArray) (w : World) (hs : s.size ≤ maxLen) :
    Calls Try.prog 28 #[.string s] w fun e w' => e = .returned (.int .u32 (more 0 s.data.toList : Nat)) ∧ w = w' := by
  go_enter Try.func28, Try.ntmps28
  go_wp2_with (go_at_call 37; refine (ref_more 0 _ _ (by decide) hs).mono ?_; rintro e w' ⟨rfl, rfl⟩)
  go_ret
  exact ⟨rfl, rfl⟩

end Crc
end Go.Proofs.Ytpccenaieeggmaa
