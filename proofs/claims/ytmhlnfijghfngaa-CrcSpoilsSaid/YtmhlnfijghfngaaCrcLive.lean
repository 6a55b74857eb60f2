/-
  WALK: the document's examples of layer 10 (live) are true. No condition.
-/
import Derived.Test.YtmhlnfijghfngaaCrcWalks
namespace Go.Proofs.Ytmhlnfijghfngaa
open Go.RowKit
namespace Crc

theorem k1 : ((more 0 (ByteArray.mk #[49, 50, 51, 52, 53, 54, 55, 56, 57]).data.toList : Nat) : Int) = 3421780262 := by decide +kernel
theorem k2 : ((more 0 (ByteArray.mk #[]).data.toList : Nat) : Int) = 0 := by decide +kernel
theorem k3 : ((more (more 0 (ByteArray.mk #[49, 50, 51, 52, 53]).data.toList) (ByteArray.mk #[54, 55, 56, 57]).data.toList : Nat) : Int) = 3421780262 := by decide +kernel
theorem k4 : ((zeros (more 0 (ByteArray.mk #[49, 50, 51, 52, 53]).data.toList) 4 ^^^ more 0 (ByteArray.mk #[54, 55, 56, 57]).data.toList : Nat) : Int) = 3421780262 := by decide +kernel
theorem k5 : ((zeros 1 1 : Nat) : Int) = 1996959894 := by decide +kernel
theorem k6 : ((zeros 5 0 : Nat) : Int) = 5 := by decide +kernel
theorem k7 : ((zeros 5 (-1) : Nat) : Int) = 5 := by decide +kernel

set_option maxHeartbeats 400000 in
theorem live_any (w : World) :
    Calls Try.prog 8 #[] w fun e w' => e = .returned (.bool true) ∧ Below w.heap.size w w' := by
  go_enter Try.func8, Try.ntmps8
  go_wp2_with fail
  refine (sum_any _ _ (by decide)).mono ?_
  rintro e w1 ⟨rfl, h1⟩
  rw [k1]
  go_wp2_with fail
  refine (sum_any _ _ (by decide)).mono ?_
  rintro e w2 ⟨rfl, h2⟩
  rw [k2]
  go_wp2_with fail
  refine (sum_any _ _ (by decide)).mono ?_
  rintro e w3 ⟨rfl, h3⟩
  go_wp2_with fail
  refine (more_any _ _ _ (more_lt (by decide) _) (by decide)).mono ?_
  rintro e w4 ⟨rfl, h4⟩
  rw [k3]
  go_wp2_with fail
  refine (sum_any _ _ (by decide)).mono ?_
  rintro e w5 ⟨rfl, h5⟩
  go_wp2_with fail
  refine (sum_any _ _ (by decide)).mono ?_
  rintro e w6 ⟨rfl, h6⟩
  go_wp2_with fail
  refine (combine_any _ _ 4 _ (more_lt (by decide) _) (more_lt (by decide) _) (by omega)).mono ?_
  rintro e w7 ⟨rfl, h7⟩
  rw [k4]
  go_wp2_with fail
  refine (zeros_any 1 1 _ (by decide) (by omega)).mono ?_
  rintro e w8 ⟨rfl, h8⟩
  rw [k5]
  go_wp2_with fail
  refine (zeros_any 5 0 _ (by decide) (by omega)).mono ?_
  rintro e w9 ⟨rfl, h9⟩
  rw [k6]
  go_wp2_with fail
  refine (zeros_any 5 (-1) _ (by decide) (by omega)).mono ?_
  rintro e w10 ⟨rfl, h10⟩
  rw [k7]
  go_wp2_with fail
  go_ret
  have s1 := h1.size; have s2 := h2.size; have s3 := h3.size; have s4 := h4.size; have s5 := h5.size; have s6 := h6.size; have s7 := h7.size; have s8 := h8.size; have s9 := h9.size
  exact ⟨rfl, h1.trans <| (h2.mono (by omega)).trans <| (h3.mono (by omega)).trans <| (h4.mono (by omega)).trans <| (h5.mono (by omega)).trans <| (h6.mono (by omega)).trans <| (h7.mono (by omega)).trans <| (h8.mono (by omega)).trans <| (h9.mono (by omega)).trans <| h10.mono (by omega)⟩

end Crc
end Go.Proofs.Ytmhlnfijghfngaa
