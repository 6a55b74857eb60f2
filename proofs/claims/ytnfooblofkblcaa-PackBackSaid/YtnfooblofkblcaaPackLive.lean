/-
  WALKS: the law's 'live' of package pack: some answers that the document gives. No condition.
-/
import Derived.Test.YtnfooblofkblcaaPackRefT
import Derived.Test.YtnfooblofkblcaaPackNil
namespace Go.Proofs.Ytnfooblofkblcaa
open Go.RowKit
namespace Pk
open Mem

def lv0 : ByteArray := ⟨#[172, 2, 1, 97, 98, 5, 0, 0, 0, 0, 0, 0, 0, 128]⟩
def lv1 : ByteArray := ⟨#[1, 97, 98, 5, 0, 0, 0, 0, 0, 0, 0, 128]⟩
def lv2 : ByteArray := ⟨#[97, 98, 5, 0, 0, 0, 0, 0, 0, 0, 128]⟩
def lv3 : ByteArray := ⟨#[5, 0, 0, 0, 0, 0, 0, 0, 128]⟩
def lv4 : ByteArray := ⟨#[128]⟩
theorem lv_num : numN lv0 0 = 300 ∧ rest lv0 (numK lv0 0) = lv1 ∧ numE lv0 0 = 0 := ⟨by decide +kernel, ext_list (by rw [rest_list]; decide +kernel), by decide +kernel⟩
theorem lv_int : zagI (numN lv1 0) = -1 ∧ rest lv1 (numK lv1 0) = lv2 ∧ numE lv1 0 = 0 := ⟨by decide +kernel, ext_list (by rw [rest_list]; decide +kernel), by decide +kernel⟩
theorem lv_take : takeS lv2 0 2 = ⟨#[97, 98]⟩ ∧ rest lv2 (takeK lv2 0 2) = lv3 ∧ takeE lv2 0 2 = 0 := ⟨ext_list (by unfold takeS; rw [head_list]; decide +kernel), ext_list (by rw [rest_list]; decide +kernel), by decide +kernel⟩
theorem lv_fix : fixV lv3 0 = 5 ∧ rest lv3 (takeK lv3 0 8) = lv4 ∧ takeE lv3 0 8 = 0 := ⟨by unfold fixV takeS; rw [head_list]; decide +kernel, ext_list (by rw [rest_list]; decide +kernel), by decide +kernel⟩
theorem lv_cut : numN lv4 0 = 0 ∧ rest lv4 (numK lv4 0) = lv4 ∧ numE lv4 0 = 2 := ⟨by decide +kernel, ext_list (by rw [rest_list]; decide +kernel), by decide +kernel⟩
theorem lv_none : takeS lv4 2 0 = ⟨#[]⟩ := ext_list (by unfold takeS; rw [head_list]; decide +kernel)
theorem put_300 : str (putL 300) = ⟨#[172, 2]⟩ := by decide +kernel
theorem put_0 : str (putL 0) = ⟨#[0]⟩ := by decide +kernel
theorem fix_258 : str (fixL 258) = ⟨#[2, 1, 0, 0, 0, 0, 0, 0]⟩ := by decide +kernel

set_option maxRecDepth 100000 in
set_option maxHeartbeats 4000000 in
theorem live_any (w : World) :
    Calls Try.prog 17 #[] w fun e w' => e = .returned (.bool true) ∧ Below w.heap.size w w' := by
  go_enter Try.func17, Try.ntmps17
  go_wp2_with fail
  refine (new_any lv0 _).mono ?_
  rintro e w' ⟨rfl, rfl⟩
  have hR := Lib.hid (alloc_new w (rd lv0 0))
  have hK := (Kept.refl (· = w.heap.size) w).alloc (rd lv0 0)
  generalize hb : w.heap.size = b at *
  replace hb := Lib.hid hb
  generalize w.alloc (rd lv0 0) = w1 at *
  go_wp2_with fail
  refine (num_any b lv0 0 _ hR.out (by decide)).mono ?_
  rintro e w2 ⟨rfl, k1, k2⟩
  rw [lv_num.1]
  rw [lv_num.2.1, lv_num.2.2] at k1
  replace hR := Lib.hid k1
  replace hK := hK.trans k2
  clear k1 k2
  go_wp2_with fail
  refine (int_any b lv1 0 _ hR.out (by decide)).mono ?_
  rintro e w2 ⟨rfl, k1, k2⟩
  rw [lv_int.1]
  rw [lv_int.2.1, lv_int.2.2] at k1
  replace hR := Lib.hid k1
  replace hK := hK.trans k2
  clear k1 k2
  go_wp2_with fail
  refine (take_any b lv2 0 2 _ hR.out).mono ?_
  rintro e w2 ⟨rfl, k1, k2⟩
  rw [lv_take.1]
  rw [lv_take.2.1, lv_take.2.2] at k1
  replace hR := Lib.hid k1
  replace hK := hK.trans k2
  clear k1 k2
  go_wp2_with fail
  refine (fix_any b lv3 0 _ hR.out).mono ?_
  rintro e w2 ⟨rfl, k1, k2⟩
  rw [lv_fix.1]
  rw [lv_fix.2.1, lv_fix.2.2] at k1
  replace hR := Lib.hid k1
  replace hK := hK.trans k2
  clear k1 k2
  go_wp2_with fail
  refine (left_any b lv4 0 _ hR.out).mono ?_
  rintro e w' ⟨rfl, rfl⟩
  rw [show (lv4.size : Int) = 1 from by decide +kernel]
  go_wp2_with fail
  refine (done_any b lv4 0 _ hR.out).mono ?_
  rintro e w' ⟨rfl, rfl⟩
  rw [show doneE lv4 0 = 5 from by decide +kernel]
  go_wp2_with fail
  refine (num_any b lv4 0 _ hR.out (by decide)).mono ?_
  rintro e w2 ⟨rfl, k1, k2⟩
  rw [lv_cut.1]
  rw [lv_cut.2.1, lv_cut.2.2] at k1
  replace hR := Lib.hid k1
  replace hK := hK.trans k2
  clear k1 k2
  go_wp2_with fail
  refine (put_any 300 _ (by decide)).mono ?_
  rintro e w2 ⟨rfl, k2⟩
  rw [put_300]
  replace hR := Lib.hid (below_at k2 hR.out (lt_of_block hR.out))
  replace hK := hK.below k2
  clear k2
  go_wp2_with fail
  refine (put_any 0 _ (by decide)).mono ?_
  rintro e w2 ⟨rfl, k2⟩
  rw [put_0]
  replace hR := Lib.hid (below_at k2 hR.out (lt_of_block hR.out))
  replace hK := hK.below k2
  clear k2
  go_wp2_with fail
  refine (zig_any (-1) _ (by decide) (by decide)).mono ?_
  rintro e w' ⟨rfl, rfl⟩
  rw [show ((zigN (-1) : Nat) : Int) = 1 from by decide +kernel]
  go_wp2_with fail
  refine (zig_any 2 _ (by decide) (by decide)).mono ?_
  rintro e w' ⟨rfl, rfl⟩
  rw [show ((zigN 2 : Nat) : Int) = 4 from by decide +kernel]
  go_wp2_with fail
  refine (zag_any 3 _ (by decide)).mono ?_
  rintro e w' ⟨rfl, rfl⟩
  rw [show zagI 3 = -2 from by decide +kernel]
  go_wp2_with fail
  refine (fixed_any 258 _ (by decide)).mono ?_
  rintro e w2 ⟨rfl, k2⟩
  rw [fix_258]
  replace hR := Lib.hid (below_at k2 hR.out (lt_of_block hR.out))
  replace hK := hK.below k2
  clear k2
  go_wp2_with fail
  refine (err_any b lv4 2 _ hR.out).mono ?_
  rintro e w' ⟨rfl, rfl⟩
  go_wp2_with fail
  refine (left_any b lv4 2 _ hR.out).mono ?_
  rintro e w' ⟨rfl, rfl⟩
  rw [show (lv4.size : Int) = 1 from by decide +kernel]
  go_wp2_with fail
  refine (done_any b lv4 2 _ hR.out).mono ?_
  rintro e w' ⟨rfl, rfl⟩
  rw [show doneE lv4 2 = 2 from by decide +kernel]
  go_wp2_with fail
  refine (take_any b lv4 2 0 _ hR.out).mono ?_
  rintro e w2 ⟨rfl, k1, k2⟩
  rw [lv_none]
  replace hK := hK.trans k2
  clear k1 k2 hR
  go_wp2_with fail
  go_ret
  exact ⟨rfl, by rw [hb.out]; exact hK.to_below (by rw [hb.out]; exact Nat.le_refl _) (fun k hk h => by omega)⟩

end Pk
end Go.Proofs.Ytnfooblofkblcaa
