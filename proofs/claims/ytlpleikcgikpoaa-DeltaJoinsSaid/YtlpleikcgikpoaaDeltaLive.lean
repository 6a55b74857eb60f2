/-
  WALKS: the law's 'live' of package delta: some answers that the document gives. No condition.
-/
import Derived.Test.YtlpleikcgikpoaaDeltaEncode
import Derived.Test.YtlpleikcgikpoaaDeltaDec2
namespace Go.Proofs.Ytlpleikcgikpoaa
open Go.RowKit
namespace Dl
open Mem Pk

theorem ints_two (w : World) (x y : Int) (hx : I64 x) (hy : I64 y) : Opened.Ints .i64 (w.alloc (.cells #[.int .i64 x, .int .i64 y] 3)) (.slice (some ⟨w.heap.size, 0, none⟩) 2 2) [x, y] := by
  refine ⟨⟨_, 2, rfl, fun _ => ⟨w.heap.size, 0, rfl, by simp, fun j hj => ?_⟩⟩, fun n hn => ?_⟩
  · rw [cell_at (alloc_new w _)]
    match j, hj with
    | 0, _ => rfl
    | 1, _ => rfl
  · simp at hn
    rcases hn with rfl | rfl
    · exact hx
    · exact hy
def lv0 : ByteArray := ⟨#[10, 3]⟩
def lv1 : ByteArray := ⟨#[128, 0]⟩
def lv2 : ByteArray := ⟨#[]⟩
theorem lv_enc : str (enc (subs 0 [5, 3])) = lv0 := by decide +kernel
theorem lv_two : decE lv0 2 = 0 ∧ decL lv0 2 = [5, 3] := by decide +kernel
theorem lv_one : decE lv0 1 = 5 := by decide +kernel
theorem lv_three : decE lv0 3 = 2 := by decide +kernel
theorem lv_long : decE lv1 1 = 3 := by decide +kernel
theorem lv_arg : decE lv2 (-1) = 1 := by decide +kernel
theorem lv_none : decE lv2 0 = 0 ∧ decL lv2 0 = [] := by decide +kernel
theorem lv_subs : subs 0 [5, 3] = [5, -2] := by decide +kernel
theorem lv_sums : sums 0 [5, -2] = [5, 3] := by decide +kernel
theorem lv_rise : rise [1, 2] = true ∧ rise [2, 2] = false := by decide +kernel

set_option maxRecDepth 100000 in
set_option maxHeartbeats 8000000 in
theorem live_any (w : World) :
    Calls Try.prog 8 #[] w fun e w' => e = .returned (.bool true) ∧ Below w.heap.size w w' := by
  have H53 := Lib.hid (fun w => ints_two w 5 3 (by unfold I64; omega) (by unfold I64; omega))
  have H52 := Lib.hid (fun w => ints_two w 5 (-2) (by unfold I64; omega) (by unfold I64; omega))
  have H12 := Lib.hid (fun w => ints_two w 1 2 (by unfold I64; omega) (by unfold I64; omega))
  have H22 := Lib.hid (fun w => ints_two w 2 2 (by unfold I64; omega) (by unfold I64; omega))
  go_enter Try.func8, Try.ntmps8
  go_wp2_with fail
  refine (encode_any _ [5, 3] _ (H53.out _) (by decide)).mono ?_
  rintro e w1 ⟨rfl, hb⟩
  rw [lv_enc]
  replace hb := Lib.hid (((Below.refl w.heap.size w).alloc (Nat.le_refl _) _).trans (hb.mono (by simp)))
  go_wp2_with fail
  refine (decode_any lv0 2 _ (by decide)).mono ?_
  rintro e w2 ⟨⟨r1, rfl, hr⟩, hb2⟩
  rw [lv_two.1]
  rw [lv_two.2] at hr
  replace hr := Lib.hid hr
  replace hb := Lib.hid (hb.out.trans (hb2.mono hb.out.size))
  clear hb2
  go_wp2_with fail
  refine (decode_any lv0 1 _ (by decide)).mono ?_
  rintro e w3 ⟨⟨r3, rfl, hr3⟩, hb2⟩
  rw [lv_one]
  replace hr := Lib.hid (ints_below hr.out hb2)
  replace hb := Lib.hid (hb.out.trans (hb2.mono hb.out.size))
  clear hb2
  clear hr3
  go_wp2_with fail
  refine (decode_any lv0 3 _ (by decide)).mono ?_
  rintro e w4 ⟨⟨r4, rfl, hr4⟩, hb2⟩
  rw [lv_three]
  replace hr := Lib.hid (ints_below hr.out hb2)
  replace hb := Lib.hid (hb.out.trans (hb2.mono hb.out.size))
  clear hb2
  clear hr4
  go_wp2_with fail
  refine (decode_any lv1 1 _ (by decide)).mono ?_
  rintro e w5 ⟨⟨r5, rfl, hr5⟩, hb2⟩
  rw [lv_long]
  replace hr := Lib.hid (ints_below hr.out hb2)
  replace hb := Lib.hid (hb.out.trans (hb2.mono hb.out.size))
  clear hb2
  clear hr5
  go_wp2_with fail
  refine (decode_any lv2 (-1) _ (by decide)).mono ?_
  rintro e w6 ⟨⟨r6, rfl, hr6⟩, hb2⟩
  rw [lv_arg]
  replace hr := Lib.hid (ints_below hr.out hb2)
  replace hb := Lib.hid (hb.out.trans (hb2.mono hb.out.size))
  clear hb2
  clear hr6
  go_wp2_with fail
  refine (decode_any lv2 0 _ (by decide)).mono ?_
  rintro e w7 ⟨⟨r7, rfl, hr7⟩, hb2⟩
  rw [lv_none.1]
  replace hr := Lib.hid (ints_below hr.out hb2)
  replace hb := Lib.hid (hb.out.trans (hb2.mono hb.out.size))
  clear hb2
  rw [lv_none.2] at hr7
  obtain ⟨⟨a7, c7, rfl, -⟩, -⟩ := hr7
  rw [show lv0 = (⟨#[10, 3]⟩ : ByteArray) from rfl]
  go_wp2_with fail
  have hA : Below w7.heap.size w7 (w7.alloc (.cells #[.int .i64 5, .int .i64 3] 3)) := (Below.refl _ w7).alloc (Nat.le_refl _) _
  refine (same_any _ _ [5, 3] [5, 3] _ (ints_below hr.out hA) (H53.out _) (by decide)).mono ?_
  rintro e w8 ⟨rfl, hb2⟩
  rw [show decide (([5, 3] : List Int) = [5, 3]) = true from rfl]
  replace hb := Lib.hid (hb.out.trans (hA.trans (hb2.mono hA.size) |>.mono hb.out.size))
  clear hb2 hA hr
  go_wp2_with fail
  have hA : Below w8.heap.size w8 (w8.alloc (.cells #[.int .i64 5, .int .i64 3] 3)) := (Below.refl _ w8).alloc (Nat.le_refl _) _
  refine (deltas_any' _ [5, 3] _ (H53.out _) (by decide)).mono ?_
  rintro e w9 ⟨⟨r, rfl, hr⟩, hb2⟩
  rw [lv_subs] at hr
  replace hr := Lib.hid hr
  replace hb := Lib.hid (hb.out.trans (hA.trans (hb2.mono hA.size) |>.mono hb.out.size))
  clear hb2 hA
  go_wp2_with fail
  have hA : Below w9.heap.size w9 (w9.alloc (.cells #[.int .i64 5, .int .i64 (-2)] 3)) := (Below.refl _ w9).alloc (Nat.le_refl _) _
  refine (same_any _ _ [5, -2] [5, -2] _ (ints_below hr.out hA) (H52.out _) (by decide)).mono ?_
  rintro e w10 ⟨rfl, hb2⟩
  rw [show decide (([5, -2] : List Int) = [5, -2]) = true from rfl]
  replace hb := Lib.hid (hb.out.trans (hA.trans (hb2.mono hA.size) |>.mono hb.out.size))
  clear hb2 hA
  clear hr
  go_wp2_with fail
  have hA : Below w10.heap.size w10 (w10.alloc (.cells #[.int .i64 5, .int .i64 (-2)] 3)) := (Below.refl _ w10).alloc (Nat.le_refl _) _
  refine (sums_any _ [5, -2] _ (H52.out _) (by decide)).mono ?_
  rintro e w11 ⟨⟨r, rfl, hr⟩, hb2⟩
  rw [lv_sums] at hr
  replace hr := Lib.hid hr
  replace hb := Lib.hid (hb.out.trans (hA.trans (hb2.mono hA.size) |>.mono hb.out.size))
  clear hb2 hA
  go_wp2_with fail
  have hA : Below w11.heap.size w11 (w11.alloc (.cells #[.int .i64 5, .int .i64 3] 3)) := (Below.refl _ w11).alloc (Nat.le_refl _) _
  refine (same_any _ _ [5, 3] [5, 3] _ (ints_below hr.out hA) (H53.out _) (by decide)).mono ?_
  rintro e w12 ⟨rfl, hb2⟩
  rw [show decide (([5, 3] : List Int) = [5, 3]) = true from rfl]
  replace hb := Lib.hid (hb.out.trans (hA.trans (hb2.mono hA.size) |>.mono hb.out.size))
  clear hb2 hA
  clear hr
  go_wp2_with fail
  have hA : Below w12.heap.size w12 (w12.alloc (.cells #[.int .i64 1, .int .i64 2] 3)) := (Below.refl _ w12).alloc (Nat.le_refl _) _
  refine (rising_any _ [1, 2] _ (H12.out _) (by decide)).mono ?_
  rintro e w13 ⟨rfl, hb2⟩
  rw [lv_rise.1]
  replace hb := Lib.hid (hb.out.trans (hA.trans (hb2.mono hA.size) |>.mono hb.out.size))
  clear hb2 hA
  go_wp2_with fail
  have hA : Below w13.heap.size w13 (w13.alloc (.cells #[.int .i64 2, .int .i64 2] 3)) := (Below.refl _ w13).alloc (Nat.le_refl _) _
  refine (rising_any _ [2, 2] _ (H22.out _) (by decide)).mono ?_
  rintro e w14 ⟨rfl, hb2⟩
  rw [lv_rise.2]
  replace hb := Lib.hid (hb.out.trans (hA.trans (hb2.mono hA.size) |>.mono hb.out.size))
  clear hb2 hA
  go_wp2_with fail
  go_ret
  exact ⟨rfl, hb.out⟩

end Dl
end Go.Proofs.Ytlpleikcgikpoaa
