/-
  WALKS: the law's 'live' of package reals: some answers that the document gives. No condition.
-/
import Derived.Test.YtimgiokhhdkfaaaRealsDec2
namespace Go.Proofs.Ytimgiokhhdkfaaa
open Go.RowKit
namespace Rl
open Mem Pk Fl

theorem flts_two (w : World) (x y : Nat) (hx : x < 2 * S) (hy : y < 2 * S) : Flts (w.alloc (.cells #[.float .f64 x, .float .f64 y] 33)) (.slice (some ⟨w.heap.size, 0, none⟩) 2 2) [x, y] := by
  refine ⟨⟨_, 2, rfl, Nat.le_refl _, fun _ => ⟨w.heap.size, 0, rfl, by simp, fun j hj => ?_⟩⟩, fun n hn => ?_⟩
  · rw [cell_at (alloc_new w _)]
    match j, hj with
    | 0, _ => rfl
    | 1, _ => rfl
  · simp at hn
    rcases hn with rfl | rfl
    · exact hx
    · exact hy
def one : Nat := 4607182418800017408
def minus : Nat := 9223372036854775808
def lvS : ByteArray := ⟨#[191, 224, 3, 0]⟩
def lvT : ByteArray := str (encR 0 [minus, nanU])
def lvF : ByteArray := ⟨#[255, 255, 255, 255, 255, 255, 255, 255, 255, 1]⟩
def lvZ : ByteArray := ⟨#[]⟩
theorem lv_enc : str (encR 0 [one, one]) = lvS := by decide +kernel
theorem lv_two : decRE lvS 2 = 0 ∧ decRL lvS 2 = [one, one] := by decide +kernel
theorem lv_one : decRE lvS 1 = 5 := by decide +kernel
theorem lv_nine : decRE lvS 9 = 2 := by decide +kernel
theorem lv_nan : decRE lvT 2 = 0 ∧ decRL lvT 2 = [minus, nanU] := by decide +kernel
theorem lv_bad : decRE lvF 1 = 5 := by decide +kernel
theorem lv_arg : decRE lvZ (-1) = 1 := by decide +kernel
theorem lv_canon : canon one = one ∧ canon minus = minus ∧ canon 0 = 0 := by decide +kernel
theorem canon_nan {b : Nat} (h : isNan b = true) : canon b = nanU := by unfold canon; rw [h]; rfl
theorem lv_enc2 {b : Nat} (h : isNan b = true) : str (encR 0 [minus, b]) = lvT := by
  unfold lvT
  have h1 : canon nanU = nanU := by decide +kernel
  simp only [encR, canon_nan h, h1]
theorem lv_same1 {L : List Nat} (h : L.map canon = [one, one]) : sameB L [one, one] = true := decide_eq_true (by rw [h]; decide +kernel)
theorem lv_same2 {L : List Nat} {b : Nat} (h : L.map canon = [minus, nanU]) (hb : isNan b = true) : sameB L [minus, b] = true := decide_eq_true (by
  rw [h]
  show [minus, nanU] = [canon minus, canon b]
  rw [canon_nan hb, lv_canon.2.1])
theorem lv_same3 {L : List Nat} {b : Nat} (h : L.map canon = [minus, nanU]) : sameB L [0, b] = false := decide_eq_false (by
  rw [h]
  show ¬ [minus, nanU] = [canon 0, canon b]
  rw [lv_canon.2.2]
  intro e
  have := (List.cons.inj e).1
  cases this)
theorem lens {L M : List Nat} (h : L.map canon = M) : L.length = M.length := by rw [← h, List.length_map]

set_option maxRecDepth 100000 in
set_option maxHeartbeats 8000000 in
theorem live_any (w : World) :
    Calls Try.prog 8 #[] w fun e w' => e = .returned (.bool true) ∧ Below w.heap.size w w' := by
  obtain ⟨nb, hrun, hnan, hnb⟩ := run_nought w
  have HN := Lib.hid hnan
  have H11 := Lib.hid (fun w => flts_two w one one (by decide) (by decide))
  have HMN := Lib.hid (fun w => flts_two w minus nb (by decide) hnb)
  have HZN := Lib.hid (fun w => flts_two w 0 nb (by decide) hnb)
  have hng : ∀ w, (Op.unary .neg (.float .f64 0)).run Try.prog w = .ok (.float .f64 9223372036854775808) w := fun w => run_neg false (r := 0) (by decide) w
  have hlv : lvS.toList = [191, 224, 3, 0] := by decide +kernel
  clear hnan
  go_enter Try.func8, Try.ntmps8
  go_wp2_with fail
  refine (encode_any _ [one, one] _ (flts_below (H11.out w) ((Below.refl _ _).drew)) (by decide)).mono ?_
  rintro e w1 ⟨rfl, hb2⟩
  rw [lv_enc]
  have hb := Lib.hid ((((Below.refl w.heap.size w).alloc (Nat.le_refl _) (.cells #[.float .f64 one, .float .f64 one] 33)).drew).trans (hb2.mono (by simp)))
  clear hb2
  go_wp2_with fail
  refine (decode_any lvS 2 _ (by decide)).mono ?_
  rintro e w2 ⟨⟨r1, L, rfl, hr, hL⟩, hb2⟩
  rw [lv_two.1]
  replace hL := Lib.hid (hL.trans lv_two.2)
  replace hr := Lib.hid hr
  replace hb := Lib.hid (hb.out.trans (hb2.mono hb.out.size))
  clear hb2
  go_wp2_with fail
  refine (decode_any lvS 1 _ (by decide)).mono ?_
  rintro e w3 ⟨⟨r3, L3, rfl, -, -⟩, hb2⟩
  rw [lv_one]
  replace hr := Lib.hid (flts_below hr.out hb2)
  replace hb := Lib.hid (hb.out.trans (hb2.mono hb.out.size))
  clear hb2
  go_wp2_with fail
  refine (decode_any lvS 9 _ (by decide)).mono ?_
  rintro e w4 ⟨⟨r4, L4, rfl, -, -⟩, hb2⟩
  rw [lv_nine]
  replace hr := Lib.hid (flts_below hr.out hb2)
  replace hb := Lib.hid (hb.out.trans (hb2.mono hb.out.size))
  clear hb2
  go_wp2_with fail
  refine (encode_any _ [minus, nb] _ (HMN.out _) (by simp)).mono ?_
  rintro e w5 ⟨rfl, hb2⟩
  rw [lv_enc2 HN.out]
  replace hb2 := ((Below.refl w4.heap.size w4).alloc (Nat.le_refl _) (.cells #[.float .f64 minus, .float .f64 nb] 33)).trans (hb2.mono (by simp))
  replace hr := Lib.hid (flts_below hr.out hb2)
  replace hb := Lib.hid (hb.out.trans (hb2.mono hb.out.size))
  clear hb2
  go_wp2_with fail
  refine (decode_any lvT 2 _ (by decide +kernel)).mono ?_
  rintro e w6 ⟨⟨r6, M, rfl, hm, hM⟩, hb2⟩
  rw [lv_nan.1]
  replace hM := Lib.hid (hM.trans lv_nan.2)
  replace hm := Lib.hid hm
  replace hr := Lib.hid (flts_below hr.out hb2)
  replace hb := Lib.hid (hb.out.trans (hb2.mono hb.out.size))
  clear hb2
  go_wp2_with fail
  refine (decode_any lvF 1 _ (by decide)).mono ?_
  rintro e w7 ⟨⟨r7, L7, rfl, -, -⟩, hb2⟩
  rw [lv_bad]
  replace hm := Lib.hid (flts_below hm.out hb2)
  replace hr := Lib.hid (flts_below hr.out hb2)
  replace hb := Lib.hid (hb.out.trans (hb2.mono hb.out.size))
  clear hb2
  go_wp2_with fail
  refine (decode_any lvZ (-1) _ (by decide)).mono ?_
  rintro e w8 ⟨⟨r8, L8, rfl, -, -⟩, hb2⟩
  rw [lv_arg]
  replace hm := Lib.hid (flts_below hm.out hb2)
  replace hr := Lib.hid (flts_below hr.out hb2)
  replace hb := Lib.hid (hb.out.trans (hb2.mono hb.out.size))
  clear hb2
  go_wp2_with fail
  refine (rlsame_any _ _ L [one, one] _ (flts_below hr.out ((Below.refl w8.heap.size w8).alloc (Nat.le_refl _) _)) (H11.out _) (by rw [lens hL.out]; decide)).mono ?_
  rintro e w9 ⟨rfl, hb2⟩
  rw [lv_same1 hL.out]
  replace hb2 := ((Below.refl w8.heap.size w8).alloc (Nat.le_refl _) (.cells #[.float .f64 one, .float .f64 one] 33)).trans (hb2.mono (by simp))
  replace hm := Lib.hid (flts_below hm.out hb2)
  replace hb := Lib.hid (hb.out.trans (hb2.mono hb.out.size))
  clear hb2 hr
  go_wp2_with fail
  refine (rlsame_any _ _ M [minus, nb] _ (flts_below hm.out ((Below.refl w9.heap.size w9).alloc (Nat.le_refl _) _)) (HMN.out _) (by rw [lens hM.out]; decide)).mono ?_
  rintro e w10 ⟨rfl, hb2⟩
  rw [lv_same2 hM.out HN.out]
  replace hb2 := ((Below.refl w9.heap.size w9).alloc (Nat.le_refl _) (.cells #[.float .f64 minus, .float .f64 nb] 33)).trans (hb2.mono (by simp))
  replace hm := Lib.hid (flts_below hm.out hb2)
  replace hb := Lib.hid (hb.out.trans (hb2.mono hb.out.size))
  clear hb2
  go_wp2_with fail
  refine (rlsame_any _ _ M [0, nb] _ (flts_below hm.out ((Below.refl w10.heap.size w10).alloc (Nat.le_refl _) _)) (HZN.out _) (by rw [lens hM.out]; decide)).mono ?_
  rintro e w11 ⟨rfl, hb2⟩
  rw [lv_same3 hM.out]
  replace hb2 := ((Below.refl w10.heap.size w10).alloc (Nat.le_refl _) (.cells #[.float .f64 0, .float .f64 nb] 33)).trans (hb2.mono (by simp))
  replace hb := Lib.hid (hb.out.trans (hb2.mono hb.out.size))
  clear hb2 hm
  go_wp2_with fail
  refine (swap_any 1 _ (by decide)).mono ?_
  rintro e w12 ⟨rfl, rfl⟩
  rw [swap_one]
  go_wp2_with fail
  go_ret
  exact ⟨rfl, hb.out⟩

end Rl
end Go.Proofs.Ytimgiokhhdkfaaa
