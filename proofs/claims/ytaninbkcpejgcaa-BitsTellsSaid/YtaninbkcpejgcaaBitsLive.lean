/-
  WALK: the document's examples of layer 1 (live) are true. No condition.
-/
import Derived.Test.YtaninbkcpejgcaaBitsMore
namespace Go.Proofs.Ytaninbkcpejgcaa
open Go.RowKit
namespace Fl

/-- the float of bits that are a number's. -/
theorem float_word (u : Nat) (w : World) (hu : u < 2 * S) (h : isNan u = false) :
    Calls Try.prog 8 #[.int .u64 u] w fun e w' => e = .returned (.float .f64 u) ∧ Below w.heap.size w w' := by
  have hr : u % S ≤ I := by unfold isNan at h; simpa using h
  have e := wd_of u hu
  have := float_num (neg u) (u % S) w hr
  rw [← e] at this
  exact this
theorem minus_word (b : Nat) (w : World) (hb : b < 2 * S) (h : isNan b = false) :
    Calls Try.prog 16 #[.float .f64 b] w fun e w' => e = .returned (.bool (neg b)) ∧ w = w' := by
  have hr : b % S ≤ I := by unfold isNan at h; simpa using h
  have e := wd_of b hb
  have := minus_num (neg b) (b % S) w hr
  rw [← e] at this
  exact this
theorem canon_nan {b : Nat} (h : isNan b = true) : canon b = nanU := by unfold canon; rw [if_pos h]

set_option maxRecDepth 100000 in
set_option maxHeartbeats 4000000 in
theorem live_any (w : World) :
    Calls Try.prog 20 #[] w fun e w' => e = .returned (.bool true) ∧ Below w.heap.size w w' := by
  obtain ⟨b, hrun, hb1, hb2⟩ := run_nought w
  replace hb1 := Lib.hid hb1
  have o1 : FloatKind.f64.format.order 9223372036854775808 0 = some .eq := by decide +kernel
  have d1 := run_div (a := 4607182418800017408) (b := 9223372036854775808) (r := 18442240474082181120) (by decide +kernel)
  have o2 : FloatKind.f64.format.order 18442240474082181120 0 = some .lt := by decide +kernel
  have o3 : FloatKind.f64.format.order 4602678819172646912 4602678819172646912 = some .eq := by decide +kernel
  have o4 : FloatKind.f64.format.order 1 0 = some .gt := by decide +kernel
  have d2 := run_div (a := 1) (b := 4611686018427387904) (r := 0) (by decide +kernel)
  have o5 : FloatKind.f64.format.order 0 0 = some .eq := by decide +kernel
  go_enter Try.func20, Try.ntmps20
  go_wp2_with fail
  refine (float_word 9223372036854775808 _ (by decide) (by decide +kernel)).mono ?_
  rintro e w1 ⟨rfl, h1⟩
  go_wp2_with fail
  refine (bits_any 4607182418800017408 _ (by decide)).mono ?_
  rintro e w2 ⟨rfl, h2⟩
  rw [show canon 4607182418800017408 = 4607182418800017408 from by decide +kernel]
  go_wp2_with fail
  refine (bits_any 13835058055282163712 _ (by decide)).mono ?_
  rintro e w3 ⟨rfl, h3⟩
  rw [show canon 13835058055282163712 = 13835058055282163712 from by decide +kernel]
  go_wp2_with fail
  refine (bits_any 0 _ (by decide)).mono ?_
  rintro e w4 ⟨rfl, h4⟩
  rw [show canon 0 = 0 from by decide +kernel]
  go_wp2_with fail
  refine (bits_any b _ hb2).mono ?_
  rintro e w5 ⟨rfl, h5⟩
  rw [canon_nan hb1.out, show nanU = 9221120237041090560 from rfl]
  go_wp2_with fail
  refine (float_word 4602678819172646912 _ (by decide) (by decide +kernel)).mono ?_
  rintro e w6 ⟨rfl, h6⟩
  go_wp2_with fail
  refine (float_word 1 _ (by decide) (by decide +kernel)).mono ?_
  rintro e w7 ⟨rfl, h7⟩
  go_wp2_with fail
  refine (float_word 1 _ (by decide) (by decide +kernel)).mono ?_
  rintro e w8 ⟨rfl, h8⟩
  go_wp2_with fail
  refine (canon_any 5 _ (by decide)).mono ?_
  rintro e w9 ⟨rfl, rfl⟩
  rw [show canonB 5 = true from by decide +kernel]
  go_wp2_with fail
  refine (canon_any 9218868437227405313 _ (by decide)).mono ?_
  rintro e w9 ⟨rfl, rfl⟩
  rw [show canonB 9218868437227405313 = false from by decide +kernel]
  go_wp2_with fail
  refine (kind_any 9223372036854775808 _ (by decide)).mono ?_
  rintro e w9 ⟨rfl, h9⟩
  rw [show kindN (canon 9223372036854775808) = 0 from by decide +kernel]
  go_wp2_with fail
  refine (kind_any b _ hb2).mono ?_
  rintro e w10 ⟨rfl, h10⟩
  rw [canon_nan hb1.out, show kindN nanU = 4 from by decide +kernel]
  go_wp2_with fail
  refine (kind_any 18442240474082181120 _ (by decide)).mono ?_
  rintro e w11 ⟨rfl, h11⟩
  rw [show kindN (canon 18442240474082181120) = 3 from by decide +kernel]
  go_wp2_with fail
  refine (float_word 1 _ (by decide) (by decide +kernel)).mono ?_
  rintro e w12 ⟨rfl, h12⟩
  go_wp2_with fail
  refine (kind_any 1 _ (by decide)).mono ?_
  rintro e w13 ⟨rfl, h13⟩
  rw [show kindN (canon 1) = 1 from by decide +kernel]
  go_wp2_with fail
  refine (kind_any 4607182418800017408 _ (by decide)).mono ?_
  rintro e w14 ⟨rfl, h14⟩
  rw [show kindN (canon 4607182418800017408) = 2 from by decide +kernel]
  go_wp2_with fail
  refine (minus_word 9223372036854775808 _ (by decide) (by decide +kernel)).mono ?_
  rintro e w15 ⟨rfl, rfl⟩
  rw [show neg 9223372036854775808 = true from by decide +kernel]
  go_wp2_with fail
  refine (minus_word 0 _ (by decide) (by decide +kernel)).mono ?_
  rintro e w15 ⟨rfl, rfl⟩
  rw [show neg 0 = false from by decide +kernel]
  go_wp2_with fail
  refine (same_any b b _ hb2 hb2).mono ?_
  rintro e w15 ⟨rfl, h15⟩
  rw [show (canon b == canon b) = true from by simp]
  go_wp2_with fail
  refine (same_any 9223372036854775808 0 _ (by decide) (by decide)).mono ?_
  rintro e w16 ⟨rfl, h16⟩
  rw [show (canon 9223372036854775808 == canon 0) = false from by decide +kernel]
  go_wp2_with fail
  go_ret
  have s0 : w.drew.heap.size = w.heap.size := rfl
  have s1 : w.heap.size ≤ w1.heap.size := h1.size; have s2 := h2.size; have s3 := h3.size; have s4 := h4.size; have s5 := h5.size; have s6 := h6.size; have s7 := h7.size; have s8 := h8.size
  have s9 := h9.size; have s10 := h10.size; have s11 := h11.size; have s12 := h12.size; have s13 := h13.size; have s14 := h14.size; have s15 := h15.size
  exact ⟨rfl, (Below.refl _ _).drew.trans <| (h1.mono (Nat.le_refl _)).trans <| (h2.mono (by omega)).trans <| (h3.mono (by omega)).trans <| (h4.mono (by omega)).trans <| (h5.mono (by omega)).trans <| (h6.mono (by omega)).trans <| (h7.mono (by omega)).trans <| (h8.mono (by omega)).trans <| (h9.mono (by omega)).trans <| (h10.mono (by omega)).trans <| (h11.mono (by omega)).trans <| (h12.mono (by omega)).trans <| (h13.mono (by omega)).trans <| (h14.mono (by omega)).trans <| (h15.mono (by omega)).trans <| h16.mono (by omega)⟩

end Fl
end Go.Proofs.Ytaninbkcpejgcaa
