/-
  WALKS: the law RealsBack. No condition.
-/
import Derived.Test.YtimgiokhhdkfaaaRealsBackP
import Derived.Test.YtimgiokhhdkfaaaHeld
namespace Go.Proofs.Ytimgiokhhdkfaaa
open Go.RowKit
namespace Rl
open Mem Pk Fl

/-- two words of one number. -/
theorem word_eq {x y : Nat} (h : canon x = canon y) : (isNan y = true ∧ isNan x = true) ∨ (isNan y = false ∧ x = y) := by
  cases hy : isNan y with
  | true =>
    cases hx : isNan x with
    | true => exact .inl ⟨rfl, rfl⟩
    | false =>
      rw [canon_word hx, canon_nan hy] at h
      rw [h] at hx
      exact absurd hx (by decide +kernel)
  | false =>
    cases hx : isNan x with
    | true =>
      rw [canon_word hy, canon_nan hx] at h
      rw [← h] at hy
      exact absurd hy (by decide +kernel)
    | false => exact .inr ⟨rfl, by rw [canon_word hx, canon_word hy] at h; exact h⟩

theorem some_of {W : World} {p : Option Addr} {n c : Nat} {L : List Nat} (h : Flts W (.slice p n c) L) (hp : 0 < L.length) : ∃ b o, p = some ⟨b, o, none⟩ := by
  obtain ⟨⟨a', c', e1, -, h⟩, -⟩ := h
  cases e1
  obtain ⟨b, o, e2, -⟩ := h hp
  exact ⟨b, o, e2⟩
/-- what the round's loads and calls need. -/
def TwoS (b o b' o' : Nat) (x y : Nat) (W0 W : World) : Prop := W.cell? ⟨b, o, none⟩ = some (.float .f64 x) ∧ W.cell? ⟨b', o', none⟩ = some (.float .f64 y) ∧ Below W0.heap.size W0 W
theorem two_of {b o b' o' x y : Nat} {W0 W : World} (h1 : b < W0.heap.size) (h2 : W0.cell? ⟨b, o, none⟩ = some (.float .f64 x)) (h3 : b' < W0.heap.size) (h4 : W0.cell? ⟨b', o', none⟩ = some (.float .f64 y)) (h : Below W0.heap.size W0 W) : TwoS b o b' o' x y W0 W :=
  ⟨(h.cell (p := ⟨b, o, none⟩) h1).trans h2, (h.cell (p := ⟨b', o', none⟩) h3).trans h4, h⟩
theorem wrap_word (n : Int) : ∃ u : Nat, IntKind.u64.wrap n = (u : Int) ∧ u < 2 * S := by
  have e : 2 * S = 18446744073709551616 := rfl
  rw [e]
  exact ⟨(n % 18446744073709551616).toNat, by rw [IntKind.wrap_u64]; omega, by omega⟩

set_option maxRecDepth 100000 in
set_option maxHeartbeats 8000000 in
theorem back_walk (v : Value) (l : List Nat) (s : ByteArray) (n : Int) (w : World) (hv : Flts w v l) :
    Calls Try.prog 5 #[v, .string s, .int .i64 n] w fun e w' => e = .returned (.bool true) ∧ Below w.heap.size w w' := by
  have hr := Lib.hid hv
  have HI := Lib.hid hv.bound
  obtain ⟨⟨a, cap, rfl, -, -⟩, -⟩ := hv
  by_cases hl : 100 < l.length
  · have hl' : decide ((100 : Int) < (l.length : Int)) = true := decide_eq_true (by omega)
    clear hl hr HI
    go_enter Try.func5, Try.ntmps5
    go_wp2_with fail
    refine (live_any _).mono ?_
    rintro e w1 ⟨rfl, h1⟩
    go_wp2_with fail
    go_ret
    exact ⟨rfl, h1⟩
  · have hl' : decide ((100 : Int) < (l.length : Int)) = false := decide_eq_false (by omega)
    by_cases hs : 500 < s.size
    · have hs' : decide ((500 : Int) < (s.size : Int)) = true := decide_eq_true (by omega)
      clear hs hl hr HI
      go_enter Try.func5, Try.ntmps5
      go_wp2_with fail
      refine (live_any _).mono ?_
      rintro e w1 ⟨rfl, h1⟩
      go_wp2_with fail
      go_ret
      exact ⟨rfl, h1⟩
    · have hs' : decide ((500 : Int) < (s.size : Int)) = false := decide_eq_false (by omega)
      have h1k : l.length ≤ 1000 := by omega
      have hs5 : s.size ≤ 500 := by omega
      have HE := Lib.hid (fun w h => encode_any (.slice a l.length cap) l w h h1k)
      have HDE := Lib.hid (dec_encR HI.out)
      have hle : (str (encR 0 l)).size ≤ 10000 := by have := encR_len l 0; rw [str_size]; omega
      generalize str (encR 0 l) = t at *
      have hb := Lib.hid (Below.refl w.heap.size w)
      clear hl hs
      go_enter Try.func5, Try.ntmps5
      go_wp2_with fail
      refine (HE.out _ hr.out).mono ?_
      rintro e w1 ⟨rfl, hb2⟩
      replace hr := Lib.hid (flts_below hr.out hb2)
      replace hb := Lib.hid (hb.out.trans (hb2.mono hb.out.size))
      clear hb2 HE
      go_wp2_with fail
      refine (decode_any t l.length _ hle).mono ?_
      rintro e w2 ⟨⟨r, L, rfl, hm, hL⟩, hb2⟩
      rw [HDE.out.1]
      have hL2 := hL.trans HDE.out.2
      have hLl := lens hL2
      rw [List.length_map] at hLl
      have HC := Lib.hid hL2
      have HS := Lib.hid (sameB_of hL2 rfl)
      obtain ⟨⟨pm, cm, rfl, -, -⟩, -⟩ := id hm
      rw [hLl] at hm ⊢
      replace hm := Lib.hid hm
      replace hr := Lib.hid (flts_below hr.out hb2)
      replace hb := Lib.hid (hb.out.trans (hb2.mono hb.out.size))
      have hLk : L.length ≤ 100000 := by omega
      replace hLl := Lib.hid hLl
      clear hb2 hL hL2 HDE
      go_wp2_with fail
      refine (rlsame_any _ _ L l _ hm.out hr.out hLk).mono ?_
      rintro e w3 ⟨rfl, hb2⟩
      rw [HS.out]
      replace hm := Lib.hid (flts_below hm.out hb2)
      replace hr := Lib.hid (flts_below hr.out hb2)
      replace hb := Lib.hid (hb.out.trans (hb2.mono hb.out.size))
      clear hb2 hLk HS
      go_wp2_with fail
      go_loopw [10] (fun i wr => ∃ k : Nat, i = .int .i64 k ∧ k ≤ l.length ∧ Hid (Below w3.heap.size w3 wr)) (fun i _ => l.length - (intOf i).toNat)
      case atStart => exact ⟨0, rfl, by omega, Lib.hid (Below.refl _ _)⟩
      case round =>
        obtain ⟨k, rfl, hk, hbr⟩ := hrel
        by_cases hlt : k < l.length
        · have hm1 := hm.out
          have hr1 := hr.out
          obtain ⟨bm, om, rfl⟩ := some_of hm1 (by rw [hLl.out]; omega)
          obtain ⟨bl, ol, rfl⟩ := some_of hr1 (by omega)
          have hcm := flts_at hm1 (j := k) (by rw [hLl.out]; exact hlt)
          have hcl := flts_at hr1 (j := k) hlt
          have hx := getD_lt hm1.bound (show k < L.length by rw [hLl.out]; exact hlt)
          have hy := getD_lt HI.out hlt
          have hxy := same_at HC.out (show k < L.length by rw [hLl.out]; exact hlt)
          have hlt' : (k : Int) < l.length := by omega
          have hk0 : (0 : Int) ≤ (k : Int) := by omega
          clear hm1 hr1 hlt
          generalize L[k]?.getD 0 = x at *
          generalize l[k]?.getD 0 = y at *
          have hS1 : TwoS bm (om + k) bl (ol + k) x y w3 wr.drew := two_of hcm.1 hcm.2 hcl.1 hcl.2 hbr.out.drew
          have HSM := Lib.hid (fun q : Held (TwoS bm (om + k) bl (ol + k) x y w3) => held_calls ((same_any x y q.w hx hy).mono fun e w' (c : _ ∧ Below q.w.heap.size q.w w') => And.intro c.1 (two_of hcm.1 hcm.2 hcl.1 hcl.2 (q.h.2.2.trans (c.2.mono q.h.2.2.size)))))
          have hq : (canon x == canon y) = true := by rw [beq_iff_eq]; exact hxy
          rw [hq] at HSM
          have hcx : ∀ q : Held (TwoS bm (om + k) bl (ol + k) x y w3), q.w.cell? ⟨bm, om + k, none⟩ = some (.float .f64 x) := fun q => q.h.1
          have hcy : ∀ q : Held (TwoS bm (om + k) bl (ol + k) x y w3), q.w.cell? ⟨bl, ol + k, none⟩ = some (.float .f64 y) := fun q => q.h.2.1
          haveI hne : Nonempty (Held (TwoS bm (om + k) bl (ol + k) x y w3)) := ⟨⟨_, hS1⟩⟩
          clear hq hcm hcl
          go_wp2_with fail
          rcases word_eq hxy with ⟨hny, hnx⟩ | ⟨hny, rfl⟩
          · have ho := order_nan hy hny
            have ho2 := order_nan hx hnx
            clear hny hnx hxy
            simp only [List.append]
            refine wp_region_class (TwoS bm (om + k) bl (ol + k) x y w3) (by kernel_rfl) (by kernel_rfl) hS1 ?_
            repeat (go_big_quiet_step ((go_at_call 17; exact HSM.out _)))
            refine wpQuiet_nil ?_
            intro _ hw'
            obtain ⟨⟨Wq, hq⟩, hw''⟩ := hw'
            subst hw''
            have hq2 := Lib.hid hq.2.2
            clear hq hS1 HSM hne
            go_wp2_with fail
            go_roundw
            case rel => exact ⟨k + 1, by go_num, by omega, hq2⟩
            case measure => simp [intOf]; omega
          · clear hxy
            have ho := order_self hx hny
            rcases zero_cases hx hny with ⟨sg, hz⟩ | hz | hz
            · subst hz
              have hz0 := fo_zero sg
              have hi := run_inverse sg
              have hio := order_inf sg
              clear hny
              simp only [List.append]
              refine wp_region_class (TwoS bm (om + k) bl (ol + k) (wd sg 0) (wd sg 0) w3) (by kernel_rfl) (by kernel_rfl) hS1 ?_
              repeat (go_big_quiet_step ((go_at_call 17; exact HSM.out _)))
              refine wpQuiet_nil ?_
              intro _ hw'
              obtain ⟨⟨Wq, hq⟩, hw''⟩ := hw'
              subst hw''
              have hq2 := Lib.hid hq.2.2
              clear hq hS1 HSM hne
              go_wp2_with fail
              go_roundw
              case rel => exact ⟨k + 1, by go_num, by omega, hq2⟩
              case measure => simp [intOf]; omega
            · clear hny
              simp only [List.append]
              refine wp_region_class (TwoS bm (om + k) bl (ol + k) x x w3) (by kernel_rfl) (by kernel_rfl) hS1 ?_
              repeat (go_big_quiet_step ((go_at_call 17; exact HSM.out _)))
              refine wpQuiet_nil ?_
              intro _ hw'
              obtain ⟨⟨Wq, hq⟩, hw''⟩ := hw'
              subst hw''
              have hq2 := Lib.hid hq.2.2
              clear hq hS1 HSM hne
              go_wp2_with fail
              go_roundw
              case rel => exact ⟨k + 1, by go_num, by omega, hq2⟩
              case measure => simp [intOf]; omega
            · clear hny
              simp only [List.append]
              refine wp_region_class (TwoS bm (om + k) bl (ol + k) x x w3) (by kernel_rfl) (by kernel_rfl) hS1 ?_
              repeat (go_big_quiet_step ((go_at_call 17; exact HSM.out _)))
              refine wpQuiet_nil ?_
              intro _ hw'
              obtain ⟨⟨Wq, hq⟩, hw''⟩ := hw'
              subst hw''
              have hq2 := Lib.hid hq.2.2
              clear hq hS1 HSM hne
              go_wp2_with fail
              go_roundw
              case rel => exact ⟨k + 1, by go_num, by omega, hq2⟩
              case measure => simp [intOf]; omega
        · obtain rfl : k = l.length := by omega
          have hge : decide (l.length < l.length) = false := decide_eq_false hlt
          replace hb := Lib.hid (hb.out.trans (hbr.out.mono hb.out.size))
          clear hlt hm hr hbr HC hLl
          obtain ⟨u, hu, hul⟩ : ∃ u : Nat, IntKind.u64.wrap n = (u : Int) ∧ u < 2 * S := wrap_word n
          have HSW := Lib.hid (swap_swap hul)
          go_wp2_with fail
          refine (swap_any u _ hul).mono ?_
          rintro e w4 ⟨rfl, rfl⟩
          go_wp2_with fail
          refine (swap_any (swapN u) _ (swap_lt hul)).mono ?_
          rintro e w4 ⟨rfl, rfl⟩
          rw [HSW.out]
          go_wp2_with fail
          refine (decode_any s n _ (by omega)).mono ?_
          rintro e w4 ⟨⟨r2, L2, rfl, hk2, hL2⟩, hb2⟩
          replace hb := Lib.hid (hb.out.trans (hb2.mono hb.out.size))
          clear hb2
          by_cases hg : decRE s n = 0
          · obtain ⟨g1, g2⟩ := dec_goodR hg hL2
            rw [hg]
            have hll : L2.length ≤ 1000 := by rw [lens hL2]; have := decRL_len s n; omega
            have g1' : ((L2.length : Int) == n) = true := by rw [beq_iff_eq]; exact g1
            replace g2 := Lib.hid g2
            have HK := Lib.hid hk2
            obtain ⟨⟨a6, c6, rfl, -, -⟩, -⟩ := hk2
            clear hg hL2 g1
            have HE2 := Lib.hid (encode_any _ L2 _ HK.out hll)
            clear hll
            go_wp2_with fail
            refine HE2.out.mono ?_
            rintro e w5 ⟨rfl, hb2⟩
            rw [g2.out]
            replace hb := Lib.hid (hb.out.trans (hb2.mono hb.out.size))
            clear hb2 HE2 HK
            go_wp2_with fail
            refine (live_any _).mono ?_
            rintro e w6 ⟨rfl, hb2⟩
            replace hb := Lib.hid (hb.out.trans (hb2.mono hb.out.size))
            go_wp2_with fail
            go_ret
            exact ⟨rfl, hb.out⟩
          · have hgn : (decRE s n != 0) = true := by rw [bne_iff_ne]; exact hg
            have h0 : L2 = [] := by
              rw [decRL_bad hg] at hL2
              exact List.map_eq_nil_iff.1 hL2
            subst h0
            obtain ⟨⟨a6, c6, rfl, -, -⟩, -⟩ := hk2
            clear hg hL2
            generalize decRE s n = g at *
            go_wp2_with fail
            refine (live_any _).mono ?_
            rintro e w6 ⟨rfl, hb2⟩
            replace hb := Lib.hid (hb.out.trans (hb2.mono hb.out.size))
            go_wp2_with fail
            go_ret
            exact ⟨rfl, hb.out⟩

theorem back_ok {H : Type} {enc : TypeId × Value → H} {d0 : DataW H} {p0 : List MemPlace} (W : World) (b : Nat) (v0 v1 v2 : Value) (o0 : Value.okWide Try.prog W .any b 22 v0) (h0 : DataW.Trod enc Try.prog W 0 (fun _ => true) true 22 v0 d0 p0) (o1 : Value.okWide Try.prog W .any b 9 v1) (o2 : Value.okWide Try.prog W .any b 3 v2) :
    Calls Try.prog 5 #[v0, v1, v2] W fun e w' => e = .returned (.bool true) ∧ Below W.heap.size W w' := by
  obtain ⟨zs, hz⟩ := flts_of Try.underlying22 Try.underlying33 (by kernel_rfl) (Opened.ok_slice Try.underlying22 o0) h0
  obtain ⟨s, rfl, _⟩ := Opened.ok_string Try.underlying9 o1
  obtain ⟨n, rfl, -, -⟩ := Opened.ok_int Try.underlying3 o2
  exact back_walk v0 zs s n W hz

end Rl
end Go.Proofs.Ytimgiokhhdkfaaa
