/-
  WALKS: the law of pack PackStays. No condition.
-/
import Derived.Test.YtnfooblofkblcaaPackLaws1
import Derived.Test.YtnfooblofkblcaaSlices
namespace Go.Proofs.Ytnfooblofkblcaa
open Go.RowKit
namespace Pk
open Mem

/-- how a reading ends: behind an error; with an error; or well. -/
def Three (t : ByteArray) (e : Int) (z : Prop) (t' : ByteArray) (e' : Int) : Prop :=
  (e ≠ 0 ∧ z ∧ t' = t ∧ e' = e) ∨ (e = 0 ∧ e' ≠ 0 ∧ z ∧ t' = t) ∨ (e = 0 ∧ e' = 0 ∧ t'.size ≤ t.size)
theorem num_three (t : ByteArray) (e : Int) : Three t e (numN t e = 0) (rest t (numK t e)) (numE t e) := by
  by_cases he : e = 0
  · subst he
    by_cases hr : (numR t.data.toList).1 = 0
    · exact .inr (.inr ⟨rfl, hr, by rw [rest_size]; omega⟩)
    · obtain ⟨e1, e2, e3⟩ := num_bad hr
      exact .inr (.inl ⟨rfl, by rw [e1]; exact hr, e2, by rw [e3, rest_zero]⟩)
  · obtain ⟨e1, e2, e3⟩ := num_err (s := t) he
    exact .inl ⟨he, e2, by rw [e3, rest_zero], e1⟩
theorem take_three (t : ByteArray) (e n : Int) : Three t e (takeS t e n = ByteArray.empty) (rest t (takeK t e n)) (takeE t e n) := by
  unfold takeS
  by_cases he : e = 0
  · subst he
    by_cases hr : 0 ≤ n ∧ n ≤ t.size
    · exact .inr (.inr ⟨rfl, (take_ok hr).1, by rw [rest_size]; omega⟩)
    · obtain ⟨e1, e2⟩ := take_bad hr
      exact .inr (.inl ⟨rfl, by rw [e1]; decide, by rw [e2, head_zero], by rw [e2, rest_zero]⟩)
  · obtain ⟨e1, e2⟩ := take_err (s := t) (n := n) he
    exact .inl ⟨he, by rw [e2, head_zero], by rw [e2, rest_zero], e1⟩
theorem Three.mono {t t' : ByteArray} {e e' : Int} {z z' : Prop} (h : Three t e z t' e') (hz : z → z') : Three t e z' t' e' := by
  rcases h with ⟨a, b, c, d⟩ | ⟨a, b, c, d⟩ | h
  · exact .inl ⟨a, hz b, c, d⟩
  · exact .inr (.inl ⟨a, b, hz c, d⟩)
  · exact .inr (.inr h)
theorem int_three (t : ByteArray) (e : Int) : Three t e (zagI (numN t e) = 0) (rest t (numK t e)) (numE t e) := (num_three t e).mono fun h => by rw [h]; rfl
theorem fix_three (t : ByteArray) (e : Int) : Three t e (fixV t e = 0) (rest t (takeK t e 8)) (takeE t e 8) := (take_three t e 8).mono fun h => by unfold fixV; rw [h]; rfl
theorem done_err {t : ByteArray} {e : Int} (h : e ≠ 0) : doneE t e = e := by unfold doneE; rw [if_neg (fun h' => h h'.1)]

/-- where the reader stands. -/
structure One (w : World) (b : Nat) (W : World) (t : ByteArray) (e : Int) : Prop where
  one : W.heap[b]? = some (rd t e)
  le : t.size ≤ 500
  bel : Below b w W
theorem One.next {w W W1 : World} {b : Nat} {t t' : ByteArray} {e e' : Int} (h : One w b W t e) (hz : t'.size ≤ t.size) (h1 : W1.heap[b]? = some (rd t' e')) (k1 : Kept (· = b) W W1) : One w b W1 t' e' :=
  ⟨h1, Nat.le_trans hz h.le, h.bel.trans (k1.to_below (Nat.le_of_lt (lt_of_block h.one)) (fun k hk h => by omega))⟩
theorem Three.size {t t' : ByteArray} {e e' : Int} {z : Prop} (h : Three t e z t' e') : t'.size ≤ t.size := by
  rcases h with ⟨a, b, c, d⟩ | ⟨a, b, c, d⟩ | h
  · rw [c]; exact Nat.le_refl _
  · rw [d]; exact Nat.le_refl _
  · exact h.2.2

set_option maxRecDepth 100000 in
set_option maxHeartbeats 8000000 in
theorem stays_walk (s : ByteArray) (v : Value) (zs : List Int) (w : World) (hv : Opened.Ints .i64 w v zs) :
    Calls Try.prog 6 #[.string s, v] w fun e w' => e = .returned (.bool true) ∧ Below w.heap.size w w' := by
  obtain ⟨⟨a, cap, rfl, hcells⟩, hbound⟩ := hv
  replace hbound := Lib.hid hbound
  by_cases hs : 500 < s.size
  · have hs' : (500 : Int) < (s.size : Int) := by omega
    clear hs
    go_enter Try.func6, Try.ntmps6
    go_wp2_with fail
    refine (live_any _).mono ?_
    rintro e w1 ⟨rfl, h1⟩
    go_wp2_with fail
    go_ret
    exact ⟨rfl, h1⟩
  · have hs' : (s.size : Int) ≤ 500 := by omega
    by_cases hl : 60 < zs.length
    · have hl' : (60 : Int) < (zs.length : Int) := by omega
      clear hs hl
      go_enter Try.func6, Try.ntmps6
      go_wp2_with fail
      refine (live_any _).mono ?_
      rintro e w1 ⟨rfl, h1⟩
      go_wp2_with fail
      go_ret
      exact ⟨rfl, h1⟩
    · have hl' : (zs.length : Int) ≤ 60 := by omega
      have HS := Lib.hid (show s.size ≤ 500 by omega)
      have HC := Lib.hid hcells
      clear hs hl hcells
      go_enter Try.func6, Try.ntmps6
      go_wp2_with fail
      refine (new_any s _).mono ?_
      rintro e w' ⟨rfl, rfl⟩
      have H0 : Hid (One w w.heap.size (w.alloc (rd s 0)) s 0) := Lib.hid ⟨alloc_new w (rd s 0), HS.out, (Below.refl _ _).alloc (Nat.le_refl _) _⟩
      generalize w.alloc (rd s 0) = w1 at *
      obtain ⟨p, hp⟩ : ∃ p, w.heap.size = p := ⟨_, rfl⟩
      rw [hp] at H0 ⊢
      replace hp := Lib.hid hp
      go_wp2_with fail
      go_loopw [6] (fun i wr => ∃ (k : Nat) (t : ByteArray) (e : Int), i = .int .i64 k ∧ k ≤ zs.length ∧ Hid (One w p wr t e)) (fun i _ => zs.length - (intOf i).toNat)
      case atStart => exact ⟨0, s, 0, rfl, by omega, H0⟩
      case round =>
        obtain ⟨k, t, e, rfl, hk, HB⟩ := hrel
        by_cases hlt : k < zs.length
        · obtain ⟨cb, off, rfl, hcb, hcell⟩ := HC.out (by omega)
          have hck : wr.cell? ⟨cb, off + k, none⟩ = some (.int .i64 (zs.getD k 0)) := (HB.out.bel.cell (p := ⟨cb, off + k, none⟩) (by rw [← hp.out]; exact hcb)).trans (hcell k hlt)
          have hlt' : (k : Int) < zs.length := by omega
          have h60 : zs.length ≤ 60 := by omega
          clear hcell
          have hgd : zs.getD k 0 = zs[k]?.getD 0 := rfl
          rw [hgd] at hck
          clear hgd
          generalize zs[k]?.getD 0 = c at *
          have hts : t.size ≤ 9223372036854775807 := by have := HB.out.le; omega
          by_cases c1 : c = -1
          · have d1 : (c == -1) = true := by rw [beq_iff_eq]; exact c1
            clear c1
            have H3 := num_three t e
            have HX := Lib.hid (num_any p t e wr HB.out.one hts)
            have HZ := Lib.hid H3.size
            generalize numN t e = x at *
            generalize rest t (numK t e) = t2 at *
            generalize numE t e = e2 at *
            rcases H3 with ⟨he, rfl, rfl, rfl⟩ | ⟨rfl, he, rfl, rfl⟩ | ⟨rfl, rfl, hz⟩
            · have he' : (e2 != 0) = true := by rw [bne_iff_ne]; exact he
              have HD := Lib.hid (done_err (t := t2) he)
              clear he
              go_wp2_with fail
              refine (err_any p t2 e2 _ HB.out.one).mono ?_
              rintro e' w' ⟨rfl, rfl⟩
              go_wp2_with fail
              refine (left_any p t2 e2 _ HB.out.one).mono ?_
              rintro e' w' ⟨rfl, rfl⟩
              go_wp2_with fail
              refine HX.out.mono ?_
              rintro e' w2 ⟨rfl, k1, k2⟩
              have HN : Hid (One w p w2 t2 e2) := Lib.hid (HB.out.next HZ.out k1 k2)
              clear k1 k2
              go_wp2_with fail
              refine (err_any p t2 e2 _ HN.out.one).mono ?_
              rintro e' w' ⟨rfl, rfl⟩
              go_wp2_with fail
              refine (left_any p t2 e2 _ HN.out.one).mono ?_
              rintro e' w' ⟨rfl, rfl⟩
              go_wp2_with fail
              refine (left_any p t2 e2 _ HN.out.one).mono ?_
              rintro e' w' ⟨rfl, rfl⟩
              go_wp2_with fail
              refine (left_any p t2 e2 _ HN.out.one).mono ?_
              rintro e' w' ⟨rfl, rfl⟩
              go_wp2_with fail
              refine (err_any p t2 e2 _ HN.out.one).mono ?_
              rintro e' w' ⟨rfl, rfl⟩
              go_wp2_with fail
              refine (left_any p t2 e2 _ HN.out.one).mono ?_
              rintro e' w' ⟨rfl, rfl⟩
              go_wp2_with fail
              refine (done_any p t2 e2 _ HN.out.one).mono ?_
              rintro e' w' ⟨rfl, rfl⟩
              rw [HD.out]
              go_wp2_with fail
              refine (err_any p t2 e2 _ HN.out.one).mono ?_
              rintro e' w' ⟨rfl, rfl⟩
              go_wp2_with fail
              go_roundw
              case rel => exact ⟨k + 1, _, _, by go_num, by omega, HN⟩
              case measure => simp [intOf]; omega
            · have he' : (e2 != 0) = true := by rw [bne_iff_ne]; exact he
              have HD := Lib.hid (done_err (t := t2) he)
              clear he
              go_wp2_with fail
              refine (err_any p t2 0 _ HB.out.one).mono ?_
              rintro e' w' ⟨rfl, rfl⟩
              go_wp2_with fail
              refine (left_any p t2 0 _ HB.out.one).mono ?_
              rintro e' w' ⟨rfl, rfl⟩
              go_wp2_with fail
              refine HX.out.mono ?_
              rintro e' w2 ⟨rfl, k1, k2⟩
              have HN : Hid (One w p w2 t2 e2) := Lib.hid (HB.out.next HZ.out k1 k2)
              clear k1 k2
              go_wp2_with fail
              refine (left_any p t2 e2 _ HN.out.one).mono ?_
              rintro e' w' ⟨rfl, rfl⟩
              go_wp2_with fail
              refine (left_any p t2 e2 _ HN.out.one).mono ?_
              rintro e' w' ⟨rfl, rfl⟩
              go_wp2_with fail
              refine (err_any p t2 e2 _ HN.out.one).mono ?_
              rintro e' w' ⟨rfl, rfl⟩
              go_wp2_with fail
              refine (left_any p t2 e2 _ HN.out.one).mono ?_
              rintro e' w' ⟨rfl, rfl⟩
              go_wp2_with fail
              refine (done_any p t2 e2 _ HN.out.one).mono ?_
              rintro e' w' ⟨rfl, rfl⟩
              rw [HD.out]
              go_wp2_with fail
              refine (err_any p t2 e2 _ HN.out.one).mono ?_
              rintro e' w' ⟨rfl, rfl⟩
              go_wp2_with fail
              go_roundw
              case rel => exact ⟨k + 1, _, _, by go_num, by omega, HN⟩
              case measure => simp [intOf]; omega
            · have hz' : ¬ t.size < t2.size := by omega
              clear hz
              go_wp2_with fail
              refine (err_any p t 0 _ HB.out.one).mono ?_
              rintro e' w' ⟨rfl, rfl⟩
              go_wp2_with fail
              refine (left_any p t 0 _ HB.out.one).mono ?_
              rintro e' w' ⟨rfl, rfl⟩
              go_wp2_with fail
              refine HX.out.mono ?_
              rintro e' w2 ⟨rfl, k1, k2⟩
              have HN : Hid (One w p w2 t2 0) := Lib.hid (HB.out.next HZ.out k1 k2)
              clear k1 k2
              go_wp2_with fail
              refine (left_any p t2 0 _ HN.out.one).mono ?_
              rintro e' w' ⟨rfl, rfl⟩
              go_wp2_with fail
              refine (left_any p t2 0 _ HN.out.one).mono ?_
              rintro e' w' ⟨rfl, rfl⟩
              go_wp2_with fail
              refine (err_any p t2 0 _ HN.out.one).mono ?_
              rintro e' w' ⟨rfl, rfl⟩
              go_wp2_with fail
              go_roundw
              case rel => exact ⟨k + 1, _, _, by go_num, by omega, HN⟩
              case measure => simp [intOf]; omega
          · have d1 : (c == -1) = false := by rw [beq_eq_false_iff_ne]; exact c1
            by_cases c2 : c = -2
            · have d2 : (c == -2) = true := by rw [beq_iff_eq]; exact c2
              clear c1 c2
              have H3 := int_three t e
              have HX := Lib.hid (int_any p t e wr HB.out.one hts)
              have HZ := Lib.hid H3.size
              generalize zagI (numN t e) = x at *
              generalize rest t (numK t e) = t2 at *
              generalize numE t e = e2 at *
              rcases H3 with ⟨he, rfl, rfl, rfl⟩ | ⟨rfl, he, rfl, rfl⟩ | ⟨rfl, rfl, hz⟩
              · have he' : (e2 != 0) = true := by rw [bne_iff_ne]; exact he
                have HD := Lib.hid (done_err (t := t2) he)
                clear he
                go_wp2_with fail
                refine (err_any p t2 e2 _ HB.out.one).mono ?_
                rintro e' w' ⟨rfl, rfl⟩
                go_wp2_with fail
                refine (left_any p t2 e2 _ HB.out.one).mono ?_
                rintro e' w' ⟨rfl, rfl⟩
                go_wp2_with fail
                refine HX.out.mono ?_
                rintro e' w2 ⟨rfl, k1, k2⟩
                have HN : Hid (One w p w2 t2 e2) := Lib.hid (HB.out.next HZ.out k1 k2)
                clear k1 k2
                go_wp2_with fail
                refine (err_any p t2 e2 _ HN.out.one).mono ?_
                rintro e' w' ⟨rfl, rfl⟩
                go_wp2_with fail
                refine (left_any p t2 e2 _ HN.out.one).mono ?_
                rintro e' w' ⟨rfl, rfl⟩
                go_wp2_with fail
                refine (left_any p t2 e2 _ HN.out.one).mono ?_
                rintro e' w' ⟨rfl, rfl⟩
                go_wp2_with fail
                refine (left_any p t2 e2 _ HN.out.one).mono ?_
                rintro e' w' ⟨rfl, rfl⟩
                go_wp2_with fail
                refine (err_any p t2 e2 _ HN.out.one).mono ?_
                rintro e' w' ⟨rfl, rfl⟩
                go_wp2_with fail
                refine (left_any p t2 e2 _ HN.out.one).mono ?_
                rintro e' w' ⟨rfl, rfl⟩
                go_wp2_with fail
                refine (done_any p t2 e2 _ HN.out.one).mono ?_
                rintro e' w' ⟨rfl, rfl⟩
                rw [HD.out]
                go_wp2_with fail
                refine (err_any p t2 e2 _ HN.out.one).mono ?_
                rintro e' w' ⟨rfl, rfl⟩
                go_wp2_with fail
                go_roundw
                case rel => exact ⟨k + 1, _, _, by go_num, by omega, HN⟩
                case measure => simp [intOf]; omega
              · have he' : (e2 != 0) = true := by rw [bne_iff_ne]; exact he
                have HD := Lib.hid (done_err (t := t2) he)
                clear he
                go_wp2_with fail
                refine (err_any p t2 0 _ HB.out.one).mono ?_
                rintro e' w' ⟨rfl, rfl⟩
                go_wp2_with fail
                refine (left_any p t2 0 _ HB.out.one).mono ?_
                rintro e' w' ⟨rfl, rfl⟩
                go_wp2_with fail
                refine HX.out.mono ?_
                rintro e' w2 ⟨rfl, k1, k2⟩
                have HN : Hid (One w p w2 t2 e2) := Lib.hid (HB.out.next HZ.out k1 k2)
                clear k1 k2
                go_wp2_with fail
                refine (left_any p t2 e2 _ HN.out.one).mono ?_
                rintro e' w' ⟨rfl, rfl⟩
                go_wp2_with fail
                refine (left_any p t2 e2 _ HN.out.one).mono ?_
                rintro e' w' ⟨rfl, rfl⟩
                go_wp2_with fail
                refine (err_any p t2 e2 _ HN.out.one).mono ?_
                rintro e' w' ⟨rfl, rfl⟩
                go_wp2_with fail
                refine (left_any p t2 e2 _ HN.out.one).mono ?_
                rintro e' w' ⟨rfl, rfl⟩
                go_wp2_with fail
                refine (done_any p t2 e2 _ HN.out.one).mono ?_
                rintro e' w' ⟨rfl, rfl⟩
                rw [HD.out]
                go_wp2_with fail
                refine (err_any p t2 e2 _ HN.out.one).mono ?_
                rintro e' w' ⟨rfl, rfl⟩
                go_wp2_with fail
                go_roundw
                case rel => exact ⟨k + 1, _, _, by go_num, by omega, HN⟩
                case measure => simp [intOf]; omega
              · have hz' : ¬ t.size < t2.size := by omega
                clear hz
                go_wp2_with fail
                refine (err_any p t 0 _ HB.out.one).mono ?_
                rintro e' w' ⟨rfl, rfl⟩
                go_wp2_with fail
                refine (left_any p t 0 _ HB.out.one).mono ?_
                rintro e' w' ⟨rfl, rfl⟩
                go_wp2_with fail
                refine HX.out.mono ?_
                rintro e' w2 ⟨rfl, k1, k2⟩
                have HN : Hid (One w p w2 t2 0) := Lib.hid (HB.out.next HZ.out k1 k2)
                clear k1 k2
                go_wp2_with fail
                refine (left_any p t2 0 _ HN.out.one).mono ?_
                rintro e' w' ⟨rfl, rfl⟩
                go_wp2_with fail
                refine (left_any p t2 0 _ HN.out.one).mono ?_
                rintro e' w' ⟨rfl, rfl⟩
                go_wp2_with fail
                refine (err_any p t2 0 _ HN.out.one).mono ?_
                rintro e' w' ⟨rfl, rfl⟩
                go_wp2_with fail
                go_roundw
                case rel => exact ⟨k + 1, _, _, by go_num, by omega, HN⟩
                case measure => simp [intOf]; omega
            · have d2 : (c == -2) = false := by rw [beq_eq_false_iff_ne]; exact c2
              by_cases c3 : c = -3
              · have d3 : (c == -3) = true := by rw [beq_iff_eq]; exact c3
                clear c1 c2 c3
                have H3 := fix_three t e
                have HX := Lib.hid (fix_any p t e wr HB.out.one)
                have HZ := Lib.hid H3.size
                generalize fixV t e = x at *
                generalize rest t (takeK t e 8) = t2 at *
                generalize takeE t e 8 = e2 at *
                rcases H3 with ⟨he, rfl, rfl, rfl⟩ | ⟨rfl, he, rfl, rfl⟩ | ⟨rfl, rfl, hz⟩
                · have he' : (e2 != 0) = true := by rw [bne_iff_ne]; exact he
                  have HD := Lib.hid (done_err (t := t2) he)
                  clear he
                  go_wp2_with fail
                  refine (err_any p t2 e2 _ HB.out.one).mono ?_
                  rintro e' w' ⟨rfl, rfl⟩
                  go_wp2_with fail
                  refine (left_any p t2 e2 _ HB.out.one).mono ?_
                  rintro e' w' ⟨rfl, rfl⟩
                  go_wp2_with fail
                  refine HX.out.mono ?_
                  rintro e' w2 ⟨rfl, k1, k2⟩
                  have HN : Hid (One w p w2 t2 e2) := Lib.hid (HB.out.next HZ.out k1 k2)
                  clear k1 k2
                  go_wp2_with fail
                  refine (err_any p t2 e2 _ HN.out.one).mono ?_
                  rintro e' w' ⟨rfl, rfl⟩
                  go_wp2_with fail
                  refine (left_any p t2 e2 _ HN.out.one).mono ?_
                  rintro e' w' ⟨rfl, rfl⟩
                  go_wp2_with fail
                  refine (left_any p t2 e2 _ HN.out.one).mono ?_
                  rintro e' w' ⟨rfl, rfl⟩
                  go_wp2_with fail
                  refine (left_any p t2 e2 _ HN.out.one).mono ?_
                  rintro e' w' ⟨rfl, rfl⟩
                  go_wp2_with fail
                  refine (err_any p t2 e2 _ HN.out.one).mono ?_
                  rintro e' w' ⟨rfl, rfl⟩
                  go_wp2_with fail
                  refine (left_any p t2 e2 _ HN.out.one).mono ?_
                  rintro e' w' ⟨rfl, rfl⟩
                  go_wp2_with fail
                  refine (done_any p t2 e2 _ HN.out.one).mono ?_
                  rintro e' w' ⟨rfl, rfl⟩
                  rw [HD.out]
                  go_wp2_with fail
                  refine (err_any p t2 e2 _ HN.out.one).mono ?_
                  rintro e' w' ⟨rfl, rfl⟩
                  go_wp2_with fail
                  go_roundw
                  case rel => exact ⟨k + 1, _, _, by go_num, by omega, HN⟩
                  case measure => simp [intOf]; omega
                · have he' : (e2 != 0) = true := by rw [bne_iff_ne]; exact he
                  have HD := Lib.hid (done_err (t := t2) he)
                  clear he
                  go_wp2_with fail
                  refine (err_any p t2 0 _ HB.out.one).mono ?_
                  rintro e' w' ⟨rfl, rfl⟩
                  go_wp2_with fail
                  refine (left_any p t2 0 _ HB.out.one).mono ?_
                  rintro e' w' ⟨rfl, rfl⟩
                  go_wp2_with fail
                  refine HX.out.mono ?_
                  rintro e' w2 ⟨rfl, k1, k2⟩
                  have HN : Hid (One w p w2 t2 e2) := Lib.hid (HB.out.next HZ.out k1 k2)
                  clear k1 k2
                  go_wp2_with fail
                  refine (left_any p t2 e2 _ HN.out.one).mono ?_
                  rintro e' w' ⟨rfl, rfl⟩
                  go_wp2_with fail
                  refine (left_any p t2 e2 _ HN.out.one).mono ?_
                  rintro e' w' ⟨rfl, rfl⟩
                  go_wp2_with fail
                  refine (err_any p t2 e2 _ HN.out.one).mono ?_
                  rintro e' w' ⟨rfl, rfl⟩
                  go_wp2_with fail
                  refine (left_any p t2 e2 _ HN.out.one).mono ?_
                  rintro e' w' ⟨rfl, rfl⟩
                  go_wp2_with fail
                  refine (done_any p t2 e2 _ HN.out.one).mono ?_
                  rintro e' w' ⟨rfl, rfl⟩
                  rw [HD.out]
                  go_wp2_with fail
                  refine (err_any p t2 e2 _ HN.out.one).mono ?_
                  rintro e' w' ⟨rfl, rfl⟩
                  go_wp2_with fail
                  go_roundw
                  case rel => exact ⟨k + 1, _, _, by go_num, by omega, HN⟩
                  case measure => simp [intOf]; omega
                · have hz' : ¬ t.size < t2.size := by omega
                  clear hz
                  go_wp2_with fail
                  refine (err_any p t 0 _ HB.out.one).mono ?_
                  rintro e' w' ⟨rfl, rfl⟩
                  go_wp2_with fail
                  refine (left_any p t 0 _ HB.out.one).mono ?_
                  rintro e' w' ⟨rfl, rfl⟩
                  go_wp2_with fail
                  refine HX.out.mono ?_
                  rintro e' w2 ⟨rfl, k1, k2⟩
                  have HN : Hid (One w p w2 t2 0) := Lib.hid (HB.out.next HZ.out k1 k2)
                  clear k1 k2
                  go_wp2_with fail
                  refine (left_any p t2 0 _ HN.out.one).mono ?_
                  rintro e' w' ⟨rfl, rfl⟩
                  go_wp2_with fail
                  refine (left_any p t2 0 _ HN.out.one).mono ?_
                  rintro e' w' ⟨rfl, rfl⟩
                  go_wp2_with fail
                  refine (err_any p t2 0 _ HN.out.one).mono ?_
                  rintro e' w' ⟨rfl, rfl⟩
                  go_wp2_with fail
                  go_roundw
                  case rel => exact ⟨k + 1, _, _, by go_num, by omega, HN⟩
                  case measure => simp [intOf]; omega
              · have d3 : (c == -3) = false := by rw [beq_eq_false_iff_ne]; exact c3
                clear c1 c2 c3
                have H3 := take_three t e c
                have HX := Lib.hid (take_any p t e c wr HB.out.one)
                have HZ := Lib.hid H3.size
                generalize takeS t e c = x at *
                generalize rest t (takeK t e c) = t2 at *
                generalize takeE t e c = e2 at *
                rcases H3 with ⟨he, rfl, rfl, rfl⟩ | ⟨rfl, he, rfl, rfl⟩ | ⟨rfl, rfl, hz⟩
                · have he' : (e2 != 0) = true := by rw [bne_iff_ne]; exact he
                  have HD := Lib.hid (done_err (t := t2) he)
                  clear he
                  go_wp2_with fail
                  refine (err_any p t2 e2 _ HB.out.one).mono ?_
                  rintro e' w' ⟨rfl, rfl⟩
                  go_wp2_with fail
                  refine (left_any p t2 e2 _ HB.out.one).mono ?_
                  rintro e' w' ⟨rfl, rfl⟩
                  go_wp2_with fail
                  refine HX.out.mono ?_
                  rintro e' w2 ⟨rfl, k1, k2⟩
                  have HN : Hid (One w p w2 t2 e2) := Lib.hid (HB.out.next HZ.out k1 k2)
                  clear k1 k2
                  go_wp2_with fail
                  refine (err_any p t2 e2 _ HN.out.one).mono ?_
                  rintro e' w' ⟨rfl, rfl⟩
                  go_wp2_with fail
                  refine (left_any p t2 e2 _ HN.out.one).mono ?_
                  rintro e' w' ⟨rfl, rfl⟩
                  go_wp2_with fail
                  refine (left_any p t2 e2 _ HN.out.one).mono ?_
                  rintro e' w' ⟨rfl, rfl⟩
                  go_wp2_with fail
                  refine (left_any p t2 e2 _ HN.out.one).mono ?_
                  rintro e' w' ⟨rfl, rfl⟩
                  go_wp2_with fail
                  refine (err_any p t2 e2 _ HN.out.one).mono ?_
                  rintro e' w' ⟨rfl, rfl⟩
                  go_wp2_with fail
                  refine (left_any p t2 e2 _ HN.out.one).mono ?_
                  rintro e' w' ⟨rfl, rfl⟩
                  go_wp2_with fail
                  refine (done_any p t2 e2 _ HN.out.one).mono ?_
                  rintro e' w' ⟨rfl, rfl⟩
                  rw [HD.out]
                  go_wp2_with fail
                  refine (err_any p t2 e2 _ HN.out.one).mono ?_
                  rintro e' w' ⟨rfl, rfl⟩
                  go_wp2_with fail
                  go_roundw
                  case rel => exact ⟨k + 1, _, _, by go_num, by omega, HN⟩
                  case measure => simp [intOf]; omega
                · have he' : (e2 != 0) = true := by rw [bne_iff_ne]; exact he
                  have HD := Lib.hid (done_err (t := t2) he)
                  clear he
                  go_wp2_with fail
                  refine (err_any p t2 0 _ HB.out.one).mono ?_
                  rintro e' w' ⟨rfl, rfl⟩
                  go_wp2_with fail
                  refine (left_any p t2 0 _ HB.out.one).mono ?_
                  rintro e' w' ⟨rfl, rfl⟩
                  go_wp2_with fail
                  refine HX.out.mono ?_
                  rintro e' w2 ⟨rfl, k1, k2⟩
                  have HN : Hid (One w p w2 t2 e2) := Lib.hid (HB.out.next HZ.out k1 k2)
                  clear k1 k2
                  go_wp2_with fail
                  refine (left_any p t2 e2 _ HN.out.one).mono ?_
                  rintro e' w' ⟨rfl, rfl⟩
                  go_wp2_with fail
                  refine (left_any p t2 e2 _ HN.out.one).mono ?_
                  rintro e' w' ⟨rfl, rfl⟩
                  go_wp2_with fail
                  refine (err_any p t2 e2 _ HN.out.one).mono ?_
                  rintro e' w' ⟨rfl, rfl⟩
                  go_wp2_with fail
                  refine (left_any p t2 e2 _ HN.out.one).mono ?_
                  rintro e' w' ⟨rfl, rfl⟩
                  go_wp2_with fail
                  refine (done_any p t2 e2 _ HN.out.one).mono ?_
                  rintro e' w' ⟨rfl, rfl⟩
                  rw [HD.out]
                  go_wp2_with fail
                  refine (err_any p t2 e2 _ HN.out.one).mono ?_
                  rintro e' w' ⟨rfl, rfl⟩
                  go_wp2_with fail
                  go_roundw
                  case rel => exact ⟨k + 1, _, _, by go_num, by omega, HN⟩
                  case measure => simp [intOf]; omega
                · have hz' : ¬ t.size < t2.size := by omega
                  clear hz
                  go_wp2_with fail
                  refine (err_any p t 0 _ HB.out.one).mono ?_
                  rintro e' w' ⟨rfl, rfl⟩
                  go_wp2_with fail
                  refine (left_any p t 0 _ HB.out.one).mono ?_
                  rintro e' w' ⟨rfl, rfl⟩
                  go_wp2_with fail
                  refine HX.out.mono ?_
                  rintro e' w2 ⟨rfl, k1, k2⟩
                  have HN : Hid (One w p w2 t2 0) := Lib.hid (HB.out.next HZ.out k1 k2)
                  clear k1 k2
                  go_wp2_with fail
                  refine (left_any p t2 0 _ HN.out.one).mono ?_
                  rintro e' w' ⟨rfl, rfl⟩
                  go_wp2_with fail
                  refine (left_any p t2 0 _ HN.out.one).mono ?_
                  rintro e' w' ⟨rfl, rfl⟩
                  go_wp2_with fail
                  refine (err_any p t2 0 _ HN.out.one).mono ?_
                  rintro e' w' ⟨rfl, rfl⟩
                  go_wp2_with fail
                  go_roundw
                  case rel => exact ⟨k + 1, _, _, by go_num, by omega, HN⟩
                  case measure => simp [intOf]; omega
        · obtain rfl : k = zs.length := by omega
          have hge : decide (zs.length < zs.length) = false := decide_eq_false hlt
          have hbel := HB.out.bel
          have hpw := lt_of_block HB.out.one
          clear hlt HC
          go_wp2_with fail
          refine (live_any _).mono ?_
          rintro e' w2 ⟨rfl, hb2⟩
          go_wp2_with fail
          go_ret
          exact ⟨rfl, by rw [hp.out]; exact hbel.trans (hb2.mono (Nat.le_of_lt hpw))⟩

end Pk
end Go.Proofs.Ytnfooblofkblcaa
