/-
  WALKS: the law of rank RankSame. No condition.
-/
import Derived.Test.YtllkhcejgoebbaaRankLaws3
namespace Go.Proofs.Ytllkhcejgoebbaa
open Go.RowKit
namespace Fl

attribute [local go_sem] run_store_float
theorem pair_next {w w1 w2 : World} {p : Nat} {a0 a1 b0 b1 : Int} {s t : ByteArray} {x y : Nat}
    (h : w1.cell? ⟨p, 0, none⟩ = some (.int .i64 a0) ∧ w1.cell? ⟨p, 1, none⟩ = some (.int .i64 a1) ∧ w1.cell? ⟨p, 2, none⟩ = some (.string s) ∧ w1.cell? ⟨p, 3, none⟩ = some (.float .f64 x) ∧ w1.cell? ⟨p + 1, 0, none⟩ = some (.int .i64 b0) ∧ w1.cell? ⟨p + 1, 1, none⟩ = some (.int .i64 b1) ∧ w1.cell? ⟨p + 1, 2, none⟩ = some (.string t) ∧ w1.cell? ⟨p + 1, 3, none⟩ = some (.float .f64 y) ∧ Below p w w1 ∧ p + 1 < w1.heap.size) (hb : Below w1.heap.size w1 w2) : w2.cell? ⟨p, 0, none⟩ = some (.int .i64 a0) ∧ w2.cell? ⟨p, 1, none⟩ = some (.int .i64 a1) ∧ w2.cell? ⟨p, 2, none⟩ = some (.string s) ∧ w2.cell? ⟨p, 3, none⟩ = some (.float .f64 x) ∧ w2.cell? ⟨p + 1, 0, none⟩ = some (.int .i64 b0) ∧ w2.cell? ⟨p + 1, 1, none⟩ = some (.int .i64 b1) ∧ w2.cell? ⟨p + 1, 2, none⟩ = some (.string t) ∧ w2.cell? ⟨p + 1, 3, none⟩ = some (.float .f64 y) ∧ Below p w w2 ∧ p + 1 < w2.heap.size := by
  obtain ⟨h0, h1, h2, h3, h4, h5, h6, h7, hbe, hz⟩ := h
  obtain ⟨hc, _⟩ := bcell hb
  have hz2 := hb.size
  exact ⟨(hc _ _ (by omega)).trans h0, (hc _ _ (by omega)).trans h1, (hc _ _ (by omega)).trans h2, (hc _ _ (by omega)).trans h3, (hc _ _ (by omega)).trans h4, (hc _ _ (by omega)).trans h5, (hc _ _ (by omega)).trans h6, (hc _ _ (by omega)).trans h7, hbe.trans (hb.mono (by omega)), by omega⟩
theorem trio_next {w w1 w2 : World} {p q : Nat} {a0 a1 b0 b1 : Int} {s t : ByteArray} {x y : Nat}
    (h : w1.cell? ⟨p, 0, none⟩ = some (.int .i64 a0) ∧ w1.cell? ⟨p, 1, none⟩ = some (.int .i64 a1) ∧ w1.cell? ⟨p, 2, none⟩ = some (.string s) ∧ w1.cell? ⟨p, 3, none⟩ = some (.float .f64 x) ∧ w1.cell? ⟨p + 1, 0, none⟩ = some (.int .i64 b0) ∧ w1.cell? ⟨p + 1, 1, none⟩ = some (.int .i64 b1) ∧ w1.cell? ⟨p + 1, 2, none⟩ = some (.string t) ∧ w1.cell? ⟨p + 1, 3, none⟩ = some (.float .f64 y) ∧ w1.cell? ⟨q, 0, none⟩ = some (.int .i64 a0) ∧ w1.cell? ⟨q, 1, none⟩ = some (.int .i64 b1) ∧ w1.cell? ⟨q, 2, none⟩ = some (.string t) ∧ w1.cell? ⟨q, 3, none⟩ = some (.float .f64 x) ∧ Below p w w1 ∧ p + 1 < w1.heap.size ∧ q < w1.heap.size) (hb : Below w1.heap.size w1 w2) : w2.cell? ⟨p, 0, none⟩ = some (.int .i64 a0) ∧ w2.cell? ⟨p, 1, none⟩ = some (.int .i64 a1) ∧ w2.cell? ⟨p, 2, none⟩ = some (.string s) ∧ w2.cell? ⟨p, 3, none⟩ = some (.float .f64 x) ∧ w2.cell? ⟨p + 1, 0, none⟩ = some (.int .i64 b0) ∧ w2.cell? ⟨p + 1, 1, none⟩ = some (.int .i64 b1) ∧ w2.cell? ⟨p + 1, 2, none⟩ = some (.string t) ∧ w2.cell? ⟨p + 1, 3, none⟩ = some (.float .f64 y) ∧ w2.cell? ⟨q, 0, none⟩ = some (.int .i64 a0) ∧ w2.cell? ⟨q, 1, none⟩ = some (.int .i64 b1) ∧ w2.cell? ⟨q, 2, none⟩ = some (.string t) ∧ w2.cell? ⟨q, 3, none⟩ = some (.float .f64 x) ∧ Below p w w2 ∧ p + 1 < w2.heap.size ∧ q < w2.heap.size := by
  obtain ⟨h0, h1, h2, h3, h4, h5, h6, h7, h8, h9, h10, h11, hbe, hz, hq⟩ := h
  obtain ⟨hc, _⟩ := bcell hb
  have hz2 := hb.size
  exact ⟨(hc _ _ (by omega)).trans h0, (hc _ _ (by omega)).trans h1, (hc _ _ (by omega)).trans h2, (hc _ _ (by omega)).trans h3, (hc _ _ (by omega)).trans h4, (hc _ _ (by omega)).trans h5, (hc _ _ (by omega)).trans h6, (hc _ _ (by omega)).trans h7, (hc _ _ (by omega)).trans h8, (hc _ _ (by omega)).trans h9, (hc _ _ (by omega)).trans h10, (hc _ _ (by omega)).trans h11, hbe.trans (hb.mono (by omega)), by omega, by omega⟩
set_option maxRecDepth 100000 in
set_option maxHeartbeats 16000000 in
theorem same_walk (a0 a1 b0 b1 : Int) (s t : ByteArray) (x y : Nat) (w : World) (hx : x < 2 * S) (hy : y < 2 * S) :
    Calls Try.prog 9 #[.agg #[.int .i64 a0, .int .i64 a1, .string s, .float .f64 x], .agg #[.int .i64 b0, .int .i64 b1, .string t, .float .f64 y]] w fun e w' => e = .returned (.bool true) ∧ Below w.heap.size w w' := by
  by_cases hs : 200 < s.size
  · have hs' : (200 : Int) < (s.size : Int) := by omega
    clear hs
    go_enter Try.func9, Try.ntmps9
    go_wp2_with fail
    refine (live_any _).mono ?_
    rintro e w1 ⟨rfl, hb⟩
    go_wp2_with fail
    go_ret
    exact ⟨rfl, ((Below.refl _ _).alloc (Nat.le_refl _) _ |>.alloc (by simp) _).trans (hb.mono (by simp; omega))⟩
  · have hs' : (s.size : Int) ≤ 200 := by omega
    by_cases ht : 200 < t.size
    · have ht' : (200 : Int) < (t.size : Int) := by omega
      clear hs ht
      go_enter Try.func9, Try.ntmps9
      go_wp2_with fail
      refine (live_any _).mono ?_
      rintro e w1 ⟨rfl, hb⟩
      go_wp2_with fail
      go_ret
      exact ⟨rfl, ((Below.refl _ _).alloc (Nat.le_refl _) _ |>.alloc (by simp) _).trans (hb.mono (by simp; omega))⟩
    · have ht' : (t.size : Int) ≤ 200 := by omega
      clear hs ht
      have HAB := Lib.hid (fun (i j : Int) s t w => less_any a0 i b0 j s t x y w hx hy)
      have HBA := Lib.hid (fun (i j : Int) s t w => less_any b0 i a0 j s t y x w hy hx)
      have HAA := Lib.hid (fun (i j : Int) s t w => less_any a0 i a0 j s t x x w hx hx)
      have HC := Lib.hid (fun w => compare_any x y w hx hy)
      rw [lessB_eq, decide_eq_false (by omega)] at HAA
      clear hx hy
      rcases Nat.lt_trichotomy (keyN x) (keyN y) with h | h | h
      · rw [lessB_lt h] at HAB
        rw [lessB_gt h] at HBA
        rw [cmpN_lt h] at HC
        clear h
        cases he : (a0 == b0)
        · go_enter Try.func9, Try.ntmps9
          go_wp2_with fail
          obtain ⟨p, hp⟩ : ∃ p, w.heap.size = p := ⟨_, rfl⟩
          obtain ⟨W, hW⟩ : ∃ W, (w.alloc (.cells #[.int .i64 a0, .int .i64 a1, .string s, .float .f64 x] 33)).alloc (.cells #[.int .i64 b0, .int .i64 b1, .string t, .float .f64 y] 33) = W := ⟨_, rfl⟩
          have hK : W.cell? ⟨p, 0, none⟩ = some (.int .i64 a0) ∧ W.cell? ⟨p, 1, none⟩ = some (.int .i64 a1) ∧ W.cell? ⟨p, 2, none⟩ = some (.string s) ∧ W.cell? ⟨p, 3, none⟩ = some (.float .f64 x) ∧ W.cell? ⟨p + 1, 0, none⟩ = some (.int .i64 b0) ∧ W.cell? ⟨p + 1, 1, none⟩ = some (.int .i64 b1) ∧ W.cell? ⟨p + 1, 2, none⟩ = some (.string t) ∧ W.cell? ⟨p + 1, 3, none⟩ = some (.float .f64 y) ∧ Below p w W ∧ p + 1 < W.heap.size := by
            rw [← hW, ← hp]
            exact ⟨by simp [go_sem], by simp [go_sem], by simp [go_sem], by simp [go_sem], by simp [go_sem], by simp [go_sem], by simp [go_sem], by simp [go_sem], ((Below.refl _ _).alloc (Nat.le_refl _) _ |>.alloc (by simp) _), by simp⟩
          rw [hW, hp]
          clear hW
          replace hp := Lib.hid hp
          refine (HAB.out _ _ _ _ _).mono ?_
          rintro e w1 ⟨rfl, hb⟩
          replace hK := pair_next hK hb
          clear hb
          obtain ⟨k0, k1, k2, k3, k4, k5, k6, k7, kb, kz⟩ := hK
          go_wp2_with fail
          refine (HBA.out _ _ _ _ _).mono ?_
          rintro e w2 ⟨rfl, hb⟩
          have hK := pair_next ⟨k0, k1, k2, k3, k4, k5, k6, k7, kb, kz⟩ hb
          clear hb k0 k1 k2 k3 k4 k5 k6 k7 kb kz
          obtain ⟨k0, k1, k2, k3, k4, k5, k6, k7, kb, kz⟩ := hK
          go_wp2_with fail
          have hN := pair_next (w2 := w2.alloc (.cells #[.int .i64 a0, .int .i64 b1, .string t, .float .f64 x] 33)) ⟨k0, k1, k2, k3, k4, k5, k6, k7, kb, kz⟩ ((Below.refl _ _).alloc (Nat.le_refl _) _)
          have hK : (w2.alloc (.cells #[.int .i64 a0, .int .i64 b1, .string t, .float .f64 x] 33)).cell? ⟨p, 0, none⟩ = some (.int .i64 a0) ∧ (w2.alloc (.cells #[.int .i64 a0, .int .i64 b1, .string t, .float .f64 x] 33)).cell? ⟨p, 1, none⟩ = some (.int .i64 a1) ∧ (w2.alloc (.cells #[.int .i64 a0, .int .i64 b1, .string t, .float .f64 x] 33)).cell? ⟨p, 2, none⟩ = some (.string s) ∧ (w2.alloc (.cells #[.int .i64 a0, .int .i64 b1, .string t, .float .f64 x] 33)).cell? ⟨p, 3, none⟩ = some (.float .f64 x) ∧ (w2.alloc (.cells #[.int .i64 a0, .int .i64 b1, .string t, .float .f64 x] 33)).cell? ⟨p + 1, 0, none⟩ = some (.int .i64 b0) ∧ (w2.alloc (.cells #[.int .i64 a0, .int .i64 b1, .string t, .float .f64 x] 33)).cell? ⟨p + 1, 1, none⟩ = some (.int .i64 b1) ∧ (w2.alloc (.cells #[.int .i64 a0, .int .i64 b1, .string t, .float .f64 x] 33)).cell? ⟨p + 1, 2, none⟩ = some (.string t) ∧ (w2.alloc (.cells #[.int .i64 a0, .int .i64 b1, .string t, .float .f64 x] 33)).cell? ⟨p + 1, 3, none⟩ = some (.float .f64 y) ∧ (w2.alloc (.cells #[.int .i64 a0, .int .i64 b1, .string t, .float .f64 x] 33)).cell? ⟨w2.heap.size, 0, none⟩ = some (.int .i64 a0) ∧ (w2.alloc (.cells #[.int .i64 a0, .int .i64 b1, .string t, .float .f64 x] 33)).cell? ⟨w2.heap.size, 1, none⟩ = some (.int .i64 b1) ∧ (w2.alloc (.cells #[.int .i64 a0, .int .i64 b1, .string t, .float .f64 x] 33)).cell? ⟨w2.heap.size, 2, none⟩ = some (.string t) ∧ (w2.alloc (.cells #[.int .i64 a0, .int .i64 b1, .string t, .float .f64 x] 33)).cell? ⟨w2.heap.size, 3, none⟩ = some (.float .f64 x) ∧ Below p w (w2.alloc (.cells #[.int .i64 a0, .int .i64 b1, .string t, .float .f64 x] 33)) ∧ p + 1 < (w2.alloc (.cells #[.int .i64 a0, .int .i64 b1, .string t, .float .f64 x] 33)).heap.size ∧ w2.heap.size < (w2.alloc (.cells #[.int .i64 a0, .int .i64 b1, .string t, .float .f64 x] 33)).heap.size := by
            obtain ⟨n0, n1, n2, n3, n4, n5, n6, n7, nb, nz⟩ := hN
            exact ⟨n0, n1, n2, n3, n4, n5, n6, n7, by simp [go_sem], by simp [go_sem], by simp [go_sem], by simp [go_sem], nb, nz, by simp⟩
          clear hN
          clear k0 k1 k2 k3 k4 k5 k6 k7 kb kz
          generalize w2.heap.size = q at *
          generalize w2.alloc (.cells #[.int .i64 a0, .int .i64 b1, .string t, .float .f64 x] 33) = W2 at *
          refine (HAB.out _ _ _ _ _).mono ?_
          rintro e w3 ⟨rfl, hb⟩
          replace hK := trio_next hK hb
          clear hb
          obtain ⟨k0, k1, k2, k3, k4, k5, k6, k7, k8, k9, k10, k11, kb, kz, kq⟩ := hK
          go_wp2_with fail
          have hK := And.intro k0 (And.intro k1 (And.intro k2 (And.intro k3 (And.intro k4 (And.intro k5 (And.intro k6 (And.intro k7 (And.intro k8 (And.intro k9 (And.intro k10 (And.intro k11 (And.intro kb (And.intro kz kq)))))))))))))
          clear k0 k1 k2 k3 k4 k5 k6 k7 k8 k9 k10 k11 kb kz kq
          refine (HBA.out _ _ _ _ _).mono ?_
          rintro e w3 ⟨rfl, hb⟩
          replace hK := trio_next hK hb
          clear hb
          obtain ⟨k0, k1, k2, k3, k4, k5, k6, k7, k8, k9, k10, k11, kb, kz, kq⟩ := hK
          go_wp2_with fail
          have hK := And.intro k0 (And.intro k1 (And.intro k2 (And.intro k3 (And.intro k4 (And.intro k5 (And.intro k6 (And.intro k7 (And.intro k8 (And.intro k9 (And.intro k10 (And.intro k11 (And.intro kb (And.intro kz kq)))))))))))))
          clear k0 k1 k2 k3 k4 k5 k6 k7 k8 k9 k10 k11 kb kz kq
          refine (HAA.out _ _ _ _ _).mono ?_
          rintro e w3 ⟨rfl, hb⟩
          replace hK := trio_next hK hb
          clear hb
          obtain ⟨k0, k1, k2, k3, k4, k5, k6, k7, k8, k9, k10, k11, kb, kz, kq⟩ := hK
          go_wp2_with fail
          have hK := And.intro k0 (And.intro k1 (And.intro k2 (And.intro k3 (And.intro k4 (And.intro k5 (And.intro k6 (And.intro k7 (And.intro k8 (And.intro k9 (And.intro k10 (And.intro k11 (And.intro kb (And.intro kz kq)))))))))))))
          clear k0 k1 k2 k3 k4 k5 k6 k7 k8 k9 k10 k11 kb kz kq
          refine (live_any _).mono ?_
          rintro e w4 ⟨rfl, hb⟩
          replace hK := trio_next hK hb
          go_wp2_with fail
          go_ret
          exact ⟨rfl, by rw [hp.out]; exact hK.2.2.2.2.2.2.2.2.2.2.2.2.1⟩
        · go_enter Try.func9, Try.ntmps9
          go_wp2_with fail
          obtain ⟨p, hp⟩ : ∃ p, w.heap.size = p := ⟨_, rfl⟩
          obtain ⟨W, hW⟩ : ∃ W, (w.alloc (.cells #[.int .i64 a0, .int .i64 a1, .string s, .float .f64 x] 33)).alloc (.cells #[.int .i64 b0, .int .i64 b1, .string t, .float .f64 y] 33) = W := ⟨_, rfl⟩
          have hK : W.cell? ⟨p, 0, none⟩ = some (.int .i64 a0) ∧ W.cell? ⟨p, 1, none⟩ = some (.int .i64 a1) ∧ W.cell? ⟨p, 2, none⟩ = some (.string s) ∧ W.cell? ⟨p, 3, none⟩ = some (.float .f64 x) ∧ W.cell? ⟨p + 1, 0, none⟩ = some (.int .i64 b0) ∧ W.cell? ⟨p + 1, 1, none⟩ = some (.int .i64 b1) ∧ W.cell? ⟨p + 1, 2, none⟩ = some (.string t) ∧ W.cell? ⟨p + 1, 3, none⟩ = some (.float .f64 y) ∧ Below p w W ∧ p + 1 < W.heap.size := by
            rw [← hW, ← hp]
            exact ⟨by simp [go_sem], by simp [go_sem], by simp [go_sem], by simp [go_sem], by simp [go_sem], by simp [go_sem], by simp [go_sem], by simp [go_sem], ((Below.refl _ _).alloc (Nat.le_refl _) _ |>.alloc (by simp) _), by simp⟩
          rw [hW, hp]
          clear hW
          replace hp := Lib.hid hp
          refine (HAB.out _ _ _ _ _).mono ?_
          rintro e w1 ⟨rfl, hb⟩
          replace hK := pair_next hK hb
          clear hb
          obtain ⟨k0, k1, k2, k3, k4, k5, k6, k7, kb, kz⟩ := hK
          go_wp2_with fail
          refine (HBA.out _ _ _ _ _).mono ?_
          rintro e w2 ⟨rfl, hb⟩
          have hK := pair_next ⟨k0, k1, k2, k3, k4, k5, k6, k7, kb, kz⟩ hb
          clear hb k0 k1 k2 k3 k4 k5 k6 k7 kb kz
          obtain ⟨k0, k1, k2, k3, k4, k5, k6, k7, kb, kz⟩ := hK
          go_wp2_with fail
          have hN := pair_next (w2 := w2.alloc (.cells #[.int .i64 a0, .int .i64 b1, .string t, .float .f64 x] 33)) ⟨k0, k1, k2, k3, k4, k5, k6, k7, kb, kz⟩ ((Below.refl _ _).alloc (Nat.le_refl _) _)
          have hK : (w2.alloc (.cells #[.int .i64 a0, .int .i64 b1, .string t, .float .f64 x] 33)).cell? ⟨p, 0, none⟩ = some (.int .i64 a0) ∧ (w2.alloc (.cells #[.int .i64 a0, .int .i64 b1, .string t, .float .f64 x] 33)).cell? ⟨p, 1, none⟩ = some (.int .i64 a1) ∧ (w2.alloc (.cells #[.int .i64 a0, .int .i64 b1, .string t, .float .f64 x] 33)).cell? ⟨p, 2, none⟩ = some (.string s) ∧ (w2.alloc (.cells #[.int .i64 a0, .int .i64 b1, .string t, .float .f64 x] 33)).cell? ⟨p, 3, none⟩ = some (.float .f64 x) ∧ (w2.alloc (.cells #[.int .i64 a0, .int .i64 b1, .string t, .float .f64 x] 33)).cell? ⟨p + 1, 0, none⟩ = some (.int .i64 b0) ∧ (w2.alloc (.cells #[.int .i64 a0, .int .i64 b1, .string t, .float .f64 x] 33)).cell? ⟨p + 1, 1, none⟩ = some (.int .i64 b1) ∧ (w2.alloc (.cells #[.int .i64 a0, .int .i64 b1, .string t, .float .f64 x] 33)).cell? ⟨p + 1, 2, none⟩ = some (.string t) ∧ (w2.alloc (.cells #[.int .i64 a0, .int .i64 b1, .string t, .float .f64 x] 33)).cell? ⟨p + 1, 3, none⟩ = some (.float .f64 y) ∧ (w2.alloc (.cells #[.int .i64 a0, .int .i64 b1, .string t, .float .f64 x] 33)).cell? ⟨w2.heap.size, 0, none⟩ = some (.int .i64 a0) ∧ (w2.alloc (.cells #[.int .i64 a0, .int .i64 b1, .string t, .float .f64 x] 33)).cell? ⟨w2.heap.size, 1, none⟩ = some (.int .i64 b1) ∧ (w2.alloc (.cells #[.int .i64 a0, .int .i64 b1, .string t, .float .f64 x] 33)).cell? ⟨w2.heap.size, 2, none⟩ = some (.string t) ∧ (w2.alloc (.cells #[.int .i64 a0, .int .i64 b1, .string t, .float .f64 x] 33)).cell? ⟨w2.heap.size, 3, none⟩ = some (.float .f64 x) ∧ Below p w (w2.alloc (.cells #[.int .i64 a0, .int .i64 b1, .string t, .float .f64 x] 33)) ∧ p + 1 < (w2.alloc (.cells #[.int .i64 a0, .int .i64 b1, .string t, .float .f64 x] 33)).heap.size ∧ w2.heap.size < (w2.alloc (.cells #[.int .i64 a0, .int .i64 b1, .string t, .float .f64 x] 33)).heap.size := by
            obtain ⟨n0, n1, n2, n3, n4, n5, n6, n7, nb, nz⟩ := hN
            exact ⟨n0, n1, n2, n3, n4, n5, n6, n7, by simp [go_sem], by simp [go_sem], by simp [go_sem], by simp [go_sem], nb, nz, by simp⟩
          clear hN
          clear k0 k1 k2 k3 k4 k5 k6 k7 kb kz
          generalize w2.heap.size = q at *
          generalize w2.alloc (.cells #[.int .i64 a0, .int .i64 b1, .string t, .float .f64 x] 33) = W2 at *
          refine (HAB.out _ _ _ _ _).mono ?_
          rintro e w3 ⟨rfl, hb⟩
          replace hK := trio_next hK hb
          clear hb
          obtain ⟨k0, k1, k2, k3, k4, k5, k6, k7, k8, k9, k10, k11, kb, kz, kq⟩ := hK
          go_wp2_with fail
          have hK := And.intro k0 (And.intro k1 (And.intro k2 (And.intro k3 (And.intro k4 (And.intro k5 (And.intro k6 (And.intro k7 (And.intro k8 (And.intro k9 (And.intro k10 (And.intro k11 (And.intro kb (And.intro kz kq)))))))))))))
          clear k0 k1 k2 k3 k4 k5 k6 k7 k8 k9 k10 k11 kb kz kq
          refine (HBA.out _ _ _ _ _).mono ?_
          rintro e w3 ⟨rfl, hb⟩
          replace hK := trio_next hK hb
          clear hb
          obtain ⟨k0, k1, k2, k3, k4, k5, k6, k7, k8, k9, k10, k11, kb, kz, kq⟩ := hK
          go_wp2_with fail
          have hK := And.intro k0 (And.intro k1 (And.intro k2 (And.intro k3 (And.intro k4 (And.intro k5 (And.intro k6 (And.intro k7 (And.intro k8 (And.intro k9 (And.intro k10 (And.intro k11 (And.intro kb (And.intro kz kq)))))))))))))
          clear k0 k1 k2 k3 k4 k5 k6 k7 k8 k9 k10 k11 kb kz kq
          refine (HAA.out _ _ _ _ _).mono ?_
          rintro e w3 ⟨rfl, hb⟩
          replace hK := trio_next hK hb
          clear hb
          obtain ⟨k0, k1, k2, k3, k4, k5, k6, k7, k8, k9, k10, k11, kb, kz, kq⟩ := hK
          go_wp2_with fail
          have hK := And.intro k0 (And.intro k1 (And.intro k2 (And.intro k3 (And.intro k4 (And.intro k5 (And.intro k6 (And.intro k7 (And.intro k8 (And.intro k9 (And.intro k10 (And.intro k11 (And.intro kb (And.intro kz kq)))))))))))))
          clear k0 k1 k2 k3 k4 k5 k6 k7 k8 k9 k10 k11 kb kz kq
          refine (HC.out _).mono ?_
          rintro e w3 ⟨rfl, hb⟩
          replace hK := trio_next hK hb
          clear hb
          obtain ⟨k0, k1, k2, k3, k4, k5, k6, k7, k8, k9, k10, k11, kb, kz, kq⟩ := hK
          go_wp2_with fail
          have hK := And.intro k0 (And.intro k1 (And.intro k2 (And.intro k3 (And.intro k4 (And.intro k5 (And.intro k6 (And.intro k7 (And.intro k8 (And.intro k9 (And.intro k10 (And.intro k11 (And.intro kb (And.intro kz kq)))))))))))))
          clear k0 k1 k2 k3 k4 k5 k6 k7 k8 k9 k10 k11 kb kz kq
          refine (live_any _).mono ?_
          rintro e w4 ⟨rfl, hb⟩
          replace hK := trio_next hK hb
          go_wp2_with fail
          go_ret
          exact ⟨rfl, by rw [hp.out]; exact hK.2.2.2.2.2.2.2.2.2.2.2.2.1⟩
      · rw [h, lessB_eq] at HAB HBA
        rw [h, cmpN_eq] at HC
        clear h
        rcases Int.lt_trichotomy a0 b0 with h | rfl | h
        · rw [decide_eq_true h] at HAB
          rw [decide_eq_false (by omega)] at HBA
          have he : (a0 == b0) = false := by rw [beq_eq_false_iff_ne]; omega
          clear h
          go_enter Try.func9, Try.ntmps9
          go_wp2_with fail
          obtain ⟨p, hp⟩ : ∃ p, w.heap.size = p := ⟨_, rfl⟩
          obtain ⟨W, hW⟩ : ∃ W, (w.alloc (.cells #[.int .i64 a0, .int .i64 a1, .string s, .float .f64 x] 33)).alloc (.cells #[.int .i64 b0, .int .i64 b1, .string t, .float .f64 y] 33) = W := ⟨_, rfl⟩
          have hK : W.cell? ⟨p, 0, none⟩ = some (.int .i64 a0) ∧ W.cell? ⟨p, 1, none⟩ = some (.int .i64 a1) ∧ W.cell? ⟨p, 2, none⟩ = some (.string s) ∧ W.cell? ⟨p, 3, none⟩ = some (.float .f64 x) ∧ W.cell? ⟨p + 1, 0, none⟩ = some (.int .i64 b0) ∧ W.cell? ⟨p + 1, 1, none⟩ = some (.int .i64 b1) ∧ W.cell? ⟨p + 1, 2, none⟩ = some (.string t) ∧ W.cell? ⟨p + 1, 3, none⟩ = some (.float .f64 y) ∧ Below p w W ∧ p + 1 < W.heap.size := by
            rw [← hW, ← hp]
            exact ⟨by simp [go_sem], by simp [go_sem], by simp [go_sem], by simp [go_sem], by simp [go_sem], by simp [go_sem], by simp [go_sem], by simp [go_sem], ((Below.refl _ _).alloc (Nat.le_refl _) _ |>.alloc (by simp) _), by simp⟩
          rw [hW, hp]
          clear hW
          replace hp := Lib.hid hp
          refine (HAB.out _ _ _ _ _).mono ?_
          rintro e w1 ⟨rfl, hb⟩
          replace hK := pair_next hK hb
          clear hb
          obtain ⟨k0, k1, k2, k3, k4, k5, k6, k7, kb, kz⟩ := hK
          go_wp2_with fail
          refine (HBA.out _ _ _ _ _).mono ?_
          rintro e w2 ⟨rfl, hb⟩
          have hK := pair_next ⟨k0, k1, k2, k3, k4, k5, k6, k7, kb, kz⟩ hb
          clear hb k0 k1 k2 k3 k4 k5 k6 k7 kb kz
          obtain ⟨k0, k1, k2, k3, k4, k5, k6, k7, kb, kz⟩ := hK
          go_wp2_with fail
          have hN := pair_next (w2 := w2.alloc (.cells #[.int .i64 a0, .int .i64 b1, .string t, .float .f64 x] 33)) ⟨k0, k1, k2, k3, k4, k5, k6, k7, kb, kz⟩ ((Below.refl _ _).alloc (Nat.le_refl _) _)
          have hK : (w2.alloc (.cells #[.int .i64 a0, .int .i64 b1, .string t, .float .f64 x] 33)).cell? ⟨p, 0, none⟩ = some (.int .i64 a0) ∧ (w2.alloc (.cells #[.int .i64 a0, .int .i64 b1, .string t, .float .f64 x] 33)).cell? ⟨p, 1, none⟩ = some (.int .i64 a1) ∧ (w2.alloc (.cells #[.int .i64 a0, .int .i64 b1, .string t, .float .f64 x] 33)).cell? ⟨p, 2, none⟩ = some (.string s) ∧ (w2.alloc (.cells #[.int .i64 a0, .int .i64 b1, .string t, .float .f64 x] 33)).cell? ⟨p, 3, none⟩ = some (.float .f64 x) ∧ (w2.alloc (.cells #[.int .i64 a0, .int .i64 b1, .string t, .float .f64 x] 33)).cell? ⟨p + 1, 0, none⟩ = some (.int .i64 b0) ∧ (w2.alloc (.cells #[.int .i64 a0, .int .i64 b1, .string t, .float .f64 x] 33)).cell? ⟨p + 1, 1, none⟩ = some (.int .i64 b1) ∧ (w2.alloc (.cells #[.int .i64 a0, .int .i64 b1, .string t, .float .f64 x] 33)).cell? ⟨p + 1, 2, none⟩ = some (.string t) ∧ (w2.alloc (.cells #[.int .i64 a0, .int .i64 b1, .string t, .float .f64 x] 33)).cell? ⟨p + 1, 3, none⟩ = some (.float .f64 y) ∧ (w2.alloc (.cells #[.int .i64 a0, .int .i64 b1, .string t, .float .f64 x] 33)).cell? ⟨w2.heap.size, 0, none⟩ = some (.int .i64 a0) ∧ (w2.alloc (.cells #[.int .i64 a0, .int .i64 b1, .string t, .float .f64 x] 33)).cell? ⟨w2.heap.size, 1, none⟩ = some (.int .i64 b1) ∧ (w2.alloc (.cells #[.int .i64 a0, .int .i64 b1, .string t, .float .f64 x] 33)).cell? ⟨w2.heap.size, 2, none⟩ = some (.string t) ∧ (w2.alloc (.cells #[.int .i64 a0, .int .i64 b1, .string t, .float .f64 x] 33)).cell? ⟨w2.heap.size, 3, none⟩ = some (.float .f64 x) ∧ Below p w (w2.alloc (.cells #[.int .i64 a0, .int .i64 b1, .string t, .float .f64 x] 33)) ∧ p + 1 < (w2.alloc (.cells #[.int .i64 a0, .int .i64 b1, .string t, .float .f64 x] 33)).heap.size ∧ w2.heap.size < (w2.alloc (.cells #[.int .i64 a0, .int .i64 b1, .string t, .float .f64 x] 33)).heap.size := by
            obtain ⟨n0, n1, n2, n3, n4, n5, n6, n7, nb, nz⟩ := hN
            exact ⟨n0, n1, n2, n3, n4, n5, n6, n7, by simp [go_sem], by simp [go_sem], by simp [go_sem], by simp [go_sem], nb, nz, by simp⟩
          clear hN
          clear k0 k1 k2 k3 k4 k5 k6 k7 kb kz
          generalize w2.heap.size = q at *
          generalize w2.alloc (.cells #[.int .i64 a0, .int .i64 b1, .string t, .float .f64 x] 33) = W2 at *
          refine (HAB.out _ _ _ _ _).mono ?_
          rintro e w3 ⟨rfl, hb⟩
          replace hK := trio_next hK hb
          clear hb
          obtain ⟨k0, k1, k2, k3, k4, k5, k6, k7, k8, k9, k10, k11, kb, kz, kq⟩ := hK
          go_wp2_with fail
          have hK := And.intro k0 (And.intro k1 (And.intro k2 (And.intro k3 (And.intro k4 (And.intro k5 (And.intro k6 (And.intro k7 (And.intro k8 (And.intro k9 (And.intro k10 (And.intro k11 (And.intro kb (And.intro kz kq)))))))))))))
          clear k0 k1 k2 k3 k4 k5 k6 k7 k8 k9 k10 k11 kb kz kq
          refine (HBA.out _ _ _ _ _).mono ?_
          rintro e w3 ⟨rfl, hb⟩
          replace hK := trio_next hK hb
          clear hb
          obtain ⟨k0, k1, k2, k3, k4, k5, k6, k7, k8, k9, k10, k11, kb, kz, kq⟩ := hK
          go_wp2_with fail
          have hK := And.intro k0 (And.intro k1 (And.intro k2 (And.intro k3 (And.intro k4 (And.intro k5 (And.intro k6 (And.intro k7 (And.intro k8 (And.intro k9 (And.intro k10 (And.intro k11 (And.intro kb (And.intro kz kq)))))))))))))
          clear k0 k1 k2 k3 k4 k5 k6 k7 k8 k9 k10 k11 kb kz kq
          refine (HAA.out _ _ _ _ _).mono ?_
          rintro e w3 ⟨rfl, hb⟩
          replace hK := trio_next hK hb
          clear hb
          obtain ⟨k0, k1, k2, k3, k4, k5, k6, k7, k8, k9, k10, k11, kb, kz, kq⟩ := hK
          go_wp2_with fail
          have hK := And.intro k0 (And.intro k1 (And.intro k2 (And.intro k3 (And.intro k4 (And.intro k5 (And.intro k6 (And.intro k7 (And.intro k8 (And.intro k9 (And.intro k10 (And.intro k11 (And.intro kb (And.intro kz kq)))))))))))))
          clear k0 k1 k2 k3 k4 k5 k6 k7 k8 k9 k10 k11 kb kz kq
          refine (live_any _).mono ?_
          rintro e w4 ⟨rfl, hb⟩
          replace hK := trio_next hK hb
          go_wp2_with fail
          go_ret
          exact ⟨rfl, by rw [hp.out]; exact hK.2.2.2.2.2.2.2.2.2.2.2.2.1⟩
        · rw [decide_eq_false (by omega)] at HAB HBA
          have he : (a0 == a0) = true := beq_self_eq_true a0
          go_enter Try.func9, Try.ntmps9
          go_wp2_with fail
          obtain ⟨p, hp⟩ : ∃ p, w.heap.size = p := ⟨_, rfl⟩
          obtain ⟨W, hW⟩ : ∃ W, (w.alloc (.cells #[.int .i64 a0, .int .i64 a1, .string s, .float .f64 x] 33)).alloc (.cells #[.int .i64 a0, .int .i64 b1, .string t, .float .f64 y] 33) = W := ⟨_, rfl⟩
          have hK : W.cell? ⟨p, 0, none⟩ = some (.int .i64 a0) ∧ W.cell? ⟨p, 1, none⟩ = some (.int .i64 a1) ∧ W.cell? ⟨p, 2, none⟩ = some (.string s) ∧ W.cell? ⟨p, 3, none⟩ = some (.float .f64 x) ∧ W.cell? ⟨p + 1, 0, none⟩ = some (.int .i64 a0) ∧ W.cell? ⟨p + 1, 1, none⟩ = some (.int .i64 b1) ∧ W.cell? ⟨p + 1, 2, none⟩ = some (.string t) ∧ W.cell? ⟨p + 1, 3, none⟩ = some (.float .f64 y) ∧ Below p w W ∧ p + 1 < W.heap.size := by
            rw [← hW, ← hp]
            exact ⟨by simp [go_sem], by simp [go_sem], by simp [go_sem], by simp [go_sem], by simp [go_sem], by simp [go_sem], by simp [go_sem], by simp [go_sem], ((Below.refl _ _).alloc (Nat.le_refl _) _ |>.alloc (by simp) _), by simp⟩
          rw [hW, hp]
          clear hW
          replace hp := Lib.hid hp
          refine (HAB.out _ _ _ _ _).mono ?_
          rintro e w1 ⟨rfl, hb⟩
          replace hK := pair_next hK hb
          clear hb
          obtain ⟨k0, k1, k2, k3, k4, k5, k6, k7, kb, kz⟩ := hK
          go_wp2_with fail
          refine (HBA.out _ _ _ _ _).mono ?_
          rintro e w2 ⟨rfl, hb⟩
          have hK := pair_next ⟨k0, k1, k2, k3, k4, k5, k6, k7, kb, kz⟩ hb
          clear hb k0 k1 k2 k3 k4 k5 k6 k7 kb kz
          obtain ⟨k0, k1, k2, k3, k4, k5, k6, k7, kb, kz⟩ := hK
          go_wp2_with fail
          have hN := pair_next (w2 := w2.alloc (.cells #[.int .i64 a0, .int .i64 b1, .string t, .float .f64 x] 33)) ⟨k0, k1, k2, k3, k4, k5, k6, k7, kb, kz⟩ ((Below.refl _ _).alloc (Nat.le_refl _) _)
          have hK : (w2.alloc (.cells #[.int .i64 a0, .int .i64 b1, .string t, .float .f64 x] 33)).cell? ⟨p, 0, none⟩ = some (.int .i64 a0) ∧ (w2.alloc (.cells #[.int .i64 a0, .int .i64 b1, .string t, .float .f64 x] 33)).cell? ⟨p, 1, none⟩ = some (.int .i64 a1) ∧ (w2.alloc (.cells #[.int .i64 a0, .int .i64 b1, .string t, .float .f64 x] 33)).cell? ⟨p, 2, none⟩ = some (.string s) ∧ (w2.alloc (.cells #[.int .i64 a0, .int .i64 b1, .string t, .float .f64 x] 33)).cell? ⟨p, 3, none⟩ = some (.float .f64 x) ∧ (w2.alloc (.cells #[.int .i64 a0, .int .i64 b1, .string t, .float .f64 x] 33)).cell? ⟨p + 1, 0, none⟩ = some (.int .i64 a0) ∧ (w2.alloc (.cells #[.int .i64 a0, .int .i64 b1, .string t, .float .f64 x] 33)).cell? ⟨p + 1, 1, none⟩ = some (.int .i64 b1) ∧ (w2.alloc (.cells #[.int .i64 a0, .int .i64 b1, .string t, .float .f64 x] 33)).cell? ⟨p + 1, 2, none⟩ = some (.string t) ∧ (w2.alloc (.cells #[.int .i64 a0, .int .i64 b1, .string t, .float .f64 x] 33)).cell? ⟨p + 1, 3, none⟩ = some (.float .f64 y) ∧ (w2.alloc (.cells #[.int .i64 a0, .int .i64 b1, .string t, .float .f64 x] 33)).cell? ⟨w2.heap.size, 0, none⟩ = some (.int .i64 a0) ∧ (w2.alloc (.cells #[.int .i64 a0, .int .i64 b1, .string t, .float .f64 x] 33)).cell? ⟨w2.heap.size, 1, none⟩ = some (.int .i64 b1) ∧ (w2.alloc (.cells #[.int .i64 a0, .int .i64 b1, .string t, .float .f64 x] 33)).cell? ⟨w2.heap.size, 2, none⟩ = some (.string t) ∧ (w2.alloc (.cells #[.int .i64 a0, .int .i64 b1, .string t, .float .f64 x] 33)).cell? ⟨w2.heap.size, 3, none⟩ = some (.float .f64 x) ∧ Below p w (w2.alloc (.cells #[.int .i64 a0, .int .i64 b1, .string t, .float .f64 x] 33)) ∧ p + 1 < (w2.alloc (.cells #[.int .i64 a0, .int .i64 b1, .string t, .float .f64 x] 33)).heap.size ∧ w2.heap.size < (w2.alloc (.cells #[.int .i64 a0, .int .i64 b1, .string t, .float .f64 x] 33)).heap.size := by
            obtain ⟨n0, n1, n2, n3, n4, n5, n6, n7, nb, nz⟩ := hN
            exact ⟨n0, n1, n2, n3, n4, n5, n6, n7, by simp [go_sem], by simp [go_sem], by simp [go_sem], by simp [go_sem], nb, nz, by simp⟩
          clear hN
          clear k0 k1 k2 k3 k4 k5 k6 k7 kb kz
          generalize w2.heap.size = q at *
          generalize w2.alloc (.cells #[.int .i64 a0, .int .i64 b1, .string t, .float .f64 x] 33) = W2 at *
          refine (HAB.out _ _ _ _ _).mono ?_
          rintro e w3 ⟨rfl, hb⟩
          replace hK := trio_next hK hb
          clear hb
          obtain ⟨k0, k1, k2, k3, k4, k5, k6, k7, k8, k9, k10, k11, kb, kz, kq⟩ := hK
          go_wp2_with fail
          have hK := And.intro k0 (And.intro k1 (And.intro k2 (And.intro k3 (And.intro k4 (And.intro k5 (And.intro k6 (And.intro k7 (And.intro k8 (And.intro k9 (And.intro k10 (And.intro k11 (And.intro kb (And.intro kz kq)))))))))))))
          clear k0 k1 k2 k3 k4 k5 k6 k7 k8 k9 k10 k11 kb kz kq
          refine (HBA.out _ _ _ _ _).mono ?_
          rintro e w3 ⟨rfl, hb⟩
          replace hK := trio_next hK hb
          clear hb
          obtain ⟨k0, k1, k2, k3, k4, k5, k6, k7, k8, k9, k10, k11, kb, kz, kq⟩ := hK
          go_wp2_with fail
          have hK := And.intro k0 (And.intro k1 (And.intro k2 (And.intro k3 (And.intro k4 (And.intro k5 (And.intro k6 (And.intro k7 (And.intro k8 (And.intro k9 (And.intro k10 (And.intro k11 (And.intro kb (And.intro kz kq)))))))))))))
          clear k0 k1 k2 k3 k4 k5 k6 k7 k8 k9 k10 k11 kb kz kq
          refine (HAA.out _ _ _ _ _).mono ?_
          rintro e w3 ⟨rfl, hb⟩
          replace hK := trio_next hK hb
          clear hb
          obtain ⟨k0, k1, k2, k3, k4, k5, k6, k7, k8, k9, k10, k11, kb, kz, kq⟩ := hK
          go_wp2_with fail
          have hK := And.intro k0 (And.intro k1 (And.intro k2 (And.intro k3 (And.intro k4 (And.intro k5 (And.intro k6 (And.intro k7 (And.intro k8 (And.intro k9 (And.intro k10 (And.intro k11 (And.intro kb (And.intro kz kq)))))))))))))
          clear k0 k1 k2 k3 k4 k5 k6 k7 k8 k9 k10 k11 kb kz kq
          refine (HC.out _).mono ?_
          rintro e w3 ⟨rfl, hb⟩
          replace hK := trio_next hK hb
          clear hb
          obtain ⟨k0, k1, k2, k3, k4, k5, k6, k7, k8, k9, k10, k11, kb, kz, kq⟩ := hK
          go_wp2_with fail
          have hK := And.intro k0 (And.intro k1 (And.intro k2 (And.intro k3 (And.intro k4 (And.intro k5 (And.intro k6 (And.intro k7 (And.intro k8 (And.intro k9 (And.intro k10 (And.intro k11 (And.intro kb (And.intro kz kq)))))))))))))
          clear k0 k1 k2 k3 k4 k5 k6 k7 k8 k9 k10 k11 kb kz kq
          refine (live_any _).mono ?_
          rintro e w4 ⟨rfl, hb⟩
          replace hK := trio_next hK hb
          go_wp2_with fail
          go_ret
          exact ⟨rfl, by rw [hp.out]; exact hK.2.2.2.2.2.2.2.2.2.2.2.2.1⟩
        · rw [decide_eq_false (by omega)] at HAB
          rw [decide_eq_true h] at HBA
          have he : (a0 == b0) = false := by rw [beq_eq_false_iff_ne]; omega
          clear h
          go_enter Try.func9, Try.ntmps9
          go_wp2_with fail
          obtain ⟨p, hp⟩ : ∃ p, w.heap.size = p := ⟨_, rfl⟩
          obtain ⟨W, hW⟩ : ∃ W, (w.alloc (.cells #[.int .i64 a0, .int .i64 a1, .string s, .float .f64 x] 33)).alloc (.cells #[.int .i64 b0, .int .i64 b1, .string t, .float .f64 y] 33) = W := ⟨_, rfl⟩
          have hK : W.cell? ⟨p, 0, none⟩ = some (.int .i64 a0) ∧ W.cell? ⟨p, 1, none⟩ = some (.int .i64 a1) ∧ W.cell? ⟨p, 2, none⟩ = some (.string s) ∧ W.cell? ⟨p, 3, none⟩ = some (.float .f64 x) ∧ W.cell? ⟨p + 1, 0, none⟩ = some (.int .i64 b0) ∧ W.cell? ⟨p + 1, 1, none⟩ = some (.int .i64 b1) ∧ W.cell? ⟨p + 1, 2, none⟩ = some (.string t) ∧ W.cell? ⟨p + 1, 3, none⟩ = some (.float .f64 y) ∧ Below p w W ∧ p + 1 < W.heap.size := by
            rw [← hW, ← hp]
            exact ⟨by simp [go_sem], by simp [go_sem], by simp [go_sem], by simp [go_sem], by simp [go_sem], by simp [go_sem], by simp [go_sem], by simp [go_sem], ((Below.refl _ _).alloc (Nat.le_refl _) _ |>.alloc (by simp) _), by simp⟩
          rw [hW, hp]
          clear hW
          replace hp := Lib.hid hp
          refine (HAB.out _ _ _ _ _).mono ?_
          rintro e w1 ⟨rfl, hb⟩
          replace hK := pair_next hK hb
          clear hb
          obtain ⟨k0, k1, k2, k3, k4, k5, k6, k7, kb, kz⟩ := hK
          go_wp2_with fail
          refine (HBA.out _ _ _ _ _).mono ?_
          rintro e w2 ⟨rfl, hb⟩
          have hK := pair_next ⟨k0, k1, k2, k3, k4, k5, k6, k7, kb, kz⟩ hb
          clear hb k0 k1 k2 k3 k4 k5 k6 k7 kb kz
          obtain ⟨k0, k1, k2, k3, k4, k5, k6, k7, kb, kz⟩ := hK
          go_wp2_with fail
          have hN := pair_next (w2 := w2.alloc (.cells #[.int .i64 a0, .int .i64 b1, .string t, .float .f64 x] 33)) ⟨k0, k1, k2, k3, k4, k5, k6, k7, kb, kz⟩ ((Below.refl _ _).alloc (Nat.le_refl _) _)
          have hK : (w2.alloc (.cells #[.int .i64 a0, .int .i64 b1, .string t, .float .f64 x] 33)).cell? ⟨p, 0, none⟩ = some (.int .i64 a0) ∧ (w2.alloc (.cells #[.int .i64 a0, .int .i64 b1, .string t, .float .f64 x] 33)).cell? ⟨p, 1, none⟩ = some (.int .i64 a1) ∧ (w2.alloc (.cells #[.int .i64 a0, .int .i64 b1, .string t, .float .f64 x] 33)).cell? ⟨p, 2, none⟩ = some (.string s) ∧ (w2.alloc (.cells #[.int .i64 a0, .int .i64 b1, .string t, .float .f64 x] 33)).cell? ⟨p, 3, none⟩ = some (.float .f64 x) ∧ (w2.alloc (.cells #[.int .i64 a0, .int .i64 b1, .string t, .float .f64 x] 33)).cell? ⟨p + 1, 0, none⟩ = some (.int .i64 b0) ∧ (w2.alloc (.cells #[.int .i64 a0, .int .i64 b1, .string t, .float .f64 x] 33)).cell? ⟨p + 1, 1, none⟩ = some (.int .i64 b1) ∧ (w2.alloc (.cells #[.int .i64 a0, .int .i64 b1, .string t, .float .f64 x] 33)).cell? ⟨p + 1, 2, none⟩ = some (.string t) ∧ (w2.alloc (.cells #[.int .i64 a0, .int .i64 b1, .string t, .float .f64 x] 33)).cell? ⟨p + 1, 3, none⟩ = some (.float .f64 y) ∧ (w2.alloc (.cells #[.int .i64 a0, .int .i64 b1, .string t, .float .f64 x] 33)).cell? ⟨w2.heap.size, 0, none⟩ = some (.int .i64 a0) ∧ (w2.alloc (.cells #[.int .i64 a0, .int .i64 b1, .string t, .float .f64 x] 33)).cell? ⟨w2.heap.size, 1, none⟩ = some (.int .i64 b1) ∧ (w2.alloc (.cells #[.int .i64 a0, .int .i64 b1, .string t, .float .f64 x] 33)).cell? ⟨w2.heap.size, 2, none⟩ = some (.string t) ∧ (w2.alloc (.cells #[.int .i64 a0, .int .i64 b1, .string t, .float .f64 x] 33)).cell? ⟨w2.heap.size, 3, none⟩ = some (.float .f64 x) ∧ Below p w (w2.alloc (.cells #[.int .i64 a0, .int .i64 b1, .string t, .float .f64 x] 33)) ∧ p + 1 < (w2.alloc (.cells #[.int .i64 a0, .int .i64 b1, .string t, .float .f64 x] 33)).heap.size ∧ w2.heap.size < (w2.alloc (.cells #[.int .i64 a0, .int .i64 b1, .string t, .float .f64 x] 33)).heap.size := by
            obtain ⟨n0, n1, n2, n3, n4, n5, n6, n7, nb, nz⟩ := hN
            exact ⟨n0, n1, n2, n3, n4, n5, n6, n7, by simp [go_sem], by simp [go_sem], by simp [go_sem], by simp [go_sem], nb, nz, by simp⟩
          clear hN
          clear k0 k1 k2 k3 k4 k5 k6 k7 kb kz
          generalize w2.heap.size = q at *
          generalize w2.alloc (.cells #[.int .i64 a0, .int .i64 b1, .string t, .float .f64 x] 33) = W2 at *
          refine (HAB.out _ _ _ _ _).mono ?_
          rintro e w3 ⟨rfl, hb⟩
          replace hK := trio_next hK hb
          clear hb
          obtain ⟨k0, k1, k2, k3, k4, k5, k6, k7, k8, k9, k10, k11, kb, kz, kq⟩ := hK
          go_wp2_with fail
          have hK := And.intro k0 (And.intro k1 (And.intro k2 (And.intro k3 (And.intro k4 (And.intro k5 (And.intro k6 (And.intro k7 (And.intro k8 (And.intro k9 (And.intro k10 (And.intro k11 (And.intro kb (And.intro kz kq)))))))))))))
          clear k0 k1 k2 k3 k4 k5 k6 k7 k8 k9 k10 k11 kb kz kq
          refine (HBA.out _ _ _ _ _).mono ?_
          rintro e w3 ⟨rfl, hb⟩
          replace hK := trio_next hK hb
          clear hb
          obtain ⟨k0, k1, k2, k3, k4, k5, k6, k7, k8, k9, k10, k11, kb, kz, kq⟩ := hK
          go_wp2_with fail
          have hK := And.intro k0 (And.intro k1 (And.intro k2 (And.intro k3 (And.intro k4 (And.intro k5 (And.intro k6 (And.intro k7 (And.intro k8 (And.intro k9 (And.intro k10 (And.intro k11 (And.intro kb (And.intro kz kq)))))))))))))
          clear k0 k1 k2 k3 k4 k5 k6 k7 k8 k9 k10 k11 kb kz kq
          refine (HAA.out _ _ _ _ _).mono ?_
          rintro e w3 ⟨rfl, hb⟩
          replace hK := trio_next hK hb
          clear hb
          obtain ⟨k0, k1, k2, k3, k4, k5, k6, k7, k8, k9, k10, k11, kb, kz, kq⟩ := hK
          go_wp2_with fail
          have hK := And.intro k0 (And.intro k1 (And.intro k2 (And.intro k3 (And.intro k4 (And.intro k5 (And.intro k6 (And.intro k7 (And.intro k8 (And.intro k9 (And.intro k10 (And.intro k11 (And.intro kb (And.intro kz kq)))))))))))))
          clear k0 k1 k2 k3 k4 k5 k6 k7 k8 k9 k10 k11 kb kz kq
          refine (live_any _).mono ?_
          rintro e w4 ⟨rfl, hb⟩
          replace hK := trio_next hK hb
          go_wp2_with fail
          go_ret
          exact ⟨rfl, by rw [hp.out]; exact hK.2.2.2.2.2.2.2.2.2.2.2.2.1⟩
      · rw [lessB_gt h] at HAB
        rw [lessB_lt h] at HBA
        rw [cmpN_gt h] at HC
        clear h
        cases he : (a0 == b0)
        · go_enter Try.func9, Try.ntmps9
          go_wp2_with fail
          obtain ⟨p, hp⟩ : ∃ p, w.heap.size = p := ⟨_, rfl⟩
          obtain ⟨W, hW⟩ : ∃ W, (w.alloc (.cells #[.int .i64 a0, .int .i64 a1, .string s, .float .f64 x] 33)).alloc (.cells #[.int .i64 b0, .int .i64 b1, .string t, .float .f64 y] 33) = W := ⟨_, rfl⟩
          have hK : W.cell? ⟨p, 0, none⟩ = some (.int .i64 a0) ∧ W.cell? ⟨p, 1, none⟩ = some (.int .i64 a1) ∧ W.cell? ⟨p, 2, none⟩ = some (.string s) ∧ W.cell? ⟨p, 3, none⟩ = some (.float .f64 x) ∧ W.cell? ⟨p + 1, 0, none⟩ = some (.int .i64 b0) ∧ W.cell? ⟨p + 1, 1, none⟩ = some (.int .i64 b1) ∧ W.cell? ⟨p + 1, 2, none⟩ = some (.string t) ∧ W.cell? ⟨p + 1, 3, none⟩ = some (.float .f64 y) ∧ Below p w W ∧ p + 1 < W.heap.size := by
            rw [← hW, ← hp]
            exact ⟨by simp [go_sem], by simp [go_sem], by simp [go_sem], by simp [go_sem], by simp [go_sem], by simp [go_sem], by simp [go_sem], by simp [go_sem], ((Below.refl _ _).alloc (Nat.le_refl _) _ |>.alloc (by simp) _), by simp⟩
          rw [hW, hp]
          clear hW
          replace hp := Lib.hid hp
          refine (HAB.out _ _ _ _ _).mono ?_
          rintro e w1 ⟨rfl, hb⟩
          replace hK := pair_next hK hb
          clear hb
          obtain ⟨k0, k1, k2, k3, k4, k5, k6, k7, kb, kz⟩ := hK
          go_wp2_with fail
          refine (HBA.out _ _ _ _ _).mono ?_
          rintro e w2 ⟨rfl, hb⟩
          have hK := pair_next ⟨k0, k1, k2, k3, k4, k5, k6, k7, kb, kz⟩ hb
          clear hb k0 k1 k2 k3 k4 k5 k6 k7 kb kz
          obtain ⟨k0, k1, k2, k3, k4, k5, k6, k7, kb, kz⟩ := hK
          go_wp2_with fail
          have hN := pair_next (w2 := w2.alloc (.cells #[.int .i64 a0, .int .i64 b1, .string t, .float .f64 x] 33)) ⟨k0, k1, k2, k3, k4, k5, k6, k7, kb, kz⟩ ((Below.refl _ _).alloc (Nat.le_refl _) _)
          have hK : (w2.alloc (.cells #[.int .i64 a0, .int .i64 b1, .string t, .float .f64 x] 33)).cell? ⟨p, 0, none⟩ = some (.int .i64 a0) ∧ (w2.alloc (.cells #[.int .i64 a0, .int .i64 b1, .string t, .float .f64 x] 33)).cell? ⟨p, 1, none⟩ = some (.int .i64 a1) ∧ (w2.alloc (.cells #[.int .i64 a0, .int .i64 b1, .string t, .float .f64 x] 33)).cell? ⟨p, 2, none⟩ = some (.string s) ∧ (w2.alloc (.cells #[.int .i64 a0, .int .i64 b1, .string t, .float .f64 x] 33)).cell? ⟨p, 3, none⟩ = some (.float .f64 x) ∧ (w2.alloc (.cells #[.int .i64 a0, .int .i64 b1, .string t, .float .f64 x] 33)).cell? ⟨p + 1, 0, none⟩ = some (.int .i64 b0) ∧ (w2.alloc (.cells #[.int .i64 a0, .int .i64 b1, .string t, .float .f64 x] 33)).cell? ⟨p + 1, 1, none⟩ = some (.int .i64 b1) ∧ (w2.alloc (.cells #[.int .i64 a0, .int .i64 b1, .string t, .float .f64 x] 33)).cell? ⟨p + 1, 2, none⟩ = some (.string t) ∧ (w2.alloc (.cells #[.int .i64 a0, .int .i64 b1, .string t, .float .f64 x] 33)).cell? ⟨p + 1, 3, none⟩ = some (.float .f64 y) ∧ (w2.alloc (.cells #[.int .i64 a0, .int .i64 b1, .string t, .float .f64 x] 33)).cell? ⟨w2.heap.size, 0, none⟩ = some (.int .i64 a0) ∧ (w2.alloc (.cells #[.int .i64 a0, .int .i64 b1, .string t, .float .f64 x] 33)).cell? ⟨w2.heap.size, 1, none⟩ = some (.int .i64 b1) ∧ (w2.alloc (.cells #[.int .i64 a0, .int .i64 b1, .string t, .float .f64 x] 33)).cell? ⟨w2.heap.size, 2, none⟩ = some (.string t) ∧ (w2.alloc (.cells #[.int .i64 a0, .int .i64 b1, .string t, .float .f64 x] 33)).cell? ⟨w2.heap.size, 3, none⟩ = some (.float .f64 x) ∧ Below p w (w2.alloc (.cells #[.int .i64 a0, .int .i64 b1, .string t, .float .f64 x] 33)) ∧ p + 1 < (w2.alloc (.cells #[.int .i64 a0, .int .i64 b1, .string t, .float .f64 x] 33)).heap.size ∧ w2.heap.size < (w2.alloc (.cells #[.int .i64 a0, .int .i64 b1, .string t, .float .f64 x] 33)).heap.size := by
            obtain ⟨n0, n1, n2, n3, n4, n5, n6, n7, nb, nz⟩ := hN
            exact ⟨n0, n1, n2, n3, n4, n5, n6, n7, by simp [go_sem], by simp [go_sem], by simp [go_sem], by simp [go_sem], nb, nz, by simp⟩
          clear hN
          clear k0 k1 k2 k3 k4 k5 k6 k7 kb kz
          generalize w2.heap.size = q at *
          generalize w2.alloc (.cells #[.int .i64 a0, .int .i64 b1, .string t, .float .f64 x] 33) = W2 at *
          refine (HAB.out _ _ _ _ _).mono ?_
          rintro e w3 ⟨rfl, hb⟩
          replace hK := trio_next hK hb
          clear hb
          obtain ⟨k0, k1, k2, k3, k4, k5, k6, k7, k8, k9, k10, k11, kb, kz, kq⟩ := hK
          go_wp2_with fail
          have hK := And.intro k0 (And.intro k1 (And.intro k2 (And.intro k3 (And.intro k4 (And.intro k5 (And.intro k6 (And.intro k7 (And.intro k8 (And.intro k9 (And.intro k10 (And.intro k11 (And.intro kb (And.intro kz kq)))))))))))))
          clear k0 k1 k2 k3 k4 k5 k6 k7 k8 k9 k10 k11 kb kz kq
          refine (HBA.out _ _ _ _ _).mono ?_
          rintro e w3 ⟨rfl, hb⟩
          replace hK := trio_next hK hb
          clear hb
          obtain ⟨k0, k1, k2, k3, k4, k5, k6, k7, k8, k9, k10, k11, kb, kz, kq⟩ := hK
          go_wp2_with fail
          have hK := And.intro k0 (And.intro k1 (And.intro k2 (And.intro k3 (And.intro k4 (And.intro k5 (And.intro k6 (And.intro k7 (And.intro k8 (And.intro k9 (And.intro k10 (And.intro k11 (And.intro kb (And.intro kz kq)))))))))))))
          clear k0 k1 k2 k3 k4 k5 k6 k7 k8 k9 k10 k11 kb kz kq
          refine (HAA.out _ _ _ _ _).mono ?_
          rintro e w3 ⟨rfl, hb⟩
          replace hK := trio_next hK hb
          clear hb
          obtain ⟨k0, k1, k2, k3, k4, k5, k6, k7, k8, k9, k10, k11, kb, kz, kq⟩ := hK
          go_wp2_with fail
          have hK := And.intro k0 (And.intro k1 (And.intro k2 (And.intro k3 (And.intro k4 (And.intro k5 (And.intro k6 (And.intro k7 (And.intro k8 (And.intro k9 (And.intro k10 (And.intro k11 (And.intro kb (And.intro kz kq)))))))))))))
          clear k0 k1 k2 k3 k4 k5 k6 k7 k8 k9 k10 k11 kb kz kq
          refine (live_any _).mono ?_
          rintro e w4 ⟨rfl, hb⟩
          replace hK := trio_next hK hb
          go_wp2_with fail
          go_ret
          exact ⟨rfl, by rw [hp.out]; exact hK.2.2.2.2.2.2.2.2.2.2.2.2.1⟩
        · go_enter Try.func9, Try.ntmps9
          go_wp2_with fail
          obtain ⟨p, hp⟩ : ∃ p, w.heap.size = p := ⟨_, rfl⟩
          obtain ⟨W, hW⟩ : ∃ W, (w.alloc (.cells #[.int .i64 a0, .int .i64 a1, .string s, .float .f64 x] 33)).alloc (.cells #[.int .i64 b0, .int .i64 b1, .string t, .float .f64 y] 33) = W := ⟨_, rfl⟩
          have hK : W.cell? ⟨p, 0, none⟩ = some (.int .i64 a0) ∧ W.cell? ⟨p, 1, none⟩ = some (.int .i64 a1) ∧ W.cell? ⟨p, 2, none⟩ = some (.string s) ∧ W.cell? ⟨p, 3, none⟩ = some (.float .f64 x) ∧ W.cell? ⟨p + 1, 0, none⟩ = some (.int .i64 b0) ∧ W.cell? ⟨p + 1, 1, none⟩ = some (.int .i64 b1) ∧ W.cell? ⟨p + 1, 2, none⟩ = some (.string t) ∧ W.cell? ⟨p + 1, 3, none⟩ = some (.float .f64 y) ∧ Below p w W ∧ p + 1 < W.heap.size := by
            rw [← hW, ← hp]
            exact ⟨by simp [go_sem], by simp [go_sem], by simp [go_sem], by simp [go_sem], by simp [go_sem], by simp [go_sem], by simp [go_sem], by simp [go_sem], ((Below.refl _ _).alloc (Nat.le_refl _) _ |>.alloc (by simp) _), by simp⟩
          rw [hW, hp]
          clear hW
          replace hp := Lib.hid hp
          refine (HAB.out _ _ _ _ _).mono ?_
          rintro e w1 ⟨rfl, hb⟩
          replace hK := pair_next hK hb
          clear hb
          obtain ⟨k0, k1, k2, k3, k4, k5, k6, k7, kb, kz⟩ := hK
          go_wp2_with fail
          refine (HBA.out _ _ _ _ _).mono ?_
          rintro e w2 ⟨rfl, hb⟩
          have hK := pair_next ⟨k0, k1, k2, k3, k4, k5, k6, k7, kb, kz⟩ hb
          clear hb k0 k1 k2 k3 k4 k5 k6 k7 kb kz
          obtain ⟨k0, k1, k2, k3, k4, k5, k6, k7, kb, kz⟩ := hK
          go_wp2_with fail
          have hN := pair_next (w2 := w2.alloc (.cells #[.int .i64 a0, .int .i64 b1, .string t, .float .f64 x] 33)) ⟨k0, k1, k2, k3, k4, k5, k6, k7, kb, kz⟩ ((Below.refl _ _).alloc (Nat.le_refl _) _)
          have hK : (w2.alloc (.cells #[.int .i64 a0, .int .i64 b1, .string t, .float .f64 x] 33)).cell? ⟨p, 0, none⟩ = some (.int .i64 a0) ∧ (w2.alloc (.cells #[.int .i64 a0, .int .i64 b1, .string t, .float .f64 x] 33)).cell? ⟨p, 1, none⟩ = some (.int .i64 a1) ∧ (w2.alloc (.cells #[.int .i64 a0, .int .i64 b1, .string t, .float .f64 x] 33)).cell? ⟨p, 2, none⟩ = some (.string s) ∧ (w2.alloc (.cells #[.int .i64 a0, .int .i64 b1, .string t, .float .f64 x] 33)).cell? ⟨p, 3, none⟩ = some (.float .f64 x) ∧ (w2.alloc (.cells #[.int .i64 a0, .int .i64 b1, .string t, .float .f64 x] 33)).cell? ⟨p + 1, 0, none⟩ = some (.int .i64 b0) ∧ (w2.alloc (.cells #[.int .i64 a0, .int .i64 b1, .string t, .float .f64 x] 33)).cell? ⟨p + 1, 1, none⟩ = some (.int .i64 b1) ∧ (w2.alloc (.cells #[.int .i64 a0, .int .i64 b1, .string t, .float .f64 x] 33)).cell? ⟨p + 1, 2, none⟩ = some (.string t) ∧ (w2.alloc (.cells #[.int .i64 a0, .int .i64 b1, .string t, .float .f64 x] 33)).cell? ⟨p + 1, 3, none⟩ = some (.float .f64 y) ∧ (w2.alloc (.cells #[.int .i64 a0, .int .i64 b1, .string t, .float .f64 x] 33)).cell? ⟨w2.heap.size, 0, none⟩ = some (.int .i64 a0) ∧ (w2.alloc (.cells #[.int .i64 a0, .int .i64 b1, .string t, .float .f64 x] 33)).cell? ⟨w2.heap.size, 1, none⟩ = some (.int .i64 b1) ∧ (w2.alloc (.cells #[.int .i64 a0, .int .i64 b1, .string t, .float .f64 x] 33)).cell? ⟨w2.heap.size, 2, none⟩ = some (.string t) ∧ (w2.alloc (.cells #[.int .i64 a0, .int .i64 b1, .string t, .float .f64 x] 33)).cell? ⟨w2.heap.size, 3, none⟩ = some (.float .f64 x) ∧ Below p w (w2.alloc (.cells #[.int .i64 a0, .int .i64 b1, .string t, .float .f64 x] 33)) ∧ p + 1 < (w2.alloc (.cells #[.int .i64 a0, .int .i64 b1, .string t, .float .f64 x] 33)).heap.size ∧ w2.heap.size < (w2.alloc (.cells #[.int .i64 a0, .int .i64 b1, .string t, .float .f64 x] 33)).heap.size := by
            obtain ⟨n0, n1, n2, n3, n4, n5, n6, n7, nb, nz⟩ := hN
            exact ⟨n0, n1, n2, n3, n4, n5, n6, n7, by simp [go_sem], by simp [go_sem], by simp [go_sem], by simp [go_sem], nb, nz, by simp⟩
          clear hN
          clear k0 k1 k2 k3 k4 k5 k6 k7 kb kz
          generalize w2.heap.size = q at *
          generalize w2.alloc (.cells #[.int .i64 a0, .int .i64 b1, .string t, .float .f64 x] 33) = W2 at *
          refine (HAB.out _ _ _ _ _).mono ?_
          rintro e w3 ⟨rfl, hb⟩
          replace hK := trio_next hK hb
          clear hb
          obtain ⟨k0, k1, k2, k3, k4, k5, k6, k7, k8, k9, k10, k11, kb, kz, kq⟩ := hK
          go_wp2_with fail
          have hK := And.intro k0 (And.intro k1 (And.intro k2 (And.intro k3 (And.intro k4 (And.intro k5 (And.intro k6 (And.intro k7 (And.intro k8 (And.intro k9 (And.intro k10 (And.intro k11 (And.intro kb (And.intro kz kq)))))))))))))
          clear k0 k1 k2 k3 k4 k5 k6 k7 k8 k9 k10 k11 kb kz kq
          refine (HBA.out _ _ _ _ _).mono ?_
          rintro e w3 ⟨rfl, hb⟩
          replace hK := trio_next hK hb
          clear hb
          obtain ⟨k0, k1, k2, k3, k4, k5, k6, k7, k8, k9, k10, k11, kb, kz, kq⟩ := hK
          go_wp2_with fail
          have hK := And.intro k0 (And.intro k1 (And.intro k2 (And.intro k3 (And.intro k4 (And.intro k5 (And.intro k6 (And.intro k7 (And.intro k8 (And.intro k9 (And.intro k10 (And.intro k11 (And.intro kb (And.intro kz kq)))))))))))))
          clear k0 k1 k2 k3 k4 k5 k6 k7 k8 k9 k10 k11 kb kz kq
          refine (HAA.out _ _ _ _ _).mono ?_
          rintro e w3 ⟨rfl, hb⟩
          replace hK := trio_next hK hb
          clear hb
          obtain ⟨k0, k1, k2, k3, k4, k5, k6, k7, k8, k9, k10, k11, kb, kz, kq⟩ := hK
          go_wp2_with fail
          have hK := And.intro k0 (And.intro k1 (And.intro k2 (And.intro k3 (And.intro k4 (And.intro k5 (And.intro k6 (And.intro k7 (And.intro k8 (And.intro k9 (And.intro k10 (And.intro k11 (And.intro kb (And.intro kz kq)))))))))))))
          clear k0 k1 k2 k3 k4 k5 k6 k7 k8 k9 k10 k11 kb kz kq
          refine (HC.out _).mono ?_
          rintro e w3 ⟨rfl, hb⟩
          replace hK := trio_next hK hb
          clear hb
          obtain ⟨k0, k1, k2, k3, k4, k5, k6, k7, k8, k9, k10, k11, kb, kz, kq⟩ := hK
          go_wp2_with fail
          have hK := And.intro k0 (And.intro k1 (And.intro k2 (And.intro k3 (And.intro k4 (And.intro k5 (And.intro k6 (And.intro k7 (And.intro k8 (And.intro k9 (And.intro k10 (And.intro k11 (And.intro kb (And.intro kz kq)))))))))))))
          clear k0 k1 k2 k3 k4 k5 k6 k7 k8 k9 k10 k11 kb kz kq
          refine (live_any _).mono ?_
          rintro e w4 ⟨rfl, hb⟩
          replace hK := trio_next hK hb
          go_wp2_with fail
          go_ret
          exact ⟨rfl, by rw [hp.out]; exact hK.2.2.2.2.2.2.2.2.2.2.2.2.1⟩

end Fl
end Go.Proofs.Ytllkhcejgoebbaa
