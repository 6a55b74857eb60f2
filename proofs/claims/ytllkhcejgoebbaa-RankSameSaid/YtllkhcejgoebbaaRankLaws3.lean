/-
  WALKS: the laws of rank on rows and times: RankRows, RankSame; and what the statements' arguments are. No condition.
-/
import Derived.Test.YtllkhcejgoebbaaRankLaws2
import Derived.Deep.RegionHeld3
namespace Go.Proofs.Ytllkhcejgoebbaa
open Go.RowKit
namespace Fl

theorem rows_next {w w1 w2 : World} {p : Nat} {a0 a1 b0 b1 c0 c1 d0 d1 : Int} {s t : ByteArray} {x y : Nat}
    (h : w1.cell? ⟨p, 0, none⟩ = some (.int .i64 a0) ∧ w1.cell? ⟨p, 1, none⟩ = some (.int .i64 a1) ∧ w1.cell? ⟨p, 2, none⟩ = some (.string s) ∧ w1.cell? ⟨p, 3, none⟩ = some (.float .f64 x) ∧ w1.cell? ⟨p + 1, 0, none⟩ = some (.int .i64 b0) ∧ w1.cell? ⟨p + 1, 1, none⟩ = some (.int .i64 b1) ∧ w1.cell? ⟨p + 1, 2, none⟩ = some (.string t) ∧ w1.cell? ⟨p + 1, 3, none⟩ = some (.float .f64 y) ∧ w1.cell? ⟨p + 1 + 1, 0, none⟩ = some (.int .i64 c0) ∧ w1.cell? ⟨p + 1 + 1, 1, none⟩ = some (.int .i64 c1) ∧ w1.cell? ⟨p + 1 + 1, 2, none⟩ = some (.int .i64 d0) ∧ w1.cell? ⟨p + 1 + 1, 3, none⟩ = some (.int .i64 d1) ∧ Below p w w1 ∧ p + 1 + 1 < w1.heap.size) (hb : Below w1.heap.size w1 w2) : w2.cell? ⟨p, 0, none⟩ = some (.int .i64 a0) ∧ w2.cell? ⟨p, 1, none⟩ = some (.int .i64 a1) ∧ w2.cell? ⟨p, 2, none⟩ = some (.string s) ∧ w2.cell? ⟨p, 3, none⟩ = some (.float .f64 x) ∧ w2.cell? ⟨p + 1, 0, none⟩ = some (.int .i64 b0) ∧ w2.cell? ⟨p + 1, 1, none⟩ = some (.int .i64 b1) ∧ w2.cell? ⟨p + 1, 2, none⟩ = some (.string t) ∧ w2.cell? ⟨p + 1, 3, none⟩ = some (.float .f64 y) ∧ w2.cell? ⟨p + 1 + 1, 0, none⟩ = some (.int .i64 c0) ∧ w2.cell? ⟨p + 1 + 1, 1, none⟩ = some (.int .i64 c1) ∧ w2.cell? ⟨p + 1 + 1, 2, none⟩ = some (.int .i64 d0) ∧ w2.cell? ⟨p + 1 + 1, 3, none⟩ = some (.int .i64 d1) ∧ Below p w w2 ∧ p + 1 + 1 < w2.heap.size := by
  obtain ⟨h0, h1, h2, h3, h4, h5, h6, h7, h8, h9, h10, h11, h12, hz⟩ := h
  obtain ⟨hc, _⟩ := bcell hb
  have hz2 := hb.size
  exact ⟨(hc _ _ (by omega)).trans h0, (hc _ _ (by omega)).trans h1, (hc _ _ (by omega)).trans h2, (hc _ _ (by omega)).trans h3, (hc _ _ (by omega)).trans h4, (hc _ _ (by omega)).trans h5, (hc _ _ (by omega)).trans h6, (hc _ _ (by omega)).trans h7, (hc _ _ (by omega)).trans h8, (hc _ _ (by omega)).trans h9, (hc _ _ (by omega)).trans h10, (hc _ _ (by omega)).trans h11, h12.trans (hb.mono (by omega)), by omega⟩

set_option maxRecDepth 100000 in
set_option maxHeartbeats 8000000 in
theorem rows_walk (a0 a1 b0 b1 c0 c1 d0 d1 : Int) (s t : ByteArray) (x y : Nat) (w : World) (hx : x < 2 * S) (hy : y < 2 * S) :
    Calls Try.prog 4 #[.agg #[.int .i64 a0, .int .i64 a1, .string s, .float .f64 x], .agg #[.int .i64 b0, .int .i64 b1, .string t, .float .f64 y], .agg #[.int .i64 c0, .int .i64 c1, .int .i64 d0, .int .i64 d1]] w fun e w' => e = .returned (.bool true) ∧ Below w.heap.size w w' := by
  by_cases hs : 200 < s.size
  · have hs' : (200 : Int) < (s.size : Int) := by omega
    clear hs
    go_enter Try.func4, Try.ntmps4
    go_wp2_with fail
    refine (live_any _).mono ?_
    rintro e w1 ⟨rfl, hb⟩
    go_wp2_with fail
    go_ret
    exact ⟨rfl, (((Below.refl _ _).alloc (Nat.le_refl _) _).alloc (by simp) _ |>.alloc (by simp; omega) _).trans (hb.mono (by simp; omega))⟩
  · have hs' : (s.size : Int) ≤ 200 := by omega
    by_cases ht : 200 < t.size
    · have ht' : (200 : Int) < (t.size : Int) := by omega
      clear hs ht
      go_enter Try.func4, Try.ntmps4
      go_wp2_with fail
      refine (live_any _).mono ?_
      rintro e w1 ⟨rfl, hb⟩
      go_wp2_with fail
      go_ret
      exact ⟨rfl, (((Below.refl _ _).alloc (Nat.le_refl _) _).alloc (by simp) _ |>.alloc (by simp; omega) _).trans (hb.mono (by simp; omega))⟩
    · have ht' : (t.size : Int) ≤ 200 := by omega
      clear hs ht
      go_enter Try.func4, Try.ntmps4
      go_wp2_with fail
      obtain ⟨p, hp⟩ : ∃ p, w.heap.size = p := ⟨_, rfl⟩
      obtain ⟨W, hW⟩ : ∃ W, ((w.alloc (.cells #[.int .i64 a0, .int .i64 a1, .string s, .float .f64 x] 33)).alloc (.cells #[.int .i64 b0, .int .i64 b1, .string t, .float .f64 y] 33)).alloc (.cells #[.int .i64 c0, .int .i64 c1, .int .i64 d0, .int .i64 d1] 36) = W := ⟨_, rfl⟩
      have hK : W.cell? ⟨p, 0, none⟩ = some (.int .i64 a0) ∧ W.cell? ⟨p, 1, none⟩ = some (.int .i64 a1) ∧ W.cell? ⟨p, 2, none⟩ = some (.string s) ∧ W.cell? ⟨p, 3, none⟩ = some (.float .f64 x) ∧ W.cell? ⟨p + 1, 0, none⟩ = some (.int .i64 b0) ∧ W.cell? ⟨p + 1, 1, none⟩ = some (.int .i64 b1) ∧ W.cell? ⟨p + 1, 2, none⟩ = some (.string t) ∧ W.cell? ⟨p + 1, 3, none⟩ = some (.float .f64 y) ∧ W.cell? ⟨p + 1 + 1, 0, none⟩ = some (.int .i64 c0) ∧ W.cell? ⟨p + 1 + 1, 1, none⟩ = some (.int .i64 c1) ∧ W.cell? ⟨p + 1 + 1, 2, none⟩ = some (.int .i64 d0) ∧ W.cell? ⟨p + 1 + 1, 3, none⟩ = some (.int .i64 d1) ∧ Below p w W ∧ p + 1 + 1 < W.heap.size := by
        rw [← hW, ← hp]
        exact ⟨by simp [go_sem], by simp [go_sem], by simp [go_sem], by simp [go_sem], by simp [go_sem], by simp [go_sem], by simp [go_sem], by simp [go_sem], by simp [go_sem], by simp [go_sem], by simp [go_sem], by simp [go_sem], (((Below.refl _ _).alloc (Nat.le_refl _) _).alloc (by simp) _ |>.alloc (by simp; omega) _), by simp⟩
      rw [hW, hp]
      clear hW
      replace hp := Lib.hid hp
      go_region_held3 (fun w' => w'.cell? ⟨p, 0, none⟩ = some (.int .i64 a0) ∧ w'.cell? ⟨p, 1, none⟩ = some (.int .i64 a1) ∧ w'.cell? ⟨p, 2, none⟩ = some (.string s) ∧ w'.cell? ⟨p, 3, none⟩ = some (.float .f64 x) ∧ w'.cell? ⟨p + 1, 0, none⟩ = some (.int .i64 b0) ∧ w'.cell? ⟨p + 1, 1, none⟩ = some (.int .i64 b1) ∧ w'.cell? ⟨p + 1, 2, none⟩ = some (.string t) ∧ w'.cell? ⟨p + 1, 3, none⟩ = some (.float .f64 y) ∧ w'.cell? ⟨p + 1 + 1, 0, none⟩ = some (.int .i64 c0) ∧ w'.cell? ⟨p + 1 + 1, 1, none⟩ = some (.int .i64 c1) ∧ w'.cell? ⟨p + 1 + 1, 2, none⟩ = some (.int .i64 d0) ∧ w'.cell? ⟨p + 1 + 1, 3, none⟩ = some (.int .i64 d1) ∧ Below p w w' ∧ p + 1 + 1 < w'.heap.size) (first | assumption | exact rows_next hK ((Below.refl _ _).drew))
        (first | (go_at_call 20; (refine (less_any a0 a1 b0 b1 s t x y _ hx hy).mono ?_); rintro e w' ⟨rfl, hb⟩; have hN := rows_next (by assumption) hb)
               | (go_at_call 21; (refine (rless_any a0 a1 b0 b1 s t x y _ hx hy).mono ?_); rintro e w' ⟨rfl, hb⟩; have hN := rows_next (by assumption) hb)
               | (go_at_call 22; (refine (before_any c0 c1 d0 d1 _).mono ?_); rintro e w' ⟨rfl, hb⟩; have hN := rows_next (by assumption) hb)
               | (go_at_call 23; (refine (rbefore_any c0 c1 d0 d1 _).mono ?_); rintro e w' ⟨rfl, hb⟩; have hN := rows_next (by assumption) hb)
               | (go_at_call 19; (refine (live_any _).mono ?_); rintro e w' ⟨rfl, hb⟩; have hN := rows_next (by assumption) hb))
      go_wp2_with fail
      go_ret
      exact ⟨rfl, by rw [hp.out]; exact hN.2.2.2.2.2.2.2.2.2.2.2.2.1⟩

end Fl
end Go.Proofs.Ytllkhcejgoebbaa
