/-
  The program's sums, noughts and combined sums are the document's, for every text, numbers and count; no condition beyond what the statement's own row says.
-/
import Derived.Test.YtmhlnfijghfngaaCrcLive
import Derived.Test.YtmhlnfijghfngaaOpen
import Derived.Deep.RegionHeld3
import Derived.Deep.DrawnRows
namespace Go.Proofs.Ytmhlnfijghfngaa
open Go.RowKit
namespace Crc
attribute [local go_sem ↓] Go.wp_at_zero Go.wp_at_succ

/-- behind calls that make memory. -/
theorem below_next {w v v' : World} (h : Below w.heap.size w v) (hz : w.heap.size < v.heap.size) (hb : Below v.heap.size v v') : Below w.heap.size w v' ∧ w.heap.size < v'.heap.size :=
  ⟨h.trans (hb.mono (by omega)), Nat.lt_of_lt_of_le hz hb.size⟩

/-- what a law of layer 10 keeps behind a call: its own box of two numbers, and all that was there. -/
theorem kept_next {w v v' : World} {x0 x1 : Value}
    (h : v.cell? ⟨w.heap.size, 0, none⟩ = some x0 ∧ v.cell? ⟨w.heap.size, 1, none⟩ = some x1 ∧ Below w.heap.size w v ∧ w.heap.size < v.heap.size) (hb : Below v.heap.size v v') :
    v'.cell? ⟨w.heap.size, 0, none⟩ = some x0 ∧ v'.cell? ⟨w.heap.size, 1, none⟩ = some x1 ∧ Below w.heap.size w v' ∧ w.heap.size < v'.heap.size := by
  obtain ⟨h0, h1, h2, h3⟩ := h
  exact ⟨(hb.cell (p := ⟨w.heap.size, 0, none⟩) h3).trans h0, (hb.cell (p := ⟨w.heap.size, 1, none⟩) h3).trans h1, below_next h2 h3 hb⟩
theorem kept_box (w : World) (x0 x1 : Value) (t : TypeId) : (w.alloc (.cells #[x0, x1] t)).cell? ⟨w.heap.size, 0, none⟩ = some x0 ∧ (w.alloc (.cells #[x0, x1] t)).cell? ⟨w.heap.size, 1, none⟩ = some x1 ∧
    Below w.heap.size w (w.alloc (.cells #[x0, x1] t)) ∧ w.heap.size < (w.alloc (.cells #[x0, x1] t)).heap.size := by
  have hn := heap_alloc_last w (.cells #[x0, x1] t)
  exact ⟨(cell_of_row _ _ _ _ _ _ hn).trans rfl, (cell_of_row _ _ _ _ _ _ hn).trans rfl, (Below.refl _ _).alloc (Nat.le_refl _) _, by simp⟩

set_option maxRecDepth 100000 in
set_option maxHeartbeats 2000000 in
theorem tells_walk (s : ByteArray) (c0 c1 : Nat) (n : Int) (w : World) (hs : s.size ≤ maxLen) (h0 : c0 < lid) (h1 : c1 < lid) (hn : -9223372036854775808 ≤ n ∧ n ≤ 9223372036854775807) :
    Calls Try.prog 3 #[.string s, .agg #[.int .u32 c0, .int .u32 c1], .int .i64 n] w fun e w' => e = .returned (.bool true) ∧ Below w.heap.size w w' := by
  by_cases hg : s.size > 500
  · have hg' : (500 : Int) < (s.size : Int) := by omega
    go_enter Try.func3, Try.ntmps3
    go_wp2_with fail
    refine (live_any _).mono ?_
    rintro e w1 ⟨rfl, hb1⟩
    go_wp2_with fail
    go_ret
    exact ⟨rfl, ((Below.refl _ _).alloc (Nat.le_refl _) _).trans (hb1.mono (by simp))⟩
  · have hg' : ¬ (500 : Int) < (s.size : Int) := by omega
    by_cases hg2 : (1000 : Int) < n
    · go_enter Try.func3, Try.ntmps3
      go_wp2_with fail
      refine (live_any _).mono ?_
      rintro e w1 ⟨rfl, hb1⟩
      go_wp2_with fail
      go_ret
      exact ⟨rfl, ((Below.refl _ _).alloc (Nat.le_refl _) _).trans (hb1.mono (by simp))⟩
    · go_enter Try.func3, Try.ntmps3
      go_wp2_with fail
      have hK := kept_box w (.int .u32 c0) (.int .u32 c1) 23
      generalize w.alloc (.cells #[.int .u32 c0, .int .u32 c1] 23) = w1 at *
      go_region_held3 (fun w' => w'.cell? ⟨w.heap.size, 0, none⟩ = some (.int .u32 c0) ∧ w'.cell? ⟨w.heap.size, 1, none⟩ = some (.int .u32 c1) ∧ Below w.heap.size w w' ∧ w.heap.size < w'.heap.size) (first | assumption | exact ⟨hK.1, hK.2.1, hK.2.2.1.drew, hK.2.2.2⟩)
        (first | (go_at_call 9; (refine (sum_any _ _ hs).mono ?_); rintro e w' ⟨rfl, hb⟩; have hN := kept_next (by assumption) hb)
               | (go_at_call 10; (refine (ref_sum _ _ hs).mono ?_); rintro e w' ⟨rfl, rfl⟩)
               | (go_at_call 11; (refine (more_any _ _ _ h0 hs).mono ?_); rintro e w' ⟨rfl, hb⟩; have hN := kept_next (by assumption) hb)
               | (go_at_call 12; (refine (ref_more _ _ _ h0 hs).mono ?_); rintro e w' ⟨rfl, rfl⟩)
               | (go_at_call 13; (refine (zeros_any _ _ _ h0 hn).mono ?_); rintro e w' ⟨rfl, hb⟩; have hN := kept_next (by assumption) hb)
               | (go_at_call 14; (refine (ref_zeros _ _ _ h0 hn).mono ?_); rintro e w' ⟨rfl, rfl⟩)
               | (go_at_call 15; (refine (combine_any _ _ _ _ h0 h1 hn).mono ?_); rintro e w' ⟨rfl, hb⟩; have hN := kept_next (by assumption) hb)
               | (go_at_call 16; (refine (ref_combine _ _ _ _ h0 h1 hn).mono ?_); rintro e w' ⟨rfl, rfl⟩)
               | (go_at_call 8; (refine (live_any _).mono ?_); rintro e w' ⟨rfl, hb⟩; have hN := kept_next (by assumption) hb))
      go_wp2_with fail
      go_ret
      exact ⟨rfl, hN.2.2.1⟩

theorem open_pair {b : Nat} {W : World} {v : Value} (h : Value.okWide Try.prog W .any b 23 v) : ∃ c0 c1 : Nat, v = .agg #[.int .u32 c0, .int .u32 c1] ∧ c0 < lid ∧ c1 < lid := by
  obtain ⟨cs, rfl, hs, hc⟩ := Opened.ok_cells [22, 22] 2 (by kernel_rfl) (by kernel_rfl) (by kernel_rfl) h
  obtain ⟨x, y, rfl⟩ := Opened.arr2 hs
  obtain ⟨u, hu, hx⟩ := hc 0 x rfl
  cases hu
  obtain ⟨n, rfl, h0, h1⟩ := Opened.cell_int Try.underlying22 hx
  obtain ⟨c0, rfl, l0⟩ := Opened.int_u32 h0 h1
  obtain ⟨u, hu, hx⟩ := hc 1 y rfl
  cases hu
  obtain ⟨n, rfl, h0, h1⟩ := Opened.cell_int Try.underlying22 hx
  obtain ⟨c1, rfl, l1⟩ := Opened.int_u32 h0 h1
  exact ⟨c0, c1, rfl, l0, l1⟩

theorem tells_ok (W : World) (b : Nat) (v0 v1 v2 : Value) (o0 : Value.okWide Try.prog W .any b 9 v0) (o1 : Value.okWide Try.prog W .any b 23 v1) (o2 : Value.okWide Try.prog W .any b 3 v2) :
    Calls Try.prog 3 #[v0, v1, v2] W fun e w' => e = .returned (.bool true) ∧ Below W.heap.size W w' := by
  obtain ⟨s, rfl, hs⟩ := Opened.ok_string Try.underlying9 o0
  obtain ⟨c0, c1, rfl, l0, l1⟩ := open_pair o1
  obtain ⟨n, rfl, h0, h1⟩ := Opened.ok_int Try.underlying3 o2
  exact tells_walk s c0 c1 n W hs l0 l1 (Opened.int_i64 h0 h1)

end Crc
end Go.Proofs.Ytmhlnfijghfngaa
