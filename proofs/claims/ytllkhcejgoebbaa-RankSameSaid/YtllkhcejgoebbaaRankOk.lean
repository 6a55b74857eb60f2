/-
  What the arguments of rank's statements are, and the statements' walks over them. No condition.
-/
import Derived.Test.YtllkhcejgoebbaaRankLaws4
import Derived.Test.YtllkhcejgoebbaaOpen
namespace Go.Proofs.Ytllkhcejgoebbaa
open Go.RowKit
namespace Fl

theorem SS : 2 * S = 2 ^ 64 := by decide
theorem open_float {b : Nat} {W : World} {v : Value} (h : Value.okWide Try.prog W .any b 22 v) : ∃ x : Nat, v = .float .f64 x ∧ x < 2 * S := by
  obtain ⟨f, rfl, hf⟩ := Opened.ok_float Try.underlying22 h
  exact ⟨f, rfl, by rw [SS]; exact hf⟩
theorem open_u64 {b : Nat} {W : World} {v : Value} (h : Value.okWide Try.prog W .any b 23 v) : ∃ x : Nat, v = .int .u64 x ∧ x < 2 * S := by
  obtain ⟨n, rfl, h0, h1⟩ := Opened.ok_int Try.underlying23 h
  obtain ⟨u, rfl, hu⟩ := Opened.int_u64 h0 h1
  exact ⟨u, rfl, by rw [SS]; exact hu⟩
theorem open_row {b : Nat} {W : World} {v : Value} (h : Value.okWide Try.prog W .any b 33 v) : ∃ (a0 a1 : Int) (s : ByteArray) (x : Nat), v = .agg #[.int .i64 a0, .int .i64 a1, .string s, .float .f64 x] ∧ x < 2 * S := by
  obtain ⟨cs, rfl, hs, hc⟩ := Opened.ok_cells [3, 3, 9, 22] 4 (by kernel_rfl) (by kernel_rfl) (by kernel_rfl) h
  obtain ⟨v0, v1, v2, v3, rfl⟩ := Opened.arr4 hs
  obtain ⟨u, hu, h0⟩ := hc 0 v0 rfl
  cases hu
  obtain ⟨a0, rfl, _, _⟩ := Opened.cell_int Try.underlying3 h0
  obtain ⟨u, hu, h1⟩ := hc 1 v1 rfl
  cases hu
  obtain ⟨a1, rfl, _, _⟩ := Opened.cell_int Try.underlying3 h1
  obtain ⟨u, hu, h2⟩ := hc 2 v2 rfl
  cases hu
  obtain ⟨s, rfl, _⟩ := Opened.cell_string Try.underlying9 h2
  obtain ⟨u, hu, h3⟩ := hc 3 v3 rfl
  cases hu
  obtain ⟨x, rfl, hx⟩ := Opened.cell_float Try.underlying22 h3
  exact ⟨a0, a1, s, x, rfl, by rw [SS]; exact hx⟩
theorem open_times {b : Nat} {W : World} {v : Value} (h : Value.okWide Try.prog W .any b 36 v) : ∃ c0 c1 d0 d1 : Int, v = .agg #[.int .i64 c0, .int .i64 c1, .int .i64 d0, .int .i64 d1] := by
  obtain ⟨cs, rfl, hs, hc⟩ := Opened.ok_cells [3, 3, 3, 3] 4 (by kernel_rfl) (by kernel_rfl) (by kernel_rfl) h
  obtain ⟨v0, v1, v2, v3, rfl⟩ := Opened.arr4 hs
  obtain ⟨u, hu, h0⟩ := hc 0 v0 rfl
  cases hu
  obtain ⟨a0, rfl, _, _⟩ := Opened.cell_int Try.underlying3 h0
  obtain ⟨u, hu, h1⟩ := hc 1 v1 rfl
  cases hu
  obtain ⟨a1, rfl, _, _⟩ := Opened.cell_int Try.underlying3 h1
  obtain ⟨u, hu, h2⟩ := hc 2 v2 rfl
  cases hu
  obtain ⟨a2, rfl, _, _⟩ := Opened.cell_int Try.underlying3 h2
  obtain ⟨u, hu, h3⟩ := hc 3 v3 rfl
  cases hu
  obtain ⟨a3, rfl, _, _⟩ := Opened.cell_int Try.underlying3 h3
  exact ⟨a0, a1, a2, a3, rfl⟩

theorem tells_ok (W : World) (b : Nat) (v0 v1 v2 : Value) (o0 : Value.okWide Try.prog W .any b 22 v0) (o1 : Value.okWide Try.prog W .any b 22 v1) (o2 : Value.okWide Try.prog W .any b 23 v2) :
    Calls Try.prog 3 #[v0, v1, v2] W fun e w' => e = .returned (.bool true) ∧ Below W.heap.size W w' := by
  obtain ⟨x, rfl, hx⟩ := open_float o0
  obtain ⟨y, rfl, hy⟩ := open_float o1
  obtain ⟨k, rfl, hk⟩ := open_u64 o2
  exact tells_walk x y k W hx hy hk
theorem rows_ok (W : World) (b : Nat) (v0 v1 v2 : Value) (o0 : Value.okWide Try.prog W .any b 33 v0) (o1 : Value.okWide Try.prog W .any b 33 v1) (o2 : Value.okWide Try.prog W .any b 36 v2) :
    Calls Try.prog 4 #[v0, v1, v2] W fun e w' => e = .returned (.bool true) ∧ Below W.heap.size W w' := by
  obtain ⟨a0, a1, s, x, rfl, hx⟩ := open_row o0
  obtain ⟨b0, b1, t, y, rfl, hy⟩ := open_row o1
  obtain ⟨c0, c1, d0, d1, rfl⟩ := open_times o2
  exact rows_walk a0 a1 b0 b1 c0 c1 d0 d1 s t x y W hx hy
theorem order_ok (W : World) (b : Nat) (v0 v1 v2 : Value) (o0 : Value.okWide Try.prog W .any b 22 v0) (o1 : Value.okWide Try.prog W .any b 22 v1) (o2 : Value.okWide Try.prog W .any b 22 v2) :
    Calls Try.prog 5 #[v0, v1, v2] W fun e w' => e = .returned (.bool true) ∧ Below W.heap.size W w' := by
  obtain ⟨x, rfl, hx⟩ := open_float o0
  obtain ⟨y, rfl, hy⟩ := open_float o1
  obtain ⟨z, rfl, hz⟩ := open_float o2
  exact order_walk x y z W hx hy hz
theorem middle_ok (W : World) (b : Nat) (v0 v1 v2 : Value) (o0 : Value.okWide Try.prog W .any b 22 v0) (o1 : Value.okWide Try.prog W .any b 22 v1) (o2 : Value.okWide Try.prog W .any b 22 v2) :
    Calls Try.prog 6 #[v0, v1, v2] W fun e w' => e = .returned (.bool true) ∧ Below W.heap.size W w' := by
  obtain ⟨x, rfl, hx⟩ := open_float o0
  obtain ⟨y, rfl, hy⟩ := open_float o1
  obtain ⟨z, rfl, hz⟩ := open_float o2
  exact middle_walk x y z W hx hy hz
theorem keys_ok (W : World) (b : Nat) (v0 v1 : Value) (o0 : Value.okWide Try.prog W .any b 23 v0) (o1 : Value.okWide Try.prog W .any b 22 v1) :
    Calls Try.prog 7 #[v0, v1] W fun e w' => e = .returned (.bool true) ∧ Below W.heap.size W w' := by
  obtain ⟨k, rfl, hk⟩ := open_u64 o0
  obtain ⟨x, rfl, hx⟩ := open_float o1
  exact keys_walk k x W hk hx
theorem dense_ok (W : World) (b : Nat) (v0 v1 : Value) (o0 : Value.okWide Try.prog W .any b 22 v0) (o1 : Value.okWide Try.prog W .any b 22 v1) :
    Calls Try.prog 8 #[v0, v1] W fun e w' => e = .returned (.bool true) ∧ Below W.heap.size W w' := by
  obtain ⟨x, rfl, hx⟩ := open_float o0
  obtain ⟨y, rfl, hy⟩ := open_float o1
  exact dense_walk x y W hx hy
theorem same_ok (W : World) (b : Nat) (v0 v1 : Value) (o0 : Value.okWide Try.prog W .any b 33 v0) (o1 : Value.okWide Try.prog W .any b 33 v1) :
    Calls Try.prog 9 #[v0, v1] W fun e w' => e = .returned (.bool true) ∧ Below W.heap.size W w' := by
  obtain ⟨a0, a1, s, x, rfl, hx⟩ := open_row o0
  obtain ⟨b0, b1, t, y, rfl, hy⟩ := open_row o1
  exact same_walk a0 a1 b0 b1 s t x y W hx hy

end Fl
end Go.Proofs.Ytllkhcejgoebbaa
