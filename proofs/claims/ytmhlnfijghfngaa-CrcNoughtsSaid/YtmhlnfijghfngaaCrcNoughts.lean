/-
  Noughts stepped, some and then some, are all of them; they go as each by itself; none but 0 goes to 0: the walk of the law. No condition.
-/
import Derived.Test.YtmhlnfijghfngaaCrcTells
namespace Go.Proofs.Ytmhlnfijghfngaa
open Go.RowKit
namespace Crc
attribute [local go_sem ↓] Go.wp_at_zero Go.wp_at_succ

theorem cast_beq {a b : Nat} (h : a = b) : (((a : Nat) : Int) == ((b : Nat) : Int)) = true := by rw [h]; simp
theorem cast_beq_iff {a b c d : Nat} (h : a = b ↔ c = d) : (((a : Nat) : Int) == ((b : Nat) : Int)) = (((c : Nat) : Int) == ((d : Nat) : Int)) := by
  rw [Bool.eq_iff_iff]
  simp only [beq_iff_eq]
  omega

set_option maxRecDepth 100000 in
set_option maxHeartbeats 4000000 in
theorem noughts_walk (c0 c1 : Nat) (n m : Int) (w : World) (h0 : c0 < lid) (h1 : c1 < lid) (hn : -9223372036854775808 ≤ n ∧ n ≤ 9223372036854775807) (hm : -9223372036854775808 ≤ m ∧ m ≤ 9223372036854775807) :
    Calls Try.prog 6 #[.agg #[.int .u32 c0, .int .u32 c1], .int .i64 n, .int .i64 m] w fun e w' => e = .returned (.bool true) ∧ Below w.heap.size w w' := by
  by_cases g1 : n < 0
  · go_enter Try.func6, Try.ntmps6
    go_wp2_with fail
    refine (live_any _).mono ?_
    rintro e w1 ⟨rfl, hb1⟩
    go_wp2_with fail
    go_ret
    exact ⟨rfl, ((Below.refl _ _).alloc (Nat.le_refl _) _).trans (hb1.mono (by simp))⟩
  by_cases g2 : m < 0
  · go_enter Try.func6, Try.ntmps6
    go_wp2_with fail
    refine (live_any _).mono ?_
    rintro e w1 ⟨rfl, hb1⟩
    go_wp2_with fail
    go_ret
    exact ⟨rfl, ((Below.refl _ _).alloc (Nat.le_refl _) _).trans (hb1.mono (by simp))⟩
  by_cases g3 : 1099511627776 < n
  · go_enter Try.func6, Try.ntmps6
    go_wp2_with fail
    refine (live_any _).mono ?_
    rintro e w1 ⟨rfl, hb1⟩
    go_wp2_with fail
    go_ret
    exact ⟨rfl, ((Below.refl _ _).alloc (Nat.le_refl _) _).trans (hb1.mono (by simp))⟩
  by_cases g4 : 1099511627776 < m
  · go_enter Try.func6, Try.ntmps6
    go_wp2_with fail
    refine (live_any _).mono ?_
    rintro e w1 ⟨rfl, hb1⟩
    go_wp2_with fail
    go_ret
    exact ⟨rfl, ((Below.refl _ _).alloc (Nat.le_refl _) _).trans (hb1.mono (by simp))⟩
  have la := zeros_lt h0 n
  have lb := zeros_lt h1 n
  have lx := xor_lt h0 h1
  have e1 := cast_beq (zeros_add c0 (n := n) (m := m) (by omega) (by omega))
  have x1 := xor32 h0 h1
  have x2 := xor32 la lb
  have e2 := cast_beq (zeros_xor c0 c1 n).symm
  have e3 : (((zeros c0 n : Nat) : Int) == 0) = (((c0 : Nat) : Int) == 0) := cast_beq_iff (b := 0) (d := 0) (zeros_zero h0 n)
  have e4 := cast_beq_iff (a := zeros c0 n) (b := zeros c1 n) (c := c0) (d := c1) ⟨fun h => zeros_inj h0 h1 n h, fun h => by rw [h]⟩
  have hw : IntKind.i64.wrap (n + m) = n + m := IntWalk.i64_in _ (by omega)
  go_enter Try.func6, Try.ntmps6
  go_wp2_with fail
  have hK := kept_box w (.int .u32 c0) (.int .u32 c1) 23
  generalize w.alloc (.cells #[.int .u32 c0, .int .u32 c1] 23) = w1 at *
  refine (zeros_any _ _ _ h0 hn).mono ?_
  rintro e w2 ⟨rfl, hb2⟩
  replace hK := kept_next hK hb2
  have hc1 := hK.2.1
  go_wp2_with fail
  refine (zeros_any _ _ _ h1 hn).mono ?_
  rintro e w3 ⟨rfl, hb3⟩
  replace hK := kept_next hK hb3
  clear hb2 hb3 hc1
  go_wp2_with fail
  go_region_held3 (fun w' => w'.cell? ⟨w.heap.size, 0, none⟩ = some (.int .u32 c0) ∧ w'.cell? ⟨w.heap.size, 1, none⟩ = some (.int .u32 c1) ∧ Below w.heap.size w w' ∧ w.heap.size < w'.heap.size) (first | assumption | exact ⟨hK.1, hK.2.1, hK.2.2.1.drew, hK.2.2.2⟩)
    (first | (go_at_call 13; (refine (zeros_any _ _ _ (by assumption) (by omega)).mono ?_); rintro e w' ⟨rfl, hb⟩; have hN := kept_next (by assumption) hb)
           | (go_at_call 8; (refine (live_any _).mono ?_); rintro e w' ⟨rfl, hb⟩; have hN := kept_next (by assumption) hb))
  go_wp2_with fail
  go_ret
  exact ⟨rfl, hN.2.2.1⟩

theorem noughts_ok (W : World) (b : Nat) (v0 v1 v2 : Value) (o0 : Value.okWide Try.prog W .any b 23 v0) (o1 : Value.okWide Try.prog W .any b 3 v1) (o2 : Value.okWide Try.prog W .any b 3 v2) :
    Calls Try.prog 6 #[v0, v1, v2] W fun e w' => e = .returned (.bool true) ∧ Below W.heap.size W w' := by
  obtain ⟨c0, c1, rfl, l0, l1⟩ := open_pair o0
  obtain ⟨n, rfl, h0, h1⟩ := Opened.ok_int Try.underlying3 o1
  obtain ⟨m, rfl, h2, h3⟩ := Opened.ok_int Try.underlying3 o2
  exact noughts_walk c0 c1 n m W l0 l1 (Opened.int_i64 h0 h1) (Opened.int_i64 h2 h3)

end Crc
end Go.Proofs.Ytmhlnfijghfngaa
