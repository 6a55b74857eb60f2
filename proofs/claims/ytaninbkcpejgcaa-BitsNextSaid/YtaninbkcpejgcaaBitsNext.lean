/-
  Nothing lies between the number of some bits and that of the next ones: the walk of the law. No condition.
-/
import Derived.Test.YtaninbkcpejgcaaBitsOrder
namespace Go.Proofs.Ytaninbkcpejgcaa
open Go.RowKit
namespace Fl

/-- what stands to two neighbours so: it is no number, or not above the lower one, or not below the upper one. -/
theorem between (s t : Bool) {r q : Nat} (hr : r ≤ I) (hq : q ≤ I) (h : sg t q = sg s r + 1) (f : Nat) (hf : f < 2 * S) :
    FloatKind.f64.format.order (wd s r) f = none ∨ FloatKind.f64.format.order (wd s r) f = some .gt ∨ FloatKind.f64.format.order (wd s r) f = some .eq ∨
    (FloatKind.f64.format.order (wd s r) f = some .lt ∧ (FloatKind.f64.format.order f (wd t q) = some .gt ∨ FloatKind.f64.format.order f (wd t q) = some .eq)) := by
  rcases word_cases hf with h1 | ⟨v, p, rfl, hp⟩
  · exact .inl (order_nan_right _ _ hf h1)
  · rcases Int.lt_trichotomy (sg s r) (sg v p) with h2 | h2 | h2
    · refine .inr (.inr (.inr ⟨fo_lt _ _ hr hp h2, ?_⟩))
      rcases Int.lt_trichotomy (sg t q) (sg v p) with h3 | h3 | h3
      · exact .inl (fo_gt _ _ hp hq h3)
      · exact .inr (fo_eq _ _ hp hq h3.symm)
      · omega
    · exact .inr (.inr (.inl (fo_eq _ _ hr hp h2)))
    · exact .inr (.inl (fo_gt _ _ hr hp h2))

set_option maxRecDepth 100000 in
set_option maxHeartbeats 8000000 in
theorem next_far (U f : Nat) (w : World) (hU : U < 2 * S) (h : I ≤ U % S) :
    Calls Try.prog 6 #[.int .u64 (U : Nat), .float .f64 f] w fun e w' => e = .returned (.bool true) ∧ Below w.heap.size w w' := by
  have h1 : ((U : Int) % 9223372036854775808) ≥ 9218868437227405312 := by
    have : (U : Int) % ((S : Nat) : Int) = ((U % S : Nat) : Int) := rfl
    show (9218868437227405312 : Int) ≤ (U : Int) % ((S : Nat) : Int)
    rw [this]
    exact Int.ofNat_le.2 h
  have h2 : (U : Int) < 18446744073709551616 := Int.ofNat_lt.2 hU
  go_enter Try.func6, Try.ntmps6
  go_wp2_with fail
  refine (live_any _).mono ?_
  rintro e w6 ⟨rfl, h6⟩
  go_wp2_with fail
  go_ret
  exact ⟨rfl, h6⟩

theorem float_wd (s : Bool) (r : Nat) (w : World) (h : r ≤ I) :
    Calls Try.prog 8 #[.int .u64 (wd s r : Nat)] w fun e w' => e = .returned (.float .f64 (wd s r)) ∧ Below w.heap.size w w' :=
  float_word _ w (wd_lt s h) (not_nan s h)

set_option maxRecDepth 100000 in
set_option maxHeartbeats 8000000 in
theorem next_near (s : Bool) (r f : Nat) (w : World) (hr : r < I) (hf : f < 2 * S) :
    Calls Try.prog 6 #[.int .u64 (wd s r : Nat), .float .f64 f] w fun e w' => e = .returned (.bool true) ∧ Below w.heap.size w w' := by
  have hS := I_lt_S
  have o1 := order_self (wd_lt s (Nat.le_of_lt hr)) (not_nan s (Nat.le_of_lt hr))
  have o2 := order_self (wd_lt s hr) (not_nan s hr)
  have HA := Lib.hid (fun w => float_wd s r w (Nat.le_of_lt hr))
  have HB := Lib.hid (fun w => float_wd s (r + 1) w hr)
  have hU1 : ((wd s r : Nat) : Int) + 1 = ((wd s (r + 1) : Nat) : Int) := by cases s <;> rfl
  have hlt : ((wd s r : Nat) : Int) + 1 < 18446744073709551616 := by rw [hU1]; exact Int.ofNat_lt.2 (wd_lt s hr)
  have hm : ((wd s r : Nat) : Int) % 9223372036854775808 < 9218868437227405312 := by
    have e : wd s r % S = r := by
      cases s
      · rw [wd_false, Nat.mod_eq_of_lt (by omega)]
      · show (S + r) % S = r
        rw [Nat.add_mod_left, Nat.mod_eq_of_lt (by omega)]
    have : ((wd s r : Nat) : Int) % ((S : Nat) : Int) = ((wd s r % S : Nat) : Int) := rfl
    show ((wd s r : Nat) : Int) % ((S : Nat) : Int) < ((I : Nat) : Int)
    rw [this, e]
    exact Int.ofNat_lt.2 hr
  have hU := Lib.hid hU1
  clear hU1
  cases s
  · have hF := between false false (Nat.le_of_lt hr) hr (by rw [sg_f, sg_f]; omega) f hf
    have ho : FloatKind.f64.format.order (wd false r) (wd false (r + 1)) = some .lt := fo_lt _ _ (Nat.le_of_lt hr) hr (by rw [sg_f, sg_f]; omega)
    have hs : ((wd false r : Nat) : Int) < 9223372036854775808 := by
      rw [wd_false]
      have : ((r : Nat) : Int) < ((S : Nat) : Int) := Int.ofNat_lt.2 (by omega)
      exact this
    generalize wd false r = F at *
    generalize wd false (r + 1) = G at *
    replace hm : decide ((F : Int) % 9223372036854775808 ≥ 9218868437227405312) = false := decide_eq_false (by omega)
    replace hs : decide ((F : Int) ≥ 9223372036854775808) = false := decide_eq_false (by omega)
    clear hr hS hf
    rcases hF with hx | hx | hx | ⟨hx, hy | hy⟩
    all_goals
      go_enter Try.func6, Try.ntmps6
      go_wp2_with fail
      refine (HA.out _).mono ?_
      rintro e w1 ⟨rfl, h1⟩
      go_wp2_with fail
      rw [hU.out]
      refine (HB.out _).mono ?_
      rintro e w2 ⟨rfl, h2⟩
      replace h2 := chain2 h1 h2
      clear h1
      go_wp2_with fail
      refine (live_any _).mono ?_
      rintro e w6 ⟨rfl, h6⟩
      go_wp2_with fail
      go_ret
      exact ⟨rfl, chain2 h2 h6⟩
  · have hF := between true true hr (Nat.le_of_lt hr) (by rw [sg_t, sg_t]; omega) f hf
    have ho : FloatKind.f64.format.order (wd true (r + 1)) (wd true r) = some .lt := fo_lt _ _ hr (Nat.le_of_lt hr) (by rw [sg_t, sg_t]; omega)
    have hs : 9223372036854775808 ≤ ((wd true r : Nat) : Int) := by
      have : ((S : Nat) : Int) ≤ ((S + r : Nat) : Int) := Int.ofNat_le.2 (by omega)
      exact this
    generalize wd true r = F at *
    generalize wd true (r + 1) = G at *
    replace hm : decide ((F : Int) % 9223372036854775808 ≥ 9218868437227405312) = false := decide_eq_false (by omega)
    replace hs : decide ((F : Int) ≥ 9223372036854775808) = true := decide_eq_true (by omega)
    clear hr hS hf
    rcases hF with hx | hx | hx | ⟨hx, hy | hy⟩
    all_goals
      go_enter Try.func6, Try.ntmps6
      go_wp2_with fail
      refine (HA.out _).mono ?_
      rintro e w1 ⟨rfl, h1⟩
      go_wp2_with fail
      rw [hU.out]
      refine (HB.out _).mono ?_
      rintro e w2 ⟨rfl, h2⟩
      replace h2 := chain2 h1 h2
      clear h1
      go_wp2_with fail
      refine (live_any _).mono ?_
      rintro e w6 ⟨rfl, h6⟩
      go_wp2_with fail
      go_ret
      exact ⟨rfl, chain2 h2 h6⟩

theorem next_ok (W : World) (b : Nat) (v0 v1 : Value) (o0 : Value.okWide Try.prog W .any b 23 v0) (o1 : Value.okWide Try.prog W .any b 22 v1) :
    Calls Try.prog 6 #[v0, v1] W fun e w' => e = .returned (.bool true) ∧ Below W.heap.size W w' := by
  obtain ⟨n, rfl, h0, h1⟩ := Opened.ok_int Try.underlying23 o0
  obtain ⟨u, rfl, hu⟩ := Opened.int_u64 h0 h1
  obtain ⟨g, rfl, hg⟩ := Opened.ok_float Try.underlying22 o1
  have e : 2 * S = 2 ^ 64 := by decide
  rw [← e] at hg
  have hu : u < 2 * S := hu
  rcases Nat.lt_or_ge (u % S) I with h1 | h1
  · have := next_near (neg u) (u % S) g W h1 hg
    rw [← wd_of u hu] at this
    exact this
  · exact next_far u g W hu h1

end Fl
end Go.Proofs.Ytaninbkcpejgcaa
