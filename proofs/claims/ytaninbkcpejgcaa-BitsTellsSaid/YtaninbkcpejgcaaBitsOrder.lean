/-
  Of two numbers without a minus the one with more bits is greater; with a minus, smaller: the walk of the law. No condition.
-/
import Derived.Test.YtaninbkcpejgcaaBitsBack
namespace Go.Proofs.Ytaninbkcpejgcaa
open Go.RowKit
namespace Fl

theorem wd_lt (s : Bool) {r : Nat} (h : r ≤ I) : wd s r < 2 * S := by
  have := I_lt_S
  unfold wd; split <;> omega
theorem not_nan (s : Bool) {r : Nat} (h : r ≤ I) : isNan (wd s r) = false := by
  have := I_lt_S
  have e : wd s r % S = r := by
    cases s
    · rw [wd_false, Nat.mod_eq_of_lt (by omega)]
    · show (S + r) % S = r
      rw [Nat.add_mod_left, Nat.mod_eq_of_lt (by omega)]
  unfold isNan
  rw [e]
  exact decide_eq_false (by omega)
theorem canon_wd (s : Bool) {r : Nat} (h : r ≤ I) : canon (wd s r) = wd s r := canon_word (not_nan s h)

theorem xor_sign (s : Bool) {r : Nat} (h : r ≤ I) : bits .xor .u64 ((wd s r : Nat) : Int) 9223372036854775808 = ((wd (!s) r : Nat) : Int) := by
  have hS : r < S := by have := I_lt_S; omega
  have e : (9223372036854775808 : Int) = ((S : Nat) : Int) := rfl
  rw [e, u64_xor_nat _ _ (lt64 (wd_lt s h)) (by decide)]
  congr 1
  obtain ⟨_, x1, x2⟩ := sign_add hS
  cases s
  · rw [wd_false, x1]; rfl
  · exact x2

theorem bits_wd (s : Bool) (r : Nat) (w : World) (h : r ≤ I) :
    Calls Try.prog 10 #[.float .f64 (wd s r)] w fun e w' => e = .returned (.int .u64 (wd s r : Nat)) ∧ Below w.heap.size w w' := by
  have := bits_any (wd s r) w (wd_lt s h)
  rw [canon_wd s h] at this
  exact this

set_option maxRecDepth 100000 in
set_option maxHeartbeats 4000000 in
theorem order_nans (f g : Nat) (w : World) (hf : f < 2 * S) (hg : g < 2 * S) (h : isNan f = true ∨ (isNan f = false ∧ isNan g = true)) :
    Calls Try.prog 5 #[.float .f64 f, .float .f64 g] w fun e w' => e = .returned (.bool true) ∧ Below w.heap.size w w' := by
  rcases h with h | ⟨h, h'⟩
  · have o1 := order_nan hf h
    go_enter Try.func5, Try.ntmps5
    go_wp2_with fail
    refine (live_any _).mono ?_
    rintro e w6 ⟨rfl, h6⟩
    go_wp2_with fail
    go_ret
    exact ⟨rfl, h6⟩
  · have o1 := order_self hf h
    have o2 := order_nan hg h'
    go_enter Try.func5, Try.ntmps5
    go_wp2_with fail
    refine (live_any _).mono ?_
    rintro e w6 ⟨rfl, h6⟩
    go_wp2_with fail
    go_ret
    exact ⟨rfl, h6⟩

theorem fo_lt (s t : Bool) {r q : Nat} (hr : r ≤ I) (hq : q ≤ I) (h : sg s r < sg t q) : FloatKind.f64.format.order (wd s r) (wd t q) = some .lt := by
  rw [fo_num s t hr hq, Int.compare_eq_lt.2 h]
theorem fo_gt (s t : Bool) {r q : Nat} (hr : r ≤ I) (hq : q ≤ I) (h : sg t q < sg s r) : FloatKind.f64.format.order (wd s r) (wd t q) = some .gt := by
  rw [fo_num s t hr hq, Int.compare_eq_gt.2 h]
theorem fo_eq (s t : Bool) {r q : Nat} (hr : r ≤ I) (hq : q ≤ I) (h : sg s r = sg t q) : FloatKind.f64.format.order (wd s r) (wd t q) = some .eq := by
  rw [fo_num s t hr hq, Int.compare_eq_eq.2 h]
theorem sg_t (r : Nat) : sg true r = -(r : Int) := rfl
theorem sg_f (r : Nat) : sg false r = (r : Int) := rfl

/-- what the law is told of two numbers with unlike signs. -/
theorem unlike_facts (s : Bool) {r q : Nat} (hr : r ≤ I) (hq : q ≤ I) :
    (s = true ∧ decide (wd (!s) q < wd s r) = true ∧ (FloatKind.f64.format.order (wd s r) (wd (!s) q) = some .lt ∨ FloatKind.f64.format.order (wd s r) (wd (!s) q) = some .eq)) ∨
    (s = false ∧ decide (wd (!s) q < wd s r) = false ∧
      ((FloatKind.f64.format.order (wd s r) (wd (!s) q) = some .eq ∧ FloatKind.f64.format.order (wd s r) 0 = some .eq ∧ FloatKind.f64.format.order (wd (!s) q) 0 = some .eq) ∨
       (FloatKind.f64.format.order (wd s r) (wd (!s) q) = some .gt ∧ FloatKind.f64.format.order (wd s r) 0 = some .gt) ∨
       (FloatKind.f64.format.order (wd s r) (wd (!s) q) = some .gt ∧ FloatKind.f64.format.order (wd s r) 0 = some .eq ∧ FloatKind.f64.format.order (wd (!s) q) 0 = some .lt))) := by
  have hS := I_lt_S
  cases s
  · refine .inr ⟨rfl, decide_eq_false (by show ¬ (S + q < wd false r); rw [wd_false]; omega), ?_⟩
    rcases Nat.eq_zero_or_pos r with h1 | h1
    · subst h1
      rcases Nat.eq_zero_or_pos q with h2 | h2
      · subst h2
        exact .inl ⟨fo_eq _ _ hr hq rfl, fo_zero _, fo_zero _⟩
      · exact .inr (.inr ⟨fo_gt _ _ hr hq (by show sg true q < sg false 0; rw [sg_t, sg_f]; omega), fo_zero _, fo_neg h2 hq⟩)
    · exact .inr (.inl ⟨fo_gt _ _ hr hq (by show sg true q < sg false r; rw [sg_t, sg_f]; omega), fo_pos h1 hr⟩)
  · refine .inl ⟨rfl, decide_eq_true (by show wd false q < S + r; rw [wd_false]; omega), ?_⟩
    rcases Nat.eq_zero_or_pos (r + q) with h1 | h1
    · exact .inr (fo_eq _ _ hr hq (by show sg true r = sg false q; rw [sg_t, sg_f]; omega))
    · exact .inl (fo_lt _ _ hr hq (by show sg true r < sg false q; rw [sg_t, sg_f]; omega))

set_option maxRecDepth 100000 in
set_option maxHeartbeats 8000000 in
theorem order_unlike (s : Bool) (r q : Nat) (w : World) (hr : r ≤ I) (hq : q ≤ I) :
    Calls Try.prog 5 #[.float .f64 (wd s r), .float .f64 (wd (!s) q)] w fun e w' => e = .returned (.bool true) ∧ Below w.heap.size w w' := by
  have o1 := order_self (wd_lt s hr) (not_nan s hr)
  have o2 := order_self (wd_lt (!s) hq) (not_nan (!s) hq)
  have HB := Lib.hid (fun w => bits_wd s r w hr)
  have HG := Lib.hid (fun w => bits_wd (!s) q w hq)
  have HN := Lib.hid (fun w => bits_wd (!s) r w hr)
  have HM := Lib.hid (fun w => minus_num s r w hr)
  have HMN := Lib.hid (fun w => minus_num (!s) r w hr)
  have HMG := Lib.hid (fun w => minus_num (!s) q w hq)
  have hx := xor_sign s hr
  have hn := fun w => run_neg s (r := r) (by have := I_lt_S; omega) w
  have hF := unlike_facts s hr hq
  generalize wd s r = F at *
  generalize wd (!s) r = FN at *
  generalize wd (!s) q = G at *
  rcases hF with ⟨rfl, hab, ho | ho⟩ | ⟨rfl, hab, ⟨ho, ho1, ho2⟩ | ⟨ho, ho1⟩ | ⟨ho, ho1, ho2⟩⟩
  all_goals
    go_enter Try.func5, Try.ntmps5
    go_wp2_with fail
    refine (HB.out _).mono ?_
    rintro e w1 ⟨rfl, h1⟩
    go_wp2_with fail
    refine (HG.out _).mono ?_
    rintro e w2 ⟨rfl, h2⟩
    replace h2 := chain2 h1 h2
    clear h1
    go_wp2_with fail
    refine (HN.out _).mono ?_
    rintro e w3 ⟨rfl, h3⟩
    replace h3 := chain2 h2 h3
    clear h2
    go_wp2_with fail
    refine (HM.out _).mono ?_
    rintro e w4 ⟨rfl, rfl⟩
    go_wp2_with fail
    refine (HMN.out _).mono ?_
    rintro e w4 ⟨rfl, rfl⟩
    go_wp2_with fail
    refine (HM.out _).mono ?_
    rintro e w4 ⟨rfl, rfl⟩
    go_wp2_with fail
    refine (HMG.out _).mono ?_
    rintro e w4 ⟨rfl, rfl⟩
    go_wp2_with fail
    refine (HM.out _).mono ?_
    rintro e w4 ⟨rfl, rfl⟩
    go_wp2_with fail
    refine (HM.out _).mono ?_
    rintro e w4 ⟨rfl, rfl⟩
    go_wp2_with fail
    refine (live_any _).mono ?_
    rintro e w6 ⟨rfl, h6⟩
    go_wp2_with fail
    go_ret
    exact ⟨rfl, chain2 h3 h6⟩

/-- what the law is told of two numbers with one sign. -/
theorem like_facts (s : Bool) {r q : Nat} (hr : r ≤ I) (hq : q ≤ I) :
    (wd s r ≠ wd s q ∧ decide (wd s r < wd s q) = true ∧ decide (wd s q < wd s r) = false ∧ FloatKind.f64.format.order (wd s r) (wd s q) = if s then some .gt else some .lt) ∨
    (wd s r = wd s q ∧ FloatKind.f64.format.order (wd s r) (wd s q) = some .eq) ∨
    (wd s r ≠ wd s q ∧ decide (wd s r < wd s q) = false ∧ decide (wd s q < wd s r) = true ∧ FloatKind.f64.format.order (wd s r) (wd s q) = if s then some .lt else some .gt) := by
  have key : ∀ a b : Nat, (wd s a < wd s b ↔ a < b) := by
    intro a b
    cases s
    · rw [wd_false, wd_false]
    · show S + a < S + b ↔ a < b
      omega
  have k1 := key r q
  have k2 := key q r
  rcases Nat.lt_trichotomy r q with h | h | h
  · refine .inl ⟨by omega, decide_eq_true (by omega), decide_eq_false (by omega), ?_⟩
    cases s
    · exact fo_lt _ _ hr hq (by rw [sg_f, sg_f]; omega)
    · exact fo_gt _ _ hr hq (by rw [sg_t, sg_t]; omega)
  · subst h; exact .inr (.inl ⟨rfl, fo_eq _ _ hr hq rfl⟩)
  · refine .inr (.inr ⟨by omega, decide_eq_false (by omega), decide_eq_true (by omega), ?_⟩)
    cases s
    · exact fo_gt _ _ hr hq (by rw [sg_f, sg_f]; omega)
    · exact fo_lt _ _ hr hq (by rw [sg_t, sg_t]; omega)

set_option maxRecDepth 100000 in
set_option maxHeartbeats 8000000 in
theorem order_like (s : Bool) (r q : Nat) (w : World) (hr : r ≤ I) (hq : q ≤ I) :
    Calls Try.prog 5 #[.float .f64 (wd s r), .float .f64 (wd s q)] w fun e w' => e = .returned (.bool true) ∧ Below w.heap.size w w' := by
  have o1 := order_self (wd_lt s hr) (not_nan s hr)
  have o2 := order_self (wd_lt s hq) (not_nan s hq)
  have HB := Lib.hid (fun w => bits_wd s r w hr)
  have HG := Lib.hid (fun w => bits_wd s q w hq)
  have HN := Lib.hid (fun w => bits_wd (!s) r w hr)
  have HM := Lib.hid (fun w => minus_num s r w hr)
  have HMN := Lib.hid (fun w => minus_num (!s) r w hr)
  have HMG := Lib.hid (fun w => minus_num s q w hq)
  have hx := xor_sign s hr
  have hn := fun w => run_neg s (r := r) (by have := I_lt_S; omega) w
  have hF := like_facts s hr hq
  generalize wd s r = F at *
  generalize wd (!s) r = FN at *
  generalize wd s q = G at *
  rcases hF with ⟨hne, d1, d2, ho⟩ | ⟨rfl, ho⟩ | ⟨hne, d1, d2, ho⟩
  all_goals
    cases s
    all_goals
      (try have e1 : ((F : Int) == (G : Int)) = false := by rw [beq_eq_false_iff_ne]; omega)
      (try have e2 : (F == G) = false := by rw [beq_eq_false_iff_ne]; omega)
      (try replace hne := Lib.hid hne)
      (try simp only [Bool.false_eq_true, if_false, if_true] at ho)
      go_enter Try.func5, Try.ntmps5
      go_wp2_with fail
      refine (HB.out _).mono ?_
      rintro e w1 ⟨rfl, h1⟩
      go_wp2_with fail
      refine (HG.out _).mono ?_
      rintro e w2 ⟨rfl, h2⟩
      replace h2 := chain2 h1 h2
      clear h1
      go_wp2_with fail
      refine (HN.out _).mono ?_
      rintro e w3 ⟨rfl, h3⟩
      replace h3 := chain2 h2 h3
      clear h2
      go_wp2_with fail
      refine (HM.out _).mono ?_
      rintro e w4 ⟨rfl, rfl⟩
      go_wp2_with fail
      refine (HMN.out _).mono ?_
      rintro e w4 ⟨rfl, rfl⟩
      go_wp2_with fail
      refine (HM.out _).mono ?_
      rintro e w4 ⟨rfl, rfl⟩
      go_wp2_with fail
      refine (HMG.out _).mono ?_
      rintro e w4 ⟨rfl, rfl⟩
      go_wp2_with fail
      refine (HM.out _).mono ?_
      rintro e w4 ⟨rfl, rfl⟩
      go_wp2_with fail
      refine (live_any _).mono ?_
      rintro e w6 ⟨rfl, h6⟩
      go_wp2_with fail
      go_ret
      exact ⟨rfl, chain2 h3 h6⟩

theorem order_ok (W : World) (b : Nat) (v0 v1 : Value) (o0 : Value.okWide Try.prog W .any b 22 v0) (o1 : Value.okWide Try.prog W .any b 22 v1) :
    Calls Try.prog 5 #[v0, v1] W fun e w' => e = .returned (.bool true) ∧ Below W.heap.size W w' := by
  obtain ⟨f, rfl, hf⟩ := Opened.ok_float Try.underlying22 o0
  obtain ⟨g, rfl, hg⟩ := Opened.ok_float Try.underlying22 o1
  have e : 2 * S = 2 ^ 64 := by decide
  rw [← e] at hf hg
  rcases word_cases hf with h1 | ⟨s, r, rfl, hr⟩
  · exact order_nans f g W hf hg (.inl h1)
  · rcases word_cases hg with h2 | ⟨t, q, rfl, hq⟩
    · exact order_nans _ g W hf hg (.inr ⟨not_nan s hr, h2⟩)
    · by_cases hst : s = t
      · subst hst; exact order_like s r q W hr hq
      · have : t = !s := by cases s <;> cases t <;> simp_all
        subst this
        exact order_unlike s r q W hr hq

end Fl
end Go.Proofs.Ytaninbkcpejgcaa
