/-
  Of what bits make the bits are those, where they may be; of any number's bits the number is it: the walk of the law. No condition.
-/
import Derived.Test.YtaninbkcpejgcaaBitsLive
import Derived.Test.YtaninbkcpejgcaaOpen
namespace Go.Proofs.Ytaninbkcpejgcaa
open Go.RowKit
namespace Fl

theorem float_any (u : Nat) (w : World) (hu : u < 2 * S) :
    Calls Try.prog 8 #[.int .u64 u] w fun e w' => (∃ b, e = .returned (.float .f64 b) ∧ b < 2 * S ∧ canon b = canon u ∧ isNan b = isNan u ∧ (isNan u = false → b = u)) ∧ Below w.heap.size w w' := by
  cases h : isNan u with
  | true =>
    refine (float_nan u w hu h).mono ?_
    rintro e w' ⟨⟨b, rfl, h1, h2⟩, hb⟩
    exact ⟨⟨b, rfl, h2, by rw [canon_nan h1, canon_nan h], h1, fun h => by cases h⟩, hb⟩
  | false =>
    refine (float_word u w hu h).mono ?_
    rintro e w' ⟨rfl, hb⟩
    exact ⟨⟨u, rfl, hu, rfl, h, fun _ => rfl⟩, hb⟩

theorem canon_word {u : Nat} (h : isNan u = false) : canon u = u := by unfold canon; rw [h]; rfl
theorem canonB_canon (u : Nat) : canonB (canon u) = true := by
  unfold canonB
  cases h : isNan u with
  | true => rw [canon_nan h]; decide +kernel
  | false => rw [canon_word h, h]; rfl
theorem canonB_true {u : Nat} (h : canonB u = true) : canon u = u := by
  cases hn : isNan u with
  | true =>
    unfold canonB at h
    rw [hn] at h
    rw [canon_nan hn]
    have : (u == nanU) = true := by simpa using h
    exact (beq_iff_eq.1 this).symm
  | false => exact canon_word hn
theorem canonB_false {u : Nat} (h : canonB u = false) : canon u = nanU := by
  cases hn : isNan u with
  | true => exact canon_nan hn
  | false => unfold canonB at h; rw [hn] at h; cases h

theorem order_self {b : Nat} (hb : b < 2 * S) (h : isNan b = false) : FloatKind.f64.format.order b b = some .eq := by
  have hr : b % S ≤ I := by unfold isNan at h; simpa using h
  have e := wd_of b hb
  have := fo_num (neg b) (neg b) hr hr
  rw [← e] at this
  rw [this]
  simp
theorem order_nan {b : Nat} (hb : b < 2 * S) (h : isNan b = true) : FloatKind.f64.format.order b b = none := order_nan_left b b hb h

theorem chain2 {a b c : World} (h : Below a.heap.size a b) (h' : Below b.heap.size b c) : Below a.heap.size a c := h.trans (h'.mono h.size)

/-- how a number stands to nought. -/
theorem zero_cases {b : Nat} (hb : b < 2 * S) (h : isNan b = false) :
    (∃ s, b = wd s 0) ∨ FloatKind.f64.format.order b 0 = some .lt ∨ FloatKind.f64.format.order b 0 = some .gt := by
  have hr : b % S ≤ I := by unfold isNan at h; simpa using h
  have e := wd_of b hb
  rcases Nat.eq_zero_or_pos (b % S) with h0 | h0
  · rw [h0] at e; exact .inl ⟨_, e⟩
  · rw [e]
    cases neg b
    · exact .inr (.inr (fo_pos h0 hr))
    · exact .inr (.inl (fo_neg h0 hr))

/-- one divided by nought. -/
theorem run_inverse (s : Bool) (w : World) : (binOp .quo 22 (.float .f64 4607182418800017408) (.float .f64 (wd s 0))).run Try.prog w = .ok (.float .f64 (wd s I)) w :=
  run_div (by cases s <;> decide +kernel) w
theorem order_inf (s : Bool) : FloatKind.f64.format.order (wd s I) (wd s I) = some .eq := by cases s <;> decide +kernel

set_option maxRecDepth 100000 in
set_option maxHeartbeats 4000000 in
theorem back_walk (f u : Nat) (w : World) (hf : f < 2 * S) (hu : u < 2 * S) :
    Calls Try.prog 4 #[.float .f64 f, .int .u64 u] w fun e w' => e = .returned (.bool true) ∧ Below w.heap.size w w' := by
  have hcf := canon_lt hf
  have HCF := Lib.hid (canonB_canon f)
  have hv : (canonB u = true ∧ (((canon u : Nat) : Int) != ((u : Nat) : Int)) = false) ∨ (canonB u = false ∧ (((canon u : Nat) : Int) != 9221120237041090560) = false) := by
    cases h : canonB u with
    | true => exact .inl ⟨rfl, by rw [canonB_true h]; simp⟩
    | false => exact .inr ⟨rfl, by rw [canonB_false h]; rfl⟩
  have HFA := Lib.hid (fun w => float_any u w hu)
  have HFB := Lib.hid (fun w => float_any (canon f) w hcf)
  have HCA := Lib.hid (fun w => canon_any u w hu)
  have HCB := Lib.hid (fun w => canon_any (canon f) w hcf)
  have HBF := Lib.hid (fun w => bits_any f w hf)
  have hnot : ∀ (x : Bool) (w : World), (Op.unary .not (.bool x)).run Try.prog w = .ok (.bool (!x)) w := fun _ _ => rfl
  rcases hv with ⟨hc, hv⟩ | ⟨hc, hv⟩
  all_goals
    replace hc := Lib.hid hc
    go_enter Try.func4, Try.ntmps4
    go_wp2_with fail
    refine (HFA.out _).mono ?_
    rintro e w1 ⟨⟨b, rfl, hb, hcb, -, -⟩, h1⟩
    replace hcb := Lib.hid hcb
    go_wp2_with fail
    refine (bits_any b _ hb).mono ?_
    rintro e w2 ⟨rfl, h2⟩
    rw [hcb.out]
    replace h2 := chain2 h1 h2
    clear hcb h1
    go_wp2_with fail
    refine (HCA.out _).mono ?_
    rintro e w3 ⟨rfl, rfl⟩
    rw [hc.out]
    go_wp2_with fail
    refine (HCA.out _).mono ?_
    rintro e w3 ⟨rfl, rfl⟩
    rw [hc.out]
    go_wp2_with fail
    refine (HBF.out _).mono ?_
    rintro e w3 ⟨rfl, h3⟩
    replace h3 := chain2 h2 h3
    clear h2
    go_wp2_with fail
    refine (HFB.out _).mono ?_
    rintro e w4 ⟨⟨g, rfl, hg, -, hng, hgf⟩, h4⟩
    replace h4 := chain2 h3 h4
    clear h3
    replace hng := Lib.hid hng
    replace hgf := Lib.hid hgf
    go_wp2_with fail
    refine (HCB.out _).mono ?_
    rintro e w5 ⟨rfl, rfl⟩
    rw [HCF.out]
    cases hnf : isNan f
    · have hcn := canon_word hnf
      have hgg : g = f := by rw [← hcn]; exact hgf.out (by rw [hcn]; exact hnf)
      subst hgg
      clear hcn
      have ho := order_self hf hnf
      rcases zero_cases hf hnf with ⟨s, hz⟩ | hz | hz
      · subst hz
        have hz0 := fo_zero s
        have hi := run_inverse s
        have hio := order_inf s
        go_wp2_with fail
        refine (live_any _).mono ?_
        rintro e w6 ⟨rfl, h6⟩
        go_wp2_with fail
        go_ret
        exact ⟨rfl, chain2 h4 h6⟩
      · go_wp2_with fail
        refine (live_any _).mono ?_
        rintro e w6 ⟨rfl, h6⟩
        go_wp2_with fail
        go_ret
        exact ⟨rfl, chain2 h4 h6⟩
      · go_wp2_with fail
        refine (live_any _).mono ?_
        rintro e w6 ⟨rfl, h6⟩
        go_wp2_with fail
        go_ret
        exact ⟨rfl, chain2 h4 h6⟩
    · have ho := order_nan hf hnf
      have ho2 := order_nan hg (by rw [hng.out, canon_nan hnf]; decide +kernel)
      go_wp2_with fail
      refine (live_any _).mono ?_
      rintro e w6 ⟨rfl, h6⟩
      go_wp2_with fail
      go_ret
      exact ⟨rfl, chain2 h4 h6⟩

theorem back_ok (W : World) (b : Nat) (v0 v1 : Value) (o0 : Value.okWide Try.prog W .any b 22 v0) (o1 : Value.okWide Try.prog W .any b 23 v1) :
    Calls Try.prog 4 #[v0, v1] W fun e w' => e = .returned (.bool true) ∧ Below W.heap.size W w' := by
  obtain ⟨f, rfl, hf⟩ := Opened.ok_float Try.underlying22 o0
  obtain ⟨n, rfl, h0, h1⟩ := Opened.ok_int Try.underlying23 o1
  obtain ⟨u, rfl, hu⟩ := Opened.int_u64 h0 h1
  exact back_walk f u W (by rw [show 2 * S = 2 ^ 64 from by decide]; exact hf) hu

end Fl
end Go.Proofs.Ytaninbkcpejgcaa
