/-
  WALKS: what package rank computes of numbers. Conditions: the numbers are of their kinds.
-/
import Derived.Test.YtllkhcejgoebbaaRankPlain
import Derived.Deep.QuietTactic
import Derived.BigQuiet
import Derived.Outline
namespace Go.Proofs.Ytllkhcejgoebbaa
open Go.RowKit
namespace Fl

theorem and_top {u : Nat} (h : u < 2 * S) : bits .and .u64 (u : Int) 9223372036854775808 = ((if S ≤ u then S else 0 : Nat) : Int) := by
  have e := wd_of u h
  have := and_sign (neg u) (r := u % S) (Nat.mod_lt _ (by decide))
  rw [← e] at this
  rw [this]
  unfold neg
  by_cases hs : S ≤ u
  · rw [decide_eq_true hs, if_pos rfl, if_pos hs]
  · rw [decide_eq_false hs, if_neg (by decide), if_neg hs]

theorem not_word {u : Nat} (h : u < 2 * S) : bits .xor .u64 IntKind.u64.max (u : Int) = ((2 * S - 1 - u : Nat) : Int) := by
  have e0 : IntKind.u64.max = ((18446744073709551615 : Nat) : Int) := rfl
  rw [e0, u64_xor_nat _ _ (by decide) h]
  congr 1
  have e1 : 2 * S = 2 ^ 64 := by decide
  rw [e1] at h ⊢
  apply Nat.eq_of_testBit_eq
  intro i
  have e2 : 2 ^ 64 - 1 - u = 2 ^ 64 - (u + 1) := by omega
  rw [Nat.testBit_xor, e2, Nat.testBit_two_pow_sub_succ h, show (18446744073709551615 : Nat) = 2 ^ 64 - 1 from rfl, Nat.testBit_two_pow_sub_one]
  by_cases hi : i < 64
  · simp [hi]
  · have : u.testBit i = false := Nat.testBit_lt_two_pow (Nat.lt_of_lt_of_le h (Nat.pow_le_pow_right (by decide) (by omega)))
    simp [hi, this]
theorem or_top {u : Nat} (h : u < S) : bits .or .u64 (u : Int) 9223372036854775808 = ((u + S : Nat) : Int) := by
  have := or64 (a := u) (b := S) (by have := S_val; omega) (by decide)
  rw [Nat.or_comm, (sign_add h).1, Nat.add_comm] at this
  exact this
theorem keyN_hi {b : Nat} (h : S ≤ canon b) : keyN b = 2 * S - 1 - canon b := by unfold keyN; rw [if_neg (by omega)]
theorem keyN_lo {b : Nat} (h : canon b < S) : keyN b = canon b + S := by unfold keyN; rw [if_pos h]

set_option maxHeartbeats 400000 in
theorem key_any (b : Nat) (w : World) (hb : b < 2 * S) :
    Calls Try.prog 14 #[.float .f64 b] w fun e w' => e = .returned (.int .u64 (keyN b : Nat)) ∧ Below w.heap.size w w' := by
  have hc := canon_lt hb
  have h1 := and_top hc
  have HB := Lib.hid (fun w => bits_any b w hb)
  by_cases hs : S ≤ canon b
  · rw [if_pos hs] at h1
    rw [keyN_hi hs]
    have h2 := not_word hc
    have h3 : ((S : Int) != 0) = true := rfl
    generalize canon b = u at *
    generalize 2 * S - 1 - u = k at *
    go_enter Try.func14, Try.ntmps14
    go_wp2_with fail
    refine (HB.out _).mono ?_
    rintro e w1 ⟨rfl, hb1⟩
    go_wp2_with fail
    go_ret
    exact ⟨rfl, hb1⟩
  · rw [if_neg hs] at h1
    rw [keyN_lo (by omega)]
    have h2 := or_top (u := canon b) (by omega)
    generalize canon b = u at *
    generalize u + S = k at *
    go_enter Try.func14, Try.ntmps14
    go_wp2_with fail
    refine (HB.out _).mono ?_
    rintro e w1 ⟨rfl, hb1⟩
    go_wp2_with fail
    go_ret
    exact ⟨rfl, hb1⟩

set_option maxHeartbeats 400000 in
theorem rkey_any (b : Nat) (w : World) (hb : b < 2 * S) :
    Calls Try.prog 15 #[.float .f64 b] w fun e w' => e = .returned (.int .u64 (keyN b : Nat)) ∧ w = w' := by
  have hc := canon_lt hb
  have hS := S_val
  have HB := Lib.hid (fun w => rbits_any b w hb)
  by_cases hs : S ≤ canon b
  · rw [keyN_hi hs]
    have e : ((2 * S - 1 - canon b : Nat) : Int) = 18446744073709551615 - (canon b : Int) := by omega
    have h1 : decide ((canon b : Int) < 9223372036854775808) = false := by rw [decide_eq_false_iff_not]; omega
    have h2 : (canon b : Int) < 18446744073709551616 := by omega
    rw [e]
    clear hS e hs hc
    generalize canon b = u at *
    go_enter Try.func15, Try.ntmps15
    go_wp2_with fail
    refine (HB.out _).mono ?_
    rintro e w' ⟨rfl, rfl⟩
    go_wp2_with fail
    go_ret
    exact ⟨rfl, rfl⟩
  · rw [keyN_lo (by omega)]
    have e : ((canon b + S : Nat) : Int) = (canon b : Int) + 9223372036854775808 := by omega
    have h1 : decide ((canon b : Int) < 9223372036854775808) = true := by rw [decide_eq_true_iff]; omega
    have h2 : (canon b : Int) < 9223372036854775808 := by omega
    rw [e]
    clear hS e hs hc
    generalize canon b = u at *
    go_enter Try.func15, Try.ntmps15
    go_wp2_with fail
    refine (HB.out _).mono ?_
    rintro e w' ⟨rfl, rfl⟩
    go_wp2_with fail
    go_ret
    exact ⟨rfl, rfl⟩

/-! ### how two keys stand -/
set_option maxHeartbeats 400000 in
theorem cmpU_any (x y : Nat) (w : World) :
    Calls Try.prog 29 #[.int .u64 x, .int .u64 y] w fun e w' => e = .returned (.int .i64 (cmpN x y)) ∧ w = w' := by
  rcases cmpN_cases x y with ⟨h, h'⟩ | ⟨h, h'⟩ | ⟨h, rfl⟩
  · rw [h]
    clear h
    go_enter Try.func29, Try.ntmps29
    go_wp2
    go_ret
    exact ⟨rfl, rfl⟩
  · rw [h]
    clear h
    go_enter Try.func29, Try.ntmps29
    go_wp2
    go_ret
    exact ⟨rfl, rfl⟩
  · rw [h]
    clear h
    go_enter Try.func29, Try.ntmps29
    go_wp2
    go_ret
    exact ⟨rfl, rfl⟩

set_option maxHeartbeats 400000 in
theorem compare_any (a b : Nat) (w : World) (ha : a < 2 * S) (hb : b < 2 * S) :
    Calls Try.prog 17 #[.float .f64 a, .float .f64 b] w fun e w' => e = .returned (.int .i64 (cmpN (keyN a) (keyN b))) ∧ Below w.heap.size w w' := by
  go_enter Try.func17, Try.ntmps17
  go_wp2_with fail
  refine (key_any a _ ha).mono ?_
  rintro e w1 ⟨rfl, h1⟩
  go_wp2_with fail
  refine (key_any b _ hb).mono ?_
  rintro e w2 ⟨rfl, h2⟩
  go_wp2_with fail
  refine (cmpU_any _ _ _).mono ?_
  rintro e w' ⟨rfl, rfl⟩
  go_wp2_with fail
  go_ret
  exact ⟨rfl, chain2 h1 h2⟩

set_option maxHeartbeats 400000 in
theorem rcompare_any (a b : Nat) (w : World) (ha : a < 2 * S) (hb : b < 2 * S) :
    Calls Try.prog 18 #[.float .f64 a, .float .f64 b] w fun e w' => e = .returned (.int .i64 (cmpN (keyN a) (keyN b))) ∧ w = w' := by
  have HA := Lib.hid (fun w => rkey_any a w ha)
  have HB := Lib.hid (fun w => rkey_any b w hb)
  generalize keyN a = x at *
  generalize keyN b = y at *
  rcases cmpN_cases x y with ⟨h, h'⟩ | ⟨h, h'⟩ | ⟨h, h'⟩
  · rw [h]
    clear h
    go_enter Try.func18, Try.ntmps18
    go_wp2_with fail
    refine (HA.out _).mono ?_
    rintro e w' ⟨rfl, rfl⟩
    go_wp2_with fail
    refine (HB.out _).mono ?_
    rintro e w' ⟨rfl, rfl⟩
    go_wp2_with fail
    go_ret
    exact ⟨rfl, rfl⟩
  · rw [h]
    clear h
    go_enter Try.func18, Try.ntmps18
    go_wp2_with fail
    refine (HA.out _).mono ?_
    rintro e w' ⟨rfl, rfl⟩
    go_wp2_with fail
    refine (HB.out _).mono ?_
    rintro e w' ⟨rfl, rfl⟩
    go_wp2_with fail
    refine (HA.out _).mono ?_
    rintro e w' ⟨rfl, rfl⟩
    go_wp2_with fail
    refine (HB.out _).mono ?_
    rintro e w' ⟨rfl, rfl⟩
    go_wp2_with fail
    go_ret
    exact ⟨rfl, rfl⟩
  · rw [h]
    clear h
    subst h'
    go_enter Try.func18, Try.ntmps18
    go_wp2_with fail
    refine (HA.out _).mono ?_
    rintro e w' ⟨rfl, rfl⟩
    go_wp2_with fail
    refine (HB.out _).mono ?_
    rintro e w' ⟨rfl, rfl⟩
    go_wp2_with fail
    refine (HA.out _).mono ?_
    rintro e w' ⟨rfl, rfl⟩
    go_wp2_with fail
    refine (HB.out _).mono ?_
    rintro e w' ⟨rfl, rfl⟩
    go_wp2_with fail
    go_ret
    exact ⟨rfl, rfl⟩

/-! ### what a key tells -/
theorem unk_hi {k : Nat} (h : S ≤ k) : unk k = k - S := by unfold unk; rw [if_neg (by omega)]
theorem unk_lo {k : Nat} (h : k < S) : unk k = 2 * S - 1 - k := by unfold unk; rw [if_pos h]
theorem andNot_top {k : Nat} (h : k < 2 * S) (hs : S ≤ k) : bits .andNot .u64 (k : Int) 9223372036854775808 = ((k - S : Nat) : Int) := by
  have e := u64_andNot_nat k 9223372036854775808 h (by decide)
  rw [show (18446744073709551615 - 9223372036854775808 : Nat) = 2 ^ 63 - 1 from by decide, Nat.and_two_pow_sub_one_eq_mod] at e
  have e2 : k % 2 ^ 63 = k - S := by simp only [S_val] at h hs ⊢; omega
  rw [e2] at e
  exact e

set_option maxHeartbeats 400000 in
theorem unkey_yes (k : Nat) (w : World) (hk : k < 2 * S) (hok : okK k = true) :
    Calls Try.prog 10 #[.int .u64 k] w fun e w' => (∃ b, e = .returned (.tuple #[.float .f64 b, .bool true]) ∧ b < 2 * S ∧ keyN b = k) ∧ Below w.heap.size w w' := by
  have hu := unk_lt hk
  have h1 := and_top hk
  have HF := Lib.hid (fun w => float_any (unk k) w hu)
  have HC : Hid (∀ w, _) := Lib.hid (fun w => canon_any (unk k) w hu)
  have HK := Lib.hid (fun b (h : canon b = unk k) => key_of hk h)
  rw [show canonB (unk k) = true from hok] at HC
  rw [canonB_true hok] at HF
  have h2 := not_word hk
  by_cases hs : S ≤ k
  · rw [if_pos hs] at h1
    rw [unk_hi hs] at *
    have h3 := andNot_top hk hs
    have h4 : ((S : Int) != 0) = true := rfl
    generalize 2 * S - 1 - k = n at *
    generalize k - S = u at *
    go_enter Try.func10, Try.ntmps10
    go_wp2_with fail
    refine (HC.out _).mono ?_
    rintro e w' ⟨rfl, rfl⟩
    go_wp2_with fail
    refine (HF.out _).mono ?_
    rintro e w1 ⟨⟨b, rfl, g1, g2, -, -⟩, hb1⟩
    have G := Lib.hid (HK.out b g2)
    clear g2
    go_wp2_with fail
    go_ret2
    exact ⟨⟨b, rfl, g1, G.out⟩, hb1⟩
  · rw [if_neg hs] at h1
    rw [unk_lo (by omega)] at *
    generalize 2 * S - 1 - k = n at *
    go_enter Try.func10, Try.ntmps10
    go_wp2_with fail
    refine (HC.out _).mono ?_
    rintro e w' ⟨rfl, rfl⟩
    go_wp2_with fail
    refine (HF.out _).mono ?_
    rintro e w1 ⟨⟨b, rfl, g1, g2, -, -⟩, hb1⟩
    have G := Lib.hid (HK.out b g2)
    clear g2
    go_wp2_with fail
    go_ret2
    exact ⟨⟨b, rfl, g1, G.out⟩, hb1⟩

set_option maxHeartbeats 400000 in
theorem unkey_no (k : Nat) (w : World) (hk : k < 2 * S) (hok : okK k = false) :
    Calls Try.prog 10 #[.int .u64 k] w fun e w' => e = .returned (.tuple #[.float .f64 0, .bool false]) ∧ Below w.heap.size w w' := by
  have hu := unk_lt hk
  have h1 := and_top hk
  have HC : Hid (∀ w, _) := Lib.hid (fun w => canon_any (unk k) w hu)
  rw [show canonB (unk k) = false from hok] at HC
  have h2 := not_word hk
  by_cases hs : S ≤ k
  · rw [if_pos hs] at h1
    rw [unk_hi hs] at *
    have h3 := andNot_top hk hs
    have h4 : ((S : Int) != 0) = true := rfl
    generalize 2 * S - 1 - k = n at *
    generalize k - S = u at *
    go_enter Try.func10, Try.ntmps10
    go_wp2_with fail
    refine (HC.out _).mono ?_
    rintro e w' ⟨rfl, rfl⟩
    go_wp2_with fail
    go_ret2
    exact ⟨rfl, Below.refl _ _⟩
  · rw [if_neg hs] at h1
    rw [unk_lo (by omega)] at *
    generalize 2 * S - 1 - k = n at *
    go_enter Try.func10, Try.ntmps10
    go_wp2_with fail
    refine (HC.out _).mono ?_
    rintro e w' ⟨rfl, rfl⟩
    go_wp2_with fail
    go_ret2
    exact ⟨rfl, Below.refl _ _⟩

/-- the document's answer: a key that is not that of the number that it tells is none's. -/
theorem key_other {k b : Nat} (hk : k < 2 * S) (hok : okK k = false) (h : canon b = canon (unk k)) : ((keyN b : Int) != (k : Int)) = true := by
  have h1 := canonB_false (u := unk k) hok
  rw [bne_iff_ne]
  intro he
  have e : keyN b = k := by omega
  have ok : okK k = true := by
    rw [okK_iff hk]
    right
    rw [← e]
    unfold keyN
    rw [h, h1, if_pos (by decide), Nat.add_comm]
  rw [ok] at hok
  cases hok

set_option maxHeartbeats 400000 in
theorem runkey_any (k : Nat) (w : World) (hk : k < 2 * S) :
    Calls Try.prog 11 #[.int .u64 k] w fun e w' => ((okK k = true ∧ ∃ b, e = .returned (.tuple #[.float .f64 b, .bool true]) ∧ b < 2 * S ∧ keyN b = k) ∨ (okK k = false ∧ e = .returned (.tuple #[.float .f64 0, .bool false]))) ∧ Below w.heap.size w w' := by
  have hS := S_val
  have hu := unk_lt hk
  have HF := Lib.hid (fun w => rfloat_any (unk k) w hu)
  have HK := Lib.hid (fun b (h : canon b = unk k) => key_of hk h)
  have HO := Lib.hid (fun b hok (h : canon b = canon (unk k)) => key_other (b := b) hk hok h)
  have HT := Lib.hid (fun (h : okK k = true) => canonB_true h)
  by_cases hs : S ≤ k
  · have e1 : ((unk k : Nat) : Int) = (k : Int) - 9223372036854775808 := by rw [unk_hi hs]; omega
    have h1 : decide (9223372036854775808 ≤ (k : Int)) = true := by rw [decide_eq_true_iff]; omega
    have h2 : 9223372036854775808 ≤ (k : Int) := by omega
    have h3 : (k : Int) < 18446744073709551616 := by omega
    generalize unk k = u at *
    rw [e1] at HF
    clear hS e1
    go_enter Try.func11, Try.ntmps11
    go_wp2_with fail
    refine (HF.out _).mono ?_
    rintro e w1 ⟨⟨b, rfl, g1, g2, -, -⟩, hb1⟩
    have HG := Lib.hid g2
    clear g2
    go_wp2_with fail
    refine (rkey_any b _ g1).mono ?_
    rintro e w' ⟨rfl, rfl⟩
    cases hok : okK k with
    | true =>
      obtain rfl := HK.out b (by rw [HG.out, HT.out hok])
      have HOK := Lib.hid hok
      clear hok
      go_wp2_with fail
      go_ret2
      exact ⟨.inl ⟨HOK.out, b, rfl, g1, rfl⟩, hb1⟩
    | false =>
      have hne := HO.out b hok HG.out
      generalize keyN b = m at *
      have HOK := Lib.hid hok
      clear hok
      go_wp2_with fail
      go_ret2
      exact ⟨.inr ⟨HOK.out, rfl⟩, hb1⟩
  · have e1 : ((unk k : Nat) : Int) = 18446744073709551615 - (k : Int) := by rw [unk_lo (by omega)]; omega
    have h1 : decide (9223372036854775808 ≤ (k : Int)) = false := by rw [decide_eq_false_iff_not]; omega
    have h2 : (k : Int) < 9223372036854775808 := by omega
    have h3 : 0 ≤ (k : Int) := by omega
    generalize unk k = u at *
    rw [e1] at HF
    clear hS e1
    go_enter Try.func11, Try.ntmps11
    go_wp2_with fail
    refine (HF.out _).mono ?_
    rintro e w1 ⟨⟨b, rfl, g1, g2, -, -⟩, hb1⟩
    have HG := Lib.hid g2
    clear g2
    go_wp2_with fail
    refine (rkey_any b _ g1).mono ?_
    rintro e w' ⟨rfl, rfl⟩
    cases hok : okK k with
    | true =>
      obtain rfl := HK.out b (by rw [HG.out, HT.out hok])
      have HOK := Lib.hid hok
      clear hok
      go_wp2_with fail
      go_ret2
      exact ⟨.inl ⟨HOK.out, b, rfl, g1, rfl⟩, hb1⟩
    | false =>
      have hne := HO.out b hok HG.out
      generalize keyN b = m at *
      have HOK := Lib.hid hok
      clear hok
      go_wp2_with fail
      go_ret2
      exact ⟨.inr ⟨HOK.out, rfl⟩, hb1⟩

theorem unkey_any (k : Nat) (w : World) (hk : k < 2 * S) :
    Calls Try.prog 10 #[.int .u64 k] w fun e w' => ((okK k = true ∧ ∃ b, e = .returned (.tuple #[.float .f64 b, .bool true]) ∧ b < 2 * S ∧ keyN b = k) ∨ (okK k = false ∧ e = .returned (.tuple #[.float .f64 0, .bool false]))) ∧ Below w.heap.size w w' := by
  cases hok : okK k with
  | true =>
    refine (unkey_yes k w hk hok).mono ?_
    rintro e w' ⟨h, hb⟩
    exact ⟨.inl ⟨rfl, h⟩, hb⟩
  | false =>
    refine (unkey_no k w hk hok).mono ?_
    rintro e w' ⟨h, hb⟩
    exact ⟨.inr ⟨rfl, h⟩, hb⟩

/-- what Between hands back. -/
def BetweenIs (x y : Nat) (e : Ending) : Prop :=
  (hasMid x y = true ∧ ∃ b, e = .returned (.tuple #[.float .f64 b, .bool true]) ∧ b < 2 * S ∧ keyN b = mid x y) ∨ (hasMid x y = false ∧ e = .returned (.tuple #[.float .f64 0, .bool false]))

theorem near_none {x y : Nat} (h : max x y - min x y < 2) : hasMid x y = false := by
  unfold hasMid
  rw [decide_eq_false (by omega)]
  rfl
theorem mid_left {x y : Nat} (h : x < y) : ((mid x y : Nat) : Int) = (x : Int) + ((y : Int) - x) / 2 := by unfold mid; omega
theorem mid_right {x y : Nat} (h : y < x) : ((mid x y : Nat) : Int) = (y : Int) + ((x : Int) - y) / 2 := by unfold mid; omega
theorem between_of {x y : Nat} {e : Ending} (h2 : ¬ max x y - min x y < 2) (h : (okK (mid x y) = true ∧ ∃ b, e = .returned (.tuple #[.float .f64 b, .bool true]) ∧ b < 2 * S ∧ keyN b = mid x y) ∨ (okK (mid x y) = false ∧ e = .returned (.tuple #[.float .f64 0, .bool false]))) : BetweenIs x y e := by
  have e : hasMid x y = okK (mid x y) := by unfold hasMid; rw [decide_eq_true (by omega), Bool.true_and]
  unfold BetweenIs
  rw [e]
  exact h

set_option maxHeartbeats 1000000 in
theorem between_any (a b : Nat) (w : World) (ha : a < 2 * S) (hb : b < 2 * S) :
    Calls Try.prog 12 #[.float .f64 a, .float .f64 b] w fun e w' => BetweenIs (keyN a) (keyN b) e ∧ Below w.heap.size w w' := by
  have HA := Lib.hid (fun w => key_any a w ha)
  have HB := Lib.hid (fun w => key_any b w hb)
  have hx := keyN_lt ha
  have hy := keyN_lt hb
  generalize keyN a = x at *
  generalize keyN b = y at *
  have hS := S_val
  have h3 : (x : Int) < 18446744073709551616 := by omega
  have h4 : (y : Int) < 18446744073709551616 := by omega
  have HN := Lib.hid (fun h => near_none (x := x) (y := y) h)
  have HM := Lib.hid (fun (hl : x < y) => mid_left hl)
  have HM' := Lib.hid (fun (hl : y < x) => mid_right hl)
  have HU := Lib.hid (fun w => unkey_any (mid x y) w (mid_lt hx hy))
  have HF := Lib.hid (fun (h : ¬ max x y - min x y < 2) e => between_of (x := x) (y := y) (e := e) h)
  clear hS hx hy ha hb
  rcases Nat.lt_trichotomy x y with hl | rfl | hl
  · have hi : (x : Int) < y := by omega
    by_cases hd : y - x < 2
    · have hd' : (y : Int) - x < 2 := by omega
      have E := Lib.hid (HN.out (by omega))
      clear hd hl
      go_enter Try.func12, Try.ntmps12
      go_wp2_with fail
      refine (HA.out _).mono ?_
      rintro e w1 ⟨rfl, b1⟩
      go_wp2_with fail
      refine (HB.out _).mono ?_
      rintro e w2 ⟨rfl, b2⟩
      replace b2 := chain2 b1 b2
      clear b1
      go_wp2_with fail
      refine (HA.out _).mono ?_
      rintro e w3 ⟨rfl, b3⟩
      replace b3 := chain2 b2 b3
      clear b2
      go_wp2_with fail
      refine (HB.out _).mono ?_
      rintro e w4 ⟨rfl, b4⟩
      replace b4 := chain2 b3 b4
      clear b3
      go_wp2_with fail
      go_ret2
      exact ⟨.inr ⟨E.out, rfl⟩, b4⟩
    · have hd' : decide ((y : Int) - x < 2) = false := by rw [decide_eq_false_iff_not]; omega
      have e1 := HM.out hl
      rw [e1] at HU
      have G := Lib.hid (HF.out (by omega))
      clear hd hl e1 HF HN
      generalize mid x y = m at *
      generalize hasMid x y = t at *
      go_enter Try.func12, Try.ntmps12
      go_wp2_with fail
      refine (HA.out _).mono ?_
      rintro e w1 ⟨rfl, b1⟩
      go_wp2_with fail
      refine (HB.out _).mono ?_
      rintro e w2 ⟨rfl, b2⟩
      replace b2 := chain2 b1 b2
      clear b1
      go_wp2_with fail
      refine (HA.out _).mono ?_
      rintro e w3 ⟨rfl, b3⟩
      replace b3 := chain2 b2 b3
      clear b2
      go_wp2_with fail
      refine (HB.out _).mono ?_
      rintro e w4 ⟨rfl, b4⟩
      replace b4 := chain2 b3 b4
      clear b3
      go_wp2_with fail
      refine (HU.out _).mono ?_
      rintro e w5 ⟨⟨hok, b, rfl, g1, g2⟩ | ⟨hok, rfl⟩, b5⟩
      · have G2 := Lib.hid (G.out _ (.inl ⟨hok, b, rfl, g1, g2⟩))
        clear hok g2
        go_wp2_with fail
        go_ret2
        exact ⟨G2.out, chain2 b4 b5⟩
      · have G2 := Lib.hid (G.out _ (.inr ⟨hok, rfl⟩))
        clear hok
        go_wp2_with fail
        go_ret2
        exact ⟨G2.out, chain2 b4 b5⟩
  · have E := Lib.hid (HN.out (by omega))
    clear HU HM HM' HF
    go_enter Try.func12, Try.ntmps12
    go_wp2_with fail
    refine (HA.out _).mono ?_
    rintro e w1 ⟨rfl, b1⟩
    go_wp2_with fail
    refine (HB.out _).mono ?_
    rintro e w2 ⟨rfl, b2⟩
    replace b2 := chain2 b1 b2
    clear b1
    go_wp2_with fail
    refine (HA.out _).mono ?_
    rintro e w3 ⟨rfl, b3⟩
    replace b3 := chain2 b2 b3
    clear b2
    go_wp2_with fail
    refine (HB.out _).mono ?_
    rintro e w4 ⟨rfl, b4⟩
    replace b4 := chain2 b3 b4
    clear b3
    go_wp2_with fail
    go_ret2
    exact ⟨.inr ⟨E.out, rfl⟩, b4⟩
  · have hi : (y : Int) < x := by omega
    by_cases hd : x - y < 2
    · have hd' : (x : Int) - y < 2 := by omega
      have E := Lib.hid (HN.out (by omega))
      clear hd hl
      go_enter Try.func12, Try.ntmps12
      go_wp2_with fail
      refine (HA.out _).mono ?_
      rintro e w1 ⟨rfl, b1⟩
      go_wp2_with fail
      refine (HB.out _).mono ?_
      rintro e w2 ⟨rfl, b2⟩
      replace b2 := chain2 b1 b2
      clear b1
      go_wp2_with fail
      refine (HA.out _).mono ?_
      rintro e w3 ⟨rfl, b3⟩
      replace b3 := chain2 b2 b3
      clear b2
      go_wp2_with fail
      refine (HB.out _).mono ?_
      rintro e w4 ⟨rfl, b4⟩
      replace b4 := chain2 b3 b4
      clear b3
      go_wp2_with fail
      go_ret2
      exact ⟨.inr ⟨E.out, rfl⟩, b4⟩
    · have hd' : decide ((x : Int) - y < 2) = false := by rw [decide_eq_false_iff_not]; omega
      have e1 := HM'.out hl
      rw [e1] at HU
      have G := Lib.hid (HF.out (by omega))
      clear hd hl e1 HF HN
      generalize mid x y = m at *
      generalize hasMid x y = t at *
      go_enter Try.func12, Try.ntmps12
      go_wp2_with fail
      refine (HA.out _).mono ?_
      rintro e w1 ⟨rfl, b1⟩
      go_wp2_with fail
      refine (HB.out _).mono ?_
      rintro e w2 ⟨rfl, b2⟩
      replace b2 := chain2 b1 b2
      clear b1
      go_wp2_with fail
      refine (HA.out _).mono ?_
      rintro e w3 ⟨rfl, b3⟩
      replace b3 := chain2 b2 b3
      clear b2
      go_wp2_with fail
      refine (HB.out _).mono ?_
      rintro e w4 ⟨rfl, b4⟩
      replace b4 := chain2 b3 b4
      clear b3
      go_wp2_with fail
      refine (HU.out _).mono ?_
      rintro e w5 ⟨⟨hok, b, rfl, g1, g2⟩ | ⟨hok, rfl⟩, b5⟩
      · have G2 := Lib.hid (G.out _ (.inl ⟨hok, b, rfl, g1, g2⟩))
        clear hok g2
        go_wp2_with fail
        go_ret2
        exact ⟨G2.out, chain2 b4 b5⟩
      · have G2 := Lib.hid (G.out _ (.inr ⟨hok, rfl⟩))
        clear hok
        go_wp2_with fail
        go_ret2
        exact ⟨G2.out, chain2 b4 b5⟩

set_option maxHeartbeats 1000000 in
theorem rbetween_any (a b : Nat) (w : World) (ha : a < 2 * S) (hb : b < 2 * S) :
    Calls Try.prog 13 #[.float .f64 a, .float .f64 b] w fun e w' => BetweenIs (keyN a) (keyN b) e ∧ Below w.heap.size w w' := by
  have HA := Lib.hid (fun w => rkey_any a w ha)
  have HB := Lib.hid (fun w => rkey_any b w hb)
  have hx := keyN_lt ha
  have hy := keyN_lt hb
  generalize keyN a = x at *
  generalize keyN b = y at *
  have hS := S_val
  have h3 : (x : Int) < 18446744073709551616 := by omega
  have h4 : (y : Int) < 18446744073709551616 := by omega
  have HN := Lib.hid (fun h => near_none (x := x) (y := y) h)
  have HM := Lib.hid (fun (hl : x < y) => mid_left hl)
  have HM' := Lib.hid (fun (hl : y < x) => mid_right hl)
  have HU := Lib.hid (fun w => runkey_any (mid x y) w (mid_lt hx hy))
  have HF := Lib.hid (fun (h : ¬ max x y - min x y < 2) e => between_of (x := x) (y := y) (e := e) h)
  clear hS hx hy ha hb
  rcases Nat.lt_trichotomy x y with hl | rfl | hl
  · have hi : (x : Int) < y := by omega
    by_cases hd : y - x < 2
    · have hd' : (y : Int) - x < 2 := by omega
      have E := Lib.hid (HN.out (by omega))
      clear hd hl
      go_enter Try.func13, Try.ntmps13
      go_wp2_with fail
      refine (HA.out _).mono ?_
      rintro e w' ⟨rfl, rfl⟩
      go_wp2_with fail
      refine (HB.out _).mono ?_
      rintro e w' ⟨rfl, rfl⟩
      go_wp2_with fail
      refine (HA.out _).mono ?_
      rintro e w' ⟨rfl, rfl⟩
      go_wp2_with fail
      refine (HB.out _).mono ?_
      rintro e w' ⟨rfl, rfl⟩
      go_wp2_with fail
      go_ret2
      exact ⟨.inr ⟨E.out, rfl⟩, Below.refl _ _⟩
    · have hd' : decide ((y : Int) - x < 2) = false := by rw [decide_eq_false_iff_not]; omega
      have e1 := HM.out hl
      rw [e1] at HU
      have G := Lib.hid (HF.out (by omega))
      clear hd hl e1 HF HN
      generalize mid x y = m at *
      generalize hasMid x y = t at *
      go_enter Try.func13, Try.ntmps13
      go_wp2_with fail
      refine (HA.out _).mono ?_
      rintro e w' ⟨rfl, rfl⟩
      go_wp2_with fail
      refine (HB.out _).mono ?_
      rintro e w' ⟨rfl, rfl⟩
      go_wp2_with fail
      refine (HA.out _).mono ?_
      rintro e w' ⟨rfl, rfl⟩
      go_wp2_with fail
      refine (HB.out _).mono ?_
      rintro e w' ⟨rfl, rfl⟩
      go_wp2_with fail
      refine (HU.out _).mono ?_
      rintro e w5 ⟨⟨hok, b, rfl, g1, g2⟩ | ⟨hok, rfl⟩, b5⟩
      · have G2 := Lib.hid (G.out _ (.inl ⟨hok, b, rfl, g1, g2⟩))
        clear hok g2
        go_wp2_with fail
        go_ret2
        exact ⟨G2.out, b5⟩
      · have G2 := Lib.hid (G.out _ (.inr ⟨hok, rfl⟩))
        clear hok
        go_wp2_with fail
        go_ret2
        exact ⟨G2.out, b5⟩
  · have E := Lib.hid (HN.out (by omega))
    clear HU HM HM' HF
    go_enter Try.func13, Try.ntmps13
    go_wp2_with fail
    refine (HA.out _).mono ?_
    rintro e w' ⟨rfl, rfl⟩
    go_wp2_with fail
    refine (HB.out _).mono ?_
    rintro e w' ⟨rfl, rfl⟩
    go_wp2_with fail
    refine (HA.out _).mono ?_
    rintro e w' ⟨rfl, rfl⟩
    go_wp2_with fail
    refine (HB.out _).mono ?_
    rintro e w' ⟨rfl, rfl⟩
    go_wp2_with fail
    go_ret2
    exact ⟨.inr ⟨E.out, rfl⟩, Below.refl _ _⟩
  · have hi : (y : Int) < x := by omega
    by_cases hd : x - y < 2
    · have hd' : (x : Int) - y < 2 := by omega
      have E := Lib.hid (HN.out (by omega))
      clear hd hl
      go_enter Try.func13, Try.ntmps13
      go_wp2_with fail
      refine (HA.out _).mono ?_
      rintro e w' ⟨rfl, rfl⟩
      go_wp2_with fail
      refine (HB.out _).mono ?_
      rintro e w' ⟨rfl, rfl⟩
      go_wp2_with fail
      refine (HA.out _).mono ?_
      rintro e w' ⟨rfl, rfl⟩
      go_wp2_with fail
      refine (HB.out _).mono ?_
      rintro e w' ⟨rfl, rfl⟩
      go_wp2_with fail
      go_ret2
      exact ⟨.inr ⟨E.out, rfl⟩, Below.refl _ _⟩
    · have hd' : decide ((x : Int) - y < 2) = false := by rw [decide_eq_false_iff_not]; omega
      have e1 := HM'.out hl
      rw [e1] at HU
      have G := Lib.hid (HF.out (by omega))
      clear hd hl e1 HF HN
      generalize mid x y = m at *
      generalize hasMid x y = t at *
      go_enter Try.func13, Try.ntmps13
      go_wp2_with fail
      refine (HA.out _).mono ?_
      rintro e w' ⟨rfl, rfl⟩
      go_wp2_with fail
      refine (HB.out _).mono ?_
      rintro e w' ⟨rfl, rfl⟩
      go_wp2_with fail
      refine (HA.out _).mono ?_
      rintro e w' ⟨rfl, rfl⟩
      go_wp2_with fail
      refine (HB.out _).mono ?_
      rintro e w' ⟨rfl, rfl⟩
      go_wp2_with fail
      refine (HU.out _).mono ?_
      rintro e w5 ⟨⟨hok, b, rfl, g1, g2⟩ | ⟨hok, rfl⟩, b5⟩
      · have G2 := Lib.hid (G.out _ (.inl ⟨hok, b, rfl, g1, g2⟩))
        clear hok g2
        go_wp2_with fail
        go_ret2
        exact ⟨G2.out, b5⟩
      · have G2 := Lib.hid (G.out _ (.inr ⟨hok, rfl⟩))
        clear hok
        go_wp2_with fail
        go_ret2
        exact ⟨G2.out, b5⟩

end Fl
end Go.Proofs.Ytllkhcejgoebbaa
