/-
  WALKS: the laws of rank RankOrder and RankDense. No condition.
-/
import Derived.Test.YtllkhcejgoebbaaRankLaws
namespace Go.Proofs.Ytllkhcejgoebbaa
open Go.RowKit
namespace Fl

/-- how two numbers stand: by the keys, and as the machine compares them. -/
theorem order_facts {a b : Nat} (ha : a < 2 * S) (hb : b < 2 * S) :
    (keyN a < keyN b ∧ ((FloatKind.f64.format.order a b = some .lt ∧ FloatKind.f64.format.order a a = some .eq ∧ FloatKind.f64.format.order b b = some .eq) ∨ (FloatKind.f64.format.order a b = some .eq ∧ FloatKind.f64.format.order a a = some .eq ∧ FloatKind.f64.format.order b b = some .eq) ∨ (FloatKind.f64.format.order a b = none ∧ FloatKind.f64.format.order a a = some .eq ∧ FloatKind.f64.format.order b b = none)))
    ∨ (keyN a = keyN b ∧ ((FloatKind.f64.format.order a b = some .eq ∧ FloatKind.f64.format.order a a = some .eq ∧ FloatKind.f64.format.order b b = some .eq) ∨ (FloatKind.f64.format.order a b = none ∧ FloatKind.f64.format.order a a = none ∧ FloatKind.f64.format.order b b = none)))
    ∨ (keyN b < keyN a ∧ ((FloatKind.f64.format.order a b = some .gt ∧ FloatKind.f64.format.order a a = some .eq ∧ FloatKind.f64.format.order b b = some .eq) ∨ (FloatKind.f64.format.order a b = some .eq ∧ FloatKind.f64.format.order a a = some .eq ∧ FloatKind.f64.format.order b b = some .eq) ∨ (FloatKind.f64.format.order a b = none ∧ FloatKind.f64.format.order a a = none ∧ FloatKind.f64.format.order b b = some .eq))) := by
  have ka := key_nan ha
  have kb := key_nan hb
  cases na : isNan a with
  | true =>
    rw [na] at ka
    have o := order_nan_left a b ha na
    have oa := order_nan ha na
    cases nb : isNan b with
    | true => exact .inr (.inl ⟨by rw [key_of_nan na, key_of_nan nb], .inr ⟨o, oa, order_nan hb nb⟩⟩)
    | false =>
      rw [nb] at kb
      have h1 := of_decide_eq_true ka.symm
      have h2 := of_decide_eq_false kb.symm
      exact .inr (.inr ⟨by omega, .inr (.inr ⟨o, oa, order_self hb nb⟩)⟩)
  | false =>
    rw [na] at ka
    have oa := order_self ha na
    cases nb : isNan b with
    | true =>
      rw [nb] at kb
      have h1 := of_decide_eq_false ka.symm
      have h2 := of_decide_eq_true kb.symm
      exact .inl ⟨by omega, .inr (.inr ⟨order_nan_right a b hb nb, oa, order_nan hb nb⟩)⟩
    | false =>
      have ob := order_self hb nb
      rcases order_keys ha hb na nb with ⟨o, h⟩ | ⟨o, h⟩ | o
      · exact .inl ⟨h, .inl ⟨o, oa, ob⟩⟩
      · exact .inr (.inr ⟨h, .inl ⟨o, oa, ob⟩⟩)
      · rcases Nat.lt_trichotomy (keyN a) (keyN b) with h | h | h
        · exact .inl ⟨h, .inr (.inl ⟨o, oa, ob⟩)⟩
        · exact .inr (.inl ⟨h, .inl ⟨o, oa, ob⟩⟩)
        · exact .inr (.inr ⟨h, .inr (.inl ⟨o, oa, ob⟩)⟩)
theorem key_bne {x y : Nat} (h : x ≠ y) : ((x : Int) != (y : Int)) = true := by rw [bne_iff_ne]; omega

set_option maxRecDepth 100000 in
set_option maxHeartbeats 16000000 in
theorem order_walk (a b c : Nat) (w : World) (ha : a < 2 * S) (hb : b < 2 * S) (hc : c < 2 * S) :
    Calls Try.prog 5 #[.float .f64 a, .float .f64 b, .float .f64 c] w fun e w' => e = .returned (.bool true) ∧ Below w.heap.size w w' := by
  have HAB := Lib.hid (fun w => compare_any a b w ha hb)
  have HBC := Lib.hid (fun w => compare_any b c w hb hc)
  have HBA := Lib.hid (fun w => compare_any b a w hb ha)
  have HAA := Lib.hid (fun w => compare_any a a w ha ha)
  have HAC := Lib.hid (fun w => compare_any a c w ha hc)
  have HKA := Lib.hid (fun w => key_any a w ha)
  have HKB := Lib.hid (fun w => key_any b w hb)
  have HF := order_facts ha hb
  rw [cmpN_eq] at HAA
  clear ha hb hc
  generalize keyN a = x at *
  generalize keyN b = y at *
  generalize keyN c = z at *
  rcases HF with ⟨hxy, HF⟩ | ⟨rfl, HF⟩ | ⟨hxy, HF⟩
  · have hne := key_bne (show x ≠ y by omega)
    rw [cmpN_lt hxy] at HAB
    rw [cmpN_gt hxy] at HBA
    rcases cmpN_cases y z with ⟨e, hyz⟩ | ⟨e, hyz⟩ | ⟨e, hyz⟩
    · rw [e] at HBC
      rw [cmpN_lt (show x < z by omega)] at HAC
      clear e hxy hyz
      rcases HF with ⟨o1, o2, o3⟩ | ⟨o1, o2, o3⟩ | ⟨o1, o2, o3⟩
      all_goals
        go_enter Try.func5, Try.ntmps5
        go_wp2_with fail
        refine (HAB.out _).mono ?_
        rintro e w1 ⟨rfl, h1⟩
        go_wp2_with fail
        refine (HBC.out _).mono ?_
        rintro e w2 ⟨rfl, h2⟩
        replace h2 := chain2 h1 h2
        clear h1
        go_wp2_with fail
        refine (HBA.out _).mono ?_
        rintro e w3 ⟨rfl, h3⟩
        replace h3 := chain2 h2 h3
        clear h2
        go_wp2_with fail
        refine (HAA.out _).mono ?_
        rintro e w4 ⟨rfl, h4⟩
        replace h4 := chain2 h3 h4
        clear h3
        go_wp2_with fail
        refine (HAC.out _).mono ?_
        rintro e w5 ⟨rfl, h5⟩
        replace h5 := chain2 h4 h5
        clear h4
        go_wp2_with fail
        refine (HKA.out _).mono ?_
        rintro e w6 ⟨rfl, h6⟩
        replace h6 := chain2 h5 h6
        clear h5
        go_wp2_with fail
        refine (HKB.out _).mono ?_
        rintro e w7 ⟨rfl, h7⟩
        replace h7 := chain2 h6 h7
        clear h6
        go_wp2_with fail
        refine (live_any _).mono ?_
        rintro e w8 ⟨rfl, h8⟩
        replace h8 := chain2 h7 h8
        clear h7
        go_wp2_with fail
        go_ret
        exact ⟨rfl, h8⟩
    · rw [e] at HBC
      clear e hxy hyz
      rcases HF with ⟨o1, o2, o3⟩ | ⟨o1, o2, o3⟩ | ⟨o1, o2, o3⟩
      all_goals
        go_enter Try.func5, Try.ntmps5
        go_wp2_with fail
        refine (HAB.out _).mono ?_
        rintro e w1 ⟨rfl, h1⟩
        go_wp2_with fail
        refine (HBC.out _).mono ?_
        rintro e w2 ⟨rfl, h2⟩
        replace h2 := chain2 h1 h2
        clear h1
        go_wp2_with fail
        refine (HBA.out _).mono ?_
        rintro e w3 ⟨rfl, h3⟩
        replace h3 := chain2 h2 h3
        clear h2
        go_wp2_with fail
        refine (HAA.out _).mono ?_
        rintro e w4 ⟨rfl, h4⟩
        replace h4 := chain2 h3 h4
        clear h3
        go_wp2_with fail
        refine (HKA.out _).mono ?_
        rintro e w5 ⟨rfl, h5⟩
        replace h5 := chain2 h4 h5
        clear h4
        go_wp2_with fail
        refine (HKB.out _).mono ?_
        rintro e w6 ⟨rfl, h6⟩
        replace h6 := chain2 h5 h6
        clear h5
        go_wp2_with fail
        refine (live_any _).mono ?_
        rintro e w7 ⟨rfl, h7⟩
        replace h7 := chain2 h6 h7
        clear h6
        go_wp2_with fail
        go_ret
        exact ⟨rfl, h7⟩
    · rw [e] at HBC
      rw [cmpN_lt (show x < z by omega)] at HAC
      clear e hxy hyz
      rcases HF with ⟨o1, o2, o3⟩ | ⟨o1, o2, o3⟩ | ⟨o1, o2, o3⟩
      all_goals
        go_enter Try.func5, Try.ntmps5
        go_wp2_with fail
        refine (HAB.out _).mono ?_
        rintro e w1 ⟨rfl, h1⟩
        go_wp2_with fail
        refine (HBC.out _).mono ?_
        rintro e w2 ⟨rfl, h2⟩
        replace h2 := chain2 h1 h2
        clear h1
        go_wp2_with fail
        refine (HBA.out _).mono ?_
        rintro e w3 ⟨rfl, h3⟩
        replace h3 := chain2 h2 h3
        clear h2
        go_wp2_with fail
        refine (HAA.out _).mono ?_
        rintro e w4 ⟨rfl, h4⟩
        replace h4 := chain2 h3 h4
        clear h3
        go_wp2_with fail
        refine (HAC.out _).mono ?_
        rintro e w5 ⟨rfl, h5⟩
        replace h5 := chain2 h4 h5
        clear h4
        go_wp2_with fail
        refine (HKA.out _).mono ?_
        rintro e w6 ⟨rfl, h6⟩
        replace h6 := chain2 h5 h6
        clear h5
        go_wp2_with fail
        refine (HKB.out _).mono ?_
        rintro e w7 ⟨rfl, h7⟩
        replace h7 := chain2 h6 h7
        clear h6
        go_wp2_with fail
        refine (live_any _).mono ?_
        rintro e w8 ⟨rfl, h8⟩
        replace h8 := chain2 h7 h8
        clear h7
        go_wp2_with fail
        go_ret
        exact ⟨rfl, h8⟩
  · have hne := bne_self x
    rw [cmpN_eq] at HAB HBA
    rcases cmpN_cases x z with ⟨e, hyz⟩ | ⟨e, hyz⟩ | ⟨e, hyz⟩
    · rw [e] at HBC HAC
      clear e hyz
      rcases HF with ⟨o1, o2, o3⟩ | ⟨o1, o2, o3⟩
      all_goals
        go_enter Try.func5, Try.ntmps5
        go_wp2_with fail
        refine (HAB.out _).mono ?_
        rintro e w1 ⟨rfl, h1⟩
        go_wp2_with fail
        refine (HBC.out _).mono ?_
        rintro e w2 ⟨rfl, h2⟩
        replace h2 := chain2 h1 h2
        clear h1
        go_wp2_with fail
        refine (HBA.out _).mono ?_
        rintro e w3 ⟨rfl, h3⟩
        replace h3 := chain2 h2 h3
        clear h2
        go_wp2_with fail
        refine (HAA.out _).mono ?_
        rintro e w4 ⟨rfl, h4⟩
        replace h4 := chain2 h3 h4
        clear h3
        go_wp2_with fail
        refine (HAC.out _).mono ?_
        rintro e w5 ⟨rfl, h5⟩
        replace h5 := chain2 h4 h5
        clear h4
        go_wp2_with fail
        refine (HKA.out _).mono ?_
        rintro e w6 ⟨rfl, h6⟩
        replace h6 := chain2 h5 h6
        clear h5
        go_wp2_with fail
        refine (HKB.out _).mono ?_
        rintro e w7 ⟨rfl, h7⟩
        replace h7 := chain2 h6 h7
        clear h6
        go_wp2_with fail
        refine (live_any _).mono ?_
        rintro e w8 ⟨rfl, h8⟩
        replace h8 := chain2 h7 h8
        clear h7
        go_wp2_with fail
        go_ret
        exact ⟨rfl, h8⟩
    · rw [e] at HBC HAC
      clear e hyz
      rcases HF with ⟨o1, o2, o3⟩ | ⟨o1, o2, o3⟩
      all_goals
        go_enter Try.func5, Try.ntmps5
        go_wp2_with fail
        refine (HAB.out _).mono ?_
        rintro e w1 ⟨rfl, h1⟩
        go_wp2_with fail
        refine (HBC.out _).mono ?_
        rintro e w2 ⟨rfl, h2⟩
        replace h2 := chain2 h1 h2
        clear h1
        go_wp2_with fail
        refine (HBA.out _).mono ?_
        rintro e w3 ⟨rfl, h3⟩
        replace h3 := chain2 h2 h3
        clear h2
        go_wp2_with fail
        refine (HAA.out _).mono ?_
        rintro e w4 ⟨rfl, h4⟩
        replace h4 := chain2 h3 h4
        clear h3
        go_wp2_with fail
        refine (HKA.out _).mono ?_
        rintro e w5 ⟨rfl, h5⟩
        replace h5 := chain2 h4 h5
        clear h4
        go_wp2_with fail
        refine (HKB.out _).mono ?_
        rintro e w6 ⟨rfl, h6⟩
        replace h6 := chain2 h5 h6
        clear h5
        go_wp2_with fail
        refine (live_any _).mono ?_
        rintro e w7 ⟨rfl, h7⟩
        replace h7 := chain2 h6 h7
        clear h6
        go_wp2_with fail
        go_ret
        exact ⟨rfl, h7⟩
    · rw [e] at HBC HAC
      clear e hyz
      rcases HF with ⟨o1, o2, o3⟩ | ⟨o1, o2, o3⟩
      all_goals
        go_enter Try.func5, Try.ntmps5
        go_wp2_with fail
        refine (HAB.out _).mono ?_
        rintro e w1 ⟨rfl, h1⟩
        go_wp2_with fail
        refine (HBC.out _).mono ?_
        rintro e w2 ⟨rfl, h2⟩
        replace h2 := chain2 h1 h2
        clear h1
        go_wp2_with fail
        refine (HBA.out _).mono ?_
        rintro e w3 ⟨rfl, h3⟩
        replace h3 := chain2 h2 h3
        clear h2
        go_wp2_with fail
        refine (HAA.out _).mono ?_
        rintro e w4 ⟨rfl, h4⟩
        replace h4 := chain2 h3 h4
        clear h3
        go_wp2_with fail
        refine (HAC.out _).mono ?_
        rintro e w5 ⟨rfl, h5⟩
        replace h5 := chain2 h4 h5
        clear h4
        go_wp2_with fail
        refine (HKA.out _).mono ?_
        rintro e w6 ⟨rfl, h6⟩
        replace h6 := chain2 h5 h6
        clear h5
        go_wp2_with fail
        refine (HKB.out _).mono ?_
        rintro e w7 ⟨rfl, h7⟩
        replace h7 := chain2 h6 h7
        clear h6
        go_wp2_with fail
        refine (live_any _).mono ?_
        rintro e w8 ⟨rfl, h8⟩
        replace h8 := chain2 h7 h8
        clear h7
        go_wp2_with fail
        go_ret
        exact ⟨rfl, h8⟩
  · have hne := key_bne (show x ≠ y by omega)
    rw [cmpN_gt hxy] at HAB
    rw [cmpN_lt hxy] at HBA
    generalize cmpN y z = bc at *
    clear hxy
    rcases HF with ⟨o1, o2, o3⟩ | ⟨o1, o2, o3⟩ | ⟨o1, o2, o3⟩
    all_goals
      go_enter Try.func5, Try.ntmps5
      go_wp2_with fail
      refine (HAB.out _).mono ?_
      rintro e w1 ⟨rfl, h1⟩
      go_wp2_with fail
      refine (HBC.out _).mono ?_
      rintro e w2 ⟨rfl, h2⟩
      replace h2 := chain2 h1 h2
      clear h1
      go_wp2_with fail
      refine (HBA.out _).mono ?_
      rintro e w3 ⟨rfl, h3⟩
      replace h3 := chain2 h2 h3
      clear h2
      go_wp2_with fail
      refine (HAA.out _).mono ?_
      rintro e w4 ⟨rfl, h4⟩
      replace h4 := chain2 h3 h4
      clear h3
      go_wp2_with fail
      refine (HKA.out _).mono ?_
      rintro e w5 ⟨rfl, h5⟩
      replace h5 := chain2 h4 h5
      clear h4
      go_wp2_with fail
      refine (HKB.out _).mono ?_
      rintro e w6 ⟨rfl, h6⟩
      replace h6 := chain2 h5 h6
      clear h5
      go_wp2_with fail
      refine (live_any _).mono ?_
      rintro e w7 ⟨rfl, h7⟩
      replace h7 := chain2 h6 h7
      clear h6
      go_wp2_with fail
      go_ret
      exact ⟨rfl, h7⟩

/-- how far apart two keys are. -/
def far (x y : Nat) : Nat := max x y - min x y
theorem far_lt {x y : Nat} (hx : x < 2 * S) (hy : y < 2 * S) : far x y ≤ 2 ^ 64 := by
  have e : (2 : Nat) ^ 64 = 2 * S := by decide
  rw [e]
  unfold far
  omega
theorem far_half {x y k : Nat} (hk : k ≤ 64) (h : far x y ≤ 2 ^ (64 - k)) (hm : hasMid x y = true) : k + 1 ≤ 64 ∧ far x (mid x y) ≤ 2 ^ (64 - (k + 1)) := by
  obtain ⟨h2, _⟩ := hasMid_true hm
  have hk' : k + 1 ≤ 64 := by
    rcases (show k = 64 ∨ k + 1 ≤ 64 by omega) with rfl | h'
    · rw [show (2 : Nat) ^ (64 - 64) = 1 from rfl] at h
      unfold far at h
      omega
    · exact h'
  refine ⟨hk', ?_⟩
  rw [show 64 - k = (64 - (k + 1)) + 1 from by omega, Nat.pow_succ, Nat.mul_comm] at h
  exact mid_half h h2
theorem cmpN_ne {x y : Nat} (hm : hasMid x y = true) : cmpN x y ≠ 0 := (cmpN_mid hm).1

set_option maxRecDepth 100000 in
set_option maxHeartbeats 8000000 in
theorem dense_walk (a b : Nat) (w : World) (ha : a < 2 * S) (hb : b < 2 * S) :
    Calls Try.prog 8 #[.float .f64 a, .float .f64 b] w fun e w' => e = .returned (.bool true) ∧ Below w.heap.size w w' := by
  have HC := Lib.hid (fun w => compare_any a b w ha hb)
  have HA := Lib.hid ha
  have HB := Lib.hid hb
  have HD := Lib.hid (far_lt (keyN_lt ha) (keyN_lt hb))
  obtain ⟨c, hc⟩ : ∃ c, cmpN (keyN a) (keyN b) = c := ⟨_, rfl⟩
  rw [hc] at HC
  replace hc := Lib.hid hc
  clear ha hb
  go_enter Try.func8, Try.ntmps8
  go_wp2_with fail
  refine (HC.out _).mono ?_
  rintro e w1 ⟨rfl, h1⟩
  go_wp2_with fail
  go_loopw [1, 6] (fun v n wr => ∃ m k : Nat, v = .float .f64 m ∧ n = .int .i64 k ∧ k ≤ 64 ∧ Hid (m < 2 * S) ∧ Hid (cmpN (keyN a) (keyN m) = c) ∧ Hid (far (keyN a) (keyN m) ≤ 2 ^ (64 - k)) ∧ Hid (c = 0 → k = 0) ∧ Below w.heap.size w wr) (fun _ n _ => 70 - (intOf n).toNat)
  case atStart => exact ⟨b, 0, rfl, rfl, by omega, HB, hc, HD, Lib.hid (fun _ => rfl), h1⟩
  case round =>
    clear h1 HC HB HD hc
    obtain ⟨m, k, rfl, rfl, hk, HM, hc, HD, HZ, h1⟩ := hrel
    have hk' : (k : Int) < 70 := by omega
    have HBT := Lib.hid (fun w => between_is a m w HA.out HM.out)
    cases ht : hasMid (keyN a) (keyN m) with
    | true =>
      obtain ⟨g1, g2, g3⟩ := cmpN_mid ht
      obtain ⟨g4, g5⟩ := far_half hk HD.out ht
      rw [ht] at HBT
      rw [hc.out] at g1 g2 g3
      have G1 := Lib.hid g1
      have G2 := Lib.hid g2
      have G3 := Lib.hid g3
      have G5 := Lib.hid g5
      clear g1 g2 g3 g5 ht
      go_wp2_with fail
      refine (HBT.out _).mono ?_
      rintro e w2 ⟨⟨q, rfl, f1, f2, f3, f4⟩, h2⟩
      replace h2 := chain2 h1 h2
      clear h1
      have Q1 := Lib.hid f1
      have Q3 := Lib.hid (f3 trivial)
      clear f1 f2 f3 f4
      go_wp2_with fail
      refine (compare_any a q _ HA.out Q1.out).mono ?_
      rintro e w3 ⟨rfl, h3⟩
      replace h3 := chain2 h2 h3
      clear h2
      rw [Q3.out, G2.out]
      go_wp2_with fail
      refine (compare_any q m _ Q1.out HM.out).mono ?_
      rintro e w4 ⟨rfl, h4⟩
      replace h4 := chain2 h3 h4
      clear h3
      rw [Q3.out, G3.out]
      go_wp2_with fail
      go_roundw
      case rel => exact ⟨q, k + 1, rfl, by go_num, by omega, Q1, Lib.hid (by rw [Q3.out, G2.out]), Lib.hid (by rw [Q3.out]; exact G5.out), Lib.hid (fun h => absurd h G1.out), h4⟩
      case measure => simp [intOf]; omega
    | false =>
      rw [ht] at HBT
      clear ht
      have hk64 : (k : Int) ≤ 64 := by omega
      cases hz : (c != 0) with
      | true =>
        go_wp2_with fail
        refine (HBT.out _).mono ?_
        rintro e w2 ⟨⟨q, rfl, f1, f2, f3, f4⟩, h2⟩
        replace h2 := chain2 h1 h2
        clear h1
        clear f1 f2 f3 f4
        go_wp2_with fail
        refine (live_any _).mono ?_
        rintro e w3 ⟨rfl, h3⟩
        replace h3 := chain2 h2 h3
        clear h2
        go_wp2_with fail
        go_ret
        exact ⟨rfl, h3⟩
      | false =>
        have hc0 : c = 0 := by simpa using hz
        obtain rfl := HZ.out hc0
        clear hc0
        go_wp2_with fail
        refine (HBT.out _).mono ?_
        rintro e w2 ⟨⟨q, rfl, f1, f2, f3, f4⟩, h2⟩
        replace h2 := chain2 h1 h2
        clear h1
        clear f1 f2 f3 f4
        go_wp2_with fail
        refine (live_any _).mono ?_
        rintro e w3 ⟨rfl, h3⟩
        replace h3 := chain2 h2 h3
        clear h2
        go_wp2_with fail
        go_ret
        exact ⟨rfl, h3⟩

end Fl
end Go.Proofs.Ytllkhcejgoebbaa
