/-
  WALKS: the laws of rank on numbers and keys: RankTells, RankKeys, RankMiddle, RankOrder. No condition.
-/
import Derived.Test.YtllkhcejgoebbaaRankLive
namespace Go.Proofs.Ytllkhcejgoebbaa
open Go.RowKit
namespace Fl

/-- the bits of what a key tells, or nought's. -/
def tellK (k : Nat) : Nat := if okK k then unk k else 0
def tellM (x y : Nat) : Nat := if hasMid x y then unk (mid x y) else 0
theorem canon_zero : canon 0 = 0 := by decide +kernel

theorem is_of {k : Nat} {e : Ending} (h : (okK k = true ∧ ∃ b, e = .returned (.tuple #[.float .f64 b, .bool true]) ∧ b < 2 * S ∧ keyN b = k) ∨ (okK k = false ∧ e = .returned (.tuple #[.float .f64 0, .bool false]))) :
    ∃ b, e = .returned (.tuple #[.float .f64 b, .bool (okK k)]) ∧ b < 2 * S ∧ canon b = tellK k ∧ (okK k = true → keyN b = k) ∧ (okK k = false → b = 0) := by
  rcases h with ⟨h, b, rfl, h1, h2⟩ | ⟨h, rfl⟩
  · exact ⟨b, by rw [h], h1, by unfold tellK; rw [h, if_pos rfl, ← h2, unk_key h1], fun _ => h2, fun h' => by rw [h] at h'; cases h'⟩
  · exact ⟨0, by rw [h], by decide, by unfold tellK; rw [h, if_neg (by decide), canon_zero], (fun h' => by rw [h] at h'; cases h'), fun _ => rfl⟩
theorem unkey_is (k : Nat) (w : World) (hk : k < 2 * S) :
    Calls Try.prog 10 #[.int .u64 k] w fun e w' => (∃ b, e = .returned (.tuple #[.float .f64 b, .bool (okK k)]) ∧ b < 2 * S ∧ canon b = tellK k ∧ (okK k = true → keyN b = k) ∧ (okK k = false → b = 0)) ∧ Below w.heap.size w w' :=
  (unkey_any k w hk).mono fun _ _ ⟨h, hb⟩ => ⟨is_of h, hb⟩
theorem runkey_is (k : Nat) (w : World) (hk : k < 2 * S) :
    Calls Try.prog 11 #[.int .u64 k] w fun e w' => (∃ b, e = .returned (.tuple #[.float .f64 b, .bool (okK k)]) ∧ b < 2 * S ∧ canon b = tellK k ∧ (okK k = true → keyN b = k) ∧ (okK k = false → b = 0)) ∧ Below w.heap.size w w' :=
  (runkey_any k w hk).mono fun _ _ ⟨h, hb⟩ => ⟨is_of h, hb⟩
theorem isM_of {x y : Nat} {e : Ending} (h : BetweenIs x y e) :
    ∃ b, e = .returned (.tuple #[.float .f64 b, .bool (hasMid x y)]) ∧ b < 2 * S ∧ canon b = tellM x y ∧ (hasMid x y = true → keyN b = mid x y) ∧ (hasMid x y = false → b = 0) := by
  rcases h with ⟨h, b, rfl, h1, h2⟩ | ⟨h, rfl⟩
  · exact ⟨b, by rw [h], h1, by unfold tellM; rw [h, if_pos rfl, ← h2, unk_key h1], fun _ => h2, fun h' => by rw [h] at h'; cases h'⟩
  · exact ⟨0, by rw [h], by decide, by unfold tellM; rw [h, if_neg (by decide), canon_zero], (fun h' => by rw [h] at h'; cases h'), fun _ => rfl⟩
theorem between_is (a b : Nat) (w : World) (ha : a < 2 * S) (hb : b < 2 * S) :
    Calls Try.prog 12 #[.float .f64 a, .float .f64 b] w fun e w' => (∃ m, e = .returned (.tuple #[.float .f64 m, .bool (hasMid (keyN a) (keyN b))]) ∧ m < 2 * S ∧ canon m = tellM (keyN a) (keyN b) ∧ (hasMid (keyN a) (keyN b) = true → keyN m = mid (keyN a) (keyN b)) ∧ (hasMid (keyN a) (keyN b) = false → m = 0)) ∧ Below w.heap.size w w' :=
  (between_any a b w ha hb).mono fun _ _ ⟨h, hb⟩ => ⟨isM_of h, hb⟩
theorem rbetween_is (a b : Nat) (w : World) (ha : a < 2 * S) (hb : b < 2 * S) :
    Calls Try.prog 13 #[.float .f64 a, .float .f64 b] w fun e w' => (∃ m, e = .returned (.tuple #[.float .f64 m, .bool (hasMid (keyN a) (keyN b))]) ∧ m < 2 * S ∧ canon m = tellM (keyN a) (keyN b) ∧ (hasMid (keyN a) (keyN b) = true → keyN m = mid (keyN a) (keyN b)) ∧ (hasMid (keyN a) (keyN b) = false → m = 0)) ∧ Below w.heap.size w w' :=
  (rbetween_any a b w ha hb).mono fun _ _ ⟨h, hb⟩ => ⟨isM_of h, hb⟩

theorem same_yes (a b : Nat) (w : World) (ha : a < 2 * S) (hb : b < 2 * S) (h : canon a = canon b) :
    Calls Try.prog 16 #[.float .f64 a, .float .f64 b] w fun e w' => e = .returned (.bool true) ∧ w = w' := by
  refine (rsame_any a b w ha hb).mono ?_
  rintro e w' ⟨rfl, h'⟩
  rw [h, beq_self_eq_true]
  exact ⟨rfl, h'⟩

set_option maxRecDepth 100000 in
set_option maxHeartbeats 4000000 in
theorem tells_walk (a b k : Nat) (w : World) (ha : a < 2 * S) (hb : b < 2 * S) (hk : k < 2 * S) :
    Calls Try.prog 3 #[.float .f64 a, .float .f64 b, .int .u64 (k : Nat)] w fun e w' => e = .returned (.bool true) ∧ Below w.heap.size w w' := by
  have HU := Lib.hid (fun w => unkey_is k w hk)
  have HRU := Lib.hid (fun w => runkey_is k w hk)
  have HM := Lib.hid (fun w => between_is a b w ha hb)
  have HRM := Lib.hid (fun w => rbetween_is a b w ha hb)
  have HK := Lib.hid (fun w => key_any a w ha)
  have HRK := Lib.hid (fun w => rkey_any a w ha)
  have HC := Lib.hid (fun w => compare_any a b w ha hb)
  have HRC := Lib.hid (fun w => rcompare_any a b w ha hb)
  generalize okK k = t at *
  generalize hasMid (keyN a) (keyN b) = u at *
  generalize cmpN (keyN a) (keyN b) = c at *
  clear hk ha hb
  go_enter Try.func3, Try.ntmps3
  go_wp2_with fail
  refine (HU.out _).mono ?_
  rintro e w1 ⟨⟨f, rfl, f1, f2, f3, f4⟩, h1⟩
  have F1 := Lib.hid f1
  have F2 := Lib.hid f2
  clear f1 f2 f3 f4
  go_wp2_with fail
  refine (HRU.out _).mono ?_
  rintro e w2 ⟨⟨g, rfl, f1, f2, f3, f4⟩, h2⟩
  replace h2 := chain2 h1 h2
  clear h1
  have G1 := Lib.hid f1
  have G2 := Lib.hid (F2.out.trans f2.symm)
  clear f1 f2 f3 f4
  go_wp2_with fail
  refine (HM.out _).mono ?_
  rintro e w3 ⟨⟨m, rfl, f1, f2, f3, f4⟩, h3⟩
  replace h3 := chain2 h2 h3
  clear h2
  have M1 := Lib.hid f1
  have M2 := Lib.hid f2
  clear f1 f2 f3 f4
  go_wp2_with fail
  refine (HRM.out _).mono ?_
  rintro e w4 ⟨⟨n, rfl, f1, f2, f3, f4⟩, h4⟩
  replace h4 := chain2 h3 h4
  clear h3
  have N1 := Lib.hid f1
  have N2 := Lib.hid (M2.out.trans f2.symm)
  clear f1 f2 f3 f4
  go_wp2_with fail
  refine (HK.out _).mono ?_
  rintro e w5 ⟨rfl, h5⟩
  replace h5 := chain2 h4 h5
  clear h4
  go_wp2_with fail
  refine (HRK.out _).mono ?_
  rintro e w' ⟨rfl, rfl⟩
  go_wp2_with fail
  refine (same_yes f g _ F1.out G1.out G2.out).mono ?_
  rintro e w' ⟨rfl, rfl⟩
  go_wp2_with fail
  refine (HC.out _).mono ?_
  rintro e w6 ⟨rfl, h6⟩
  replace h6 := chain2 h5 h6
  clear h5
  go_wp2_with fail
  refine (HRC.out _).mono ?_
  rintro e w' ⟨rfl, rfl⟩
  go_wp2_with fail
  refine (same_yes m n _ M1.out N1.out N2.out).mono ?_
  rintro e w' ⟨rfl, rfl⟩
  go_wp2_with fail
  refine (live_any _).mono ?_
  rintro e w7 ⟨rfl, h7⟩
  replace h7 := chain2 h6 h7
  clear h6
  go_wp2_with fail
  go_ret
  exact ⟨rfl, h7⟩
theorem order_own {b : Nat} (hb : b < 2 * S) : FloatKind.f64.format.order b b = if isNan b then none else some .eq := by
  cases h : isNan b with
  | true => exact order_nan hb h
  | false => exact order_self hb h
theorem nan_of_key {a b : Nat} (ha : a < 2 * S) (hb : b < 2 * S) (h : keyN a = keyN b) : isNan a = isNan b := by rw [key_nan ha, key_nan hb, h]
theorem bne_self (k : Nat) : ((k : Int) != (k : Int)) = false := by rw [bne_self_eq_false]

set_option maxRecDepth 100000 in
set_option maxHeartbeats 4000000 in
theorem keys_walk (k f : Nat) (w : World) (hk : k < 2 * S) (hf : f < 2 * S) :
    Calls Try.prog 7 #[.int .u64 (k : Nat), .float .f64 f] w fun e w' => e = .returned (.bool true) ∧ Below w.heap.size w w' := by
  have HU := Lib.hid (fun w => unkey_is k w hk)
  have HK := Lib.hid (fun w => key_any f w hf)
  have HV := Lib.hid (fun w => unkey_is (keyN f) w (keyN_lt hf))
  have HOK := Lib.hid (okK_key hf)
  have HO := Lib.hid (order_own hf)
  have HN := Lib.hid (fun h (hh : h < 2 * S) (e : keyN h = keyN f) => nan_of_key hh hf e)
  have HF := Lib.hid hf
  clear hk hf
  cases ht : okK k with
  | true =>
    rw [ht] at HU
    have hne := bne_self k
    go_enter Try.func7, Try.ntmps7
    go_wp2_with fail
    refine (HU.out _).mono ?_
    rintro e w1 ⟨⟨g, rfl, f1, f2, f3, f4⟩, h1⟩
    have G1 := Lib.hid f1
    have G3 := Lib.hid (f3 trivial)
    clear f1 f2 f3 f4 ht
    go_wp2_with fail
    refine (key_any g _ G1.out).mono ?_
    rintro e w2 ⟨rfl, h2⟩
    replace h2 := chain2 h1 h2
    clear h1
    rw [G3.out]
    go_wp2_with fail
    refine (HK.out _).mono ?_
    rintro e w3 ⟨rfl, h3⟩
    replace h3 := chain2 h2 h3
    clear h2
    go_wp2_with fail
    refine (HV.out _).mono ?_
    rintro e w4 ⟨⟨h, rfl, f1, f2, f3, f4⟩, h4⟩
    replace h4 := chain2 h3 h4
    clear h3
    have M1 := Lib.hid f1
    have M3 := Lib.hid (f3 HOK.out)
    rw [HOK.out]
    clear f1 f2 f3 f4
    go_wp2_with fail
    refine (compare_any f h _ HF.out M1.out).mono ?_
    rintro e w5 ⟨rfl, h5⟩
    replace h5 := chain2 h4 h5
    clear h4
    rw [M3.out, cmpN_eq]
    have ho1 := HO.out
    have ho2 := order_own M1.out
    rw [HN.out h M1.out M3.out] at ho2
    cases hn : isNan f
    all_goals
      rw [hn] at ho1 ho2
      first | rw [if_pos rfl] at ho1 ho2 | rw [if_neg Bool.false_ne_true] at ho1 ho2
      clear hn
      go_wp2_with fail
      refine (live_any _).mono ?_
      rintro e w6 ⟨rfl, h6⟩
      replace h6 := chain2 h5 h6
      clear h5
      go_wp2_with fail
      go_ret
      exact ⟨rfl, h6⟩
  | false =>
    rw [ht] at HU
    have o1 : FloatKind.f64.format.order 0 0 = some .eq := by decide +kernel
    have d1 := run_inverse false
    rw [show wd false 0 = 0 from rfl] at d1
    have o2 : FloatKind.f64.format.order (wd false I) 0 = some .gt := by decide +kernel
    generalize wd false I = inf at *
    go_enter Try.func7, Try.ntmps7
    go_wp2_with fail
    refine (HU.out _).mono ?_
    rintro e w1 ⟨⟨g, rfl, f1, f2, f3, f4⟩, h1⟩
    obtain rfl := f4 trivial
    clear f1 f2 f3 f4 ht
    go_wp2_with fail
    refine (HK.out _).mono ?_
    rintro e w2 ⟨rfl, h2⟩
    replace h2 := chain2 h1 h2
    clear h1
    go_wp2_with fail
    refine (HV.out _).mono ?_
    rintro e w3 ⟨⟨h, rfl, f1, f2, f3, f4⟩, h3⟩
    replace h3 := chain2 h2 h3
    clear h2
    have M1 := Lib.hid f1
    have M3 := Lib.hid (f3 HOK.out)
    rw [HOK.out]
    clear f1 f2 f3 f4
    go_wp2_with fail
    refine (compare_any f h _ HF.out M1.out).mono ?_
    rintro e w4 ⟨rfl, h4⟩
    replace h4 := chain2 h3 h4
    clear h3
    rw [M3.out, cmpN_eq]
    have ho1 := HO.out
    have ho2 := order_own M1.out
    rw [HN.out h M1.out M3.out] at ho2
    cases hn : isNan f
    all_goals
      rw [hn] at ho1 ho2
      first | rw [if_pos rfl] at ho1 ho2 | rw [if_neg Bool.false_ne_true] at ho1 ho2
      clear hn
      go_wp2_with fail
      refine (live_any _).mono ?_
      rintro e w5 ⟨rfl, h5⟩
      replace h5 := chain2 h4 h5
      clear h4
      go_wp2_with fail
      go_ret
      exact ⟨rfl, h5⟩

theorem tellM_comm (x y : Nat) : tellM x y = tellM y x := by unfold tellM; rw [hasMid_comm, mid_comm]
theorem num_of_mid {a b m : Nat} (ha : a < 2 * S) (hb : b < 2 * S) (hm : m < 2 * S) (h : hasMid (keyN a) (keyN b) = true) (e : keyN m = mid (keyN a) (keyN b)) : isNan m = false := by
  rw [key_nan hm, e]
  exact decide_eq_false (Nat.not_lt.2 (mid_number ha hb h))

set_option maxRecDepth 100000 in
set_option maxHeartbeats 8000000 in
theorem middle_walk (a b f : Nat) (w : World) (ha : a < 2 * S) (hb : b < 2 * S) (hf : f < 2 * S) :
    Calls Try.prog 6 #[.float .f64 a, .float .f64 b, .float .f64 f] w fun e w' => e = .returned (.bool true) ∧ Below w.heap.size w w' := by
  have HM := Lib.hid (fun w => between_is a b w ha hb)
  have HM' : Hid (∀ w, _) := Lib.hid (fun w => between_is b a w hb ha)
  rw [hasMid_comm (keyN b) (keyN a)] at HM'
  have HC := Lib.hid (fun w => compare_any a b w ha hb)
  have HCF := Lib.hid (fun w => compare_any a f w ha hf)
  have HFC := Lib.hid (fun w => compare_any f b w hf hb)
  have HAM := Lib.hid (fun m w (hm : m < 2 * S) => compare_any a m w ha hm)
  have HMB := Lib.hid (fun m w (hm : m < 2 * S) => compare_any m b w hm hb)
  have HA := Lib.hid ha
  have HB := Lib.hid hb
  have HO1 := Lib.hid (order_own ha)
  have HO2 := Lib.hid (order_own hb)
  clear ha hb hf
  cases ht : hasMid (keyN a) (keyN b) with
  | true =>
    rw [ht] at HM HM'
    obtain ⟨c0, c1, c2⟩ := cmpN_mid ht
    have HT := Lib.hid ht
    have C1 := Lib.hid c1
    have C2 := Lib.hid c2
    have hne : (cmpN (keyN a) (keyN b) != 0) = true := by rw [bne_iff_ne]; exact c0
    clear ht c0 c1 c2
    go_enter Try.func6, Try.ntmps6
    go_wp2_with fail
    refine (HM.out _).mono ?_
    rintro e w1 ⟨⟨m, rfl, f1, f2, f3, f4⟩, h1⟩
    have M1 := Lib.hid f1
    have M2 := Lib.hid f2
    have M3 := Lib.hid f3
    have M4 := Lib.hid f4
    clear f1 f2 f3 f4
    go_wp2_with fail
    refine (HM'.out _).mono ?_
    rintro e w2 ⟨⟨n, rfl, f1, f2, f3, f4⟩, h2⟩
    replace h2 := chain2 h1 h2
    clear h1
    have N1 := Lib.hid f1
    have N2 := Lib.hid (M2.out.trans ((tellM_comm _ _).trans f2.symm))
    clear f1 f2 f3 f4
    go_wp2_with fail
    refine (compare_any m n _ M1.out N1.out).mono ?_
    rintro e w3 ⟨rfl, h3⟩
    replace h3 := chain2 h2 h3
    clear h2
    rw [(key_eq_iff M1.out N1.out).2 N2.out, cmpN_eq]
    go_wp2_with fail
    refine (HC.out _).mono ?_
    rintro e w4 ⟨rfl, h4⟩
    replace h4 := chain2 h3 h4
    clear h3
    have K := Lib.hid (M3.out trivial)
    have hmm := order_self M1.out (num_of_mid HA.out HB.out M1.out HT.out K.out)
    go_wp2_with fail
    refine (HAM.out m _ M1.out).mono ?_
    rintro e w5 ⟨rfl, h5⟩
    replace h5 := chain2 h4 h5
    clear h4
    rw [K.out, C1.out]
    go_wp2_with fail
    refine (HMB.out m _ M1.out).mono ?_
    rintro e w6 ⟨rfl, h6⟩
    replace h6 := chain2 h5 h6
    clear h5
    rw [K.out, C2.out]
    generalize cmpN (keyN a) (keyN b) = c at *
    go_wp2_with fail
    refine (live_any _).mono ?_
    rintro e w7 ⟨rfl, h7⟩
    replace h7 := chain2 h6 h7
    clear h6
    go_wp2_with fail
    go_ret
    exact ⟨rfl, h7⟩
  | false =>
    rw [ht] at HM HM'
    have o1 : FloatKind.f64.format.order 0 0 = some .eq := by decide +kernel
    have HT := Lib.hid ht
    clear ht
    cases na : isNan a with
    | true =>
      have o2 := HO1.out
      rw [na, if_pos rfl] at o2
      clear na
      go_enter Try.func6, Try.ntmps6
      go_wp2_with fail
      refine (HM.out _).mono ?_
      rintro e w1 ⟨⟨m, rfl, f1, f2, f3, f4⟩, h1⟩
      have M1 := Lib.hid f1
      have M2 := Lib.hid f2
      have M3 := Lib.hid f3
      have M4 := Lib.hid f4
      clear f1 f2 f3 f4
      go_wp2_with fail
      refine (HM'.out _).mono ?_
      rintro e w2 ⟨⟨n, rfl, f1, f2, f3, f4⟩, h2⟩
      replace h2 := chain2 h1 h2
      clear h1
      have N1 := Lib.hid f1
      have N2 := Lib.hid (M2.out.trans ((tellM_comm _ _).trans f2.symm))
      clear f1 f2 f3 f4
      go_wp2_with fail
      refine (compare_any m n _ M1.out N1.out).mono ?_
      rintro e w3 ⟨rfl, h3⟩
      replace h3 := chain2 h2 h3
      clear h2
      rw [(key_eq_iff M1.out N1.out).2 N2.out, cmpN_eq]
      obtain rfl := M4.out trivial
      go_wp2_with fail
      refine (HC.out _).mono ?_
      rintro e w4 ⟨rfl, h4⟩
      replace h4 := chain2 h3 h4
      clear h3
      go_wp2_with fail
      refine (live_any _).mono ?_
      rintro e w5 ⟨rfl, h5⟩
      replace h5 := chain2 h4 h5
      clear h4
      go_wp2_with fail
      go_ret
      exact ⟨rfl, h5⟩
    | false =>
      have o2 := HO1.out
      rw [na, if_neg Bool.false_ne_true] at o2
      cases nb : isNan b with
      | true =>
        have o3 := HO2.out
        rw [nb, if_pos rfl] at o3
        clear na nb
        go_enter Try.func6, Try.ntmps6
        go_wp2_with fail
        refine (HM.out _).mono ?_
        rintro e w1 ⟨⟨m, rfl, f1, f2, f3, f4⟩, h1⟩
        have M1 := Lib.hid f1
        have M2 := Lib.hid f2
        have M3 := Lib.hid f3
        have M4 := Lib.hid f4
        clear f1 f2 f3 f4
        go_wp2_with fail
        refine (HM'.out _).mono ?_
        rintro e w2 ⟨⟨n, rfl, f1, f2, f3, f4⟩, h2⟩
        replace h2 := chain2 h1 h2
        clear h1
        have N1 := Lib.hid f1
        have N2 := Lib.hid (M2.out.trans ((tellM_comm _ _).trans f2.symm))
        clear f1 f2 f3 f4
        go_wp2_with fail
        refine (compare_any m n _ M1.out N1.out).mono ?_
        rintro e w3 ⟨rfl, h3⟩
        replace h3 := chain2 h2 h3
        clear h2
        rw [(key_eq_iff M1.out N1.out).2 N2.out, cmpN_eq]
        obtain rfl := M4.out trivial
        go_wp2_with fail
        refine (HC.out _).mono ?_
        rintro e w4 ⟨rfl, h4⟩
        replace h4 := chain2 h3 h4
        clear h3
        go_wp2_with fail
        refine (live_any _).mono ?_
        rintro e w5 ⟨rfl, h5⟩
        replace h5 := chain2 h4 h5
        clear h4
        go_wp2_with fail
        go_ret
        exact ⟨rfl, h5⟩
      | false =>
        have o3 := HO2.out
        rw [nb, if_neg Bool.false_ne_true] at o3
        have hmn := mid_none (f := f) HA.out HB.out na nb HT.out
        clear na nb
        generalize cmpN (keyN a) (keyN b) = c at *
        generalize hz1 : cmpN (keyN a) (keyN f) = z1 at *
        generalize hz2 : cmpN (keyN f) (keyN b) = z2 at *
        clear hz1 hz2
        cases e1 : (z1 == c) with
        | false =>
          clear hmn
          go_enter Try.func6, Try.ntmps6
          go_wp2_with fail
          refine (HM.out _).mono ?_
          rintro e w1 ⟨⟨m, rfl, f1, f2, f3, f4⟩, h1⟩
          have M1 := Lib.hid f1
          have M2 := Lib.hid f2
          have M3 := Lib.hid f3
          have M4 := Lib.hid f4
          clear f1 f2 f3 f4
          go_wp2_with fail
          refine (HM'.out _).mono ?_
          rintro e w2 ⟨⟨n, rfl, f1, f2, f3, f4⟩, h2⟩
          replace h2 := chain2 h1 h2
          clear h1
          have N1 := Lib.hid f1
          have N2 := Lib.hid (M2.out.trans ((tellM_comm _ _).trans f2.symm))
          clear f1 f2 f3 f4
          go_wp2_with fail
          refine (compare_any m n _ M1.out N1.out).mono ?_
          rintro e w3 ⟨rfl, h3⟩
          replace h3 := chain2 h2 h3
          clear h2
          rw [(key_eq_iff M1.out N1.out).2 N2.out, cmpN_eq]
          obtain rfl := M4.out trivial
          go_wp2_with fail
          refine (HC.out _).mono ?_
          rintro e w4 ⟨rfl, h4⟩
          replace h4 := chain2 h3 h4
          clear h3
          go_wp2_with fail
          refine (HCF.out _).mono ?_
          rintro e w5 ⟨rfl, h5⟩
          replace h5 := chain2 h4 h5
          clear h4
          go_wp2_with fail
          refine (live_any _).mono ?_
          rintro e w6 ⟨rfl, h6⟩
          replace h6 := chain2 h5 h6
          clear h5
          go_wp2_with fail
          go_ret
          exact ⟨rfl, h6⟩
        | true =>
          cases e2 : (z2 == c) with
          | false =>
            clear hmn
            go_enter Try.func6, Try.ntmps6
            go_wp2_with fail
            refine (HM.out _).mono ?_
            rintro e w1 ⟨⟨m, rfl, f1, f2, f3, f4⟩, h1⟩
            have M1 := Lib.hid f1
            have M2 := Lib.hid f2
            have M3 := Lib.hid f3
            have M4 := Lib.hid f4
            clear f1 f2 f3 f4
            go_wp2_with fail
            refine (HM'.out _).mono ?_
            rintro e w2 ⟨⟨n, rfl, f1, f2, f3, f4⟩, h2⟩
            replace h2 := chain2 h1 h2
            clear h1
            have N1 := Lib.hid f1
            have N2 := Lib.hid (M2.out.trans ((tellM_comm _ _).trans f2.symm))
            clear f1 f2 f3 f4
            go_wp2_with fail
            refine (compare_any m n _ M1.out N1.out).mono ?_
            rintro e w3 ⟨rfl, h3⟩
            replace h3 := chain2 h2 h3
            clear h2
            rw [(key_eq_iff M1.out N1.out).2 N2.out, cmpN_eq]
            obtain rfl := M4.out trivial
            go_wp2_with fail
            refine (HC.out _).mono ?_
            rintro e w4 ⟨rfl, h4⟩
            replace h4 := chain2 h3 h4
            clear h3
            go_wp2_with fail
            refine (HCF.out _).mono ?_
            rintro e w5 ⟨rfl, h5⟩
            replace h5 := chain2 h4 h5
            clear h4
            go_wp2_with fail
            refine (HFC.out _).mono ?_
            rintro e w6 ⟨rfl, h6⟩
            replace h6 := chain2 h5 h6
            clear h5
            go_wp2_with fail
            refine (live_any _).mono ?_
            rintro e w7 ⟨rfl, h7⟩
            replace h7 := chain2 h6 h7
            clear h6
            go_wp2_with fail
            go_ret
            exact ⟨rfl, h7⟩
          | true =>
            rw [e1, e2, Bool.true_and, Bool.true_and] at hmn
            go_enter Try.func6, Try.ntmps6
            go_wp2_with fail
            refine (HM.out _).mono ?_
            rintro e w1 ⟨⟨m, rfl, f1, f2, f3, f4⟩, h1⟩
            have M1 := Lib.hid f1
            have M2 := Lib.hid f2
            have M3 := Lib.hid f3
            have M4 := Lib.hid f4
            clear f1 f2 f3 f4
            go_wp2_with fail
            refine (HM'.out _).mono ?_
            rintro e w2 ⟨⟨n, rfl, f1, f2, f3, f4⟩, h2⟩
            replace h2 := chain2 h1 h2
            clear h1
            have N1 := Lib.hid f1
            have N2 := Lib.hid (M2.out.trans ((tellM_comm _ _).trans f2.symm))
            clear f1 f2 f3 f4
            go_wp2_with fail
            refine (compare_any m n _ M1.out N1.out).mono ?_
            rintro e w3 ⟨rfl, h3⟩
            replace h3 := chain2 h2 h3
            clear h2
            rw [(key_eq_iff M1.out N1.out).2 N2.out, cmpN_eq]
            obtain rfl := M4.out trivial
            go_wp2_with fail
            refine (HC.out _).mono ?_
            rintro e w4 ⟨rfl, h4⟩
            replace h4 := chain2 h3 h4
            clear h3
            go_wp2_with fail
            refine (HCF.out _).mono ?_
            rintro e w5 ⟨rfl, h5⟩
            replace h5 := chain2 h4 h5
            clear h4
            go_wp2_with fail
            refine (HFC.out _).mono ?_
            rintro e w6 ⟨rfl, h6⟩
            replace h6 := chain2 h5 h6
            clear h5
            go_wp2_with fail
            refine (live_any _).mono ?_
            rintro e w7 ⟨rfl, h7⟩
            replace h7 := chain2 h6 h7
            clear h6
            go_wp2_with fail
            go_ret
            exact ⟨rfl, h7⟩

end Fl
end Go.Proofs.Ytllkhcejgoebbaa
