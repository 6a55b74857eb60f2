/-
  WALKS: the law's 'live' of package rank: some answers that the document gives. No condition.
-/
import Derived.Test.YtllkhcejgoebbaaRankRows
namespace Go.Proofs.Ytllkhcejgoebbaa
open Go.RowKit
namespace Fl

theorem word_of_key {b k u : Nat} (hb : b < 2 * S) (h : keyN b = k) (hu : unk k = u) (hn : isNan u = false) : b = u := by
  have e : canon b = u := by rw [← unk_key hb, h, hu]
  cases hx : isNan b with
  | false => rw [canon_word hx] at e; exact e
  | true =>
    rw [canon_nan hx] at e
    rw [← e] at hn
    exact absurd hn (by decide +kernel)

theorem unkey_lit (k u : Nat) (w : World) (hk : k < 2 * S) (hok : okK k = true) (hu : unk k = u) (hn : isNan u = false) :
    Calls Try.prog 10 #[.int .u64 k] w fun e w' => e = .returned (.tuple #[.float .f64 u, .bool true]) ∧ Below w.heap.size w w' := by
  refine (unkey_yes k w hk hok).mono ?_
  rintro e w' ⟨⟨b, rfl, h1, h2⟩, hb⟩
  rw [word_of_key h1 h2 hu hn]
  exact ⟨rfl, hb⟩

theorem between_lit (a b u : Nat) (w : World) (ha : a < 2 * S) (hb : b < 2 * S) (hm : hasMid (keyN a) (keyN b) = true) (hu : unk (mid (keyN a) (keyN b)) = u) (hn : isNan u = false) :
    Calls Try.prog 12 #[.float .f64 a, .float .f64 b] w fun e w' => e = .returned (.tuple #[.float .f64 u, .bool true]) ∧ Below w.heap.size w w' := by
  refine (between_any a b w ha hb).mono ?_
  rintro e w' ⟨⟨_, c, rfl, h1, h2⟩ | ⟨h, rfl⟩, hb⟩
  · rw [word_of_key h1 h2 hu hn]
    exact ⟨rfl, hb⟩
  · rw [hm] at h; cases h
theorem between_none (a b : Nat) (w : World) (ha : a < 2 * S) (hb : b < 2 * S) (hm : hasMid (keyN a) (keyN b) = false) :
    Calls Try.prog 12 #[.float .f64 a, .float .f64 b] w fun e w' => e = .returned (.tuple #[.float .f64 0, .bool false]) ∧ Below w.heap.size w w' := by
  refine (between_any a b w ha hb).mono ?_
  rintro e w' ⟨⟨h, _⟩ | ⟨_, rfl⟩, hb⟩
  · rw [hm] at h; cases h
  · exact ⟨rfl, hb⟩

theorem key_of_nan {b : Nat} (h : isNan b = true) : keyN b = S + nanU := by
  unfold keyN
  rw [canon_nan h, if_pos (by decide), Nat.add_comm]

theorem beq_one : ((4607182418800017408 : Nat) : Int) = 4607182418800017408 := rfl

set_option maxRecDepth 100000 in
set_option maxHeartbeats 4000000 in
theorem live_any (w : World) :
    Calls Try.prog 19 #[] w fun e w' => e = .returned (.bool true) ∧ Below w.heap.size w w' := by
  obtain ⟨b, hrun, hb1, hb2⟩ := run_nought w
  have hkb := Lib.hid (key_of_nan hb1)
  clear hb1
  have hng : ∀ w, (Op.unary .neg (.float .f64 0)).run Try.prog w = .ok (.float .f64 9223372036854775808) w := fun w => run_neg false (r := 0) (by decide) w
  have o1 : FloatKind.f64.format.order 4607182418800017408 4607182418800017408 = some .eq := by decide +kernel
  have o2 : FloatKind.f64.format.order 4609434218613702656 4609434218613702656 = some .eq := by decide +kernel
  go_enter Try.func19, Try.ntmps19
  go_wp2_with fail
  refine (unkey_lit 13830554455654793216 4607182418800017408 _ (by decide) (by decide +kernel) (by decide +kernel) (by decide +kernel)).mono ?_
  rintro e w1 ⟨rfl, h1⟩
  go_wp2_with fail
  refine (unkey_no 18446744073709551615 _ (by decide) (by decide +kernel)).mono ?_
  rintro e w2 ⟨rfl, h2⟩
  replace h2 := chain2 h1 h2
  clear h1
  go_wp2_with fail
  refine (between_lit 4607182418800017408 4611686018427387904 4609434218613702656 _ (by decide) (by decide) (by decide +kernel) (by decide +kernel) (by decide +kernel)).mono ?_
  rintro e w3 ⟨rfl, h3⟩
  replace h3 := chain2 h2 h3
  clear h2
  go_wp2_with fail
  refine (between_none 4607182418800017408 4607182418800017408 _ (by decide) (by decide) (by decide +kernel)).mono ?_
  rintro e w4 ⟨rfl, h4⟩
  replace h4 := chain2 h3 h4
  clear h3
  go_wp2_with fail
  refine (key_any 4607182418800017408 _ (by decide)).mono ?_
  rintro e w5 ⟨rfl, h5⟩
  replace h5 := chain2 h4 h5
  clear h4
  rw [show keyN 4607182418800017408 = 13830554455654793216 from by decide +kernel]
  go_wp2_with fail
  refine (key_any 13830554455654793216 _ (by decide)).mono ?_
  rintro e w6 ⟨rfl, h6⟩
  replace h6 := chain2 h5 h6
  clear h5
  rw [show keyN 13830554455654793216 = 4616189618054758399 from by decide +kernel]
  go_wp2_with fail
  refine (compare_any 9223372036854775808 0 _ (by decide) (by decide)).mono ?_
  rintro e w7 ⟨rfl, h7⟩
  replace h7 := chain2 h6 h7
  clear h6
  rw [show cmpN (keyN 9223372036854775808) (keyN 0) = -1 from by decide +kernel]
  go_wp2_with fail
  refine (compare_any b 4607182418800017408 _ hb2 (by decide)).mono ?_
  rintro e w8 ⟨rfl, h8⟩
  replace h8 := chain2 h7 h8
  clear h7
  rw [hkb.out, show cmpN (S + nanU) (keyN 4607182418800017408) = 1 from by decide +kernel]
  go_wp2_with fail
  refine (compare_any b b _ hb2 hb2).mono ?_
  rintro e w9 ⟨rfl, h9⟩
  replace h9 := chain2 h8 h9
  clear h8
  rw [cmpN_eq]
  go_wp2_with fail
  refine (before_any 1 9 2 0 _).mono ?_
  rintro e w10 ⟨rfl, h10⟩
  replace h10 := chain2 h9 h10
  clear h9
  rw [show ahead 1 9 2 0 = true from by decide]
  go_wp2_with fail
  refine (before_any 1 0 1 0 _).mono ?_
  rintro e w11 ⟨rfl, h11⟩
  replace h11 := chain2 h10 h11
  clear h10
  rw [show ahead 1 0 1 0 = false from by decide]
  go_wp2_with fail
  refine (less_any 1 0 2 0 _ _ 0 0 _ (by decide) (by decide)).mono ?_
  rintro e w12 ⟨rfl, h12⟩
  replace h12 := chain2 h11 h12
  clear h11
  rw [show lessB (keyN 0) 1 (keyN 0) 2 = true from by decide +kernel]
  go_wp2_with fail
  refine (less_any 3 0 2 0 _ _ 13830554455654793216 0 _ (by decide) (by decide)).mono ?_
  rintro e w13 ⟨rfl, h13⟩
  replace h13 := chain2 h12 h13
  clear h12
  rw [show lessB (keyN 13830554455654793216) 3 (keyN 0) 2 = true from by decide +kernel]
  go_wp2_with fail
  go_ret
  exact ⟨rfl, (Below.refl _ _).drew.trans h13⟩

end Fl
end Go.Proofs.Ytllkhcejgoebbaa
