/-
  Any number's bits, its kind, its minus; any bits' number, and whether they may be: the walk of the law. No condition.
-/
import Derived.Test.YtaninbkcpejgcaaBitsRefN
namespace Go.Proofs.Ytaninbkcpejgcaa
open Go.RowKit
namespace Fl

theorem minus_any (b : Nat) (hb : b < 2 * S) : ∃ q : Bool, (∀ w, Calls Try.prog 16 #[.float .f64 b] w fun e w' => e = .returned (.bool q) ∧ w = w') ∧ (∀ w, Calls Try.prog 17 #[.float .f64 b] w fun e w' => e = .returned (.bool q) ∧ w = w') := by
  rcases word_cases hb with h | ⟨s, r, rfl, hr⟩
  · exact ⟨false, fun w => minus_nan b w hb h, fun w => rminus_nan b w hb h⟩
  · exact ⟨s, fun w => minus_num s r w hr, fun w => rminus_num s r w hr⟩

set_option maxRecDepth 100000 in
set_option maxHeartbeats 8000000 in
theorem tells_walk (f g u : Nat) (w : World) (hf : f < 2 * S) (hg : g < 2 * S) (hu : u < 2 * S) :
    Calls Try.prog 3 #[.float .f64 f, .float .f64 g, .int .u64 (u : Nat)] w fun e w' => e = .returned (.bool true) ∧ Below w.heap.size w w' := by
  obtain ⟨q, HM, HR⟩ := minus_any f hf
  have HM := Lib.hid HM
  have HR := Lib.hid HR
  have HU := Lib.hid hu
  have HF := Lib.hid hf
  have HG := Lib.hid hg
  clear hf hg hu
  go_enter Try.func3, Try.ntmps3
  go_wp2_with fail
  refine (float_any u _ HU.out).mono ?_
  rintro e w1 ⟨⟨a, rfl, ha, hac, -, -⟩, h1⟩
  have HA := Lib.hid ha
  have HAC := Lib.hid hac
  clear ha hac
  go_wp2_with fail
  refine (rfloat_any u _ HU.out).mono ?_
  rintro e w2 ⟨⟨b, rfl, hb, hbc, -, -⟩, h2⟩
  have HB := Lib.hid hb
  have HBC := Lib.hid (HAC.out.trans hbc.symm)
  clear hb hbc
  replace h2 := chain2 h1 h2
  clear h1
  go_wp2_with fail
  refine (bits_any f _ HF.out).mono ?_
  rintro e w3 ⟨rfl, h3⟩
  replace h3 := chain2 h2 h3
  clear h2
  go_wp2_with fail
  refine (rbits_any f _ HF.out).mono ?_
  rintro e w' ⟨rfl, rfl⟩
  go_wp2_with fail
  refine (rbits_any a _ HA.out).mono ?_
  rintro e w' ⟨rfl, rfl⟩
  rw [HBC.out]
  go_wp2_with fail
  refine (rbits_any b _ HB.out).mono ?_
  rintro e w' ⟨rfl, rfl⟩
  go_wp2_with fail
  refine (canon_any u _ HU.out).mono ?_
  rintro e w' ⟨rfl, rfl⟩
  go_wp2_with fail
  refine (rcanon_any u _ HU.out).mono ?_
  rintro e w' ⟨rfl, rfl⟩
  go_wp2_with fail
  refine (kind_any f _ HF.out).mono ?_
  rintro e w4 ⟨rfl, h4⟩
  replace h4 := chain2 h3 h4
  clear h3
  go_wp2_with fail
  refine (rkind_any f _ HF.out).mono ?_
  rintro e w' ⟨rfl, rfl⟩
  go_wp2_with fail
  refine (HM.out _).mono ?_
  rintro e w' ⟨rfl, rfl⟩
  go_wp2_with fail
  refine (HR.out _).mono ?_
  rintro e w' ⟨rfl, rfl⟩
  go_wp2_with fail
  refine (same_any f g _ HF.out HG.out).mono ?_
  rintro e w5 ⟨rfl, h5⟩
  replace h5 := chain2 h4 h5
  clear h4
  go_wp2_with fail
  refine (rsame_any f g _ HF.out HG.out).mono ?_
  rintro e w' ⟨rfl, rfl⟩
  go_wp2_with fail
  refine (live_any _).mono ?_
  rintro e w6 ⟨rfl, h6⟩
  go_wp2_with fail
  go_ret
  exact ⟨rfl, chain2 h5 h6⟩

theorem tells_ok (W : World) (b : Nat) (v0 v1 v2 : Value) (o0 : Value.okWide Try.prog W .any b 22 v0) (o1 : Value.okWide Try.prog W .any b 22 v1) (o2 : Value.okWide Try.prog W .any b 23 v2) :
    Calls Try.prog 3 #[v0, v1, v2] W fun e w' => e = .returned (.bool true) ∧ Below W.heap.size W w' := by
  obtain ⟨f, rfl, hf⟩ := Opened.ok_float Try.underlying22 o0
  obtain ⟨g, rfl, hg⟩ := Opened.ok_float Try.underlying22 o1
  obtain ⟨n, rfl, h0, h1⟩ := Opened.ok_int Try.underlying23 o2
  obtain ⟨u, rfl, hu⟩ := Opened.int_u64 h0 h1
  have e : 2 * S = 2 ^ 64 := by decide
  rw [← e] at hf hg
  exact tells_walk f g u W hf hg hu

end Fl
end Go.Proofs.Ytaninbkcpejgcaa
