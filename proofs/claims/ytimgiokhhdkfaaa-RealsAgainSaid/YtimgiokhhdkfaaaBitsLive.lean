/-
  WALK: the document's examples of layer 1 (live) are true. No condition.
-/
import Derived.Test.YtimgiokhhdkfaaaBitsMore
namespace Go.Proofs.Ytimgiokhhdkfaaa
open Go.RowKit
namespace Fl

/-- the float of bits that are a number's. -/
theorem float_word (u : Nat) (w : World) (hu : u < 2 * S) (h : isNan u = false) :
    Calls Try.prog 33 #[.int .u64 u] w fun e w' => e = .returned (.float .f64 u) ∧ Below w.heap.size w w' := by
  have hr : u % S ≤ I := by unfold isNan at h; simpa using h
  have e := wd_of u hu
  have := float_num (neg u) (u % S) w hr
  rw [← e] at this
  exact this
theorem minus_word (b : Nat) (w : World) (hb : b < 2 * S) (h : isNan b = false) :
    Calls Try.prog 41 #[.float .f64 b] w fun e w' => e = .returned (.bool (neg b)) ∧ w = w' := by
  have hr : b % S ≤ I := by unfold isNan at h; simpa using h
  have e := wd_of b hb
  have := minus_num (neg b) (b % S) w hr
  rw [← e] at this
  exact this
theorem canon_nan {b : Nat} (h : isNan b = true) : canon b = nanU := by unfold canon; rw [if_pos h]

end Fl
end Go.Proofs.Ytimgiokhhdkfaaa
