/-
  PLAIN: the distances of a list that is moved as a whole. No program.
-/
import Derived.Test.YtlpleikcgikpoaaDeltaBackP
namespace Go.Proofs.Ytlpleikcgikpoaa
open Go.RowKit
namespace Dl
open Mem Pk

/-- the list, moved. -/
def moved (d : Int) (l : List Int) : List Int := l.map fun n => wrap64 (n + d)
theorem moved_length (d : Int) (l : List Int) : (moved d l).length = l.length := by unfold moved; simp
theorem moved_bound (d : Int) (l : List Int) : ∀ n ∈ moved d l, I64 n := by
  intro n h
  unfold moved at h
  rw [List.mem_map] at h
  obtain ⟨m, _, rfl⟩ := h
  exact i64_wrap _
theorem wrap_moved (n p d : Int) : wrap64 (wrap64 (n + d) - wrap64 (p + d)) = wrap64 (n - p) := by
  unfold wrap64
  omega
theorem subs_moved (d : Int) (l : List Int) : ∀ p, subs (wrap64 (p + d)) (moved d l) = subs p l := by
  induction l with
  | nil => intro p; rfl
  | cons n l ih =>
    intro p
    have e : moved d (n :: l) = wrap64 (n + d) :: moved d l := rfl
    rw [e, subs, subs, wrap_moved, ih]
theorem subs_head {n : Int} {l : List Int} (h : I64 n) : subs 0 (n :: l) = n :: subs n l := by
  rw [subs, Int.sub_zero, IntWalk.wrap64_in _ h]
theorem subs_head_moved (d n : Int) (l : List Int) : subs 0 (moved d (n :: l)) = wrap64 (n + d) :: subs n l := by
  have e : moved d (n :: l) = wrap64 (n + d) :: moved d l := rfl
  rw [e, subs_head (i64_wrap _), subs_moved]

end Dl
end Go.Proofs.Ytlpleikcgikpoaa
