/-
  What the arguments of PackReads and PackStays are, and the statements' walks over them. No condition.
-/
import Derived.Test.YtnfooblofkblcaaPackReads
import Derived.Test.YtnfooblofkblcaaPackStays
namespace Go.Proofs.Ytnfooblofkblcaa
open Go.RowKit
namespace Pk

theorem reads_ok {H : Type} {enc : TypeId × Value → H} {d : DataW H} {p : List MemPlace} (W : World) (b : Nat) (v0 v1 : Value) (o0 : Value.okWide Try.prog W .any b 9 v0) (o1 : Value.okWide Try.prog W .any b 28 v1) (h1 : DataW.Trod enc Try.prog W 0 (fun _ => true) true 28 v1 d p) :
    Calls Try.prog 4 #[v0, v1] W fun e w' => e = .returned (.bool true) ∧ Below W.heap.size W w' := by
  obtain ⟨s, rfl, _⟩ := Opened.ok_string Try.underlying9 o0
  obtain ⟨zs, hz⟩ := Opened.ints_of Try.underlying28 Try.underlying3 (by kernel_rfl) o1 h1
  exact reads_walk s v1 zs W hz
theorem stays_ok {H : Type} {enc : TypeId × Value → H} {d : DataW H} {p : List MemPlace} (W : World) (b : Nat) (v0 v1 : Value) (o0 : Value.okWide Try.prog W .any b 9 v0) (o1 : Value.okWide Try.prog W .any b 28 v1) (h1 : DataW.Trod enc Try.prog W 0 (fun _ => true) true 28 v1 d p) :
    Calls Try.prog 6 #[v0, v1] W fun e w' => e = .returned (.bool true) ∧ Below W.heap.size W w' := by
  obtain ⟨s, rfl, _⟩ := Opened.ok_string Try.underlying9 o0
  obtain ⟨zs, hz⟩ := Opened.ints_of Try.underlying28 Try.underlying3 (by kernel_rfl) o1 h1
  exact stays_walk s v1 zs W hz

end Pk
end Go.Proofs.Ytnfooblofkblcaa
