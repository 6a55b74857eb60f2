/-
  What the arguments of DeltaMoves are, and the statement's walk over them. No condition.
-/
import Derived.Test.YtlpleikcgikpoaaDeltaMoveW
namespace Go.Proofs.Ytlpleikcgikpoaa
open Go.RowKit
namespace Dl

theorem moves_ok {H : Type} {enc : TypeId × Value → H} {d : DataW H} {p : List MemPlace} (W : World) (b : Nat) (v0 v1 : Value) (o0 : Value.okWide Try.prog W .any b 22 v0) (h0 : DataW.Trod enc Try.prog W 0 (fun _ => true) true 22 v0 d p) (o1 : Value.okWide Try.prog W .any b 3 v1) :
    Calls Try.prog 6 #[v0, v1] W fun e w' => e = .returned (.bool true) ∧ Below W.heap.size W w' := by
  obtain ⟨zs, hz⟩ := Opened.ints_of Try.underlying22 Try.underlying3 (by kernel_rfl) o0 h0
  obtain ⟨n, rfl, _, _⟩ := Opened.ok_int Try.underlying3 o1
  exact moves_walk v0 zs n W hz

end Dl
end Go.Proofs.Ytlpleikcgikpoaa
