/-
  What the arguments of DeltaBack are, and the statement's walk over them. No condition.
-/
import Derived.Test.YtlpleikcgikpoaaDeltaBackW
namespace Go.Proofs.Ytlpleikcgikpoaa
open Go.RowKit
namespace Dl

theorem back_ok {H : Type} {enc : TypeId × Value → H} {d : DataW H} {p : List MemPlace} (W : World) (b : Nat) (v0 v1 v2 : Value) (o0 : Value.okWide Try.prog W .any b 22 v0) (h0 : DataW.Trod enc Try.prog W 0 (fun _ => true) true 22 v0 d p) (o1 : Value.okWide Try.prog W .any b 9 v1) (o2 : Value.okWide Try.prog W .any b 3 v2) :
    Calls Try.prog 5 #[v0, v1, v2] W fun e w' => e = .returned (.bool true) ∧ Below W.heap.size W w' := by
  obtain ⟨zs, hz⟩ := Opened.ints_of Try.underlying22 Try.underlying3 (by kernel_rfl) o0 h0
  obtain ⟨s, rfl, _⟩ := Opened.ok_string Try.underlying9 o1
  obtain ⟨n, rfl, _, _⟩ := Opened.ok_int Try.underlying3 o2
  exact back_walk v0 zs s n W hz

end Dl
end Go.Proofs.Ytlpleikcgikpoaa
