/-
  What the arguments of PackBack are, and the statement's walk over them. No condition.
-/
import Derived.Test.YtnfooblofkblcaaPackBackW
namespace Go.Proofs.Ytnfooblofkblcaa
open Go.RowKit
namespace Pk

theorem back_ok {H : Type} {enc : TypeId × Value → H} {d : DataW H} {p : List MemPlace} (W : World) (b : Nat) (v0 v1 v2 : Value) (o0 : Value.okWide Try.prog W .any b 40 v0) (h0 : DataW.Trod enc Try.prog W 0 (fun _ => true) true 40 v0 d p) (o1 : Value.okWide Try.prog W .any b 3 v1) (o2 : Value.okWide Try.prog W .any b 9 v2) :
    Calls Try.prog 5 #[v0, v1, v2] W fun e w' => e = .returned (.bool true) ∧ Below W.heap.size W w' := by
  obtain ⟨zs, hz⟩ := Opened.ints_of Try.underlying40 Try.underlying22 (by kernel_rfl) o0 h0
  obtain ⟨n, rfl, hn0, hn1⟩ := Opened.ok_int Try.underlying3 o1
  obtain ⟨s, rfl, _⟩ := Opened.ok_string Try.underlying9 o2
  exact back_walk v0 zs n s W hz (by have e : IntKind.i64.min = -9223372036854775808 := rfl; omega) (by have e : IntKind.i64.max = 9223372036854775807 := rfl; omega)

end Pk
end Go.Proofs.Ytnfooblofkblcaa
