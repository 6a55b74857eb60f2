/-
  A REGION THAT DRAWS ITS ORDER, WALKED ONCE, IN A CLASS OF WORLDS OF THE PROVER'S OWN: loads of cells that the class knows, calls that lead from the class into the class. No program.
-/
import Derived.Test.YtpccenaieeggmaaRows
import Derived.WalkKit
import Derived.Deep.QuietTactic
import Derived.BigQuiet
namespace Go.Proofs.Ytpccenaieeggmaa
open Go.RowKit
namespace Mem

/-- a world of the class S. -/
structure Held (S : World → Prop) where
  w : World
  h : S w

theorem wp_region_class {P : Program} {id : Nat} {Q : Exit → Act → World → Prop} {a : Act} {w : World} {l : List Oper} (S : World → Prop) (hm : P.follows .mixedOrders = true) (hB : Region.lexB .any l.toArray = true) (hS : S w.drew)
    (h : wpQuiet P l.toArray (fun w' => ∃ q : Held S, w' = q.w) (fun a' => ∀ w', (∃ q : Held S, w' = q.w) → Q .normal a' w') l a) : (Code.region id l.toArray true).wp P Q a w :=
  wp_region_quiet (C := fun w' => ∃ q : Held S, w' = q.w) hm hB ⟨⟨_, hS⟩, rfl⟩ h

/-- a contract that leads from the class into the class. -/
theorem held_calls {P : Program} {f : FuncId} {args : Array Value} {v : Value} {S : World → Prop} {q : Held S} (h : Calls P f args q.w fun e w' => e = .returned v ∧ S w') :
    Calls P f args q.w fun e w' => e = .returned v ∧ ∃ q' : Held S, w' = q'.w := h.mono fun _ w' ⟨h1, h2⟩ => ⟨h1, ⟨w', h2⟩, rfl⟩

end Mem
end Go.Proofs.Ytpccenaieeggmaa
