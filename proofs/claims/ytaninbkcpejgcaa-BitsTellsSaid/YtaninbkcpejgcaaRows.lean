/-
  No cell of these rows narrows 'for every input' (looked for: loops, veiled, ifaces, maps, wideKeys, modest, calm, conditions, laid).
  DERIVED. THE GIVEN ROWS OF THIS SEAT. 5 by the template 'for every input the law returns true; each argument reads behind the call as it read before'; 0 by the template 'total and deterministic' (their statements: YtaninbkcpejgcaaTotals.lean).
  GIVEN WITH THE SEED: the statements are not yours to turn. If you find one false, say at which input.
  Laid BY PROGRAM, IN A SANDBOX (cutbox-rows.mjs): the forced cells as the released guide's own fill.sh prints them over the translation f7a6ec8480380b18… (all of the seat's roots in one cut). By AI agents, Wed Nov 11 2026. No macro, syntax, notation, axiom, sorry.
-/
import Derived.Test.YtaninbkcpejgcaaChecked
import GoSem.Claim
import GoSem.ClaimJoined
import GoSem.ClaimMapViews
import Derived.JoinedTies
import Derived.KernelRfl
namespace Go.Proofs.Ytaninbkcpejgcaa
/- THE CELL 'sum', in the pinned program and in every row, IS THE sha256 OF THE DUMP (.gsa) THAT YtaninbkcpejgcaaProg.lean LOADS. Nothing in Lean hashes anything: it is a label: what it is worth is what the hold of that sum in a sandbox is worth. -/
noncomputable def Try.pinned : Pinned := { name := "ytaninbkcpejgcaa", sum := "f7a6ec8480380b18d56bd4f54475c00c9d284dae45929104f307534c50049e2c", checked := Try.checked }
namespace Rows
def none {H : Type} : Left H := { results := [], args := [] }

/-- 'bonsailaw01.BitsTells': WHATEVER THE INPUT: true; the input reads as it did. -/
def bitsTellsSpec : ChangeSpec := { name := "bitsTells", fn := fun _ => fun
  | [d1, d2, d3] => { results := [.lit (.bool true)], args := [d1, d2, d3] }
  | _ => none }
def bitsTellsRow : OpenClaim := { program := "ytaninbkcpejgcaa", sum := "f7a6ec8480380b18d56bd4f54475c00c9d284dae45929104f307534c50049e2c", func := "bonsai/bonsailaw01.BitsTells", spec := "bitsTells", apart := false }
def BitsTellsSaid : Prop := bitsTellsRow.holds Try.pinned (OpenSpec.ofChange bitsTellsSpec)

/-- ITS FALSE NEIGHBOUR: 'it returns false'. Refute it at one input. -/
def bitsTellsWrong : ChangeSpec := { name := "bitsTells", fn := fun _ => fun
  | [d1, d2, d3] => { results := [.lit (.bool false)], args := [d1, d2, d3] }
  | _ => none }
def BitsTellsWrongFalsely : Prop := bitsTellsRow.holds Try.pinned (OpenSpec.ofChange bitsTellsWrong)

/-- 'bonsailaw01.BitsBack': WHATEVER THE INPUT: true; the input reads as it did. -/
def bitsBackSpec : ChangeSpec := { name := "bitsBack", fn := fun _ => fun
  | [d1, d2] => { results := [.lit (.bool true)], args := [d1, d2] }
  | _ => none }
def bitsBackRow : OpenClaim := { program := "ytaninbkcpejgcaa", sum := "f7a6ec8480380b18d56bd4f54475c00c9d284dae45929104f307534c50049e2c", func := "bonsai/bonsailaw01.BitsBack", spec := "bitsBack", apart := false }
def BitsBackSaid : Prop := bitsBackRow.holds Try.pinned (OpenSpec.ofChange bitsBackSpec)

/-- ITS FALSE NEIGHBOUR: 'it returns false'. Refute it at one input. -/
def bitsBackWrong : ChangeSpec := { name := "bitsBack", fn := fun _ => fun
  | [d1, d2] => { results := [.lit (.bool false)], args := [d1, d2] }
  | _ => none }
def BitsBackWrongFalsely : Prop := bitsBackRow.holds Try.pinned (OpenSpec.ofChange bitsBackWrong)

/-- 'bonsailaw01.BitsOrder': WHATEVER THE INPUT: true; the input reads as it did. -/
def bitsOrderSpec : ChangeSpec := { name := "bitsOrder", fn := fun _ => fun
  | [d1, d2] => { results := [.lit (.bool true)], args := [d1, d2] }
  | _ => none }
def bitsOrderRow : OpenClaim := { program := "ytaninbkcpejgcaa", sum := "f7a6ec8480380b18d56bd4f54475c00c9d284dae45929104f307534c50049e2c", func := "bonsai/bonsailaw01.BitsOrder", spec := "bitsOrder", apart := false }
def BitsOrderSaid : Prop := bitsOrderRow.holds Try.pinned (OpenSpec.ofChange bitsOrderSpec)

/-- ITS FALSE NEIGHBOUR: 'it returns false'. Refute it at one input. -/
def bitsOrderWrong : ChangeSpec := { name := "bitsOrder", fn := fun _ => fun
  | [d1, d2] => { results := [.lit (.bool false)], args := [d1, d2] }
  | _ => none }
def BitsOrderWrongFalsely : Prop := bitsOrderRow.holds Try.pinned (OpenSpec.ofChange bitsOrderWrong)

/-- 'bonsailaw01.BitsNext': WHATEVER THE INPUT: true; the input reads as it did. -/
def bitsNextSpec : ChangeSpec := { name := "bitsNext", fn := fun _ => fun
  | [d1, d2] => { results := [.lit (.bool true)], args := [d1, d2] }
  | _ => none }
def bitsNextRow : OpenClaim := { program := "ytaninbkcpejgcaa", sum := "f7a6ec8480380b18d56bd4f54475c00c9d284dae45929104f307534c50049e2c", func := "bonsai/bonsailaw01.BitsNext", spec := "bitsNext", apart := false }
def BitsNextSaid : Prop := bitsNextRow.holds Try.pinned (OpenSpec.ofChange bitsNextSpec)

/-- ITS FALSE NEIGHBOUR: 'it returns false'. Refute it at one input. -/
def bitsNextWrong : ChangeSpec := { name := "bitsNext", fn := fun _ => fun
  | [d1, d2] => { results := [.lit (.bool false)], args := [d1, d2] }
  | _ => none }
def BitsNextWrongFalsely : Prop := bitsNextRow.holds Try.pinned (OpenSpec.ofChange bitsNextWrong)

/-- 'bonsailaw01.BitsWhole': WHATEVER THE INPUT: true; the input reads as it did. -/
def bitsWholeSpec : ChangeSpec := { name := "bitsWhole", fn := fun _ => fun
  | [d1, d2] => { results := [.lit (.bool true)], args := [d1, d2] }
  | _ => none }
def bitsWholeRow : OpenClaim := { program := "ytaninbkcpejgcaa", sum := "f7a6ec8480380b18d56bd4f54475c00c9d284dae45929104f307534c50049e2c", func := "bonsai/bonsailaw01.BitsWhole", spec := "bitsWhole", apart := false }
def BitsWholeSaid : Prop := bitsWholeRow.holds Try.pinned (OpenSpec.ofChange bitsWholeSpec)

/-- ITS FALSE NEIGHBOUR: 'it returns false'. Refute it at one input. -/
def bitsWholeWrong : ChangeSpec := { name := "bitsWhole", fn := fun _ => fun
  | [d1, d2] => { results := [.lit (.bool false)], args := [d1, d2] }
  | _ => none }
def BitsWholeWrongFalsely : Prop := bitsWholeRow.holds Try.pinned (OpenSpec.ofChange bitsWholeWrong)

/- THE SECOND FORM. 'bulk': how many values and letters a reading holds, each counted each time it is reached (what is shared counts as often as it is met; a slice's spare places count too). A statement '..UptoSaid' is the law's where the arguments, and the package variables that the reading takes, are together of bulk at most 1048576: NARROWER than '..Said'. Prove '..Said' where nothing that the law and all that it calls make is longer than what came in: it says more and counts as full. Else prove '..UptoSaid'. A law counts once. -/
mutual
def uptoBulk {H : Type} : DataW H → Nat
  | .lit (.string bytes) => bytes.length + 1
  | .lit _ => 1
  | .nil => 1
  | .ptr d => uptoBulk d + 1
  | .slice elems spare => uptoBulkAll elems + uptoBulkAll spare + 1
  | .agg parts => uptoBulkAll parts + 1
  | .iface _ d => uptoBulk d + 1
  | .map entries => uptoBulkEntries entries + 1
  | .held _ => 1
def uptoBulkAll {H : Type} : List (DataW H) → Nat
  | [] => 0
  | d :: r => uptoBulk d + uptoBulkAll r
def uptoBulkEntries {H : Type} : List (Lit × DataW H) → Nat
  | [] => 0
  | x :: r => uptoBulkEntry x + uptoBulkEntries r
def uptoBulkEntry {H : Type} : Lit × DataW H → Nat
  | (.string bytes, d) => bytes.length + uptoBulk d + 1
  | (_, d) => uptoBulk d + 1
 end
def uptoSmall : (H : Type) → List (DataW H) → Bool := fun _ ds => decide (uptoBulkAll ds ≤ 1048576)
def OpenSpec.upto (s : _root_.Go.ChangeSpec) : _root_.Go.OpenSpec := { _root_.Go.OpenSpec.ofChange s with cond := some uptoSmall }

/-- 'bonsailaw01.BitsTells', WHERE WHAT IT READS IS OF BULK AT MOST 1048576: true; the input reads as it did. -/
def bitsTellsUptoRow : OpenClaim := { program := "ytaninbkcpejgcaa", sum := "f7a6ec8480380b18d56bd4f54475c00c9d284dae45929104f307534c50049e2c", func := "bonsai/bonsailaw01.BitsTells", spec := "bitsTells", apart := false, narrowed := true }
def BitsTellsUptoSaid : Prop := bitsTellsUptoRow.holds Try.pinned (OpenSpec.upto bitsTellsSpec)

/-- 'bonsailaw01.BitsBack', WHERE WHAT IT READS IS OF BULK AT MOST 1048576: true; the input reads as it did. -/
def bitsBackUptoRow : OpenClaim := { program := "ytaninbkcpejgcaa", sum := "f7a6ec8480380b18d56bd4f54475c00c9d284dae45929104f307534c50049e2c", func := "bonsai/bonsailaw01.BitsBack", spec := "bitsBack", apart := false, narrowed := true }
def BitsBackUptoSaid : Prop := bitsBackUptoRow.holds Try.pinned (OpenSpec.upto bitsBackSpec)

/-- 'bonsailaw01.BitsOrder', WHERE WHAT IT READS IS OF BULK AT MOST 1048576: true; the input reads as it did. -/
def bitsOrderUptoRow : OpenClaim := { program := "ytaninbkcpejgcaa", sum := "f7a6ec8480380b18d56bd4f54475c00c9d284dae45929104f307534c50049e2c", func := "bonsai/bonsailaw01.BitsOrder", spec := "bitsOrder", apart := false, narrowed := true }
def BitsOrderUptoSaid : Prop := bitsOrderUptoRow.holds Try.pinned (OpenSpec.upto bitsOrderSpec)

/-- 'bonsailaw01.BitsNext', WHERE WHAT IT READS IS OF BULK AT MOST 1048576: true; the input reads as it did. -/
def bitsNextUptoRow : OpenClaim := { program := "ytaninbkcpejgcaa", sum := "f7a6ec8480380b18d56bd4f54475c00c9d284dae45929104f307534c50049e2c", func := "bonsai/bonsailaw01.BitsNext", spec := "bitsNext", apart := false, narrowed := true }
def BitsNextUptoSaid : Prop := bitsNextUptoRow.holds Try.pinned (OpenSpec.upto bitsNextSpec)

/-- 'bonsailaw01.BitsWhole', WHERE WHAT IT READS IS OF BULK AT MOST 1048576: true; the input reads as it did. -/
def bitsWholeUptoRow : OpenClaim := { program := "ytaninbkcpejgcaa", sum := "f7a6ec8480380b18d56bd4f54475c00c9d284dae45929104f307534c50049e2c", func := "bonsai/bonsailaw01.BitsWhole", spec := "bitsWhole", apart := false, narrowed := true }
def BitsWholeUptoSaid : Prop := bitsWholeUptoRow.holds Try.pinned (OpenSpec.upto bitsWholeSpec)

end Rows
end Go.Proofs.Ytaninbkcpejgcaa
