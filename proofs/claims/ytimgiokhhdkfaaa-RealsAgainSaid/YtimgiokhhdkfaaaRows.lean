/-
  No cell of these rows narrows 'for every input' (looked for: loops, veiled, ifaces, maps, wideKeys, modest, calm, conditions, laid).
  DERIVED. THE GIVEN ROWS OF THIS SEAT. 5 by the template 'for every input the law returns true; each argument reads behind the call as it read before'; 0 by the template 'total and deterministic' (their statements: YtimgiokhhdkfaaaTotals.lean).
  GIVEN WITH THE SEED: the statements are not yours to turn. If you find one false, say at which input.
  Laid BY PROGRAM, IN A SANDBOX (cutbox-rows.mjs): the forced cells as the released guide's own fill.sh prints them over the translation 3e0349b482e15e3d… (all of the seat's roots in one cut). By AI agents, Wed Nov 11 2026. No macro, syntax, notation, axiom, sorry.
-/
import Derived.Test.YtimgiokhhdkfaaaChecked
import GoSem.Claim
import GoSem.ClaimJoined
import GoSem.ClaimMapViews
import Derived.JoinedTies
import Derived.KernelRfl
namespace Go.Proofs.Ytimgiokhhdkfaaa
/- THE CELL 'sum', in the pinned program and in every row, IS THE sha256 OF THE DUMP (.gsa) THAT YtimgiokhhdkfaaaProg.lean LOADS. Nothing in Lean hashes anything: it is a label: what it is worth is what the hold of that sum in a sandbox is worth. -/
noncomputable def Try.pinned : Pinned := { name := "ytimgiokhhdkfaaa", sum := "3e0349b482e15e3d3c8928df03d17f970ca57c7c4d7badd10759c26aa5b5f096", checked := Try.checked }
namespace Rows
def none {H : Type} : Left H := { results := [], args := [] }

/-- 'bonsailaw09.RealsTells': WHATEVER THE INPUT: true; the input reads as it did. -/
def realsTellsSpec : ChangeSpec := { name := "realsTells", fn := fun _ => fun
  | [d1, d2, d3] => { results := [.lit (.bool true)], args := [d1, d2, d3] }
  | _ => none }
def realsTellsRow : OpenClaim := { program := "ytimgiokhhdkfaaa", sum := "3e0349b482e15e3d3c8928df03d17f970ca57c7c4d7badd10759c26aa5b5f096", func := "bonsai/bonsailaw09.RealsTells", spec := "realsTells", inPlace := ["internal/abi.NoEscape"], unfollowed := true, recurses := true, apart := false }
def RealsTellsSaid : Prop := realsTellsRow.holds Try.pinned (OpenSpec.ofChange realsTellsSpec)

/-- ITS FALSE NEIGHBOUR: 'it returns false'. Refute it at one input. -/
def realsTellsWrong : ChangeSpec := { name := "realsTells", fn := fun _ => fun
  | [d1, d2, d3] => { results := [.lit (.bool false)], args := [d1, d2, d3] }
  | _ => none }
def RealsTellsWrongFalsely : Prop := realsTellsRow.holds Try.pinned (OpenSpec.ofChange realsTellsWrong)

/-- 'bonsailaw09.RealsReads': WHATEVER THE INPUT: true; the input reads as it did. -/
def realsReadsSpec : ChangeSpec := { name := "realsReads", fn := fun _ => fun
  | [d1, d2] => { results := [.lit (.bool true)], args := [d1, d2] }
  | _ => none }
def realsReadsRow : OpenClaim := { program := "ytimgiokhhdkfaaa", sum := "3e0349b482e15e3d3c8928df03d17f970ca57c7c4d7badd10759c26aa5b5f096", func := "bonsai/bonsailaw09.RealsReads", spec := "realsReads", inPlace := ["internal/abi.NoEscape"], unfollowed := true, recurses := true, apart := false }
def RealsReadsSaid : Prop := realsReadsRow.holds Try.pinned (OpenSpec.ofChange realsReadsSpec)

/-- ITS FALSE NEIGHBOUR: 'it returns false'. Refute it at one input. -/
def realsReadsWrong : ChangeSpec := { name := "realsReads", fn := fun _ => fun
  | [d1, d2] => { results := [.lit (.bool false)], args := [d1, d2] }
  | _ => none }
def RealsReadsWrongFalsely : Prop := realsReadsRow.holds Try.pinned (OpenSpec.ofChange realsReadsWrong)

/-- 'bonsailaw09.RealsBack': WHATEVER THE INPUT: true; the input reads as it did. -/
def realsBackSpec : ChangeSpec := { name := "realsBack", fn := fun _ => fun
  | [d1, d2, d3] => { results := [.lit (.bool true)], args := [d1, d2, d3] }
  | _ => none }
def realsBackRow : OpenClaim := { program := "ytimgiokhhdkfaaa", sum := "3e0349b482e15e3d3c8928df03d17f970ca57c7c4d7badd10759c26aa5b5f096", func := "bonsai/bonsailaw09.RealsBack", spec := "realsBack", inPlace := ["internal/abi.NoEscape"], unfollowed := true, recurses := true, apart := false }
def RealsBackSaid : Prop := realsBackRow.holds Try.pinned (OpenSpec.ofChange realsBackSpec)

/-- ITS FALSE NEIGHBOUR: 'it returns false'. Refute it at one input. -/
def realsBackWrong : ChangeSpec := { name := "realsBack", fn := fun _ => fun
  | [d1, d2, d3] => { results := [.lit (.bool false)], args := [d1, d2, d3] }
  | _ => none }
def RealsBackWrongFalsely : Prop := realsBackRow.holds Try.pinned (OpenSpec.ofChange realsBackWrong)

/-- 'bonsailaw09.RealsAgain': WHATEVER THE INPUT: true; the input reads as it did. -/
def realsAgainSpec : ChangeSpec := { name := "realsAgain", fn := fun _ => fun
  | [d1, d2] => { results := [.lit (.bool true)], args := [d1, d2] }
  | _ => none }
def realsAgainRow : OpenClaim := { program := "ytimgiokhhdkfaaa", sum := "3e0349b482e15e3d3c8928df03d17f970ca57c7c4d7badd10759c26aa5b5f096", func := "bonsai/bonsailaw09.RealsAgain", spec := "realsAgain", inPlace := ["internal/abi.NoEscape"], unfollowed := true, recurses := true, apart := false }
def RealsAgainSaid : Prop := realsAgainRow.holds Try.pinned (OpenSpec.ofChange realsAgainSpec)

/-- ITS FALSE NEIGHBOUR: 'it returns false'. Refute it at one input. -/
def realsAgainWrong : ChangeSpec := { name := "realsAgain", fn := fun _ => fun
  | [d1, d2] => { results := [.lit (.bool false)], args := [d1, d2] }
  | _ => none }
def RealsAgainWrongFalsely : Prop := realsAgainRow.holds Try.pinned (OpenSpec.ofChange realsAgainWrong)

/-- 'bonsailaw09.RealsJoins': WHATEVER THE INPUT: true; the input reads as it did. -/
def realsJoinsSpec : ChangeSpec := { name := "realsJoins", fn := fun _ => fun
  | [d1, d2] => { results := [.lit (.bool true)], args := [d1, d2] }
  | _ => none }
def realsJoinsRow : OpenClaim := { program := "ytimgiokhhdkfaaa", sum := "3e0349b482e15e3d3c8928df03d17f970ca57c7c4d7badd10759c26aa5b5f096", func := "bonsai/bonsailaw09.RealsJoins", spec := "realsJoins", inPlace := ["internal/abi.NoEscape"], unfollowed := true, recurses := true, apart := false }
def RealsJoinsSaid : Prop := realsJoinsRow.holds Try.pinned (OpenSpec.ofChange realsJoinsSpec)

/-- ITS FALSE NEIGHBOUR: 'it returns false'. Refute it at one input. -/
def realsJoinsWrong : ChangeSpec := { name := "realsJoins", fn := fun _ => fun
  | [d1, d2] => { results := [.lit (.bool false)], args := [d1, d2] }
  | _ => none }
def RealsJoinsWrongFalsely : Prop := realsJoinsRow.holds Try.pinned (OpenSpec.ofChange realsJoinsWrong)

/- THE SECOND FORM. 'bulk': how many values and letters a reading holds, each counted each time it is reached (what is shared counts as often as it is met; a slice's spare places count too). A statement '..UptoSaid' is the law's where the arguments, and the package variables that the reading takes, are together of bulk at most 1048576: NARROWER than '..Said'. Prove '..Said' where nothing that the law and all that it calls make is longer than what came in: it says more and counts as full. Else prove '..UptoSaid'. A law counts once. -/
mutual
def uptoBulk {H : Type} : DataW H → Nat
  | .lit (.string bytes) => bytes.length + 1
  | .lit _ => 1
  | .nil => 1
  | .ptr d => uptoBulk d + 1
  | .slice elems spare => uptoBulkAll elems + uptoBulkAll spare + 1
  | .agg parts => uptoBulkAll parts + 1
  | .iface _ d => uptoBulk d + 1
  | .map entries => uptoBulkEntries entries + 1
  | .held _ => 1
def uptoBulkAll {H : Type} : List (DataW H) → Nat
  | [] => 0
  | d :: r => uptoBulk d + uptoBulkAll r
def uptoBulkEntries {H : Type} : List (Lit × DataW H) → Nat
  | [] => 0
  | x :: r => uptoBulkEntry x + uptoBulkEntries r
def uptoBulkEntry {H : Type} : Lit × DataW H → Nat
  | (.string bytes, d) => bytes.length + uptoBulk d + 1
  | (_, d) => uptoBulk d + 1
 end
def uptoSmall : (H : Type) → List (DataW H) → Bool := fun _ ds => decide (uptoBulkAll ds ≤ 1048576)
def OpenSpec.upto (s : _root_.Go.ChangeSpec) : _root_.Go.OpenSpec := { _root_.Go.OpenSpec.ofChange s with cond := some uptoSmall }

/-- 'bonsailaw09.RealsTells', WHERE WHAT IT READS IS OF BULK AT MOST 1048576: true; the input reads as it did. -/
def realsTellsUptoRow : OpenClaim := { program := "ytimgiokhhdkfaaa", sum := "3e0349b482e15e3d3c8928df03d17f970ca57c7c4d7badd10759c26aa5b5f096", func := "bonsai/bonsailaw09.RealsTells", spec := "realsTells", inPlace := ["internal/abi.NoEscape"], unfollowed := true, recurses := true, apart := false, narrowed := true }
def RealsTellsUptoSaid : Prop := realsTellsUptoRow.holds Try.pinned (OpenSpec.upto realsTellsSpec)

/-- 'bonsailaw09.RealsReads', WHERE WHAT IT READS IS OF BULK AT MOST 1048576: true; the input reads as it did. -/
def realsReadsUptoRow : OpenClaim := { program := "ytimgiokhhdkfaaa", sum := "3e0349b482e15e3d3c8928df03d17f970ca57c7c4d7badd10759c26aa5b5f096", func := "bonsai/bonsailaw09.RealsReads", spec := "realsReads", inPlace := ["internal/abi.NoEscape"], unfollowed := true, recurses := true, apart := false, narrowed := true }
def RealsReadsUptoSaid : Prop := realsReadsUptoRow.holds Try.pinned (OpenSpec.upto realsReadsSpec)

/-- 'bonsailaw09.RealsBack', WHERE WHAT IT READS IS OF BULK AT MOST 1048576: true; the input reads as it did. -/
def realsBackUptoRow : OpenClaim := { program := "ytimgiokhhdkfaaa", sum := "3e0349b482e15e3d3c8928df03d17f970ca57c7c4d7badd10759c26aa5b5f096", func := "bonsai/bonsailaw09.RealsBack", spec := "realsBack", inPlace := ["internal/abi.NoEscape"], unfollowed := true, recurses := true, apart := false, narrowed := true }
def RealsBackUptoSaid : Prop := realsBackUptoRow.holds Try.pinned (OpenSpec.upto realsBackSpec)

/-- 'bonsailaw09.RealsAgain', WHERE WHAT IT READS IS OF BULK AT MOST 1048576: true; the input reads as it did. -/
def realsAgainUptoRow : OpenClaim := { program := "ytimgiokhhdkfaaa", sum := "3e0349b482e15e3d3c8928df03d17f970ca57c7c4d7badd10759c26aa5b5f096", func := "bonsai/bonsailaw09.RealsAgain", spec := "realsAgain", inPlace := ["internal/abi.NoEscape"], unfollowed := true, recurses := true, apart := false, narrowed := true }
def RealsAgainUptoSaid : Prop := realsAgainUptoRow.holds Try.pinned (OpenSpec.upto realsAgainSpec)

/-- 'bonsailaw09.RealsJoins', WHERE WHAT IT READS IS OF BULK AT MOST 1048576: true; the input reads as it did. -/
def realsJoinsUptoRow : OpenClaim := { program := "ytimgiokhhdkfaaa", sum := "3e0349b482e15e3d3c8928df03d17f970ca57c7c4d7badd10759c26aa5b5f096", func := "bonsai/bonsailaw09.RealsJoins", spec := "realsJoins", inPlace := ["internal/abi.NoEscape"], unfollowed := true, recurses := true, apart := false, narrowed := true }
def RealsJoinsUptoSaid : Prop := realsJoinsUptoRow.holds Try.pinned (OpenSpec.upto realsJoinsSpec)

end Rows
end Go.Proofs.Ytimgiokhhdkfaaa
