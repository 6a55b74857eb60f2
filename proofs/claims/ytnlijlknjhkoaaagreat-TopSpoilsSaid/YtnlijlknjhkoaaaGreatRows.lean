/-
  No cell of these rows narrows 'for every input' (looked for: loops, veiled, ifaces, maps, wideKeys, modest, calm, conditions, laid).
  DERIVED. THE GIVEN ROWS OF THIS SEAT. 5 by the template 'for every input the law returns true; each argument reads behind the call as it read before'; 0 by the template 'total and deterministic' (their statements: YtnlijlknjhkoaaaGreatTotals.lean).
  GIVEN WITH THE SEED: the statements are not yours to turn. If you find one false, say at which input.
  Laid BY PROGRAM, IN A SANDBOX (cutbox-rows.mjs): the forced cells as the released guide's own fill.sh prints them over the translation 596beb20fd3f27b9… (all of the seat's roots in one cut). By AI agents, Wed Nov 11 2026. No macro, syntax, notation, axiom, sorry.
-/
import Derived.Test.YtnlijlknjhkoaaaGreatChecked
import GoSem.Claim
import GoSem.ClaimJoined
import GoSem.ClaimMapViews
import Derived.JoinedTies
import Derived.KernelRfl
namespace Go.Proofs.YtnlijlknjhkoaaaGreat
/- THE CELL 'sum', in the pinned program and in every row, IS THE sha256 OF THE DUMP (.gsa) THAT YtnlijlknjhkoaaaGreatProg.lean LOADS. Nothing in Lean hashes anything: it is a label: what it is worth is what the hold of that sum in a sandbox is worth. -/
noncomputable def Tryz.pinned : Pinned := { name := "ytnlijlknjhkoaaagreat", sum := "596beb20fd3f27b977c194090e85ce0c6e454c5ab60a1ef964274190f168e38f", checked := Tryz.checked }
namespace Rows
def none {H : Type} : Left H := { results := [], args := [] }

/-- 'bonsaitop.TopSettles': WHATEVER THE INPUT: true; the input reads as it did. -/
def topSettlesSpec : ChangeSpec := { name := "topSettles", fn := fun _ => fun
  | [d1, d2, d3] => { results := [.lit (.bool true)], args := [d1, d2, d3] }
  | _ => none }
def topSettlesRow : OpenClaim := { program := "ytnlijlknjhkoaaagreat", sum := "596beb20fd3f27b977c194090e85ce0c6e454c5ab60a1ef964274190f168e38f", func := "bonsai/bonsaitop.TopSettles", spec := "topSettles", inPlace := ["slices.overlaps[bonsai/api.Mark]", "slices.overlaps[bonsai/api.Move]", "slices.overlaps[bonsai/api.Row]", "internal/abi.NoEscape"], unfollowed := true, recurses := true, apart := false }
def TopSettlesSaid : Prop := topSettlesRow.holds Tryz.pinned (OpenSpec.ofChange topSettlesSpec)

/-- ITS FALSE NEIGHBOUR: 'it returns false'. Refute it at one input. -/
def topSettlesWrong : ChangeSpec := { name := "topSettles", fn := fun _ => fun
  | [d1, d2, d3] => { results := [.lit (.bool false)], args := [d1, d2, d3] }
  | _ => none }
def TopSettlesWrongFalsely : Prop := topSettlesRow.holds Tryz.pinned (OpenSpec.ofChange topSettlesWrong)

/-- 'bonsaitop.TopSizes': WHATEVER THE INPUT: true; the input reads as it did. -/
def topSizesSpec : ChangeSpec := { name := "topSizes", fn := fun _ => fun
  | [d] => { results := [.lit (.bool true)], args := [d] }
  | _ => none }
def topSizesRow : OpenClaim := { program := "ytnlijlknjhkoaaagreat", sum := "596beb20fd3f27b977c194090e85ce0c6e454c5ab60a1ef964274190f168e38f", func := "bonsai/bonsaitop.TopSizes", spec := "topSizes", inPlace := ["slices.overlaps[bonsai/api.Mark]", "slices.overlaps[bonsai/api.Move]", "slices.overlaps[bonsai/api.Row]", "internal/abi.NoEscape"], unfollowed := true, recurses := true, apart := false }
def TopSizesSaid : Prop := topSizesRow.holds Tryz.pinned (OpenSpec.ofChange topSizesSpec)

/-- ITS FALSE NEIGHBOUR: 'it returns false'. Refute it at one input. -/
def topSizesWrong : ChangeSpec := { name := "topSizes", fn := fun _ => fun
  | [d] => { results := [.lit (.bool false)], args := [d] }
  | _ => none }
def TopSizesWrongFalsely : Prop := topSizesRow.holds Tryz.pinned (OpenSpec.ofChange topSizesWrong)

/-- 'bonsaitop.TopMarks': WHATEVER THE INPUT: true; the input reads as it did. -/
def topMarksSpec : ChangeSpec := { name := "topMarks", fn := fun _ => fun
  | [d1, d2] => { results := [.lit (.bool true)], args := [d1, d2] }
  | _ => none }
def topMarksRow : OpenClaim := { program := "ytnlijlknjhkoaaagreat", sum := "596beb20fd3f27b977c194090e85ce0c6e454c5ab60a1ef964274190f168e38f", func := "bonsai/bonsaitop.TopMarks", spec := "topMarks", inPlace := ["slices.overlaps[bonsai/api.Mark]", "slices.overlaps[bonsai/api.Move]", "slices.overlaps[bonsai/api.Row]", "internal/abi.NoEscape"], unfollowed := true, recurses := true, apart := false }
def TopMarksSaid : Prop := topMarksRow.holds Tryz.pinned (OpenSpec.ofChange topMarksSpec)

/-- ITS FALSE NEIGHBOUR: 'it returns false'. Refute it at one input. -/
def topMarksWrong : ChangeSpec := { name := "topMarks", fn := fun _ => fun
  | [d1, d2] => { results := [.lit (.bool false)], args := [d1, d2] }
  | _ => none }
def TopMarksWrongFalsely : Prop := topMarksRow.holds Tryz.pinned (OpenSpec.ofChange topMarksWrong)

/-- 'bonsaitop.TopCanon': WHATEVER THE INPUT: true; the input reads as it did. -/
def topCanonSpec : ChangeSpec := { name := "topCanon", fn := fun _ => fun
  | [d1, d2, d3] => { results := [.lit (.bool true)], args := [d1, d2, d3] }
  | _ => none }
def topCanonRow : OpenClaim := { program := "ytnlijlknjhkoaaagreat", sum := "596beb20fd3f27b977c194090e85ce0c6e454c5ab60a1ef964274190f168e38f", func := "bonsai/bonsaitop.TopCanon", spec := "topCanon", inPlace := ["slices.overlaps[bonsai/api.Mark]", "slices.overlaps[bonsai/api.Move]", "slices.overlaps[bonsai/api.Row]", "internal/abi.NoEscape"], unfollowed := true, recurses := true, apart := false }
def TopCanonSaid : Prop := topCanonRow.holds Tryz.pinned (OpenSpec.ofChange topCanonSpec)

/-- ITS FALSE NEIGHBOUR: 'it returns false'. Refute it at one input. -/
def topCanonWrong : ChangeSpec := { name := "topCanon", fn := fun _ => fun
  | [d1, d2, d3] => { results := [.lit (.bool false)], args := [d1, d2, d3] }
  | _ => none }
def TopCanonWrongFalsely : Prop := topCanonRow.holds Tryz.pinned (OpenSpec.ofChange topCanonWrong)

/-- 'bonsaitop.TopSpoils': WHATEVER THE INPUT: true; the input reads as it did. -/
def topSpoilsSpec : ChangeSpec := { name := "topSpoils", fn := fun _ => fun
  | [d1, d2, d3] => { results := [.lit (.bool true)], args := [d1, d2, d3] }
  | _ => none }
def topSpoilsRow : OpenClaim := { program := "ytnlijlknjhkoaaagreat", sum := "596beb20fd3f27b977c194090e85ce0c6e454c5ab60a1ef964274190f168e38f", func := "bonsai/bonsaitop.TopSpoils", spec := "topSpoils", inPlace := ["slices.overlaps[bonsai/api.Mark]", "slices.overlaps[bonsai/api.Move]", "slices.overlaps[bonsai/api.Row]", "internal/abi.NoEscape"], unfollowed := true, recurses := true, apart := false }
def TopSpoilsSaid : Prop := topSpoilsRow.holds Tryz.pinned (OpenSpec.ofChange topSpoilsSpec)

/-- ITS FALSE NEIGHBOUR: 'it returns false'. Refute it at one input. -/
def topSpoilsWrong : ChangeSpec := { name := "topSpoils", fn := fun _ => fun
  | [d1, d2, d3] => { results := [.lit (.bool false)], args := [d1, d2, d3] }
  | _ => none }
def TopSpoilsWrongFalsely : Prop := topSpoilsRow.holds Tryz.pinned (OpenSpec.ofChange topSpoilsWrong)

/- THE SECOND FORM. 'bulk': how many values and letters a reading holds, each counted each time it is reached (what is shared counts as often as it is met; a slice's spare places count too). A statement '..UptoSaid' is the law's where the arguments, and the package variables that the reading takes, are together of bulk at most 1048576: NARROWER than '..Said'. Prove '..Said' where nothing that the law and all that it calls make is longer than what came in: it says more and counts as full. Else prove '..UptoSaid'. A law counts once. -/
mutual
def uptoBulk {H : Type} : DataW H → Nat
  | .lit (.string bytes) => bytes.length + 1
  | .lit _ => 1
  | .nil => 1
  | .ptr d => uptoBulk d + 1
  | .slice elems spare => uptoBulkAll elems + uptoBulkAll spare + 1
  | .agg parts => uptoBulkAll parts + 1
  | .iface _ d => uptoBulk d + 1
  | .map entries => uptoBulkEntries entries + 1
  | .held _ => 1
def uptoBulkAll {H : Type} : List (DataW H) → Nat
  | [] => 0
  | d :: r => uptoBulk d + uptoBulkAll r
def uptoBulkEntries {H : Type} : List (Lit × DataW H) → Nat
  | [] => 0
  | x :: r => uptoBulkEntry x + uptoBulkEntries r
def uptoBulkEntry {H : Type} : Lit × DataW H → Nat
  | (.string bytes, d) => bytes.length + uptoBulk d + 1
  | (_, d) => uptoBulk d + 1
 end
def uptoSmall : (H : Type) → List (DataW H) → Bool := fun _ ds => decide (uptoBulkAll ds ≤ 1048576)
def OpenSpec.upto (s : _root_.Go.ChangeSpec) : _root_.Go.OpenSpec := { _root_.Go.OpenSpec.ofChange s with cond := some uptoSmall }

/-- 'bonsaitop.TopSettles', WHERE WHAT IT READS IS OF BULK AT MOST 1048576: true; the input reads as it did. -/
def topSettlesUptoRow : OpenClaim := { program := "ytnlijlknjhkoaaagreat", sum := "596beb20fd3f27b977c194090e85ce0c6e454c5ab60a1ef964274190f168e38f", func := "bonsai/bonsaitop.TopSettles", spec := "topSettles", inPlace := ["slices.overlaps[bonsai/api.Mark]", "slices.overlaps[bonsai/api.Move]", "slices.overlaps[bonsai/api.Row]", "internal/abi.NoEscape"], unfollowed := true, recurses := true, apart := false, narrowed := true }
def TopSettlesUptoSaid : Prop := topSettlesUptoRow.holds Tryz.pinned (OpenSpec.upto topSettlesSpec)

/-- 'bonsaitop.TopSizes', WHERE WHAT IT READS IS OF BULK AT MOST 1048576: true; the input reads as it did. -/
def topSizesUptoRow : OpenClaim := { program := "ytnlijlknjhkoaaagreat", sum := "596beb20fd3f27b977c194090e85ce0c6e454c5ab60a1ef964274190f168e38f", func := "bonsai/bonsaitop.TopSizes", spec := "topSizes", inPlace := ["slices.overlaps[bonsai/api.Mark]", "slices.overlaps[bonsai/api.Move]", "slices.overlaps[bonsai/api.Row]", "internal/abi.NoEscape"], unfollowed := true, recurses := true, apart := false, narrowed := true }
def TopSizesUptoSaid : Prop := topSizesUptoRow.holds Tryz.pinned (OpenSpec.upto topSizesSpec)

/-- 'bonsaitop.TopMarks', WHERE WHAT IT READS IS OF BULK AT MOST 1048576: true; the input reads as it did. -/
def topMarksUptoRow : OpenClaim := { program := "ytnlijlknjhkoaaagreat", sum := "596beb20fd3f27b977c194090e85ce0c6e454c5ab60a1ef964274190f168e38f", func := "bonsai/bonsaitop.TopMarks", spec := "topMarks", inPlace := ["slices.overlaps[bonsai/api.Mark]", "slices.overlaps[bonsai/api.Move]", "slices.overlaps[bonsai/api.Row]", "internal/abi.NoEscape"], unfollowed := true, recurses := true, apart := false, narrowed := true }
def TopMarksUptoSaid : Prop := topMarksUptoRow.holds Tryz.pinned (OpenSpec.upto topMarksSpec)

/-- 'bonsaitop.TopCanon', WHERE WHAT IT READS IS OF BULK AT MOST 1048576: true; the input reads as it did. -/
def topCanonUptoRow : OpenClaim := { program := "ytnlijlknjhkoaaagreat", sum := "596beb20fd3f27b977c194090e85ce0c6e454c5ab60a1ef964274190f168e38f", func := "bonsai/bonsaitop.TopCanon", spec := "topCanon", inPlace := ["slices.overlaps[bonsai/api.Mark]", "slices.overlaps[bonsai/api.Move]", "slices.overlaps[bonsai/api.Row]", "internal/abi.NoEscape"], unfollowed := true, recurses := true, apart := false, narrowed := true }
def TopCanonUptoSaid : Prop := topCanonUptoRow.holds Tryz.pinned (OpenSpec.upto topCanonSpec)

/-- 'bonsaitop.TopSpoils', WHERE WHAT IT READS IS OF BULK AT MOST 1048576: true; the input reads as it did. -/
def topSpoilsUptoRow : OpenClaim := { program := "ytnlijlknjhkoaaagreat", sum := "596beb20fd3f27b977c194090e85ce0c6e454c5ab60a1ef964274190f168e38f", func := "bonsai/bonsaitop.TopSpoils", spec := "topSpoils", inPlace := ["slices.overlaps[bonsai/api.Mark]", "slices.overlaps[bonsai/api.Move]", "slices.overlaps[bonsai/api.Row]", "internal/abi.NoEscape"], unfollowed := true, recurses := true, apart := false, narrowed := true }
def TopSpoilsUptoSaid : Prop := topSpoilsUptoRow.holds Tryz.pinned (OpenSpec.upto topSpoilsSpec)

end Rows
end Go.Proofs.YtnlijlknjhkoaaaGreat
