/-
  No cell of these rows narrows 'for every input' (looked for: loops, veiled, ifaces, maps, wideKeys, modest, calm, conditions, laid).
  DERIVED. THE GIVEN ROWS OF THIS SEAT. 7 by the template 'for every input the law returns true; each argument reads behind the call as it read before'; 0 by the template 'total and deterministic' (their statements: YtllkhcejgoebbaaTotals.lean).
  GIVEN WITH THE SEED: the statements are not yours to turn. If you find one false, say at which input.
  Laid BY PROGRAM, IN A SANDBOX (cutbox-rows.mjs): the forced cells as the released guide's own fill.sh prints them over the translation 9b45d6dcb0a1815d… (all of the seat's roots in one cut). By AI agents, Wed Nov 11 2026. No macro, syntax, notation, axiom, sorry.
-/
import Derived.Test.YtllkhcejgoebbaaChecked
import GoSem.Claim
import GoSem.ClaimJoined
import GoSem.ClaimMapViews
import Derived.JoinedTies
import Derived.KernelRfl
namespace Go.Proofs.Ytllkhcejgoebbaa
/- THE CELL 'sum', in the pinned program and in every row, IS THE sha256 OF THE DUMP (.gsa) THAT YtllkhcejgoebbaaProg.lean LOADS. Nothing in Lean hashes anything: it is a label: what it is worth is what the hold of that sum in a sandbox is worth. -/
noncomputable def Try.pinned : Pinned := { name := "ytllkhcejgoebbaa", sum := "9b45d6dcb0a1815d6529f37b5c476654a4b70c5d5506272638b5cd64a89d2d8f", checked := Try.checked }
namespace Rows
def none {H : Type} : Left H := { results := [], args := [] }

/-- 'bonsailaw02.RankTells': WHATEVER THE INPUT: true; the input reads as it did. -/
def rankTellsSpec : ChangeSpec := { name := "rankTells", fn := fun _ => fun
  | [d1, d2, d3] => { results := [.lit (.bool true)], args := [d1, d2, d3] }
  | _ => none }
def rankTellsRow : OpenClaim := { program := "ytllkhcejgoebbaa", sum := "9b45d6dcb0a1815d6529f37b5c476654a4b70c5d5506272638b5cd64a89d2d8f", func := "bonsai/bonsailaw02.RankTells", spec := "rankTells", unfollowed := true, recurses := true, apart := false }
def RankTellsSaid : Prop := rankTellsRow.holds Try.pinned (OpenSpec.ofChange rankTellsSpec)

/-- ITS FALSE NEIGHBOUR: 'it returns false'. Refute it at one input. -/
def rankTellsWrong : ChangeSpec := { name := "rankTells", fn := fun _ => fun
  | [d1, d2, d3] => { results := [.lit (.bool false)], args := [d1, d2, d3] }
  | _ => none }
def RankTellsWrongFalsely : Prop := rankTellsRow.holds Try.pinned (OpenSpec.ofChange rankTellsWrong)

/-- 'bonsailaw02.RankRows': WHATEVER THE INPUT: true; the input reads as it did. -/
def rankRowsSpec : ChangeSpec := { name := "rankRows", fn := fun _ => fun
  | [d1, d2, d3] => { results := [.lit (.bool true)], args := [d1, d2, d3] }
  | _ => none }
def rankRowsRow : OpenClaim := { program := "ytllkhcejgoebbaa", sum := "9b45d6dcb0a1815d6529f37b5c476654a4b70c5d5506272638b5cd64a89d2d8f", func := "bonsai/bonsailaw02.RankRows", spec := "rankRows", unfollowed := true, recurses := true, apart := false }
def RankRowsSaid : Prop := rankRowsRow.holds Try.pinned (OpenSpec.ofChange rankRowsSpec)

/-- ITS FALSE NEIGHBOUR: 'it returns false'. Refute it at one input. -/
def rankRowsWrong : ChangeSpec := { name := "rankRows", fn := fun _ => fun
  | [d1, d2, d3] => { results := [.lit (.bool false)], args := [d1, d2, d3] }
  | _ => none }
def RankRowsWrongFalsely : Prop := rankRowsRow.holds Try.pinned (OpenSpec.ofChange rankRowsWrong)

/-- 'bonsailaw02.RankOrder': WHATEVER THE INPUT: true; the input reads as it did. -/
def rankOrderSpec : ChangeSpec := { name := "rankOrder", fn := fun _ => fun
  | [d1, d2, d3] => { results := [.lit (.bool true)], args := [d1, d2, d3] }
  | _ => none }
def rankOrderRow : OpenClaim := { program := "ytllkhcejgoebbaa", sum := "9b45d6dcb0a1815d6529f37b5c476654a4b70c5d5506272638b5cd64a89d2d8f", func := "bonsai/bonsailaw02.RankOrder", spec := "rankOrder", unfollowed := true, recurses := true, apart := false }
def RankOrderSaid : Prop := rankOrderRow.holds Try.pinned (OpenSpec.ofChange rankOrderSpec)

/-- ITS FALSE NEIGHBOUR: 'it returns false'. Refute it at one input. -/
def rankOrderWrong : ChangeSpec := { name := "rankOrder", fn := fun _ => fun
  | [d1, d2, d3] => { results := [.lit (.bool false)], args := [d1, d2, d3] }
  | _ => none }
def RankOrderWrongFalsely : Prop := rankOrderRow.holds Try.pinned (OpenSpec.ofChange rankOrderWrong)

/-- 'bonsailaw02.RankMiddle': WHATEVER THE INPUT: true; the input reads as it did. -/
def rankMiddleSpec : ChangeSpec := { name := "rankMiddle", fn := fun _ => fun
  | [d1, d2, d3] => { results := [.lit (.bool true)], args := [d1, d2, d3] }
  | _ => none }
def rankMiddleRow : OpenClaim := { program := "ytllkhcejgoebbaa", sum := "9b45d6dcb0a1815d6529f37b5c476654a4b70c5d5506272638b5cd64a89d2d8f", func := "bonsai/bonsailaw02.RankMiddle", spec := "rankMiddle", unfollowed := true, recurses := true, apart := false }
def RankMiddleSaid : Prop := rankMiddleRow.holds Try.pinned (OpenSpec.ofChange rankMiddleSpec)

/-- ITS FALSE NEIGHBOUR: 'it returns false'. Refute it at one input. -/
def rankMiddleWrong : ChangeSpec := { name := "rankMiddle", fn := fun _ => fun
  | [d1, d2, d3] => { results := [.lit (.bool false)], args := [d1, d2, d3] }
  | _ => none }
def RankMiddleWrongFalsely : Prop := rankMiddleRow.holds Try.pinned (OpenSpec.ofChange rankMiddleWrong)

/-- 'bonsailaw02.RankKeys': WHATEVER THE INPUT: true; the input reads as it did. -/
def rankKeysSpec : ChangeSpec := { name := "rankKeys", fn := fun _ => fun
  | [d1, d2] => { results := [.lit (.bool true)], args := [d1, d2] }
  | _ => none }
def rankKeysRow : OpenClaim := { program := "ytllkhcejgoebbaa", sum := "9b45d6dcb0a1815d6529f37b5c476654a4b70c5d5506272638b5cd64a89d2d8f", func := "bonsai/bonsailaw02.RankKeys", spec := "rankKeys", unfollowed := true, recurses := true, apart := false }
def RankKeysSaid : Prop := rankKeysRow.holds Try.pinned (OpenSpec.ofChange rankKeysSpec)

/-- ITS FALSE NEIGHBOUR: 'it returns false'. Refute it at one input. -/
def rankKeysWrong : ChangeSpec := { name := "rankKeys", fn := fun _ => fun
  | [d1, d2] => { results := [.lit (.bool false)], args := [d1, d2] }
  | _ => none }
def RankKeysWrongFalsely : Prop := rankKeysRow.holds Try.pinned (OpenSpec.ofChange rankKeysWrong)

/-- 'bonsailaw02.RankDense': WHATEVER THE INPUT: true; the input reads as it did. -/
def rankDenseSpec : ChangeSpec := { name := "rankDense", fn := fun _ => fun
  | [d1, d2] => { results := [.lit (.bool true)], args := [d1, d2] }
  | _ => none }
def rankDenseRow : OpenClaim := { program := "ytllkhcejgoebbaa", sum := "9b45d6dcb0a1815d6529f37b5c476654a4b70c5d5506272638b5cd64a89d2d8f", func := "bonsai/bonsailaw02.RankDense", spec := "rankDense", unfollowed := true, recurses := true, apart := false }
def RankDenseSaid : Prop := rankDenseRow.holds Try.pinned (OpenSpec.ofChange rankDenseSpec)

/-- ITS FALSE NEIGHBOUR: 'it returns false'. Refute it at one input. -/
def rankDenseWrong : ChangeSpec := { name := "rankDense", fn := fun _ => fun
  | [d1, d2] => { results := [.lit (.bool false)], args := [d1, d2] }
  | _ => none }
def RankDenseWrongFalsely : Prop := rankDenseRow.holds Try.pinned (OpenSpec.ofChange rankDenseWrong)

/-- 'bonsailaw02.RankSame': WHATEVER THE INPUT: true; the input reads as it did. -/
def rankSameSpec : ChangeSpec := { name := "rankSame", fn := fun _ => fun
  | [d1, d2] => { results := [.lit (.bool true)], args := [d1, d2] }
  | _ => none }
def rankSameRow : OpenClaim := { program := "ytllkhcejgoebbaa", sum := "9b45d6dcb0a1815d6529f37b5c476654a4b70c5d5506272638b5cd64a89d2d8f", func := "bonsai/bonsailaw02.RankSame", spec := "rankSame", unfollowed := true, recurses := true, apart := false }
def RankSameSaid : Prop := rankSameRow.holds Try.pinned (OpenSpec.ofChange rankSameSpec)

/-- ITS FALSE NEIGHBOUR: 'it returns false'. Refute it at one input. -/
def rankSameWrong : ChangeSpec := { name := "rankSame", fn := fun _ => fun
  | [d1, d2] => { results := [.lit (.bool false)], args := [d1, d2] }
  | _ => none }
def RankSameWrongFalsely : Prop := rankSameRow.holds Try.pinned (OpenSpec.ofChange rankSameWrong)

/- THE SECOND FORM. 'bulk': how many values and letters a reading holds, each counted each time it is reached (what is shared counts as often as it is met; a slice's spare places count too). A statement '..UptoSaid' is the law's where the arguments, and the package variables that the reading takes, are together of bulk at most 1048576: NARROWER than '..Said'. Prove '..Said' where nothing that the law and all that it calls make is longer than what came in: it says more and counts as full. Else prove '..UptoSaid'. A law counts once. -/
mutual
def uptoBulk {H : Type} : DataW H → Nat
  | .lit (.string bytes) => bytes.length + 1
  | .lit _ => 1
  | .nil => 1
  | .ptr d => uptoBulk d + 1
  | .slice elems spare => uptoBulkAll elems + uptoBulkAll spare + 1
  | .agg parts => uptoBulkAll parts + 1
  | .iface _ d => uptoBulk d + 1
  | .map entries => uptoBulkEntries entries + 1
  | .held _ => 1
def uptoBulkAll {H : Type} : List (DataW H) → Nat
  | [] => 0
  | d :: r => uptoBulk d + uptoBulkAll r
def uptoBulkEntries {H : Type} : List (Lit × DataW H) → Nat
  | [] => 0
  | x :: r => uptoBulkEntry x + uptoBulkEntries r
def uptoBulkEntry {H : Type} : Lit × DataW H → Nat
  | (.string bytes, d) => bytes.length + uptoBulk d + 1
  | (_, d) => uptoBulk d + 1
 end
def uptoSmall : (H : Type) → List (DataW H) → Bool := fun _ ds => decide (uptoBulkAll ds ≤ 1048576)
def OpenSpec.upto (s : _root_.Go.ChangeSpec) : _root_.Go.OpenSpec := { _root_.Go.OpenSpec.ofChange s with cond := some uptoSmall }

/-- 'bonsailaw02.RankTells', WHERE WHAT IT READS IS OF BULK AT MOST 1048576: true; the input reads as it did. -/
def rankTellsUptoRow : OpenClaim := { program := "ytllkhcejgoebbaa", sum := "9b45d6dcb0a1815d6529f37b5c476654a4b70c5d5506272638b5cd64a89d2d8f", func := "bonsai/bonsailaw02.RankTells", spec := "rankTells", unfollowed := true, recurses := true, apart := false, narrowed := true }
def RankTellsUptoSaid : Prop := rankTellsUptoRow.holds Try.pinned (OpenSpec.upto rankTellsSpec)

/-- 'bonsailaw02.RankRows', WHERE WHAT IT READS IS OF BULK AT MOST 1048576: true; the input reads as it did. -/
def rankRowsUptoRow : OpenClaim := { program := "ytllkhcejgoebbaa", sum := "9b45d6dcb0a1815d6529f37b5c476654a4b70c5d5506272638b5cd64a89d2d8f", func := "bonsai/bonsailaw02.RankRows", spec := "rankRows", unfollowed := true, recurses := true, apart := false, narrowed := true }
def RankRowsUptoSaid : Prop := rankRowsUptoRow.holds Try.pinned (OpenSpec.upto rankRowsSpec)

/-- 'bonsailaw02.RankOrder', WHERE WHAT IT READS IS OF BULK AT MOST 1048576: true; the input reads as it did. -/
def rankOrderUptoRow : OpenClaim := { program := "ytllkhcejgoebbaa", sum := "9b45d6dcb0a1815d6529f37b5c476654a4b70c5d5506272638b5cd64a89d2d8f", func := "bonsai/bonsailaw02.RankOrder", spec := "rankOrder", unfollowed := true, recurses := true, apart := false, narrowed := true }
def RankOrderUptoSaid : Prop := rankOrderUptoRow.holds Try.pinned (OpenSpec.upto rankOrderSpec)

/-- 'bonsailaw02.RankMiddle', WHERE WHAT IT READS IS OF BULK AT MOST 1048576: true; the input reads as it did. -/
def rankMiddleUptoRow : OpenClaim := { program := "ytllkhcejgoebbaa", sum := "9b45d6dcb0a1815d6529f37b5c476654a4b70c5d5506272638b5cd64a89d2d8f", func := "bonsai/bonsailaw02.RankMiddle", spec := "rankMiddle", unfollowed := true, recurses := true, apart := false, narrowed := true }
def RankMiddleUptoSaid : Prop := rankMiddleUptoRow.holds Try.pinned (OpenSpec.upto rankMiddleSpec)

/-- 'bonsailaw02.RankKeys', WHERE WHAT IT READS IS OF BULK AT MOST 1048576: true; the input reads as it did. -/
def rankKeysUptoRow : OpenClaim := { program := "ytllkhcejgoebbaa", sum := "9b45d6dcb0a1815d6529f37b5c476654a4b70c5d5506272638b5cd64a89d2d8f", func := "bonsai/bonsailaw02.RankKeys", spec := "rankKeys", unfollowed := true, recurses := true, apart := false, narrowed := true }
def RankKeysUptoSaid : Prop := rankKeysUptoRow.holds Try.pinned (OpenSpec.upto rankKeysSpec)

/-- 'bonsailaw02.RankDense', WHERE WHAT IT READS IS OF BULK AT MOST 1048576: true; the input reads as it did. -/
def rankDenseUptoRow : OpenClaim := { program := "ytllkhcejgoebbaa", sum := "9b45d6dcb0a1815d6529f37b5c476654a4b70c5d5506272638b5cd64a89d2d8f", func := "bonsai/bonsailaw02.RankDense", spec := "rankDense", unfollowed := true, recurses := true, apart := false, narrowed := true }
def RankDenseUptoSaid : Prop := rankDenseUptoRow.holds Try.pinned (OpenSpec.upto rankDenseSpec)

/-- 'bonsailaw02.RankSame', WHERE WHAT IT READS IS OF BULK AT MOST 1048576: true; the input reads as it did. -/
def rankSameUptoRow : OpenClaim := { program := "ytllkhcejgoebbaa", sum := "9b45d6dcb0a1815d6529f37b5c476654a4b70c5d5506272638b5cd64a89d2d8f", func := "bonsai/bonsailaw02.RankSame", spec := "rankSame", unfollowed := true, recurses := true, apart := false, narrowed := true }
def RankSameUptoSaid : Prop := rankSameUptoRow.holds Try.pinned (OpenSpec.upto rankSameSpec)

end Rows
end Go.Proofs.Ytllkhcejgoebbaa
