/-
  No cell of these rows narrows 'for every input' (looked for: loops, veiled, ifaces, maps, wideKeys, modest, calm, conditions, laid).
  DERIVED. THE GIVEN ROWS OF THIS SEAT. 5 by the template 'for every input the law returns true; each argument reads behind the call as it read before'; 0 by the template 'total and deterministic' (their statements: YtmhlnfijghfngaaTotals.lean).
  GIVEN WITH THE SEED: the statements are not yours to turn. If you find one false, say at which input.
  Laid BY PROGRAM, IN A SANDBOX (cutbox-rows.mjs): the forced cells as the released guide's own fill.sh prints them over the translation 91e254a40bcb8510… (all of the seat's roots in one cut). By AI agents, Wed Nov 11 2026. No macro, syntax, notation, axiom, sorry.
-/
import Derived.Test.YtmhlnfijghfngaaChecked
import GoSem.Claim
import GoSem.ClaimJoined
import GoSem.ClaimMapViews
import Derived.JoinedTies
import Derived.KernelRfl
namespace Go.Proofs.Ytmhlnfijghfngaa
/- THE CELL 'sum', in the pinned program and in every row, IS THE sha256 OF THE DUMP (.gsa) THAT YtmhlnfijghfngaaProg.lean LOADS. Nothing in Lean hashes anything: it is a label: what it is worth is what the hold of that sum in a sandbox is worth. -/
noncomputable def Try.pinned : Pinned := { name := "ytmhlnfijghfngaa", sum := "91e254a40bcb8510afc8da6c615a464ec3136d66a3383d15548cb31d54496d0a", checked := Try.checked }
namespace Rows
def none {H : Type} : Left H := { results := [], args := [] }

/-- 'bonsailaw10.CrcTells': WHATEVER THE INPUT: true; the input reads as it did. -/
def crcTellsSpec : ChangeSpec := { name := "crcTells", fn := fun _ => fun
  | [d1, d2, d3] => { results := [.lit (.bool true)], args := [d1, d2, d3] }
  | _ => none }
def crcTellsRow : OpenClaim := { program := "ytmhlnfijghfngaa", sum := "91e254a40bcb8510afc8da6c615a464ec3136d66a3383d15548cb31d54496d0a", func := "bonsai/bonsailaw10.CrcTells", spec := "crcTells", unfollowed := true, recurses := true, apart := false }
def CrcTellsSaid : Prop := crcTellsRow.holds Try.pinned (OpenSpec.ofChange crcTellsSpec)

/-- ITS FALSE NEIGHBOUR: 'it returns false'. Refute it at one input. -/
def crcTellsWrong : ChangeSpec := { name := "crcTells", fn := fun _ => fun
  | [d1, d2, d3] => { results := [.lit (.bool false)], args := [d1, d2, d3] }
  | _ => none }
def CrcTellsWrongFalsely : Prop := crcTellsRow.holds Try.pinned (OpenSpec.ofChange crcTellsWrong)

/-- 'bonsailaw10.CrcJoins': WHATEVER THE INPUT: true; the input reads as it did. -/
def crcJoinsSpec : ChangeSpec := { name := "crcJoins", fn := fun _ => fun
  | [d1, d2, d3] => { results := [.lit (.bool true)], args := [d1, d2, d3] }
  | _ => none }
def crcJoinsRow : OpenClaim := { program := "ytmhlnfijghfngaa", sum := "91e254a40bcb8510afc8da6c615a464ec3136d66a3383d15548cb31d54496d0a", func := "bonsai/bonsailaw10.CrcJoins", spec := "crcJoins", unfollowed := true, recurses := true, apart := false }
def CrcJoinsSaid : Prop := crcJoinsRow.holds Try.pinned (OpenSpec.ofChange crcJoinsSpec)

/-- ITS FALSE NEIGHBOUR: 'it returns false'. Refute it at one input. -/
def crcJoinsWrong : ChangeSpec := { name := "crcJoins", fn := fun _ => fun
  | [d1, d2, d3] => { results := [.lit (.bool false)], args := [d1, d2, d3] }
  | _ => none }
def CrcJoinsWrongFalsely : Prop := crcJoinsRow.holds Try.pinned (OpenSpec.ofChange crcJoinsWrong)

/-- 'bonsailaw10.CrcSpoils': WHATEVER THE INPUT: true; the input reads as it did. -/
def crcSpoilsSpec : ChangeSpec := { name := "crcSpoils", fn := fun _ => fun
  | [d1, d2, d3] => { results := [.lit (.bool true)], args := [d1, d2, d3] }
  | _ => none }
def crcSpoilsRow : OpenClaim := { program := "ytmhlnfijghfngaa", sum := "91e254a40bcb8510afc8da6c615a464ec3136d66a3383d15548cb31d54496d0a", func := "bonsai/bonsailaw10.CrcSpoils", spec := "crcSpoils", unfollowed := true, recurses := true, apart := false }
def CrcSpoilsSaid : Prop := crcSpoilsRow.holds Try.pinned (OpenSpec.ofChange crcSpoilsSpec)

/-- ITS FALSE NEIGHBOUR: 'it returns false'. Refute it at one input. -/
def crcSpoilsWrong : ChangeSpec := { name := "crcSpoils", fn := fun _ => fun
  | [d1, d2, d3] => { results := [.lit (.bool false)], args := [d1, d2, d3] }
  | _ => none }
def CrcSpoilsWrongFalsely : Prop := crcSpoilsRow.holds Try.pinned (OpenSpec.ofChange crcSpoilsWrong)

/-- 'bonsailaw10.CrcNoughts': WHATEVER THE INPUT: true; the input reads as it did. -/
def crcNoughtsSpec : ChangeSpec := { name := "crcNoughts", fn := fun _ => fun
  | [d1, d2, d3] => { results := [.lit (.bool true)], args := [d1, d2, d3] }
  | _ => none }
def crcNoughtsRow : OpenClaim := { program := "ytmhlnfijghfngaa", sum := "91e254a40bcb8510afc8da6c615a464ec3136d66a3383d15548cb31d54496d0a", func := "bonsai/bonsailaw10.CrcNoughts", spec := "crcNoughts", unfollowed := true, recurses := true, apart := false }
def CrcNoughtsSaid : Prop := crcNoughtsRow.holds Try.pinned (OpenSpec.ofChange crcNoughtsSpec)

/-- ITS FALSE NEIGHBOUR: 'it returns false'. Refute it at one input. -/
def crcNoughtsWrong : ChangeSpec := { name := "crcNoughts", fn := fun _ => fun
  | [d1, d2, d3] => { results := [.lit (.bool false)], args := [d1, d2, d3] }
  | _ => none }
def CrcNoughtsWrongFalsely : Prop := crcNoughtsRow.holds Try.pinned (OpenSpec.ofChange crcNoughtsWrong)

/-- 'bonsailaw10.CrcSealed': WHATEVER THE INPUT: true; the input reads as it did. -/
def crcSealedSpec : ChangeSpec := { name := "crcSealed", fn := fun _ => fun
  | [d] => { results := [.lit (.bool true)], args := [d] }
  | _ => none }
def crcSealedRow : OpenClaim := { program := "ytmhlnfijghfngaa", sum := "91e254a40bcb8510afc8da6c615a464ec3136d66a3383d15548cb31d54496d0a", func := "bonsai/bonsailaw10.CrcSealed", spec := "crcSealed", unfollowed := true, recurses := true, apart := false }
def CrcSealedSaid : Prop := crcSealedRow.holds Try.pinned (OpenSpec.ofChange crcSealedSpec)

/-- ITS FALSE NEIGHBOUR: 'it returns false'. Refute it at one input. -/
def crcSealedWrong : ChangeSpec := { name := "crcSealed", fn := fun _ => fun
  | [d] => { results := [.lit (.bool false)], args := [d] }
  | _ => none }
def CrcSealedWrongFalsely : Prop := crcSealedRow.holds Try.pinned (OpenSpec.ofChange crcSealedWrong)

/- THE SECOND FORM. 'bulk': how many values and letters a reading holds, each counted each time it is reached (what is shared counts as often as it is met; a slice's spare places count too). A statement '..UptoSaid' is the law's where the arguments, and the package variables that the reading takes, are together of bulk at most 1048576: NARROWER than '..Said'. Prove '..Said' where nothing that the law and all that it calls make is longer than what came in: it says more and counts as full. Else prove '..UptoSaid'. A law counts once. -/
mutual
def uptoBulk {H : Type} : DataW H → Nat
  | .lit (.string bytes) => bytes.length + 1
  | .lit _ => 1
  | .nil => 1
  | .ptr d => uptoBulk d + 1
  | .slice elems spare => uptoBulkAll elems + uptoBulkAll spare + 1
  | .agg parts => uptoBulkAll parts + 1
  | .iface _ d => uptoBulk d + 1
  | .map entries => uptoBulkEntries entries + 1
  | .held _ => 1
def uptoBulkAll {H : Type} : List (DataW H) → Nat
  | [] => 0
  | d :: r => uptoBulk d + uptoBulkAll r
def uptoBulkEntries {H : Type} : List (Lit × DataW H) → Nat
  | [] => 0
  | x :: r => uptoBulkEntry x + uptoBulkEntries r
def uptoBulkEntry {H : Type} : Lit × DataW H → Nat
  | (.string bytes, d) => bytes.length + uptoBulk d + 1
  | (_, d) => uptoBulk d + 1
 end
def uptoSmall : (H : Type) → List (DataW H) → Bool := fun _ ds => decide (uptoBulkAll ds ≤ 1048576)
def OpenSpec.upto (s : _root_.Go.ChangeSpec) : _root_.Go.OpenSpec := { _root_.Go.OpenSpec.ofChange s with cond := some uptoSmall }

/-- 'bonsailaw10.CrcTells', WHERE WHAT IT READS IS OF BULK AT MOST 1048576: true; the input reads as it did. -/
def crcTellsUptoRow : OpenClaim := { program := "ytmhlnfijghfngaa", sum := "91e254a40bcb8510afc8da6c615a464ec3136d66a3383d15548cb31d54496d0a", func := "bonsai/bonsailaw10.CrcTells", spec := "crcTells", unfollowed := true, recurses := true, apart := false, narrowed := true }
def CrcTellsUptoSaid : Prop := crcTellsUptoRow.holds Try.pinned (OpenSpec.upto crcTellsSpec)

/-- 'bonsailaw10.CrcJoins', WHERE WHAT IT READS IS OF BULK AT MOST 1048576: true; the input reads as it did. -/
def crcJoinsUptoRow : OpenClaim := { program := "ytmhlnfijghfngaa", sum := "91e254a40bcb8510afc8da6c615a464ec3136d66a3383d15548cb31d54496d0a", func := "bonsai/bonsailaw10.CrcJoins", spec := "crcJoins", unfollowed := true, recurses := true, apart := false, narrowed := true }
def CrcJoinsUptoSaid : Prop := crcJoinsUptoRow.holds Try.pinned (OpenSpec.upto crcJoinsSpec)

/-- 'bonsailaw10.CrcSpoils', WHERE WHAT IT READS IS OF BULK AT MOST 1048576: true; the input reads as it did. -/
def crcSpoilsUptoRow : OpenClaim := { program := "ytmhlnfijghfngaa", sum := "91e254a40bcb8510afc8da6c615a464ec3136d66a3383d15548cb31d54496d0a", func := "bonsai/bonsailaw10.CrcSpoils", spec := "crcSpoils", unfollowed := true, recurses := true, apart := false, narrowed := true }
def CrcSpoilsUptoSaid : Prop := crcSpoilsUptoRow.holds Try.pinned (OpenSpec.upto crcSpoilsSpec)

/-- 'bonsailaw10.CrcNoughts', WHERE WHAT IT READS IS OF BULK AT MOST 1048576: true; the input reads as it did. -/
def crcNoughtsUptoRow : OpenClaim := { program := "ytmhlnfijghfngaa", sum := "91e254a40bcb8510afc8da6c615a464ec3136d66a3383d15548cb31d54496d0a", func := "bonsai/bonsailaw10.CrcNoughts", spec := "crcNoughts", unfollowed := true, recurses := true, apart := false, narrowed := true }
def CrcNoughtsUptoSaid : Prop := crcNoughtsUptoRow.holds Try.pinned (OpenSpec.upto crcNoughtsSpec)

/-- 'bonsailaw10.CrcSealed', WHERE WHAT IT READS IS OF BULK AT MOST 1048576: true; the input reads as it did. -/
def crcSealedUptoRow : OpenClaim := { program := "ytmhlnfijghfngaa", sum := "91e254a40bcb8510afc8da6c615a464ec3136d66a3383d15548cb31d54496d0a", func := "bonsai/bonsailaw10.CrcSealed", spec := "crcSealed", unfollowed := true, recurses := true, apart := false, narrowed := true }
def CrcSealedUptoSaid : Prop := crcSealedUptoRow.holds Try.pinned (OpenSpec.upto crcSealedSpec)

end Rows
end Go.Proofs.Ytmhlnfijghfngaa
