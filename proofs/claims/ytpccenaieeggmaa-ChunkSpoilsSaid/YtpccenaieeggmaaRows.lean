/-
  No cell of these rows narrows 'for every input' (looked for: loops, veiled, ifaces, maps, wideKeys, modest, calm, conditions, laid).
  DERIVED. THE GIVEN ROWS OF THIS SEAT. 5 by the template 'for every input the law returns true; each argument reads behind the call as it read before'; 0 by the template 'total and deterministic' (their statements: YtpccenaieeggmaaTotals.lean).
  GIVEN WITH THE SEED: the statements are not yours to turn. If you find one false, say at which input.
  Laid BY PROGRAM, IN A SANDBOX (cutbox-rows.mjs): the forced cells as the released guide's own fill.sh prints them over the translation e2e143287bfd00c8… (all of the seat's roots in one cut). By AI agents, Wed Nov 11 2026. No macro, syntax, notation, axiom, sorry.
-/
import Derived.Test.YtpccenaieeggmaaChecked
import GoSem.Claim
import GoSem.ClaimJoined
import GoSem.ClaimMapViews
import Derived.JoinedTies
import Derived.KernelRfl
namespace Go.Proofs.Ytpccenaieeggmaa
/- THE CELL 'sum', in the pinned program and in every row, IS THE sha256 OF THE DUMP (.gsa) THAT YtpccenaieeggmaaProg.lean LOADS. Nothing in Lean hashes anything: it is a label: what it is worth is what the hold of that sum in a sandbox is worth. -/
noncomputable def Try.pinned : Pinned := { name := "ytpccenaieeggmaa", sum := "e2e143287bfd00c87657c70675c76831c53376d34e96e5b8113787ce6cc4e566", checked := Try.checked }
namespace Rows
def none {H : Type} : Left H := { results := [], args := [] }

/-- 'bonsailaw11.ChunkJoins': WHATEVER THE INPUT: true; the input reads as it did. -/
def chunkJoinsSpec : ChangeSpec := { name := "chunkJoins", fn := fun _ => fun
  | [d1, d2, d3] => { results := [.lit (.bool true)], args := [d1, d2, d3] }
  | _ => none }
def chunkJoinsRow : OpenClaim := { program := "ytpccenaieeggmaa", sum := "e2e143287bfd00c87657c70675c76831c53376d34e96e5b8113787ce6cc4e566", func := "bonsai/bonsailaw11.ChunkJoins", spec := "chunkJoins", inPlace := ["internal/abi.NoEscape"], unfollowed := true, recurses := true, apart := false }
def ChunkJoinsSaid : Prop := chunkJoinsRow.holds Try.pinned (OpenSpec.ofChange chunkJoinsSpec)

/-- ITS FALSE NEIGHBOUR: 'it returns false'. Refute it at one input. -/
def chunkJoinsWrong : ChangeSpec := { name := "chunkJoins", fn := fun _ => fun
  | [d1, d2, d3] => { results := [.lit (.bool false)], args := [d1, d2, d3] }
  | _ => none }
def ChunkJoinsWrongFalsely : Prop := chunkJoinsRow.holds Try.pinned (OpenSpec.ofChange chunkJoinsWrong)

/-- 'bonsailaw11.ChunkSplits': WHATEVER THE INPUT: true; the input reads as it did. -/
def chunkSplitsSpec : ChangeSpec := { name := "chunkSplits", fn := fun _ => fun
  | [d] => { results := [.lit (.bool true)], args := [d] }
  | _ => none }
def chunkSplitsRow : OpenClaim := { program := "ytpccenaieeggmaa", sum := "e2e143287bfd00c87657c70675c76831c53376d34e96e5b8113787ce6cc4e566", func := "bonsai/bonsailaw11.ChunkSplits", spec := "chunkSplits", inPlace := ["internal/abi.NoEscape"], unfollowed := true, recurses := true, apart := false }
def ChunkSplitsSaid : Prop := chunkSplitsRow.holds Try.pinned (OpenSpec.ofChange chunkSplitsSpec)

/-- ITS FALSE NEIGHBOUR: 'it returns false'. Refute it at one input. -/
def chunkSplitsWrong : ChangeSpec := { name := "chunkSplits", fn := fun _ => fun
  | [d] => { results := [.lit (.bool false)], args := [d] }
  | _ => none }
def ChunkSplitsWrongFalsely : Prop := chunkSplitsRow.holds Try.pinned (OpenSpec.ofChange chunkSplitsWrong)

/-- 'bonsailaw11.ChunkBack': WHATEVER THE INPUT: true; the input reads as it did. -/
def chunkBackSpec : ChangeSpec := { name := "chunkBack", fn := fun _ => fun
  | [d1, d2, d3] => { results := [.lit (.bool true)], args := [d1, d2, d3] }
  | _ => none }
def chunkBackRow : OpenClaim := { program := "ytpccenaieeggmaa", sum := "e2e143287bfd00c87657c70675c76831c53376d34e96e5b8113787ce6cc4e566", func := "bonsai/bonsailaw11.ChunkBack", spec := "chunkBack", inPlace := ["internal/abi.NoEscape"], unfollowed := true, recurses := true, apart := false }
def ChunkBackSaid : Prop := chunkBackRow.holds Try.pinned (OpenSpec.ofChange chunkBackSpec)

/-- ITS FALSE NEIGHBOUR: 'it returns false'. Refute it at one input. -/
def chunkBackWrong : ChangeSpec := { name := "chunkBack", fn := fun _ => fun
  | [d1, d2, d3] => { results := [.lit (.bool false)], args := [d1, d2, d3] }
  | _ => none }
def ChunkBackWrongFalsely : Prop := chunkBackRow.holds Try.pinned (OpenSpec.ofChange chunkBackWrong)

/-- 'bonsailaw11.ChunkSpoils': WHATEVER THE INPUT: true; the input reads as it did. -/
def chunkSpoilsSpec : ChangeSpec := { name := "chunkSpoils", fn := fun _ => fun
  | [d1, d2, d3] => { results := [.lit (.bool true)], args := [d1, d2, d3] }
  | _ => none }
def chunkSpoilsRow : OpenClaim := { program := "ytpccenaieeggmaa", sum := "e2e143287bfd00c87657c70675c76831c53376d34e96e5b8113787ce6cc4e566", func := "bonsai/bonsailaw11.ChunkSpoils", spec := "chunkSpoils", inPlace := ["internal/abi.NoEscape"], unfollowed := true, recurses := true, apart := false }
def ChunkSpoilsSaid : Prop := chunkSpoilsRow.holds Try.pinned (OpenSpec.ofChange chunkSpoilsSpec)

/-- ITS FALSE NEIGHBOUR: 'it returns false'. Refute it at one input. -/
def chunkSpoilsWrong : ChangeSpec := { name := "chunkSpoils", fn := fun _ => fun
  | [d1, d2, d3] => { results := [.lit (.bool false)], args := [d1, d2, d3] }
  | _ => none }
def ChunkSpoilsWrongFalsely : Prop := chunkSpoilsRow.holds Try.pinned (OpenSpec.ofChange chunkSpoilsWrong)

/-- 'bonsailaw11.ChunkFinds': WHATEVER THE INPUT: true; the input reads as it did. -/
def chunkFindsSpec : ChangeSpec := { name := "chunkFinds", fn := fun _ => fun
  | [d1, d2] => { results := [.lit (.bool true)], args := [d1, d2] }
  | _ => none }
def chunkFindsRow : OpenClaim := { program := "ytpccenaieeggmaa", sum := "e2e143287bfd00c87657c70675c76831c53376d34e96e5b8113787ce6cc4e566", func := "bonsai/bonsailaw11.ChunkFinds", spec := "chunkFinds", inPlace := ["internal/abi.NoEscape"], unfollowed := true, recurses := true, apart := false }
def ChunkFindsSaid : Prop := chunkFindsRow.holds Try.pinned (OpenSpec.ofChange chunkFindsSpec)

/-- ITS FALSE NEIGHBOUR: 'it returns false'. Refute it at one input. -/
def chunkFindsWrong : ChangeSpec := { name := "chunkFinds", fn := fun _ => fun
  | [d1, d2] => { results := [.lit (.bool false)], args := [d1, d2] }
  | _ => none }
def ChunkFindsWrongFalsely : Prop := chunkFindsRow.holds Try.pinned (OpenSpec.ofChange chunkFindsWrong)

/- THE SECOND FORM. 'bulk': how many values and letters a reading holds, each counted each time it is reached (what is shared counts as often as it is met; a slice's spare places count too). A statement '..UptoSaid' is the law's where the arguments, and the package variables that the reading takes, are together of bulk at most 1048576: NARROWER than '..Said'. Prove '..Said' where nothing that the law and all that it calls make is longer than what came in: it says more and counts as full. Else prove '..UptoSaid'. A law counts once. -/
mutual
def uptoBulk {H : Type} : DataW H → Nat
  | .lit (.string bytes) => bytes.length + 1
  | .lit _ => 1
  | .nil => 1
  | .ptr d => uptoBulk d + 1
  | .slice elems spare => uptoBulkAll elems + uptoBulkAll spare + 1
  | .agg parts => uptoBulkAll parts + 1
  | .iface _ d => uptoBulk d + 1
  | .map entries => uptoBulkEntries entries + 1
  | .held _ => 1
def uptoBulkAll {H : Type} : List (DataW H) → Nat
  | [] => 0
  | d :: r => uptoBulk d + uptoBulkAll r
def uptoBulkEntries {H : Type} : List (Lit × DataW H) → Nat
  | [] => 0
  | x :: r => uptoBulkEntry x + uptoBulkEntries r
def uptoBulkEntry {H : Type} : Lit × DataW H → Nat
  | (.string bytes, d) => bytes.length + uptoBulk d + 1
  | (_, d) => uptoBulk d + 1
 end
def uptoSmall : (H : Type) → List (DataW H) → Bool := fun _ ds => decide (uptoBulkAll ds ≤ 1048576)
def OpenSpec.upto (s : _root_.Go.ChangeSpec) : _root_.Go.OpenSpec := { _root_.Go.OpenSpec.ofChange s with cond := some uptoSmall }

/-- 'bonsailaw11.ChunkJoins', WHERE WHAT IT READS IS OF BULK AT MOST 1048576: true; the input reads as it did. -/
def chunkJoinsUptoRow : OpenClaim := { program := "ytpccenaieeggmaa", sum := "e2e143287bfd00c87657c70675c76831c53376d34e96e5b8113787ce6cc4e566", func := "bonsai/bonsailaw11.ChunkJoins", spec := "chunkJoins", inPlace := ["internal/abi.NoEscape"], unfollowed := true, recurses := true, apart := false, narrowed := true }
def ChunkJoinsUptoSaid : Prop := chunkJoinsUptoRow.holds Try.pinned (OpenSpec.upto chunkJoinsSpec)

/-- 'bonsailaw11.ChunkSplits', WHERE WHAT IT READS IS OF BULK AT MOST 1048576: true; the input reads as it did. -/
def chunkSplitsUptoRow : OpenClaim := { program := "ytpccenaieeggmaa", sum := "e2e143287bfd00c87657c70675c76831c53376d34e96e5b8113787ce6cc4e566", func := "bonsai/bonsailaw11.ChunkSplits", spec := "chunkSplits", inPlace := ["internal/abi.NoEscape"], unfollowed := true, recurses := true, apart := false, narrowed := true }
def ChunkSplitsUptoSaid : Prop := chunkSplitsUptoRow.holds Try.pinned (OpenSpec.upto chunkSplitsSpec)

/-- 'bonsailaw11.ChunkBack', WHERE WHAT IT READS IS OF BULK AT MOST 1048576: true; the input reads as it did. -/
def chunkBackUptoRow : OpenClaim := { program := "ytpccenaieeggmaa", sum := "e2e143287bfd00c87657c70675c76831c53376d34e96e5b8113787ce6cc4e566", func := "bonsai/bonsailaw11.ChunkBack", spec := "chunkBack", inPlace := ["internal/abi.NoEscape"], unfollowed := true, recurses := true, apart := false, narrowed := true }
def ChunkBackUptoSaid : Prop := chunkBackUptoRow.holds Try.pinned (OpenSpec.upto chunkBackSpec)

/-- 'bonsailaw11.ChunkSpoils', WHERE WHAT IT READS IS OF BULK AT MOST 1048576: true; the input reads as it did. -/
def chunkSpoilsUptoRow : OpenClaim := { program := "ytpccenaieeggmaa", sum := "e2e143287bfd00c87657c70675c76831c53376d34e96e5b8113787ce6cc4e566", func := "bonsai/bonsailaw11.ChunkSpoils", spec := "chunkSpoils", inPlace := ["internal/abi.NoEscape"], unfollowed := true, recurses := true, apart := false, narrowed := true }
def ChunkSpoilsUptoSaid : Prop := chunkSpoilsUptoRow.holds Try.pinned (OpenSpec.upto chunkSpoilsSpec)

/-- 'bonsailaw11.ChunkFinds', WHERE WHAT IT READS IS OF BULK AT MOST 1048576: true; the input reads as it did. -/
def chunkFindsUptoRow : OpenClaim := { program := "ytpccenaieeggmaa", sum := "e2e143287bfd00c87657c70675c76831c53376d34e96e5b8113787ce6cc4e566", func := "bonsai/bonsailaw11.ChunkFinds", spec := "chunkFinds", inPlace := ["internal/abi.NoEscape"], unfollowed := true, recurses := true, apart := false, narrowed := true }
def ChunkFindsUptoSaid : Prop := chunkFindsUptoRow.holds Try.pinned (OpenSpec.upto chunkFindsSpec)

end Rows
end Go.Proofs.Ytpccenaieeggmaa
