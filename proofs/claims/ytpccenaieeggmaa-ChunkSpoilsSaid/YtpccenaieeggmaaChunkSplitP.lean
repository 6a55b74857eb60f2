/-
  WHAT A SPLIT TELLS, in plain words; and where a loop over the chunks stands. No condition.
-/
import Derived.Test.YtpccenaieeggmaaChunkFirst
import Derived.Deep.AppendLies
namespace Go.Proofs.Ytpccenaieeggmaa
open Go.RowKit Go.Shelf
namespace Ck
open Mem Pk Bd

def splitGo : Nat → Int → ByteArray → Int × List Ch
  | 0, _, _ => (0, [])
  | f + 1, last, u => if u.size = 0 then (0, []) else if firstE u ≠ 0 then (firstE u, []) else if (firstC u).1 ≤ last then (12, []) else ((splitGo f (firstC u).1 (rest u (fU u))).1, firstC u :: (splitGo f (firstC u).1 (rest u (fU u))).2)
def splitR (s : ByteArray) : Int × List Ch := splitGo s.size 0 (rest s 5)
def splitE (s : ByteArray) : Int := if verE s = 0 then (splitR s).1 else verE s
def splitL (s : ByteArray) : List Ch := if splitE s = 0 then (splitR s).2 else []
def splitV (s : ByteArray) : Int := if splitE s = 0 then verN s else 0

theorem fU_pos (u : ByteArray) : 5 ≤ fU u := by unfold fU fK; omega
theorem firstE_ok {u : ByteArray} (h : firstE u = 0) : fE1 u = 0 ∧ ¬ 1048576 < fN u ∧ ¬ u.size < fU u ∧ sealL (u.data.toList.take (fK u + fN u)) = u.data.toList.take (fU u) := by
  unfold firstE at h
  split at h
  · rename_i h1; exact absurd h h1
  · rename_i h1
    split at h
    · exact absurd h (by decide)
    · rename_i h2
      split at h
      · exact absurd h (by decide)
      · rename_i h3
        split at h
        · rename_i h4
          exact ⟨by simpa using h1, h2, h3, h4⟩
        · exact absurd h (by decide)
theorem firstC_ok {u : ByteArray} (h : firstE u = 0) : Ok (firstC u) ∧ 0 ≤ (firstC u).1 ∧ (firstC u).1 ≤ 255 ∧ (firstC u).2.size ≤ 1048576 := by
  have h1 := (u.data.toList[0]?.getD 0).toNat_lt
  have h2 := (firstE_ok h).2.1
  have h3 : (fB u).size ≤ fN u := by
    unfold fB
    rw [← size_list, head_list, List.length_take]
    omega
  refine ⟨⟨⟨?_, ?_⟩, ?_⟩, ?_, ?_, ?_⟩
  · show (-9223372036854775808 : Int) ≤ ((u.data.toList[0]?.getD 0).toNat : Int); omega
  · show ((u.data.toList[0]?.getD 0).toNat : Int) ≤ 9223372036854775807; omega
  · show (fB u).size ≤ maxLen
    unfold maxLen
    omega
  · show (0 : Int) ≤ ((u.data.toList[0]?.getD 0).toNat : Int); omega
  · show ((u.data.toList[0]?.getD 0).toNat : Int) ≤ 255; omega
  · show (fB u).size ≤ 1048576; omega

/-- where the loop stands: the last kind, the rest, the chunks so far. -/
structure SAt (s : ByteArray) (last : Int) (u : ByteArray) (acc : List Ch) : Prop where
  e : ∃ f, u.size ≤ f ∧ splitR s = ((splitGo f last u).1, acc ++ (splitGo f last u).2)
  bound : ∀ c ∈ acc, Ok c
  len : acc.length + u.size ≤ s.size
  lo : 0 ≤ last
  hi : last ≤ 255
theorem SAt.start (s : ByteArray) : SAt s 0 (rest s 5) [] := ⟨⟨s.size, by rw [rest_size]; omega, rfl⟩, fun c hc => by simp at hc, by rw [rest_size]; simp, by decide, by decide⟩
theorem SAt.done {s u : ByteArray} {last : Int} {acc : List Ch} (h : SAt s last u acc) (h0 : u.size = 0) : splitR s = (0, acc) := by
  obtain ⟨f, -, e⟩ := h.e
  rw [e]
  cases f with
  | zero => rw [splitGo, List.append_nil]
  | succ f => rw [splitGo, if_pos h0, List.append_nil]
theorem SAt.err {s u : ByteArray} {last : Int} {acc : List Ch} (h : SAt s last u acc) (h0 : 0 < u.size) (h1 : firstE u ≠ 0) : (splitR s).1 = firstE u := by
  obtain ⟨f, hf, e⟩ := h.e
  rw [e]
  cases f with
  | zero => omega
  | succ f => rw [splitGo, if_neg (by omega), if_pos h1]
theorem SAt.low {s u : ByteArray} {last : Int} {acc : List Ch} (h : SAt s last u acc) (h0 : 0 < u.size) (h1 : firstE u = 0) (h2 : (firstC u).1 ≤ last) : (splitR s).1 = 12 := by
  obtain ⟨f, hf, e⟩ := h.e
  rw [e]
  cases f with
  | zero => omega
  | succ f => rw [splitGo, if_neg (by omega), if_neg (by simp [h1]), if_pos h2]
theorem SAt.next {s u : ByteArray} {last : Int} {acc : List Ch} (h : SAt s last u acc) (h0 : 0 < u.size) (h1 : firstE u = 0) (h2 : ¬ (firstC u).1 ≤ last) : SAt s (firstC u).1 (rest u (fU u)) (acc ++ [firstC u]) := by
  obtain ⟨f, hf, e⟩ := h.e
  obtain ⟨c1, c2, c3, -⟩ := firstC_ok h1
  have hp := fU_pos u
  have hl := h.len
  cases f with
  | zero => omega
  | succ f =>
    refine ⟨⟨f, by rw [rest_size]; omega, ?_⟩, fun c hc => ?_, by rw [rest_size, List.length_append, List.length_singleton]; omega, c2, c3⟩
    · rw [e, splitGo, if_neg (by omega), if_neg (by simp [h1]), if_neg h2, List.append_assoc]
      rfl
    · rw [List.mem_append, List.mem_singleton] at hc
      rcases hc with hc | rfl
      · exact h.bound c hc
      · exact c1

/-- what a split answers. -/
def SplitR (s : ByteArray) (w : World) (e : Ending) (w' : World) : Prop :=
  (∃ r L, e = .returned (.tuple #[.int .i64 (splitV s), r, .int .i64 (splitE s)]) ∧ Chs w' r L ∧ L = splitL s) ∧ Below w.heap.size w w'
theorem SplitR.bad {s : ByteArray} {c : Int} {w w' : World} (h : splitE s = c) (hc : c ≠ 0) (hb : Below w.heap.size w w') : SplitR s w (.returned (.tuple #[.int .i64 0, .slice none 0 0, .int .i64 c])) w' := by
  subst h
  refine ⟨⟨.slice none 0 0, [], ?_, chs_nil _, ?_⟩, hb⟩
  · unfold splitV; rw [if_neg hc]
  · unfold splitL; rw [if_neg hc]
theorem SplitR.good {s : ByteArray} {r : Value} {L : List Ch} {w w' : World} (h : verE s = 0) (hs : splitR s = (0, L)) (hr : Chs w' r L) (hb : Below w.heap.size w w') : SplitR s w (.returned (.tuple #[.int .i64 (verN s), r, .int .i64 0])) w' := by
  have h1 : splitE s = 0 := by unfold splitE; rw [if_pos h, hs]
  refine ⟨⟨r, L, ?_, hr, ?_⟩, hb⟩
  · unfold splitV; rw [if_pos h1, h1]
  · unfold splitL; rw [if_pos h1, hs]
theorem splitE_ver {s : ByteArray} (h : verE s ≠ 0) : splitE s = verE s := if_neg h
theorem splitE_of {s : ByteArray} {c : Int} (h : verE s = 0) (hc : (splitR s).1 = c) : splitE s = c := by unfold splitE; rw [if_pos h, hc]
theorem ver_size {s : ByteArray} (h : verE s = 0) : 5 ≤ s.size := by
  unfold verE at h
  split at h
  · split at h
    · exact absurd h (by decide)
    · omega
  · exact absurd h (by decide)
theorem src_two {W : World} {f : Nat} {k : Int} {b : ByteArray} (h : W.heap[f]? = some (.cells #[.int .i64 k, .string b] 32 (0, 0))) : Src W (.slice (some ⟨f, 0, none⟩) 1 1) 1 [.int .i64 k, .string b] :=
  .inr ⟨⟨f, 0, none⟩, 1, rfl, fun j u hu => World.news_of_block (cs := #[.int .i64 k, .string b]) h j u hu⟩
theorem ownC_kept {T : Nat → Prop} {w w' : World} {B : Nat} {v : Value} {l : List Ch} (k : Kept T w w') (h : OwnC w B v l) (hT : ∀ k, B ≤ k → k < w.heap.size → ¬ T k) : OwnC w' B v l := by
  refine ⟨h.1, ?_⟩
  rcases h.2 with h2 | ⟨g, cap, cur, ev, hg, hh, r⟩
  · exact .inl h2
  · exact .inr ⟨g, cap, cur, ev, hg, k.at hh (hT g hg (lt_of_block hh)), r⟩
theorem ownC_below {w w' : World} {B : Nat} {v : Value} {l : List Ch} (k : Below w.heap.size w w') (h : OwnC w B v l) : OwnC w' B v l := ownC_kept (Kept.of_below (T := fun _ => False) k) h (fun _ _ _ h => h)

end Ck
end Go.Proofs.Ytpccenaieeggmaa
