/-
  CHUNKS IN A SLICE: lists of chunks that a call owns or that came in; and what package chunk computes, in plain words. No condition.
-/
import Derived.Test.YtpccenaieeggmaaPackRefT
import Derived.Test.YtpccenaieeggmaaPackRef
import Derived.Test.YtpccenaieeggmaaPackBack
import Derived.Test.YtpccenaieeggmaaCrcWalks
import Derived.Test.YtpccenaieeggmaaBuild
import Derived.Test.YtpccenaieeggmaaSrc2
import Derived.Test.YtpccenaieeggmaaHeld
import Derived.Deep.SlicePairs
import Derived.OpenShut
import Derived.ProofKit
import Derived.Below
import Derived.Outline
namespace Go.Proofs.Ytpccenaieeggmaa
open Go.RowKit Go.ChangeShapes Go.WideShapes Go.ChangeAt
namespace Ck
open Mem Pk

/-- a chunk: its kind, its body. -/
abbrev Ch := Int × ByteArray
def I64 (n : Int) : Prop := -9223372036854775808 ≤ n ∧ n ≤ 9223372036854775807
/-- a chunk that may be: its kind is an int, its body has an end. -/
def Ok (c : Ch) : Prop := I64 c.1 ∧ c.2.size ≤ maxLen
def chAt (l : List Ch) (j : Nat) : Ch := l[j]?.getD (0, ByteArray.empty)
def cellsC : List Ch → List Value
  | [] => []
  | c :: l => .int .i64 c.1 :: .string c.2 :: cellsC l
theorem cellsC_length (l : List Ch) : (cellsC l).length = l.length * 2 := by
  induction l with
  | nil => rfl
  | cons c l ih => rw [cellsC, List.length_cons, List.length_cons, ih, List.length_cons]; omega
theorem cellsC_append (l m : List Ch) : cellsC (l ++ m) = cellsC l ++ cellsC m := by
  induction l with
  | nil => rfl
  | cons c l ih => rw [List.cons_append, cellsC, ih, cellsC]; rfl
theorem cellsC_at (l : List Ch) : ∀ j, j < l.length → (cellsC l)[j * 2]? = some (.int .i64 (chAt l j).1) ∧ (cellsC l)[j * 2 + 1]? = some (.string (chAt l j).2) := by
  induction l with
  | nil => intro j h; simp at h
  | cons c l ih =>
    intro j h
    cases j with
    | zero => exact ⟨rfl, rfl⟩
    | succ j =>
      have := ih j (by simpa using h)
      have e1 : (cellsC (c :: l))[(j + 1) * 2]? = (cellsC l)[j * 2]? := by
        rw [cellsC, show (j + 1) * 2 = j * 2 + 1 + 1 by omega]
        rfl
      have e2 : (cellsC (c :: l))[(j + 1) * 2 + 1]? = (cellsC l)[j * 2 + 1]? := by
        rw [cellsC, show (j + 1) * 2 + 1 = j * 2 + 1 + 1 + 1 by omega]
        rfl
      have e3 : chAt (c :: l) (j + 1) = chAt l j := rfl
      rw [e1, e2, e3]
      exact this
theorem ones_ch (L : List Ch) : ∀ u ∈ cellsC L, u.oneCell' = true := by
  induction L with
  | nil => intro u hu; simp [cellsC] at hu
  | cons c l ih =>
    intro u hu
    rw [cellsC, List.mem_cons, List.mem_cons] at hu
    rcases hu with rfl | rfl | hu
    · rfl
    · rfl
    · exact ih u hu
theorem chAt_mem {l : List Ch} {j : Nat} (h : j < l.length) : chAt l j ∈ l := by
  unfold chAt
  rw [List.getElem?_eq_getElem h]
  exact List.getElem_mem h
theorem take_next (l : List Ch) (k : Nat) (h : k < l.length) : l.take (k + 1) = l.take k ++ [chAt l k] := by
  rw [List.take_succ_eq_append_getElem h]
  unfold chAt
  rw [List.getElem?_eq_getElem h]
  rfl
theorem drop_here (l : List Ch) (k : Nat) (h : k < l.length) : l.drop k = chAt l k :: l.drop (k + 1) := by
  rw [List.drop_eq_getElem_cons h]
  unfold chAt
  rw [List.getElem?_eq_getElem h]
  rfl

def OwnC (w : World) (base : Nat) (v : Value) (l : List Ch) : Prop := w.ownsRow base 32 2 v l.length (cellsC l)
theorem ownC_nil (w : World) (base : Nat) : OwnC w base (.slice none 0 0) [] := World.ownsRow_nil w base _ 2
theorem ownC_snoc {w : World} {base : Nat} {v : Value} {acc : List Ch} {c : Ch} (h : w.ownsRow base 32 2 v (acc.length + 1) (cellsC acc ++ [.int .i64 c.1, .string c.2])) : OwnC w base v (acc ++ [c]) := by
  unfold OwnC
  rw [cellsC_append, List.length_append, List.length_singleton]
  exact h
theorem one_ch (k : Int) (b : ByteArray) : ∀ x ∈ [Value.int .i64 k, Value.string b], x.oneCell' = true := ones_ch [(k, b)]
theorem infoC : (Try.prog.info? 32).map (fun i => (i.zero, i.size, i.bytes)) = some (some (.agg #[.int .i64 0, .string ByteArray.empty]), 2, 24) := by kernel_rfl

/-- the slice's elements are the chunks l. -/
structure Chs (W : World) (v : Value) (l : List Ch) : Prop where
  val : ∃ (a : Option Addr) (cap : Nat), v = .slice a l.length cap ∧ l.length ≤ cap ∧ (a = none → cap = 0) ∧ (0 < l.length → ∃ b off, a = some ⟨b, off, none⟩ ∧ b < W.heap.size ∧ ∀ j, j < l.length → W.cell? ⟨b, off + j * 2, none⟩ = some (.int .i64 (chAt l j).1) ∧ W.cell? ⟨b, off + j * 2 + 1, none⟩ = some (.string (chAt l j).2))
  bound : ∀ c ∈ l, Ok c
theorem chs_nil (w : World) : Chs w (.slice none 0 0) [] := ⟨⟨none, 0, rfl, Nat.le_refl _, fun _ => rfl, fun h => by simp at h⟩, fun n hn => by simp at hn⟩
theorem chs_below {w w' : World} {v : Value} {l : List Ch} (h : Chs w v l) (hb : Below w.heap.size w w') : Chs w' v l := by
  obtain ⟨⟨a, cap, rfl, hr, hn, hc⟩, h2⟩ := h
  refine ⟨⟨a, cap, rfl, hr, hn, fun h0 => ?_⟩, h2⟩
  obtain ⟨b, off, e1, e2, e3⟩ := hc h0
  exact ⟨b, off, e1, Nat.lt_of_lt_of_le e2 hb.size, fun j hj => ⟨(hb.cell (p := ⟨b, off + j * 2, none⟩) e2).trans (e3 j hj).1, (hb.cell (p := ⟨b, off + j * 2 + 1, none⟩) e2).trans (e3 j hj).2⟩⟩
theorem chs_at {W : World} {b o n c : Nat} {L : List Ch} (h : Chs W (.slice (some ⟨b, o, none⟩) n c) L) {j : Nat} (hj : j < L.length) : b < W.heap.size ∧ W.cell? ⟨b, o + j * 2, none⟩ = some (.int .i64 (chAt L j).1) ∧ W.cell? ⟨b, o + j * 2 + 1, none⟩ = some (.string (chAt L j).2) := by
  obtain ⟨⟨a', c', e1, -, -, h1⟩, -⟩ := h
  cases e1
  obtain ⟨b', o', e2, e3, h2⟩ := h1 (by omega)
  cases e2
  exact ⟨e3, h2 j hj⟩
theorem OwnC.chs {w : World} {base : Nat} {v : Value} {l : List Ch} (h : OwnC w base v l) (hb : ∀ c ∈ l, Ok c) : Chs w v l := by
  obtain ⟨h1, h2⟩ := h
  refine ⟨?_, hb⟩
  rcases h2 with ⟨rfl, h0⟩ | ⟨g, cap, cur, rfl, hg, hh, hn, hm, hs, ht⟩
  · exact ⟨none, 0, by rw [h0], by omega, fun _ => rfl, fun h => by omega⟩
  · refine ⟨_, cap, rfl, hn, (fun e => by cases e), fun _ => ⟨g, 0, rfl, lt_of_block hh, fun j hj => ?_⟩⟩
    obtain ⟨e1, e2⟩ := cellsC_at l j hj
    rw [← ht, List.getElem?_take_of_lt (by omega)] at e1 e2
    rw [cell_at hh, cell_at hh, ← e1, ← e2]
    simp

theorem chs_of {H : Type} {enc : TypeId × Value → H} {W : World} {b : Nat} {v : Value} {d : DataW H} {p : List MemPlace} (h : DataW.Trod enc Try.prog W 0 (fun _ => true) true 22 v d p) (hv : ∃ a len cap, v = .slice a len cap) (_o : Value.okWide Try.prog W .any b 22 v) : ∃ l, Chs W v l := by
  obtain ⟨a, len, cap, rfl⟩ := hv
  obtain ⟨fuel, hf⟩ := h
  rcases Go.Deep.open_slice_pairs Try.underlying22 Try.underlying32 (by kernel_rfl) rfl rfl (by kernel_rfl) (by kernel_rfl) hf with ⟨hcs, -⟩ | ⟨a', len', cap', m, n, V0, V1, D0, D1, P0, P1, hcs, hb, hl, hm, hmm, hx, hcell⟩
  · simp [Value.cells] at hcs
    obtain ⟨rfl, rfl, rfl⟩ := hcs
    exact ⟨[], chs_nil W⟩
  · simp [Value.cells] at hcs
    obtain ⟨rfl, rfl, rfl⟩ := hcs
    simp only [if_true] at hmm
    have hV : ∀ i, i < len → ∃ c : Ch, V0 i = .int .i64 c.1 ∧ V1 i = .string c.2 ∧ Ok c := fun i hi => by
      obtain ⟨-, -, h1, h2⟩ := hcell i (by omega)
      obtain ⟨z, e1, -, e2⟩ := DataW.trod_int Try.underlying3 h1
      obtain ⟨s, e3, -, e4⟩ := DataW.trod_string Try.underlying9 h2
      have e5 : IntKind.i64.min ≤ z ∧ z ≤ IntKind.i64.max := by simpa [Lit.wf] using e2
      exact ⟨(z, s), by simpa using e1, by simpa using e3, e5, e4⟩
    obtain ⟨Z, hZ⟩ := Go.Deep.choose_lt (α := Ch) hV
    have hlen : ((List.range len).map Z).length = len := by simp
    have hat : ∀ j, j < len → chAt ((List.range len).map Z) j = Z j := fun j hj => by unfold chAt; simp [hj]
    refine ⟨(List.range len).map Z, ⟨some a', cap, by rw [hlen], by rw [hlen]; exact hl, (fun e => by cases e), fun hp => ?_⟩, fun c hc => ?_⟩
    · rw [hlen] at hp ⊢
      have h0 := (hcell 0 (by omega)).1
      obtain ⟨b', off, rfl⟩ : ∃ b off, a' = ⟨b, off, none⟩ := by
        obtain ⟨b, off, spot⟩ := a'
        have hspot : spot = none := by simpa [Addr.add] using World.cell?_spot h0
        subst hspot
        exact ⟨b, off, rfl⟩
      refine ⟨b', off, rfl, World.block_lt_of_cell? _ _ (by simpa [Addr.add] using h0), fun j hj => ?_⟩
      obtain ⟨h1, h2, -, -⟩ := hcell j (by omega)
      have ea : ∀ i, (⟨b', off, none⟩ : Addr).add i = ⟨b', off + i, none⟩ := fun i => by unfold Addr.add; split <;> simp_all
      rw [ea, (hZ j hj).1] at h1
      rw [ea, (hZ j hj).2.1] at h2
      rw [hat j hj]
      exact ⟨h1, h2⟩
    · simp only [List.mem_map, List.mem_range] at hc
      obtain ⟨i, hi, rfl⟩ := hc
      exact (hZ i hi).2.2

/-! ### what is computed -/
/-- the byte of a kind. -/
def b8 (k : Int) : UInt8 := UInt8.ofNat (k % 256).toNat
/-- bytes, and behind them their sum. -/
def sealL (l : List UInt8) : List UInt8 := l ++ (fixL (Crc.more 0 l)).take 4
/-- a chunk's bytes. -/
def oneL (c : Ch) : List UInt8 := sealL ([b8 c.1] ++ putL c.2.size ++ c.2.data.toList)
def findS : List Ch → Int → Option ByteArray
  | [], _ => none
  | c :: l, k => if c.1 = k then some c.2 else findS l k
def joinGo : Int → List Ch → Int
  | _, [] => 0
  | last, c :: l => if c.1 ≤ last ∨ 255 < c.1 then 12 else if 1048576 < c.2.size then 10 else joinGo c.1 l
def joinE (v : Int) (l : List Ch) : Int := if v < 0 ∨ 255 < v then 1 else joinGo 0 l
def joinL (v : Int) (l : List Ch) : List UInt8 := [66, 78, 83, 73] ++ [b8 v] ++ l.flatMap oneL
def joinS (v : Int) (l : List Ch) : ByteArray := if joinE v l = 0 then str (joinL v l) else ByteArray.empty
def verE (s : ByteArray) : Int := if s.data.toList.take 4 = [66, 78, 83, 73] then (if s.size < 5 then 2 else 0) else 7
def verN (s : ByteArray) : Int := if verE s = 0 then ((s.data.toList[4]?.getD 0).toNat : Int) else 0

end Ck
end Go.Proofs.Ytpccenaieeggmaa
