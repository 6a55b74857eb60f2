/-
  NUMBERS IN A SLICE: lists of int that a call owns; and what package delta computes, in plain words. No condition.
-/
import Derived.Test.YtlpleikcgikpoaaPackRef
import Derived.Test.YtlpleikcgikpoaaPackBack
import Derived.Test.YtlpleikcgikpoaaSlices
import Derived.Outline
namespace Go.Proofs.Ytlpleikcgikpoaa
open Go.RowKit
namespace Dl
open Mem Pk

/-! ### numbers that a call owns -/
def cellsI (l : List Int) : List Value := l.map (Value.int .i64)
theorem cellsI_length (l : List Int) : (cellsI l).length = l.length := by unfold cellsI; simp
theorem cellsI_append (l m : List Int) : cellsI (l ++ m) = cellsI l ++ cellsI m := by unfold cellsI; simp
def OwnI (w : World) (base : Nat) (v : Value) (l : List Int) : Prop := w.ownsRow base 3 1 v l.length (cellsI l)
theorem ownI_nil (w : World) (base : Nat) : OwnI w base (.slice none 0 0) [] := World.ownsRow_nil w base _ 1
theorem ownI_snoc {w : World} {base : Nat} {v : Value} {acc : List Int} {m : Int} (h : w.ownsRow base 3 1 v (acc.length + 1) (cellsI acc ++ [.int .i64 m])) : OwnI w base v (acc ++ [m]) := by
  unfold OwnI
  rw [cellsI_append, List.length_append, List.length_singleton]
  exact h
theorem one_int (m : Int) : ∀ x ∈ [Value.int .i64 m], x.oneCell' = true := fun x hx => by simp at hx; subst hx; rfl
theorem infoI : (Try.prog.info? 3).map (fun i => (i.zero, i.size, i.bytes)) = some (some (.int .i64 0), 1, 8) := by kernel_rfl

/-- the numbers of a kind that an int holds. -/
def I64 (n : Int) : Prop := -9223372036854775808 ≤ n ∧ n ≤ 9223372036854775807
theorem i64_wrap (n : Int) : I64 (wrap64 n) := by
  unfold I64 wrap64
  omega
theorem i64_bounds {n : Int} (h : IntKind.i64.min ≤ n ∧ n ≤ IntKind.i64.max) : I64 n := h
theorem i64_zero : I64 0 := by unfold I64; omega

theorem OwnI.ints {w : World} {base : Nat} {v : Value} {l : List Int} (h : OwnI w base v l) (hb : ∀ n ∈ l, I64 n) : Opened.Ints .i64 w v l := by
  obtain ⟨h1, h2⟩ := h
  refine ⟨?_, fun n hn => hb n hn⟩
  rcases h2 with ⟨rfl, h0⟩ | ⟨g, cap, cur, rfl, hg, hh, hn, hm, hs, ht⟩
  · exact ⟨none, 0, by rw [h0], fun h => by omega⟩
  · refine ⟨_, cap, rfl, fun _ => ⟨g, 0, rfl, lt_of_block hh, fun j hj => ?_⟩⟩
    rw [cell_at hh]
    have e2 : (cellsI l)[j]? = some (.int .i64 (l.getD j 0)) := by unfold cellsI; simp [hj, List.getD]
    rw [← ht, List.getElem?_take_of_lt (by omega)] at e2
    rw [← e2]
    simp
theorem ints_below {k : IntKind} {w w' : World} {v : Value} {l : List Int} (h : Opened.Ints k w v l) (hb : Below w.heap.size w w') : Opened.Ints k w' v l := by
  obtain ⟨⟨a, cap, rfl, hc⟩, h2⟩ := h
  refine ⟨⟨a, cap, rfl, fun h0 => ?_⟩, h2⟩
  obtain ⟨b, off, e1, e2, e3⟩ := hc h0
  exact ⟨b, off, e1, Nat.lt_of_lt_of_le e2 hb.size, fun j hj => (hb.cell (p := ⟨b, off + j, none⟩) e2).trans (e3 j hj)⟩
theorem ints_nil (k : IntKind) (w : World) : Opened.Ints k w (.slice none 0 0) [] := ⟨⟨none, 0, rfl, fun h => by simp at h⟩, fun n hn => by simp at hn⟩

/-! ### what is computed -/
/-- how far each is from the one ahead. -/
def subs (last : Int) : List Int → List Int
  | [] => []
  | n :: l => wrap64 (n - last) :: subs n l
/-- the sums. -/
def sums (acc : Int) : List Int → List Int
  | [] => []
  | x :: d => wrap64 (acc + x) :: sums (wrap64 (acc + x)) d
def enc (d : List Int) : List UInt8 := d.flatMap fun x => putL (zigN x)
theorem drop_here (zs : List Int) (k : Nat) (h : k < zs.length) : zs.drop k = zs[k]?.getD 0 :: zs.drop (k + 1) := by
  rw [List.drop_eq_getElem_cons h, List.getElem?_eq_getElem h]
  rfl
theorem getD_mem (zs : List Int) (k : Nat) (h : k < zs.length) : zs[k]?.getD 0 ∈ zs := by rw [List.getElem?_eq_getElem h]; exact List.getElem_mem h

/-- the sums, so far. -/
structure SumsAt (d : List Int) (k : Nat) (acc : Int) (out : List Int) : Prop where
  eq : sums 0 d = out ++ sums acc (d.drop k)
  len : out.length = k
  bound : ∀ n ∈ out, I64 n
  acc : I64 acc
theorem SumsAt.start (d : List Int) : SumsAt d 0 0 [] := ⟨rfl, rfl, fun _ h => by simp at h, i64_zero⟩
theorem SumsAt.next {d : List Int} {k : Nat} {acc : Int} {out : List Int} (h : SumsAt d k acc out) (hk : k < d.length) : SumsAt d (k + 1) (wrap64 (acc + d[k]?.getD 0)) (out ++ [wrap64 (acc + d[k]?.getD 0)]) := by
  refine ⟨?_, by rw [List.length_append, h.len]; rfl, fun n hn => ?_, i64_wrap _⟩
  · rw [h.eq, drop_here d k hk, List.append_assoc]; rfl
  · rw [List.mem_append, List.mem_singleton] at hn
    rcases hn with hn | rfl
    · exact h.bound n hn
    · exact i64_wrap _
theorem SumsAt.whole {d : List Int} {acc : Int} {out : List Int} (h : SumsAt d d.length acc out) : sums 0 d = out := by
  rw [h.eq, List.drop_eq_nil_of_le (Nat.le_refl _)]
  exact List.append_nil _

end Dl
end Go.Proofs.Ytlpleikcgikpoaa
