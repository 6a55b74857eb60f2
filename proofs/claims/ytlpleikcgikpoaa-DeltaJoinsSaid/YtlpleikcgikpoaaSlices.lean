/-
  What a slice of numbers that came in is: its cells, by a list. No condition.
-/
import Derived.Test.YtlpleikcgikpoaaRows
import Derived.Test.YtlpleikcgikpoaaOpen
import Derived.ProofKit
import Derived.OpenShut
import Derived.Below
namespace Go.Proofs.Ytlpleikcgikpoaa
open Go.RowKit Go.ChangeShapes Go.WideShapes Go.ChangeAt
namespace Opened

/-- the slice's elements are zs. -/
structure Ints (k : IntKind) (W : World) (v : Value) (zs : List Int) : Prop where
  val : ∃ (a : Option Addr) (cap : Nat), v = .slice a zs.length cap ∧ (0 < zs.length → ∃ b off, a = some ⟨b, off, none⟩ ∧ b < W.heap.size ∧ ∀ j, j < zs.length → W.cell? ⟨b, off + j, none⟩ = some (.int k (zs.getD j 0)))
  bound : ∀ n ∈ zs, k.min ≤ n ∧ n ≤ k.max

theorem wf_bounds {k : IntKind} {n : Int} (h : (Lit.int k n).wf = true) : k.min ≤ n ∧ n ≤ k.max := by
  simp only [Lit.wf] at h
  simpa using h

theorem ints_of {H : Type} {enc : TypeId × Value → H} {P : Program} {W : World} {t e : TypeId} {k : IntKind} {r : Reach} {b : Nat} {v : Value} {d : DataW H} {p : List MemPlace} (ht : P.underlying t = some (.slice e)) (he : P.underlying e = some (.int k)) (hc : P.cellsOf e = 1)
    (o : Value.okWide P W r b t v) (h : DataW.Trod enc P W 0 (fun _ => true) true t v d p) : ∃ zs, Ints k W v zs := by
  obtain ⟨a, len, cap, rfl⟩ := ok_slice ht o
  obtain ⟨fuel, hf⟩ := h
  rcases open_ints ht he hc hf with ⟨hcs, hx⟩ | ⟨a', len', cap', zs, hcs, _, hl, hm, hz, hx, hcell, hwz⟩
  · simp [Value.cells] at hcs
    obtain ⟨rfl, rfl, rfl⟩ := hcs
    exact ⟨[], ⟨none, 0, rfl, fun h => by simp at h⟩, fun n hn => by simp at hn⟩
  · simp [Value.cells] at hcs
    obtain ⟨rfl, rfl, rfl⟩ := hcs
    simp only [if_true] at hz
    have hle : (zs.take len).length = len := by rw [List.length_take]; omega
    refine ⟨zs.take len, ⟨some a', cap, by rw [hle], fun hp => ?_⟩, fun n hn => wf_bounds (hwz n (List.mem_of_mem_take hn))⟩
    rw [hle] at hp ⊢
    obtain ⟨b', off, rfl, hc'⟩ := ints_at hcell (by omega)
    refine ⟨b', off, rfl, World.block_lt_of_cell? _ _ (hc' 0 (by omega)), fun j hj => ?_⟩
    rw [hc' j (by omega)]
    congr 2
    simp [List.getD, List.getElem?_take_of_lt hj]

end Opened
end Go.Proofs.Ytlpleikcgikpoaa
