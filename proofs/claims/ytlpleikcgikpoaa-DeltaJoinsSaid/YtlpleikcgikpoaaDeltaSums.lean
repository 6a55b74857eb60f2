/-
  WALKS: package delta's Sums and Rising, the document's, and whether two lists are the same. Conditions: lists of at most 1000 numbers.
-/
import Derived.Test.YtlpleikcgikpoaaDeltaPlain
namespace Go.Proofs.Ytlpleikcgikpoaa
open Go.RowKit
namespace Dl
open Mem Pk

theorem _root_.Go.RowKit.Below.grownI {w wr w3 : World} {v : Value} {n : Nat} {x : Obj} {xs : List Value} (hb : Below w.heap.size w wr) (hg : (wr.alloc x).grownBy w3 v.ownBlock) (hO : wr.ownsRow w.heap.size 3 1 v n xs) : Below w.heap.size w w3 :=
  (hb.alloc hb.size x).grown hg (by have := hb.size; simp; omega) (fun k e => (hO.lt k e).1)

set_option maxRecDepth 100000 in
set_option maxHeartbeats 2000000 in
theorem sums_any (v : Value) (d : List Int) (w : World) (hv : Opened.Ints .i64 w v d) (hl : d.length ≤ 100000) :
    Calls Try.prog 12 #[v] w fun e w' => (∃ r, e = .returned r ∧ Opened.Ints .i64 w' r (sums 0 d)) ∧ Below w.heap.size w w' := by
  obtain ⟨i0, hi, hz0, hz1, hz2⟩ := info_parts infoI
  obtain ⟨⟨a, cap, rfl, hcells⟩, hbound⟩ := hv
  have HC := Lib.hid hcells
  have HB := Lib.hid hbound
  clear hcells hbound
  go_enter Try.func12, Try.ntmps12
  go_wp2_with fail
  go_loopw [3, 4, 9] (fun r x i wr => ∃ (k : Nat) (acc : Int) (out : List Int), x = .int .i64 acc ∧ i = .int .i64 k ∧ k ≤ d.length ∧ Hid (SumsAt d k acc out) ∧ Hid (OwnI wr w.heap.size r out) ∧ Below w.heap.size w wr) (fun _ _ i _ => d.length - (intOf i).toNat)
  case atStart => exact ⟨0, 0, [], rfl, rfl, by omega, Lib.hid (SumsAt.start d), Lib.hid (ownI_nil _ _), Below.refl _ _⟩
  case round =>
    obtain ⟨k, acc, out, rfl, rfl, hk, hS, hO, hb⟩ := hrel
    by_cases hlt : k < d.length
    · obtain ⟨cb, off, rfl, hcb, hcell⟩ := HC.out (by omega)
      have hck : wr.cell? ⟨cb, off + k, none⟩ = some (.int .i64 (d.getD k 0)) := (hb.cell (p := ⟨cb, off + k, none⟩) hcb).trans (hcell k hlt)
      have hlt' : (k : Int) < d.length := by omega
      have hgd : d.getD k 0 = d[k]?.getD 0 := rfl
      rw [hgd] at hck
      have hS2 := Lib.hid (hS.out.next hlt)
      have hlen := hS.out.len
      clear hcell hgd hS hlt
      generalize d[k]?.getD 0 = c at *
      have hO' := hO.out
      unfold OwnI at hO'
      have hsz := hb.size
      go_wp2_with (at_builtin; refine wpList_append_own _ rfl _ _ 22 rfl w.heap.size 3 i0 (.int .i64 0) 1 8 Try.underlying22 hi hz0 hz1 hz2 rfl (by decide) _ _ _ rfl (hO'.alloc _) ⟨wr.heap.size, 0, none⟩ 1 1 [.int .i64 (wrap64 (acc + c))] rfl rfl (cell_one_new _ _ _) (one_int _) (by unfold maxLen; omega) (by omega) (by simp; omega) ?_; intro v' w3 hown hgrow _)
      have hO2 : OwnI w3 w.heap.size v' (out ++ [wrap64 (acc + c)]) := ownI_snoc hown
      have hB := hb.grownI hgrow hO'
      clear hown hgrow hO'
      go_wp2_with fail
      go_roundw
      case rel => exact ⟨k + 1, _, _, rfl, by go_num, by omega, hS2, Lib.hid hO2, hB⟩
      case measure => simp [intOf]; omega
    · obtain rfl : k = d.length := by omega
      have hge : decide (d.length < d.length) = false := decide_eq_false hlt
      have hr := hO.out.ints hS.out.bound
      rw [← hS.out.whole] at hr
      clear hlt hO hS HC HB
      go_wp2_with fail
      go_ret
      exact ⟨⟨_, rfl, hr⟩, hb⟩

end Dl
end Go.Proofs.Ytlpleikcgikpoaa
