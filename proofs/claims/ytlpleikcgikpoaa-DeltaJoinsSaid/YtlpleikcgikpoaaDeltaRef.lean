/-
  WALKS: the document's Sums, Deltas and Encode. Conditions: lists of at most 1000 numbers.
-/
import Derived.Test.YtlpleikcgikpoaaDeltaSame
import Derived.Deep.AppendLies
import Derived.Deep.RegionLaw
namespace Go.Proofs.Ytlpleikcgikpoaa
open Go.RowKit
namespace Dl
open Mem Pk

theorem u_sum {u acc c : Int} (h : wrap64 u = acc) : wrap64 (IntKind.u64.wrap (u + IntKind.u64.wrap c)) = wrap64 (acc + c) := by
  rw [IntKind.wrap_u64, IntKind.wrap_u64, ← h]
  unfold wrap64
  omega
theorem drew_owns {w : World} {base : Nat} {e : TypeId} {size : Nat} {v : Value} {n : Nat} {xs : List Value} (h : w.ownsRow base e size v n xs) : w.drew.ownsRow base e size v n xs := h
theorem grown_undrew {w w' : World} {r : Option Nat} (h : w.drew.grownBy w' r) : w.grownBy w' r := ⟨h.os, h.tape, h.output, h.size, h.block⟩
theorem drew_one (w : World) (v : Value) (t : TypeId) : ∀ (j : Nat) (u : Value), [v][j]? = some u → (w.alloc (.cells #[v] t)).drew.cell? (({ block := w.heap.size, off := 0 } : Addr).add j) = some u := cell_one_new w v t
theorem u_sub (a b : Int) : IntKind.i64.wrap (IntKind.u64.wrap (IntKind.u64.wrap a - IntKind.u64.wrap b)) = wrap64 (a - b) := by
  rw [IntWalk.i64_left, IntKind.wrap_u64, IntKind.wrap_u64, IntKind.wrap_u64]
  unfold wrap64
  omega

set_option maxRecDepth 100000 in
set_option maxHeartbeats 2000000 in
theorem rsums_any (v : Value) (d : List Int) (w : World) (hv : Opened.Ints .i64 w v d) (hl : d.length ≤ 100000) :
    Calls Try.prog 13 #[v] w fun e w' => (∃ r, e = .returned r ∧ Opened.Ints .i64 w' r (sums 0 d)) ∧ Below w.heap.size w w' := by
  obtain ⟨i0, hi, hz0, hz1, hz2⟩ := info_parts infoI
  obtain ⟨⟨a, cap, rfl, hcells⟩, hbound⟩ := hv
  have HC := Lib.hid hcells
  have HB := Lib.hid hbound
  clear hcells hbound
  go_enter Try.func13, Try.ntmps13
  go_wp2_with fail
  go_loopw [3, 4, 5] (fun r x i wr => ∃ (k : Nat) (acc : Int) (u : Int) (out : List Int), x = .int .u64 u ∧ Hid (wrap64 u = acc) ∧ i = .int .i64 k ∧ k ≤ d.length ∧ Hid (SumsAt d k acc out) ∧ Hid (OwnI wr w.heap.size r out) ∧ Below w.heap.size w wr) (fun _ _ i _ => d.length - (intOf i).toNat)
  case atStart => exact ⟨0, 0, 0, [], rfl, Lib.hid (by unfold wrap64; omega), rfl, by omega, Lib.hid (SumsAt.start d), Lib.hid (ownI_nil _ _), Below.refl _ _⟩
  case round =>
    obtain ⟨k, acc, u, out, rfl, hu, rfl, hk, hS, hO, hb⟩ := hrel
    by_cases hlt : k < d.length
    · obtain ⟨cb, off, rfl, hcb, hcell⟩ := HC.out (by omega)
      have hck : wr.cell? ⟨cb, off + k, none⟩ = some (.int .i64 (d.getD k 0)) := (hb.cell (p := ⟨cb, off + k, none⟩) hcb).trans (hcell k hlt)
      have hlt' : (k : Int) < d.length := by omega
      have hgd : d.getD k 0 = d[k]?.getD 0 := rfl
      rw [hgd] at hck
      have hS2 := Lib.hid (hS.out.next hlt)
      have hlen := hS.out.len
      clear hcell hgd hS hlt
      generalize d[k]?.getD 0 = c at *
      have hO' := hO.out
      unfold OwnI at hO'
      have hsz := hb.size
      have HU := Lib.hid (u_sum (c := c) hu.out)
      go_wp2_with (at_builtin; refine wpList_append_own _ rfl _ _ 22 rfl w.heap.size 3 i0 (.int .i64 0) 1 8 Try.underlying22 hi hz0 hz1 hz2 rfl (by decide) _ _ _ rfl (hO'.alloc _) ⟨wr.heap.size, 0, none⟩ 1 1 [.int .i64 (wrap64 (IntKind.u64.wrap (u + IntKind.u64.wrap c)))] rfl rfl (cell_one_new _ _ _) (one_int _) (by unfold maxLen; omega) (by omega) (by simp; omega) ?_; intro v' w3 hown hgrow _)
      have hO2 : OwnI w3 w.heap.size v' (out ++ [wrap64 (acc + c)]) := by rw [← HU.out]; exact ownI_snoc hown
      have hB := hb.grownI hgrow hO'
      clear hown hgrow hO'
      go_wp2_with fail
      go_roundw
      case rel => exact ⟨k + 1, _, _, _, rfl, HU, by go_num, by omega, hS2, Lib.hid hO2, hB⟩
      case measure => simp [intOf]; omega
    · obtain rfl : k = d.length := by omega
      have hge : decide (d.length < d.length) = false := decide_eq_false hlt
      have hr := hO.out.ints hS.out.bound
      rw [← hS.out.whole] at hr
      clear hlt hO hS HC HB
      go_wp2_with fail
      go_ret
      exact ⟨⟨_, rfl, hr⟩, hb⟩

/-- the distances, so far. -/
structure SubsAt (l : List Int) (k : Nat) (last : Int) (out : List Int) : Prop where
  eq : subs 0 l = out ++ subs last (l.drop k)
  len : out.length = k
  bound : ∀ n ∈ out, I64 n
theorem SubsAt.start (l : List Int) : SubsAt l 0 0 [] := ⟨rfl, rfl, fun _ h => by simp at h⟩
theorem SubsAt.next {l : List Int} {k : Nat} {last : Int} {out : List Int} (h : SubsAt l k last out) (hk : k < l.length) : SubsAt l (k + 1) (l[k]?.getD 0) (out ++ [wrap64 (l[k]?.getD 0 - last)]) := by
  refine ⟨?_, by rw [List.length_append, h.len]; rfl, fun n hn => ?_⟩
  · rw [h.eq, drop_here l k hk, List.append_assoc]; rfl
  · rw [List.mem_append, List.mem_singleton] at hn
    rcases hn with hn | rfl
    · exact h.bound n hn
    · exact i64_wrap _
theorem SubsAt.whole {l : List Int} {last : Int} {out : List Int} (h : SubsAt l l.length last out) : subs 0 l = out := by
  rw [h.eq, List.drop_eq_nil_of_le (Nat.le_refl _)]
  exact List.append_nil _

set_option maxRecDepth 100000 in
set_option maxHeartbeats 4000000 in
theorem rdeltas_any (v : Value) (d : List Int) (w : World) (hv : Opened.Ints .i64 w v d) (hl : d.length ≤ 1000) :
    Calls Try.prog 11 #[v] w fun e w' => (∃ r, e = .returned r ∧ Opened.Ints .i64 w' r (subs 0 d)) ∧ Below w.heap.size w w' := by
  obtain ⟨i0, hi, hz0, hz1, hz2⟩ := info_parts infoI
  obtain ⟨⟨a, cap, rfl, hcells⟩, hbound⟩ := hv
  have HC := Lib.hid hcells
  have HB := Lib.hid hbound
  clear hcells hbound
  go_enter Try.func11, Try.ntmps11
  go_wp2_with fail
  go_loopw [3, 4] (fun r i wr => ∃ (k : Nat) (last : Int) (out : List Int), i = .int .i64 k ∧ k ≤ d.length ∧ Hid (last = if k = 0 then 0 else d[k - 1]?.getD 0) ∧ Hid (SubsAt d k last out) ∧ Hid (OwnI wr w.heap.size r out) ∧ Below w.heap.size w wr) (fun _ i _ => d.length - (intOf i).toNat)
  case atStart => exact ⟨0, 0, [], rfl, by omega, Lib.hid rfl, Lib.hid (SubsAt.start d), Lib.hid (ownI_nil _ _), Below.refl _ _⟩
  case round =>
    obtain ⟨k, last, out, rfl, hk, hla, hS, hO, hb⟩ := hrel
    by_cases hlt : k < d.length
    · obtain ⟨cb, off, rfl, hcb, hcell⟩ := HC.out (by omega)
      have hck : wr.cell? ⟨cb, off + k, none⟩ = some (.int .i64 (d[k]?.getD 0)) := (hb.cell (p := ⟨cb, off + k, none⟩) hcb).trans (hcell k hlt)
      have hlt' : (k : Int) < d.length := by omega
      have hS2 := Lib.hid (hS.out.next hlt)
      have hlen := hS.out.len
      have hO' := hO.out
      unfold OwnI at hO'
      have hsz := hb.size
      have hmem := i64_bounds (HB.out _ (getD_mem d k hlt))
      by_cases hk0 : k = 0
      · have e0 := hla.out
        rw [if_pos hk0] at e0
        have h00 : 0 < d.length := by omega
        rw [hk0, Nat.add_zero] at hck
        have hx : Hid (wrap64 (d[k]?.getD 0 - last) = d[0]?.getD 0) := Lib.hid (by rw [e0, Int.sub_zero, IntWalk.wrap64_in _ hmem, hk0])
        have hkz : ((k : Int) == 0) = true := by rw [beq_iff_eq]; omega
        rw [hk0] at hlen
        replace hlen := Lib.hid hlen
        replace hk0 := Lib.hid hk0
        clear hcell hS hmem e0 hla
        generalize d[0]?.getD 0 = c at *
        go_wp2_with (at_builtin; refine wpList_append_own _ rfl _ _ 22 rfl w.heap.size 3 i0 (.int .i64 0) 1 8 Try.underlying22 hi hz0 hz1 hz2 rfl (by decide) _ _ _ rfl (hO'.alloc _) ⟨wr.heap.size, 0, none⟩ 1 1 [.int .i64 c] rfl rfl (cell_one_new _ _ _) (one_int _) (by have := hlen.out; unfold maxLen; omega) (by have := hlen.out; omega) (by simp; omega) ?_; intro v' w3 hown hgrow _)
        have hO2 : OwnI w3 w.heap.size v' (out ++ [wrap64 (d[k]?.getD 0 - last)]) := by rw [hx.out]; exact ownI_snoc hown
        have hB := hb.grownI hgrow hO'
        clear hown hgrow hO'
        go_wp2_with fail
        go_roundw
        case rel => exact ⟨k + 1, _, _, by go_num, by omega, Lib.hid (by rw [if_neg (by omega)]; rfl), hS2, Lib.hid hO2, hB⟩
        case measure => simp [intOf]; omega
      · have e0 := hla.out
        rw [if_neg hk0] at e0
        obtain ⟨j, hj⟩ : ∃ j, k = j + 1 := ⟨k - 1, by omega⟩
        have hcp : wr.cell? ⟨cb, off + j, none⟩ = some (.int .i64 (d[j]?.getD 0)) := (hb.cell (p := ⟨cb, off + j, none⟩) hcb).trans (hcell j (by omega))
        have e1 : last = d[j]?.getD 0 := by rw [e0, hj]; rfl
        rw [← e1] at hcp
        have hkz : ((k : Int) == 0) = false := by rw [beq_eq_false_iff_ne]; omega
        have hw : IntKind.i64.wrap ((k : Int) - 1) = (j : Int) := by rw [IntWalk.i64_left, show (k : Int) - 1 = (j : Int) from by omega]; exact IntWalk.wrap64_in _ ⟨by omega, by omega⟩
        have hlt2 : (j : Int) < d.length := by omega
        replace hj := Lib.hid hj
        clear e1 hk0 hcell hS hmem e0 hla
        obtain ⟨c, hc⟩ : ∃ c, d[k]?.getD 0 = c := ⟨_, rfl⟩
        rw [hc] at hck hS2
        replace hc := Lib.hid hc
        have hU := Lib.hid (u_sub c last)
        go_wp2_with fail
        go_region_law ((refine step_append_lies _ (by rfl) _ _ 22 (by rfl) w.heap.size 3 i0 (.int .i64 0) 1 8 Try.underlying22 hi hz0 hz1 hz2 rfl (by decide) _ _ _ (by rfl) (drew_owns (hO'.alloc _)) ⟨wr.heap.size, 0, none⟩ 1 1 [.int .i64 (IntKind.i64.wrap (IntKind.u64.wrap (IntKind.u64.wrap c - IntKind.u64.wrap last)))] (by rfl) rfl (drew_one _ _ _) (one_int _) (by decide) (by unfold maxLen; omega) (by omega) (by simp; omega) _ rfl ?_; intro g cap3 w3 hown hgrow _ _))
        all_goals
          have hO2 := ownI_snoc hown
          rw [hU.out, hlen] at hO2
          have hB := hb.grownI (grown_undrew hgrow) hO'
          clear hown hgrow hO'
          go_wp2_with fail
          go_roundw
          case rel => exact ⟨k + 1, _, _, by go_num, by omega, Lib.hid (by rw [if_neg (by omega)]; exact hc.out.symm), hS2, Lib.hid hO2, hB⟩
          case measure => simp [intOf]; omega
    · obtain rfl : k = d.length := by omega
      have hge : decide (d.length < d.length) = false := decide_eq_false hlt
      have hr := hO.out.ints hS.out.bound
      rw [← hS.out.whole] at hr
      clear hlt hO hS HC HB hla
      go_wp2_with fail
      go_ret
      exact ⟨⟨_, rfl, hr⟩, hb⟩

end Dl
end Go.Proofs.Ytlpleikcgikpoaa
