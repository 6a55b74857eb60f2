/-
  WALKS: package delta's iterator 'deltas': what it hands on. Conditions: none but the list's.
-/
import Derived.RangeFuncBox
import Derived.RangeFuncLeaves
import Derived.Shelf.Abstract
import Derived.OwnWalkIn
import Derived.TacticsInMore
import Derived.LoopNIn
import Derived.LoopIn
import Derived.Test.YtlpleikcgikpoaaDeltaEnc
namespace Go.Proofs.Ytlpleikcgikpoaa
open Go.RowKit Go.Shelf
attribute [local go_sem] Oper.semAt_some
namespace Dl
open Mem Pk

theorem subs_get (l : List Int) : ∀ (a : Int) (k : Nat), k < l.length → (subs a l)[k]?.getD 0 = wrap64 (l[k]?.getD 0 - (if k = 0 then a else l[k - 1]?.getD 0)) := by
  induction l with
  | nil => intro a k h; simp at h
  | cons n l ih =>
    intro a k h
    cases k with
    | zero => rfl
    | succ k =>
      have e1 : (subs a (n :: l))[k + 1]?.getD 0 = (subs n l)[k]?.getD 0 := rfl
      have e2 : (n :: l)[k + 1]?.getD 0 = l[k]?.getD 0 := rfl
      rw [e1, e2, ih n k (by simpa using h)]
      cases k with
      | zero => simp
      | succ j => simp
theorem kept_cell {T : Nat → Prop} {w w' : World} {p : Addr} {v : Value} (h : Kept T w w') (hb : p.block < w.heap.size) (hT : ¬ T p.block) (hc : w.cell? p = some v) : w'.cell? p = some v :=
  (World.cell?_of_block (w := w) (h.block p.block hb hT)).trans hc

/-- the slice's elements, of blocks that T does not touch. -/
def Row (T : Nat → Prop) (w : World) (v : Value) (q : List Int) : Prop :=
  ∃ (a : Option Addr) (cap : Nat), v = .slice a q.length cap ∧ (0 < q.length → ∃ b off, a = some ⟨b, off, none⟩ ∧ b < w.heap.size ∧ ¬ T b ∧ ∀ j, j < q.length → w.cell? ⟨b, off + j, none⟩ = some (.int .i64 (q[j]?.getD 0)))
theorem Row.kept {T : Nat → Prop} {w w' : World} {v : Value} {q : List Int} (h : Row T w v q) (k : Kept T w w') : Row T w' v q := by
  obtain ⟨a, cap, e, hc⟩ := h
  refine ⟨a, cap, e, fun h0 => ?_⟩
  obtain ⟨b, off, e1, e2, e3, e4⟩ := hc h0
  exact ⟨b, off, e1, Nat.lt_of_lt_of_le e2 k.size, e3, fun j hj => kept_cell k e2 e3 (e4 j hj)⟩
theorem row_of {T : Nat → Prop} {w w' : World} {v : Value} {q : List Int} (h : Opened.Ints .i64 w v q) (hb : Below w.heap.size w w') (hT : ∀ k, k < w.heap.size → ¬ T k) : Row T w' v q := by
  obtain ⟨a, cap, e, hc⟩ := row_cell h hb
  refine ⟨a, cap, e, fun h0 => ?_⟩
  obtain ⟨b, off, e1, e2, e3⟩ := hc h0
  exact ⟨b, off, e1, Nat.lt_of_lt_of_le e2 hb.size, hT b e2, e3⟩

set_option maxRecDepth 100000 in
set_option maxHeartbeats 4000000 in
theorem deltas1_in (F : Fence) (n : Nat) (hf : F.fn 32) (hro : F.round = none) (hn : 1 ≤ n) (l Bs : Nat) (v : Value) (q : List Int) (T : Nat → Prop) (hq : q.length ≤ 1000) (J Jx : List Int → World → Prop)
    (hY : ∀ pre x W, I64 x → J pre W → pre.length < q.length → YieldAt F (n - 1) Try.prog l #[.int .i64 x] W fun e W' =>
      (e = .returned (.bool true) ∧ J (pre ++ [x]) W' ∧ Kept T W W') ∨ (e = .returned (.bool false) ∧ Jx (pre ++ [x]) W'))
    (W : World) (hbox : W.heap[Bs]? = some (.cells #[v] 22 (0, 0))) (hrow : Row T W v q) (h0 : J [] W) :
    CallsIn F n Try.prog 32 #[.func (.yield l) #[] #[], .pointer (some ⟨Bs, 0, none⟩)] W fun e W' => (∃ v, e = .returned v) ∧
      ((∃ ys, ys = subs 0 q ∧ J ys W') ∨ (∃ pre, (∃ k, k ≤ q.length ∧ pre = (subs 0 q).take k) ∧ Jx pre W')) := by
  have hb0 := cell_of_one hbox
  obtain ⟨a, cap, rfl, hcells⟩ := hrow
  have HC := Lib.hid hcells
  have hsl := subs_length q 0
  have HG := Lib.hid (subs_get q 0)
  obtain ⟨ys, hys⟩ : ∃ ys, subs 0 q = ys := ⟨_, rfl⟩
  rw [hys] at hsl HG
  replace hys := Lib.hid hys
  clear hcells
  refine callsIn_of_wp Try.func32 rfl hf ?_ hro
  simp only [Try.ntmps32, List.size_toArray, List.length_cons, List.length_nil, Nat.reduceAdd, Nat.reduceSub, Array.replicate_succ, Array.replicate_zero, List.push_toArray, List.append_toArray, List.nil_append, List.cons_append]
  gi_wp2
  gi_loopw [3, 8] (fun x i wr => ∃ (k : Nat) (la : Int), k ≤ q.length ∧ x = .int .i64 la ∧ i = .int .i64 k ∧ Hid (la = if k = 0 then 0 else q[k - 1]?.getD 0) ∧ J (ys.take k) wr ∧ Kept T W wr)
    (fun _ i _ => q.length - (intOf i).toNat)
  case atStart => exact ⟨0, 0, Nat.zero_le _, rfl, rfl, Lib.hid rfl, by rw [List.take_zero]; exact h0, Kept.refl _ _⟩
  case round =>
    obtain ⟨k, la, hk, rfl, rfl, hla, hJs, hnx⟩ := hrel
    by_cases hlt : k < q.length
    · obtain ⟨cb, off, rfl, hcb, hT, hcell⟩ := HC.out (by omega)
      have hcx : wr.cell? ⟨cb, off + k, none⟩ = some (.int .i64 (q[k]?.getD 0)) := kept_cell hnx hcb hT (hcell k hlt)
      have hg := HG.out k hlt
      rw [← hla.out] at hg
      have htk := Lib.hid (take_next ys k (by omega))
      obtain ⟨fn, tmps, assign, body, hy, hR⟩ := hY _ (ys[k]?.getD 0) wr (by rw [hg]; exact i64_wrap _) hJs (by rw [List.length_take]; omega)
      rw [hg] at hy
      have hlt' : (k : Int) < q.length := by omega
      replace hg := Lib.hid hg
      obtain ⟨c, hc⟩ : ∃ c, q[k]?.getD 0 = c := ⟨_, rfl⟩
      rw [hc] at hcx hg hy
      replace hc := Lib.hid hc
      clear hcell
      gi_wp2
      refine hR.mono ?_
      rintro e W3 (⟨rfl, hJ3, hk3⟩ | ⟨rfl, hJx3⟩)
      · gi_wp2
        go_roundw
        case rel => exact ⟨k + 1, c, by omega, rfl, by go_num, Lib.hid (by rw [if_neg (by omega)]; exact hc.out.symm), by rw [htk.out]; exact hJ3, hnx.trans hk3⟩
        case measure => simp [intOf] <;> omega
      · gi_wp2
        refine bodyPost_ret (results_none rfl _ _ _) rfl ?_
        exact ⟨⟨_, rfl⟩, .inr ⟨_, ⟨k + 1, by omega, by rw [hys.out]; exact htk.out.symm⟩, hJx3⟩⟩
    · obtain rfl : k = q.length := by omega
      have hge : decide (q.length < q.length) = false := decide_eq_false hlt
      have hnl : ¬ ((q.length : Int) < q.length) := by omega
      rw [List.take_of_length_le (by omega)] at hJs
      gi_wp2
      go_end0
      exact ⟨⟨_, rfl⟩, .inl (by rw [hys.out]; exact hJs)⟩

theorem deltas_stops (F : Fence) (n : Nat) (hf : F.fn 32) (hro : F.round = none) (hn : 1 ≤ n) (Bs : Nat) (v : Value) (q : List Int) (T : Nat → Prop) (hq : q.length ≤ 1000) (w : World)
    (hbox : w.heap[Bs]? = some (.cells #[v] 22 (0, 0))) (hrow : Row T w v q) :
    SeqStopsK F n Try.prog 32 #[.pointer (some ⟨Bs, 0, none⟩)] (fun x : Int => #[Value.int .i64 x]) (Kept T) (fun ys => ys = subs 0 q) (fun pre => ∃ k, k ≤ q.length ∧ pre = (subs 0 q).take k) q.length w :=
  fun l J Jx W hW _ _ hY h0 => deltas1_in F n hf hro hn l Bs v q T hq J Jx (fun pre x W _ => hY pre x W) W (below_at hW hbox (lt_of_block hbox)) (hrow.kept (Kept.of_below hW)) h0

/-- the same, over the numbers that an int holds. -/
abbrev Num64 := { x : Int // I64 x }
theorem deltas_stopsB (F : Fence) (n : Nat) (hf : F.fn 32) (hro : F.round = none) (hn : 1 ≤ n) (Bs : Nat) (v : Value) (q : List Int) (T : Nat → Prop) (hq : q.length ≤ 1000) (w : World)
    (hbox : w.heap[Bs]? = some (.cells #[v] 22 (0, 0))) (hrow : Row T w v q) :
    SeqStopsK F n Try.prog 32 #[.pointer (some ⟨Bs, 0, none⟩)] (fun x : Num64 => #[Value.int .i64 x.1]) (Kept T) (fun ys => ys.map (fun x => x.1) = subs 0 q) (fun _ => True) q.length w :=
  fun l J Jx W hW _ _ hY h0 => (deltas1_in F n hf hro hn l Bs v q T hq (fun pre W => ∃ pre' : List Num64, pre'.map (fun x => x.1) = pre ∧ J pre' W) (fun _ W => ∃ pre' : List Num64, Jx pre' W) (fun pre x W hx hJ hlen => by
    obtain ⟨pre', rfl, hJ'⟩ := hJ
    obtain ⟨fn, tmps, assign, body, hy, hR⟩ := hY pre' ⟨x, hx⟩ W hJ' (by simpa using hlen)
    exact ⟨fn, tmps, assign, body, hy, hR.mono (fun e W' h => by
      rcases h with ⟨rfl, h1, h2⟩ | ⟨rfl, h1⟩
      · exact .inl ⟨rfl, ⟨pre' ++ [⟨x, hx⟩], by simp, h1⟩, h2⟩
      · exact .inr ⟨rfl, _, h1⟩)⟩) W (below_at hW hbox (lt_of_block hbox)) (hrow.kept (Kept.of_below hW)) ⟨[], rfl, h0⟩).mono (fun e W' h => ⟨h.1, by
        rcases h.2 with ⟨ys, rfl, pre', e1, h⟩ | ⟨pre, _, pre', h⟩
        · exact .inl ⟨pre', e1, h⟩
        · exact .inr ⟨pre', trivial, h⟩⟩)

set_option maxRecDepth 100000 in
theorem deltas_any (a : Option Addr) (len cap : Nat) (w : World) :
    Calls Try.prog 22 #[.slice a len cap] w fun e w' => e = .returned (.func (.func 32) #[] #[.pointer (some ⟨w.heap.size, 0, none⟩)]) ∧ w' = w.alloc (.cells #[.slice a len cap] 22) := by
  have hmf : ∀ (fn : Fn) (first cap : Array Value) (w : World), (Instr.makeFunc fn first cap).run Try.prog w = .ok (.func fn first cap) w := fun _ _ _ _ => rfl
  go_enter Try.func22, Try.ntmps22
  go_wp2_with fail
  go_ret
  exact ⟨rfl, rfl⟩

end Dl
end Go.Proofs.Ytlpleikcgikpoaa
