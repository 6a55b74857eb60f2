/-
  WALKS: package delta's Deltas. Conditions: lists of at most 1000 numbers.
-/
import Derived.Test.YtlpleikcgikpoaaDeltaIter
namespace Go.Proofs.Ytlpleikcgikpoaa
open Go.RowKit Go.Shelf
attribute [local go_sem] Oper.semAt_some
namespace Dl
open Mem Pk

theorem kept_put {T : Nat → Prop} {W : World} {l : Nat} {o o' : Obj} (hT : T l) (_h : W.heap[l]? = some o) : Kept T W (W.putObj l o') :=
  (Kept.refl T W).grown (grownBy_putObj' W l o') (fun k e _ => by cases e; exact hT)
theorem own_cells {w : World} {base : Nat} {e : TypeId} {v : Value} {n : Nat} {xs : List Value} (h : w.ownsRow base e 1 v n xs) : ∀ (j : Nat) (o : Obj), v.ownBlock = some j → w.heap[j]? = some o → o.isCells = true := by
  intro j o hj ho
  rcases h.2 with ⟨rfl, _⟩ | ⟨g, cap, cur, rfl, _, hh, _⟩
  · cases hj
  · have e : g = j := by simpa [Value.ownBlock] using hj
    subst e
    rw [hh] at ho
    cases ho
    rfl
theorem own_setCell {w : World} {base : Nat} {e : TypeId} {v : Value} {n : Nat} {xs : List Value} (h : w.ownsRow base e 1 v n xs) {p : Addr} (hp : p.block < base) (u : Value) : (w.setCell p u).ownsRow base e 1 v n xs := by
  refine ⟨h.1, ?_⟩
  rcases h.2 with h2 | ⟨g, cap, cur, ev, hg, hh, r⟩
  · exact .inl h2
  · exact .inr ⟨g, cap, cur, ev, hg, set_other hh (by omega) _, r⟩

theorem own_slice {w : World} {base : Nat} {e : TypeId} {v : Value} {n : Nat} {xs : List Value} (h : w.ownsRow base e 1 v n xs) : ∃ b cap, v = .slice b n cap := by
  rcases h.2 with ⟨rfl, rfl⟩ | ⟨g, cap, cur, rfl, _⟩
  · exact ⟨none, 0, rfl⟩
  · exact ⟨_, cap, rfl⟩

/-- what holds at the head of each round of Deltas. -/
def DelI (w : World) (B : Nat) (pre : List Int) (W : World) : Prop :=
  ∃ v, W.heap[w.heap.size]? = some (.cells #[v] 22 (0, 0)) ∧ OwnI W B v pre ∧ Below w.heap.size w W ∧ B ≤ W.heap.size
theorem delI_own {w : World} {B C : Nat} (hB : w.heap.size ≤ C) : OwnFrom C (DelI w B) := fun pre A D row hs hg hr => by
  obtain ⟨v, h1, h2, h3, h4⟩ := hs
  have key : ∀ (k : Nat) (cs : Array Value) (t : TypeId) (f : Nat × Nat), A.heap[k]? = some (.cells cs t f) → D.heap[k]? = some (.cells cs t f) := fun k cs t f hk =>
    (hg.block k (lt_of_block hk) (fun er => by
      obtain ⟨_, o, ho, hc⟩ := hr k er.symm
      rw [hk] at ho
      cases ho
      cases hc)).trans hk
  refine ⟨v, key _ _ _ _ h1, ⟨h2.1, ?_⟩, ⟨hg.os.trans h3.os, hg.tape.trans h3.tape, hg.output.trans h3.output, Nat.le_trans h3.size hg.size, fun k hk => (hg.block k (Nat.lt_of_lt_of_le hk h3.size) (fun er => ?_)).trans (h3.block k hk)⟩, Nat.le_trans h4 hg.size⟩
  · rcases h2.2 with h | ⟨g, cap, cur, ev, hg0, hh, r⟩
    · exact .inl h
    · exact .inr ⟨g, cap, cur, ev, hg0, key _ _ _ _ hh, r⟩
  · have := (hr k er.symm).1
    omega

/-- a slice's length is within its capacity. -/
def Room (v : Value) : Prop := ∀ a n c, v = .slice a n c → n ≤ c
theorem OwnI.room {w : World} {base : Nat} {v : Value} {l : List Int} (h : OwnI w base v l) : Room v := by
  intro a n c e
  rcases h.2 with ⟨rfl, _⟩ | ⟨g, cap, cur, rfl, _, _, hn, _⟩
  · cases e; exact Nat.le_refl _
  · cases e; exact hn

set_option maxRecDepth 100000 in
set_option maxHeartbeats 4000000 in
theorem deltas_in (v : Value) (d : List Int) (w : World) (hv : Opened.Ints .i64 w v d) (hl : d.length ≤ 1000) :
    CallsIn Fence.wide 3 Try.prog 10 #[v] w fun e w' => (∃ r, e = .returned r ∧ Opened.Ints .i64 w' r (subs 0 d) ∧ Room r) ∧ Below w.heap.size w w' := by
  obtain ⟨i0, hi, hz0, hz1, hzb⟩ := info_parts infoI
  have HV := Lib.hid hv
  obtain ⟨⟨a, cap, rfl, -⟩, -⟩ := hv
  refine callsIn_of_wp_marks Try.func10 rfl trivial ?_ rfl
  simp only [Try.ntmps10, List.size_toArray, List.length_cons, List.length_nil, Nat.reduceAdd, Nat.reduceSub, Array.replicate_succ, Array.replicate_zero, List.push_toArray, List.append_toArray, List.nil_append, List.cons_append]
  gi_wp2_with fail
  refine ⟨trivial, ?_⟩
  refine CallsIn.mono (callsIn_wide.2 (deltas_any _ _ _ _)) ?_
  rintro e' w' ⟨rfl, rfl⟩
  gi_wp2_with fail
  obtain ⟨W2, hW⟩ : ∃ W2, (w.alloc (.cells #[.slice none 0 0] 22)).alloc (.cells #[.slice a d.length cap] 22) = W2 := ⟨_, rfl⟩
  have hz2 : W2.heap.size = w.heap.size + 2 := by rw [← hW]; simp
  have hbox : W2.heap[w.heap.size + 1]? = some (.cells #[.slice a d.length cap] 22 (0, 0)) := by
    rw [← hW]
    have := alloc_new (w.alloc (.cells #[.slice none 0 0] 22)) (.cells #[.slice a d.length cap] 22)
    rw [World.size_alloc] at this
    exact this
  have hbel0 : Below w.heap.size w W2 := by rw [← hW]; exact ((Below.refl _ w).alloc (Nat.le_refl _) _).alloc (by simp) _
  have hrow : Row (fun k => k = w.heap.size ∨ w.heap.size + 2 ≤ k) W2 (.slice a d.length cap) d := row_of HV.out hbel0 (fun k hk h => by omega)
  have hI0 : DelI w W2.heap.size [] W2 := ⟨.slice none 0 0, by rw [← hW]; exact alloc_at _ (alloc_new w _), ownI_nil _ _, hbel0, Nat.le_refl _⟩
  rw [hW]
  clear hW
  refine wpIn_rangeFunc_ownF rfl (by decide) (gf := 32) (lb := #[.pointer (some ⟨w.heap.size + 1, 0, none⟩)]) rfl trivial (enters_of Try.func32 (by kernel_rfl) rfl)
    (deltas_stops Fence.wide 2 trivial rfl (by decide) (w.heap.size + 1) _ d (fun k => k = w.heap.size ∨ w.heap.size + 2 ≤ k) hl W2 hbox hrow)
    (fun h k => h.trans k) (fun W l o o' hl h _ _ => kept_put (by rw [hz2] at hl; exact .inr hl) h) (Below.refl _ _) (fun _ => rfl)
    (DelI w W2.heap.size) (fun _ _ _ => False) (delI_own (by omega)) (fun _ _ _ _ _ hs _ _ => hs) hI0
    (fun x => { tmps := #[.slice a d.length cap, undef, .slice none 0 0, .pointer (some ⟨w.heap.size, 0, none⟩), .int .i64 x, .slice a d.length cap, .func (.func 32) #[] #[.pointer (some ⟨w.heap.size + 1, 0, none⟩)], .int .i64 x, undef, undef, undef, undef, undef], defers := [] }) ?assign ?body ?done ?stop
  case assign =>
    intro l x W K hK
    gi_wp2
    exact hK
  case body =>
    rintro l pre x W ⟨v', hq, hO, hbel, hBW⟩ hlen
    have hc := cell_of_one hq
    have hf := free_of_one hq
    have hsz := hbel.size
    have hltq := lt_of_block hq
    unfold OwnI at hO
    gi_wp2_with (gi_at_builtin; refine wpListIn_append_own _ rfl _ _ 22 rfl W2.heap.size 3 i0 (.int .i64 0) 1 8 Try.underlying22 hi hz0 hz1 hzb rfl (by decide) _ _ _ rfl (hO.alloc _) ⟨W.heap.size, 0, none⟩ 1 1 [.int .i64 x] rfl rfl (cell_one_new _ _ _) (one_int _) (by unfold maxLen; omega) (by omega) (by simp; omega) ?_; intro v2 w3 hown hgrow _; have hq3 : w3.heap[w.heap.size]? = some (.cells #[v'] 22 (0, 0)) := (hgrow.block _ (by simp; omega) (fun e => by have := (hO.lt _ e.symm).1; omega)).trans (alloc_at _ hq); have hf3 := free_of_one hq3; have hc3 := cell_of_one hq3; obtain ⟨bx, cx, rfl⟩ := own_slice hown)
    have hKt : Kept (fun k => k = w.heap.size ∨ w.heap.size + 2 ≤ k) W w3 := ((Kept.refl _ W).alloc _).grown hgrow (fun k er _ => .inr (by have := (hO.lt k er).1; omega))
    have hKf := hKt.setCell (p := ⟨w.heap.size, 0, none⟩) (fun _ => .inl rfl) (Value.slice bx (pre.length + 1) cx)
    have hs2 := hKf.size
    exact ⟨(KeepsOthers.alloc W _).trans ((KeepsOthers.of_grownBy hgrow (fun j o e h => own_cells (hO.alloc _) j o e h)).trans (KeepsOthers.setCell _ _ _)), hKf, _, one_setCell hq3, own_setCell (ownI_snoc hown) (by show w.heap.size < W2.heap.size; omega) _, hbel.trans (hKf.to_below hsz (fun k hk h => by rcases h with h | h <;> omega)), by omega⟩
  case done =>
    rintro D ys W hD rfl hI hDD
    have hI2 := delI_own (B := W2.heap.size) (C := W2.heap.size) (by omega) _ _ _ _ hI (grownBy_putObj' W D (.deferred none)) (fun r e => by cases e; exact ⟨hD, _, hDD, rfl⟩)
    obtain ⟨v', hq, hO, hbel, hBW⟩ := hI2
    have hqW : W.heap[w.heap.size]? = some (.cells #[v'] 22 (0, 0)) := by
      rw [← hq]; exact (World.putObj_heap_other (by omega)).symm
    have hc := cell_of_one hqW
    have hr := Lib.hid (And.intro (hO.ints (subs_bound d 0)) hO.room)
    replace hbel := Lib.hid hbel
    clear hq hO hqW hBW hI hI0 hrow hbox hbel0
    gi_wp2
    refine ⟨by simp, .inl ⟨_, _, rfl, run_takeDeferred hDD, ?_⟩⟩
    refine ⟨_, results_tmp rfl _ _ _, ⟨_, rfl, ?_⟩, hbel.out⟩
    exact hr.out
  case stop =>
    rintro D c pre W _ _ h _
    exact h.elim

theorem deltas_any' (v : Value) (d : List Int) (w : World) (hv : Opened.Ints .i64 w v d) (hl : d.length ≤ 1000) :
    Calls Try.prog 10 #[v] w fun e w' => (∃ r, e = .returned r ∧ Opened.Ints .i64 w' r (subs 0 d)) ∧ Below w.heap.size w w' :=
  (callsIn_wide.1 (deltas_in v d w hv hl)).mono fun _ _ ⟨⟨r, h1, h2, _⟩, h3⟩ => ⟨⟨r, h1, h2⟩, h3⟩
theorem deltas_room (v : Value) (d : List Int) (w : World) (hv : Opened.Ints .i64 w v d) (hl : d.length ≤ 1000) :
    Calls Try.prog 10 #[v] w fun e w' => (∃ r, e = .returned r ∧ Opened.Ints .i64 w' r (subs 0 d) ∧ Room r) ∧ Below w.heap.size w w' :=
  callsIn_wide.1 (deltas_in v d w hv hl)

end Dl
end Go.Proofs.Ytlpleikcgikpoaa
