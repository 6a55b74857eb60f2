/-
  PART 6 of what law TopSizes leans on: plain lemmas and walks, of which each says its own condition.
-/
import Derived.Test.YtnlijlknjhkoaaaGreatBTopSizes5
set_option maxRecDepth 100000
set_option maxHeartbeats 16000000
namespace Go.Proofs.YtnlijlknjhkoaaaGreat
section
open Go.RowKit Go.Shelf
namespace Tr
open Mem Tp Maps
attribute [local go_sem] Oper.semAt_some
structure PathI (w : World) (ch : Int) (pre : List Int) (W : World) : Prop where
  out : ∃ v, W.heap[w.heap.size + 3]? = some (.cells #[v] 82 (0, 0)) ∧ Dl.OwnI W (w.heap.size + 2) v (ch :: pre) ∧ (∀ k, v.ownBlock = some k → k = w.heap.size + 2 ∨ w.heap.size + 8 ≤ k)
  c0 : W.heap[w.heap.size]? = some (.cells #[.slice none 0 0] 82 (0, 0))
  c1 : W.heap[w.heap.size + 1]? = some (.cells #[.bool false] 4 (0, 0))
  be : Below w.heap.size w W
  lo : w.heap.size + 8 ≤ W.heap.size
theorem own_kept' {T : Nat → Prop} {W W' : World} {B : Nat} {v : Value} {l : List Int} (h : Dl.OwnI W B v l) (kp : Kept T W W') (hT : ∀ k, v.ownBlock = some k → ¬ T k) : Dl.OwnI W' B v l := by
  refine ⟨h.1, ?_⟩
  rcases h.2 with h2 | ⟨g, cap, cur, ev, hg, hh, r⟩
  · exact .inl h2
  · exact .inr ⟨g, cap, cur, ev, hg, kp.at hh (hT g (by rw [ev]; rfl)), r⟩
theorem PathI.kept {w : World} {ch : Int} {pre : List Int} {W W' : World} {T : Nat → Prop} (h : PathI w ch pre W) (kp : Kept T W W') (hT : ∀ k, T k → k = w.heap.size + 4 ∨ k = w.heap.size + 5 ∨ k = w.heap.size + 6 ∨ k = w.heap.size + 7) : PathI w ch pre W' := by
  obtain ⟨v, h1, h2, h3⟩ := h.out
  exact ⟨⟨v, kp.at h1 (fun t => by have := hT _ t; omega), own_kept' h2 kp (fun k e t => by have := hT _ t; have := h3 k e; omega), h3⟩, kp.at h.c0 (fun t => by have := hT _ t; omega), kp.at h.c1 (fun t => by have := hT _ t; omega),
    h.be.trans (kp.to_below h.be.size (fun k hk t => by have := hT _ t; omega)), Nat.le_trans h.lo kp.size⟩
theorem path_results (tmps : Array Value) (w : World) (B : Nat) (q : Bool) (v : Value) (h : tmps.getD 4 undef = .pointer (some ⟨B, 0, none⟩)) (h' : tmps.getD 5 undef = .pointer (some ⟨B + 1, 0, none⟩)) (hw : w.heap[B]? = some (.cells #[v] 82 (0, 0))) (hw' : w.heap[B + 1]? = some (.cells #[.bool q] 4 (0, 0))) :
    (results Tryz.f63 tmps).run Tryz.prog w = .ok (.tuple #[v, .bool q]) w := by
  have hr : Tryz.f63.results = #[.cell 4 82, .cell 5 4] := rfl
  have c0 : w.cell? ⟨B, 0, none⟩ = some v := cell_at hw 0
  have c1 : w.cell? ⟨B + 1, 0, none⟩ = some (.bool q) := cell_at hw' 0
  simp only [results, hr]
  simp only [Array.getD_eq_getD_getElem?] at h h'
  simp [Sem.run_bind, Result.andThen, h, h', go_sem]
  simp [c0, c1]
theorem chain_len (l : List Rw) : ∀ (n : Nat) (x : Int), (chain l n x).length ≤ n
  | 0, _ => Nat.le_refl _
  | n + 1, x => by
    rw [chain]
    split
    · exact Nat.zero_le _
    · rw [List.length_cons]; exact Nat.succ_le_succ (chain_len l n _)
theorem path_ok (g : Nat) (D : DataW Unit) (l : List Rw) (ch : Int) (w : World) (hM : PM w g l.length D) (hD : PD D l) (hl : l.length ≤ 4000) (hr : ∀ r ∈ l, InR r.pa) (hc : InR ch) (hgw : g < w.heap.size)
    (hn : (ch :: chain l l.length ch).Nodup) (h0 : (ch :: chain l l.length ch).getLast? = some 0) (hu : up l 0 = none) :
    Calls Tryz.prog 63 #[.map (some g), .int .i64 ch] w fun e w' => (∃ y, e = .returned (.tuple #[y, .bool true]) ∧ Mem.Is w' y (ch :: chain l l.length ch)) ∧ Below w.heap.size w w' := by
  obtain ⟨i0, hi, hz0, hz1, hz2⟩ := info_parts Dl.infoI
  have HR := Lib.hid hr
  have HM := Lib.hid hM
  have HD := Lib.hid hD
  have HN := Lib.hid hn
  have HU := Lib.hid hu
  have H0 := Lib.hid h0
  clear hr hM hD hn hu h0
  refine callsIn_wide.1 (callsIn_of_wp_marks (F := Fence.wide) (n := 3) Tryz.func63 rfl trivial ?_ rfl)
  simp only [Tryz.ntmps63, List.size_toArray, List.length_cons, List.length_nil, Nat.reduceAdd, Nat.reduceSub, Array.replicate_succ, Array.replicate_zero, List.push_toArray, List.append_toArray, List.nil_append, List.cons_append]
  gi_wp2_with fail
  refine ⟨trivial, ?_⟩
  refine CallsIn.mono (callsIn_wide.2 (ways_any _ _ _)) ?_
  rintro e' w3 ⟨rfl, rfl⟩
  gi_wp2_with fail
  obtain ⟨W3, hW3⟩ : ∃ W3, (((((w.alloc (.cells #[.slice none 0 0] 82)).alloc (.cells #[.bool false] 4)).alloc (.cells #[.int .i64 ch] 3)).alloc (.cells #[.slice (some ⟨w.heap.size + 1 + 1, 0, none⟩) 1 1] 82)).alloc (.cells #[.map (some g)] 128)).alloc (.cells #[.int .i64 ch] 3) = W3 := ⟨_, rfl⟩
  have hL : lay w [.cells #[.slice none 0 0] 82, .cells #[.bool false] 4, .cells #[.int .i64 ch] 3, .cells #[.slice (some ⟨w.heap.size + 1 + 1, 0, none⟩) 1 1] 82, .cells #[.map (some g)] 128, .cells #[.int .i64 ch] 3] = W3 := hW3
  have hz3 : W3.heap.size = w.heap.size + 6 := by rw [← hL]; exact lay_size _ _
  have hb3 : Below w.heap.size w W3 := by rw [← hL]; exact lay_below _ _
  have ha := lay_at _ w |> fun h => hL ▸ h
  have a0 := ha 0 _ rfl
  have a1 := ha 1 _ rfl
  have a2 := ha 2 _ rfl
  have a3 := ha 3 _ rfl
  have a4 := ha 4 _ rfl
  have a5 := ha 5 _ rfl
  rw [Nat.add_zero] at a0
  clear hL ha
  have hM3 : PM W3 g l.length D := pm_kept HM.out (Kept.of_below (T := fun _ => False) hb3) id
  have hO3 : Dl.OwnI W3 (w.heap.size + 2) (.slice (some ⟨w.heap.size + 2, 0, none⟩) 1 1) [ch] := ⟨rfl, .inr ⟨w.heap.size + 2, 1, #[.int .i64 ch], rfl, Nat.le_refl _, a2, by simp, by decide, by simp, by simp [Dl.cellsI]⟩⟩
  rw [hW3]
  clear hW3
  refine range_box rfl (by decide) (gf := 161) (lb := #[.pointer (some ⟨w.heap.size + 4, 0, none⟩), .pointer (some ⟨w.heap.size + 5, 0, none⟩)]) rfl trivial (enters_of Tryz.func161 (by kernel_rfl) rfl)
    (ways_gives Fence.wide 2 trivial rfl (by decide) (w.heap.size + 4) (w.heap.size + 5) g l.length D l ch (fun k => k = w.heap.size + 2 ∨ k = w.heap.size + 3 ∨ w.heap.size + 6 ≤ k) (by omega) (fun r h => HR.out r h) hc W3 a4 a5 hM3 HD.out ⟨by omega, by omega, by omega⟩ ⟨by omega, by omega⟩)
    (by omega) (fun _ => rfl) (fun h k => h.trans k) ?hKr (PathI w ch) (fun c pre W => c = .ret ∧ ¬ (ch :: pre).Nodup ∧ Below w.heap.size w W) ?hIr ?hIb ?hIx ?h0
    (fun x => { tmps := #[.map (some g), .int .i64 ch, undef, undef, .pointer (some ⟨w.heap.size, 0, none⟩), .pointer (some ⟨w.heap.size + 1, 0, none⟩), .pointer (some ⟨w.heap.size + 1 + 1 + 1, 0, none⟩), .int .i64 x, undef, .int .i64 ch, .slice (some ⟨w.heap.size + 1 + 1, 0, none⟩) 1 1, .map (some g), .int .i64 ch, .func (.func 161) #[] #[.pointer (some ⟨w.heap.size + 1 + 1 + 1 + 1, 0, none⟩), .pointer (some ⟨w.heap.size + 1 + 1 + 1 + 1 + 1, 0, none⟩)], .int .i64 x, undef, undef, undef, undef, undef, undef, undef, undef, undef, undef, undef, undef, undef, undef, undef, undef, undef, undef, undef, undef, undef], defers := [] }) ?assign ?body ?done ?stop
  case hKr => exact fun W o => kept_put (Kept.refl _ W) (fun _ => by omega) o
  case assign =>
    intro l' y' W K hK
    gi_wp2
    exact hK
  case hIr =>
    intro pre W o h
    exact h.kept (T := fun k => k = W3.heap.size + 1) (kept_put (T := fun k => k = W3.heap.size + 1) (Kept.refl _ W) (p := W3.heap.size + 1) (fun _ => rfl) o) (fun k e => by omega)
  case hIb =>
    intro pre W u h
    exact h.kept (T := fun k => k = w.heap.size + 5) (Kept.setCell (T := fun k => k = w.heap.size + 5) (Kept.refl _ W) (p := ⟨w.heap.size + 5, 0, none⟩) (fun _ => rfl) u) (fun k e => by omega)
  case hIx => exact fun c pre W o h => ⟨h.1, h.2.1, below_put h.2.2 (by omega) o⟩
  case h0 =>
    intro o1 o2
    exact ⟨⟨_, alloc_at _ (alloc_at _ a3), (hO3.alloc _).alloc _, fun k h => .inl (Option.some.inj h).symm⟩, alloc_at _ (alloc_at _ a0), alloc_at _ (alloc_at _ a1), (hb3.alloc (by omega) _).alloc (by simp; omega) _, by simp; omega⟩
  case body =>
    rintro l' pre z W ⟨⟨v, h1, h2, h3⟩, h4, h5, h6, h7⟩ hlen
    have c0 : W.cell? ⟨w.heap.size + 1 + 1 + 1, 0, none⟩ = some v := cell_at h1 0
    have HC := Lib.hid (containsI_any v (ch :: pre) z W (own_sl h2) (by simp; omega))
    replace h1 := Lib.hid h1
    replace h2 := Lib.hid h2
    replace h3 := Lib.hid h3
    replace h4 := Lib.hid h4
    replace h5 := Lib.hid h5
    replace h6 := Lib.hid h6
    gi_wp2_with fail
    refine ⟨trivial, ?_⟩
    refine CallsIn.mono (CallsIn.inRound l' (callsIn_wide.2 HC.out)) ?_
    rintro e' w1 ⟨rfl, rfl⟩
    by_cases hx : z ∈ ch :: pre
    · have hany : (ch :: pre).any (fun y => z == y) = true := by rw [List.any_eq_true]; exact ⟨z, hx, by simp⟩
      have hnn : Hid (¬ (ch :: (pre ++ [z])).Nodup) := Lib.hid (fun h => by
        rw [← List.cons_append, List.nodup_append] at h
        exact h.2.2 z hx z (by simp) rfl)
      rw [hany]
      clear hany hx HC
      have d0 : W.cell? ⟨w.heap.size, 0, none⟩ = some (.slice none 0 0) := cell_at h4.out 0
      have d1 : W.cell? ⟨w.heap.size + 1, 0, none⟩ = some (.bool false) := cell_at h5.out 0
      have f0 : W.frozen? ⟨w.heap.size, 0, none⟩ = false := free_at h4.out 0
      have f1 : W.frozen? ⟨w.heap.size + 1, 0, none⟩ = false := free_at h5.out 0
      have hbe := Lib.hid ((h6.out.setCell (p := ⟨w.heap.size, 0, none⟩) (Nat.le_refl _) (.slice none 0 0)).setCell (p := ⟨w.heap.size + 1, 0, none⟩) (by show w.heap.size ≤ w.heap.size + 1; omega) (.bool false))
      gi_wp2_with fail
      exact ⟨⟨by simp [World.setCell], fun k o hk ho hc => ((setCell_heap_other (by show k ≠ w.heap.size + 1; omega)).trans (setCell_heap_other (by show k ≠ w.heap.size; omega))).trans ho⟩, rfl, hnn.out, hbe.out⟩
    · have hany : (ch :: pre).any (fun y => z == y) = false := by rw [List.any_eq_false]; exact fun y hy e => hx ((show z = y by simpa using e) ▸ hy)
      rw [hany]
      clear hany HC hx
      have hOa := Lib.hid (h2.out.alloc (.cells #[.int .i64 z] 3))
      have hga := Lib.hid (alloc_at (.cells #[.int .i64 z] 3) h1.out)
      have hza := Lib.hid (alloc_new W (.cells #[.int .i64 z] 3))
      have hlt3 := h2.out.lt
      replace hlt3 := Lib.hid hlt3
      gi_wp2_with (gi_at_builtin; refine wpListIn_append_own_at _ (by rfl) _ _ 82 (by rfl) (w.heap.size + 2) 3 i0 _ 1 8 Tryz.underlying82 hi hz0 hz1 hz2 rfl (by decide) _ (ch :: pre).length (Dl.cellsI (ch :: pre)) (by rfl) hOa.out ⟨W.heap.size, 0, none⟩ 1 1 [.int .i64 z] (by rfl) rfl (fun j u hj => by rw [Addr.add_lit, Nat.zero_add]; exact block_cells hza.out j u (by simpa using hj)) (Dl.one_int z) (by unfold maxLen; simp; omega) (by simp; omega) (by simp; omega) ?_; intro v5 w5 hown5 hgrow5 hnil5 hat5; obtain ⟨a5, k5, e5⟩ := (own_sl hown5).len; subst e5; have h35 := (hgrow5.block (w.heap.size + 3) (by simp; omega) (fun e => by have := h3.out _ e.symm; omega)).trans hga.out; have c6 : w5.cell? ⟨w.heap.size + 1 + 1 + 1, 0, none⟩ = some v := cell_at h35 0; have f6 : w5.frozen? ⟨w.heap.size + 1 + 1 + 1, 0, none⟩ = false := free_at h35 0; have h36 := Lib.hid h35; have hown5 := Lib.hid hown5; have hgrow5 := Lib.hid hgrow5; have hat5 := Lib.hid hat5; clear hnil5 h35)
      have hat := hat5.out
      have hlt5 := hown5.out.lt
      have hs5 := hgrow5.out.size
      simp at hs5
      have kg : Kept (fun k => k = w.heap.size + 2 ∨ k = w.heap.size + 3 ∨ w.heap.size + 6 ≤ k) W w5 :=
        ((Kept.refl _ W).alloc _).grown hgrow5.out (fun k e _ => by have := h3.out k e; omega)
      have kf := kg.setCell (p := ⟨w.heap.size + 3, 0, none⟩) (fun _ => .inr (.inl rfl)) (.slice a5 ((ch :: pre).length + 1) k5)
      have hh3 : (w5.setCell ⟨w.heap.size + 3, 0, none⟩ (.slice a5 ((ch :: pre).length + 1) k5)).heap[w.heap.size + 3]? = some (.cells #[.slice a5 ((ch :: pre).length + 1) k5] 82 (0, 0)) := (set_at h36.out 0 _).trans rfl
      have hob : ∀ k, Value.ownBlock (.slice a5 ((ch :: pre).length + 1) k5) = some k → k = w.heap.size + 2 ∨ w.heap.size + 8 ≤ k := fun k e => by
        rcases hat with h | h
        · exact h3.out k (h.symm.trans e)
        · rw [h] at e; have := Option.some.inj e; simp at this; omega
      have hO5 : Dl.OwnI w5 (w.heap.size + 2) (.slice a5 ((ch :: pre).length + 1) k5) (ch :: (pre ++ [z])) := by
        have := Dl.ownI_snoc hown5.out
        rwa [List.cons_append] at this
      have kset := Kept.setCell (T := fun k => k = w.heap.size + 3) (Kept.refl _ w5) (p := ⟨w.heap.size + 3, 0, none⟩) (fun _ => rfl) (.slice a5 ((ch :: pre).length + 1) k5)
      refine ⟨?_, kf, ⟨_, hh3, own_kept' hO5 kset (fun k e t => by have := hob k e; omega), hob⟩, kf.at h4.out (by omega), kf.at h5.out (by omega), h6.out.trans (kf.to_below h6.out.size (fun k hk t => by omega)), Nat.le_trans h7 kf.size⟩
      refine ⟨kf.size, fun k o hk ho hc => ?_⟩
      have hne : some k ≠ v.ownBlock := fun e => by
        rcases h2.out.2 with ⟨rfl, -⟩ | ⟨g', cap, cur, rfl, hg, hh, -⟩
        · cases e
        · obtain rfl : k = g' := Option.some.inj e
          rw [hh] at ho
          cases ho
          cases hc
      exact (setCell_heap_other (by show k ≠ w.heap.size + 3; omega)).trans ((hgrow5.out.block k (by simp; exact Nat.lt_succ_of_lt (lt_of_block ho)) hne).trans (alloc_at _ ho))
  case done =>
    rintro xs W hxs ⟨⟨v, h1, h2, h3⟩, h4, h5, h6, h7⟩ hDD
    simp only [Exit.inBlock]
    have hxl := chain_len l l.length ch
    rw [show chain l l.length ch = xs from Eq.symm hxs] at hxl H0
    replace hxs := Lib.hid hxs
    have hS := Lib.hid (own_sl h2)
    obtain ⟨a', c', rfl⟩ := hS.out.len
    obtain ⟨b', off', e'⟩ := hS.out.addr (by simp)
    subst e'
    have hla : (ch :: xs)[xs.length]? = some 0 := by have := H0.out; rwa [List.getLast?_eq_getElem?, List.length_cons, Nat.add_sub_cancel] at this
    have hq := sl_one hS.out rfl hla
    unfold i64C at hq
    have c0 : W.cell? ⟨w.heap.size + 1 + 1 + 1, 0, none⟩ = some (.slice (some ⟨b', off', none⟩) (ch :: xs).length c') := cell_at h1 0
    have hw1 : IntKind.i64.wrap ((xs.length : Int) + 1 - 1) = (xs.length : Int) := by rw [IntKind.wrap_i64]; omega
    have hj0 : (0 : Int) ≤ (xs.length : Int) := by omega
    have hj1 : (xs.length : Int) < (xs.length : Int) + 1 := by omega
    have HH := Lib.hid (hasRow_any g l.length D l 0 W (pm_kept HM.out (Kept.of_below (T := fun _ => False) h6) id) HD.out ⟨by decide, by decide⟩)
    simp only [List.length_cons] at c0
    rw [hz3] at hDD
    replace hDD := Lib.hid hDD
    gi_wp2_with fail
    refine ⟨trivial, ?_⟩
    refine CallsIn.mono (callsIn_wide.2 HH.out) ?_
    rintro e' w9 ⟨rfl, rfl⟩
    rw [HU.out]
    have d0 : W.cell? ⟨w.heap.size, 0, none⟩ = some (.slice none 0 0) := cell_at h4 0
    have d1 : W.cell? ⟨w.heap.size + 1, 0, none⟩ = some (.bool false) := cell_at h5 0
    have f0 : W.frozen? ⟨w.heap.size, 0, none⟩ = false := free_at h4 0
    have f1 : W.frozen? ⟨w.heap.size + 1, 0, none⟩ = false := free_at h5 0
    obtain ⟨W9, hW9⟩ : ∃ W9, (W.setCell ⟨w.heap.size, 0, none⟩ (.slice (some ⟨b', off', none⟩) (xs.length + 1) c')).setCell ⟨w.heap.size + 1, 0, none⟩ (.bool true) = W9 := ⟨_, rfl⟩
    have k9 : Kept (fun k => k = w.heap.size ∨ k = w.heap.size + 1) W W9 := by
      rw [← hW9]
      exact ((Kept.refl _ W).setCell (p := ⟨w.heap.size, 0, none⟩) (fun _ => .inl rfl) _).setCell (p := ⟨w.heap.size + 1, 0, none⟩) (fun _ => .inr rfl) _
    have g0 : W9.heap[w.heap.size]? = some (.cells #[.slice (some ⟨b', off', none⟩) (xs.length + 1) c'] 82 (0, 0)) := by
      rw [← hW9]
      exact (set_other ((set_at h4 0 _).trans rfl) (p := ⟨w.heap.size + 1, 0, none⟩) (by show w.heap.size ≠ w.heap.size + 1; omega) _)
    have g1 : W9.heap[w.heap.size + 1]? = some (.cells #[.bool true] 4 (0, 0)) := by
      rw [← hW9]
      exact (set_at (set_other h5 (p := ⟨w.heap.size, 0, none⟩) (by show w.heap.size + 1 ≠ w.heap.size; omega) _) 0 _).trans rfl
    have hD9 := k9.at hDD.out (by omega)
    have hb9 := Lib.hid (h6.trans (k9.to_below h6.size (fun k hk t => by omega)))
    replace hW9 := Lib.hid hW9
    replace g0 := Lib.hid g0
    replace g1 := Lib.hid g1
    replace hD9 := Lib.hid hD9
    gi_wp2_with fail
    rw [hW9.out]
    refine ⟨by simp, .inl ⟨_, _, rfl, run_takeDeferred hD9.out, ?_⟩⟩
    have q0 : (W9.putObj (w.heap.size + 6) (.deferred none)).heap[w.heap.size]? = some (.cells #[.slice (some ⟨b', off', none⟩) (xs.length + 1) c'] 82 (0, 0)) := (World.putObj_heap_other (by omega)).trans g0.out
    have q1 : (W9.putObj (w.heap.size + 6) (.deferred none)).heap[w.heap.size + 1]? = some (.cells #[.bool true] 4 (0, 0)) := (World.putObj_heap_other (by omega)).trans g1.out
    refine ⟨_, path_results _ _ _ true _ rfl rfl q0 q1, ⟨_, rfl, ?_⟩, below_put hb9.out (by omega) _⟩
    rw [← show xs = chain l l.length ch from hxs.out]
    have kp := kept_put (T := fun k => k = (w.heap.size + 6)) (Kept.refl _ W9) (p := (w.heap.size + 6)) (fun _ => rfl) (.deferred none)
    exact own_sl (own_kept' (own_kept' h2 k9 (fun k e t => by have := h3 k e; omega)) kp (fun k e t => by have := h3 k e; omega))
  case stop =>
    rintro c pre W ⟨k, hk⟩ ⟨rfl, h1, -⟩ hDD
    exfalso
    rw [hk] at h1
    exact h1 (HN.out.sublist (List.Sublist.cons_cons _ (List.take_sublist _ _)))
theorem Path_ok (v : Value) (l : List Rw) (ch : Int) (w : World) (hS : Mem.Rows w v l) (hl : l.length ≤ 4000) (hnd : (l.map (·.ch)).Nodup) (hr : ∀ r ∈ l, InR r.ch ∧ InR r.pa) (hc : InR ch)
    (hn : (ch :: chain l l.length ch).Nodup) (h0 : (ch :: chain l l.length ch).getLast? = some 0) (hu : up l 0 = none) :
    Calls Tryz.prog 33 #[v, .int .i64 ch] w fun e w' => (∃ y, e = .returned (.tuple #[y, .bool true]) ∧ Mem.Is w' y (ch :: chain l l.length ch)) ∧ Below w.heap.size w w' := by
  have HP := Lib.hid (parents_any v l w hS hl hnd hr)
  have HQ := Lib.hid (fun g D W h1 h2 h3 => path_ok g D l ch W h1 h2 hl (fun r h => (hr r h).2) hc h3 hn h0 hu)
  obtain ⟨a, c, rfl⟩ := hS.len
  clear hS hn h0 hr hnd hu
  generalize chain l l.length ch = xs at *
  go_enter Tryz.func33, Tryz.ntmps33
  go_wp2_with fail
  refine HP.out.mono ?_
  rintro e w2 ⟨rfl, ⟨D, hM, hD⟩, hb2⟩
  have H2 := Lib.hid (HQ.out _ D w2 hM hD hM.lt)
  replace hb2 := Lib.hid hb2
  clear hM hD HP HQ
  go_wp2_with fail
  refine H2.out.mono ?_
  rintro e w3 ⟨⟨y, rfl, hy⟩, hb3⟩
  have hb := Lib.hid (hb2.out.trans (hb3.mono hb2.out.size))
  replace hy := Lib.hid hy
  obtain ⟨a1, c1, e1⟩ := hy.out.len
  subst e1
  clear hb3
  go_wp2_with fail
  go_ret2
  exact ⟨⟨_, rfl, hy.out⟩, hb.out⟩
end Tr
end
section
open Go.RowKit Go.Shelf
attribute [local go_sem] Fl.run_store_float
namespace Pl
open Mem Tp Tr Mo Fo Sn Og St
def x0 : X3 := (⟨.slice none 0 0, .slice none 0 0, .slice none 0 0⟩, ⟨[], ⟨0, 0⟩, [], []⟩)
theorem rep_x0 (W : World) : RepX W x0 := ⟨sl_nil _, sl_nil _, sl_nil _, fun k h => (by simp [x0, Value.ownBlock] at h), fun k h => (by simp [x0, Value.ownBlock] at h), fun k h => (by simp [x0, Value.ownBlock] at h)⟩
theorem x0_blocks (k : Nat) : ¬ blocks x0 k := by
  rintro (e | e | e) <;> simp [x0, Value.ownBlock] at e
theorem pw_new {W : World} {base p b n : Nat} (hb : W.heap[b]? = some (.cells ((List.replicate n x0).flatMap repC).toArray 34 (0, 0))) (hp : W.heap[p]? = some (.cells #[.slice (some ⟨b, 0, none⟩) n n, .slice none 0 0] 89 (0, 0)))
    (hpb : p ≠ b) (h1 : base ≤ p) (h2 : base ≤ b) (hn : 1 ≤ n) (h8 : n ≤ 8) : PW W base p b (.slice none 0 0) (List.replicate n x0) [] where
  hp := by rw [List.length_replicate]; exact hp
  hb := hb
  pb := hpb
  bp := h1
  bb := h2
  own := World.ownsRow_nil _ _ _ _
  pp := fun k e => by simp [Value.ownBlock] at e
  rep := fun x hx => by rw [List.eq_of_mem_replicate hx]; exact rep_x0 W
  sep := fun x hx k hk => by rw [List.eq_of_mem_replicate hx] at hk; exact absurd hk (x0_blocks k)
  n1 := by rw [List.length_replicate]; exact hn
  n8 := by rw [List.length_replicate]; exact h8
theorem made_x0 {n : Nat} (h1 : 1 ≤ n) (h8 : n ≤ 8) : madeCells #[.slice none 0 0, .int .i64 0, .int .i64 0, .slice none 0 0, .slice none 0 0] (n * 5) = ((List.replicate n x0).flatMap repC).toArray := by
  rcases (show n = 1 ∨ n = 2 ∨ n = 3 ∨ n = 4 ∨ n = 5 ∨ n = 6 ∨ n = 7 ∨ n = 8 by omega) with rfl | rfl | rfl | rfl | rfl | rfl | rfl | rfl <;> kernel_rfl
theorem info_rep3 : (Tryz.prog.info? 34).map (fun i => (i.zero, i.size, i.bytes)) = some (some (.agg #[.slice none 0 0, .int .i64 0, .int .i64 0, .slice none 0 0, .slice none 0 0]), 5, 88) := by kernel_rfl
theorem run_make (n : Nat) (w : World) (h1 : 1 ≤ n) (h8 : n ≤ 8) : (Instr.makeSlice 87 (.int .i64 (n : Int)) (.int .i64 (n : Int))).run Tryz.prog w = .ok (.slice (some ⟨w.heap.size, 0, none⟩) n n) (w.alloc (.cells ((List.replicate n x0).flatMap repC).toArray 34)) := by
  obtain ⟨i, hi, hzz⟩ := Option.map_eq_some_iff.1 info_rep3
  simp only [Prod.mk.injEq] at hzz
  obtain ⟨hz, hs, hb⟩ := hzz
  have hr := Go.run_make (P := Tryz.prog) w 87 34 i _ (Tryz.underlying87) hi hz .i64 .i64 n n (by omega) (Int.le_refl _) (by rw [hb]; omega) (by omega)
  simp only [Int.toNat_natCast, hs] at hr
  rw [hr, ← made_x0 h1 h8]
  rfl
theorem new_any (n : Nat) (w : World) (hn : 1 ≤ n) (h8 : n ≤ 8) :
    Calls Tryz.prog 22 #[.int .i64 (n : Int)] w fun e w' => ∃ p b, e = .returned (.pointer (some ⟨p, 0, none⟩)) ∧ PW w' w.heap.size p b (.slice none 0 0) (List.replicate n x0) [] ∧ Below w.heap.size w w' := by
  have hm := run_make n w hn h8
  have t1 : ¬ (n : Int) < 1 := by omega
  have t2 : ¬ (8 : Int) < (n : Int) := by omega
  have g0 := alloc_new w (.cells ((List.replicate n x0).flatMap repC).toArray 34)
  have b0 := (Below.refl w.heap.size w).alloc (Nat.le_refl _) (.cells ((List.replicate n x0).flatMap repC).toArray 34)
  have g1 := alloc_at (.cells #[.slice (some ⟨w.heap.size, 0, none⟩) n n, .slice none 0 0] 89) g0
  have p1 := alloc_new (w.alloc (.cells ((List.replicate n x0).flatMap repC).toArray 34)) (.cells #[.slice (some ⟨w.heap.size, 0, none⟩) n n, .slice none 0 0] 89)
  have b1 := b0.alloc (by simp) (.cells #[.slice (some ⟨w.heap.size, 0, none⟩) n n, .slice none 0 0] 89)
  have hs1 := Lib.hid (World.size_alloc w (.cells ((List.replicate n x0).flatMap repC).toArray 34))
  replace g0 := Lib.hid g0
  replace b0 := Lib.hid b0
  replace g1 := Lib.hid g1
  replace p1 := Lib.hid p1
  replace b1 := Lib.hid b1
  replace hn := Lib.hid hn
  generalize w.alloc (.cells ((List.replicate n x0).flatMap repC).toArray 34) = W1 at *
  go_enter Tryz.func22, Tryz.ntmps22
  go_wp2_with fail
  go_ret
  have hs := hs1.out
  exact ⟨W1.heap.size, rfl, ⟨w.heap.size, pw_new g1.out p1.out (by omega) (by omega) (Nat.le_refl _) hn.out h8⟩, b1.out⟩
theorem WfR.okT {r : Rp} (h : WfR r) : Fd.OkT r.base := ⟨rise_nodup h.rise, fun x hx => oneR_r (h.one x hx)⟩
theorem WfR.inR {r : Rp} (h : WfR r) : ∀ m ∈ r.log, InR m.ch ∧ InR m.pa := fun m hm => oneR_r (oneM_in (h.lone m hm)).2
theorem tree_any {base p b : Nat} {vp : Value} {xs : List X3} {pool : List Mv} (w : World) (hP : PW w base p b vp xs pool) (k : Nat) (x : X3) (hx : xs[k]? = some x) (hO : WfR x.2) :
    Calls Tryz.prog 34 #[.pointer (some ⟨p, 0, none⟩), .int .i64 ((k : Int) + 1)] w fun e w' => (∃ v', e = .returned v' ∧ Mem.Rows w' v' (treeR x.2)) ∧ Below w.heap.size w w' := by
  have hX := hP.rep x (List.mem_of_getElem? hx)
  have HR := Lib.hid (replica_any w hP k x hx)
  have hlen := hO.len
  have HS := Lib.hid (fun W (h : RepX W x) => Fo.tree_any x.1.b x.1.l x.1.m x.2.fl x.2.base x.2.log W h.b h.l (by omega) (by omega) (WfR.okT hO) (WfR.inR hO))
  obtain ⟨f, hf⟩ : ∃ f, treeR x.2 = f := ⟨_, rfl⟩
  rw [show foldM x.2.base x.2.log = f from hf] at HS
  rw [hf]
  obtain ⟨ab, kb, eb⟩ := hX.b.len
  obtain ⟨al, kl, el⟩ := hX.l.len
  obtain ⟨am, km, em⟩ := hX.m.len
  obtain ⟨⟨vb, vl, vm⟩, r⟩ := x
  simp only at eb el em hf hlen
  subst eb el em
  unfold rpV repV at HR
  unfold repV at HS
  replace hX := Lib.hid hX
  replace hf := Lib.hid hf
  clear hP hx hO hlen
  go_enter Tryz.func34, Tryz.ntmps34
  go_wp2_with fail
  refine HR.out.mono ?_
  rintro e w1 ⟨rfl, b1⟩
  have g2 := alloc_new w1 (.cells #[.slice ab r.base.length kb, .int .i64 r.fl.c, .int .i64 r.fl.r, .slice al r.log.length kl, .slice am r.mks.length km] 34)
  have b2 := b1.alloc b1.size (.cells #[.slice ab r.base.length kb, .int .i64 r.fl.c, .int .i64 r.fl.r, .slice al r.log.length kl, .slice am r.mks.length km] 34)
  have HS2 := Lib.hid (HS.out _ (RepW.below hX.out b2))
  replace g2 := Lib.hid g2
  replace b2 := Lib.hid b2
  clear b1
  have c0 : (w1.alloc (.cells #[.slice ab r.base.length kb, .int .i64 r.fl.c, .int .i64 r.fl.r, .slice al r.log.length kl, .slice am r.mks.length km] 34)).cell? ⟨w1.heap.size, 0, none⟩ = some (.slice ab r.base.length kb) := cell_at g2.out 0
  have c1 : (w1.alloc (.cells #[.slice ab r.base.length kb, .int .i64 r.fl.c, .int .i64 r.fl.r, .slice al r.log.length kl, .slice am r.mks.length km] 34)).cell? ⟨w1.heap.size, 1, none⟩ = some (.int .i64 r.fl.c) := cell_at g2.out 1
  have c2 : (w1.alloc (.cells #[.slice ab r.base.length kb, .int .i64 r.fl.c, .int .i64 r.fl.r, .slice al r.log.length kl, .slice am r.mks.length km] 34)).cell? ⟨w1.heap.size, 2, none⟩ = some (.int .i64 r.fl.r) := cell_at g2.out 2
  have c3 : (w1.alloc (.cells #[.slice ab r.base.length kb, .int .i64 r.fl.c, .int .i64 r.fl.r, .slice al r.log.length kl, .slice am r.mks.length km] 34)).cell? ⟨w1.heap.size, 3, none⟩ = some (.slice al r.log.length kl) := cell_at g2.out 3
  have c4 : (w1.alloc (.cells #[.slice ab r.base.length kb, .int .i64 r.fl.c, .int .i64 r.fl.r, .slice al r.log.length kl, .slice am r.mks.length km] 34)).cell? ⟨w1.heap.size, 4, none⟩ = some (.slice am r.mks.length km) := cell_at g2.out 4
  go_wp2_with fail
  refine HS2.out.mono ?_
  rintro e w3 ⟨⟨v', rfl, h3⟩, b3⟩
  have b4 := Lib.hid (b2.out.trans (b3.mono b2.out.size))
  replace h3 := Lib.hid h3
  clear b3 c0 c1 c2 c3 c4
  go_wp2_with fail
  go_ret
  exact ⟨⟨v', rfl, h3.out⟩, b4.out⟩
end Pl
end
section
open Go.RowKit Go.Shelf
attribute [local go_sem] Fl.run_store_float
namespace Pl
open Mem Tp Tr Mo Fo Sn Og St Iv
theorem infoErr : (Tryz.prog.info? 37).map (fun i => (i.zero, i.size, i.bytes)) = some (some (.int .i64 0), 1, 8) := by kernel_rfl
def OwnC (w : World) (base : Nat) (v : Value) (l : List Int) : Prop := w.ownsRow base 37 1 v l.length (l.map (Value.int .i64))
def OkD (l : List Dd) : Prop := l.length ≤ 45 ∧ ∀ d ∈ l, d.nm.size ≤ 100 ∧ d.rk < 2 * Fl.S
theorem OkD.run {l : List Dd} (h : OkD l) {n k : Nat} {rs : List Rp} {pool : List Mv} {cs : List Int} (hr : RunS n (l.take k) rs pool cs) : InvS k rs pool ∧ cs.length ≤ k ∧ rs.length = n := by
  have h1 := hr.inv (fun d hd => (h.2 d (List.mem_of_mem_take hd)).2)
  have h2 := hr.len
  rw [List.length_take] at h1 h2
  exact ⟨h1.mono (by omega), by omega, h2.1⟩
theorem map_x0 (n : Nat) : (List.replicate n x0).map (·.2) = List.replicate n r0 := by rw [List.map_replicate]; rfl
theorem take_snoc {α : Type} {l : List α} {k : Nat} {x : α} (h : l[k]? = some x) : l.take (k + 1) = l.take k ++ [x] := by rw [List.take_add_one, h]; rfl
theorem run_any (n : Nat) (v : Value) (l : List Dd) (w : World) (hn : 1 ≤ n) (h8 : n ≤ 8) (hS : Mem.Dds w v l) (hl : OkD l) :
    Calls Tryz.prog 32 #[.int .i64 (n : Int), v] w fun e w' => ∃ (p b : Nat) (vp : Value) (xs : List X3) (pool : List Mv) (cs : List Int) (v' : Value), e = .returned (.tuple #[.pointer (some ⟨p, 0, none⟩), v']) ∧ RunS n l (xs.map (·.2)) pool cs ∧ PW w' w.heap.size p b vp xs pool ∧ OwnC w' w.heap.size v' cs ∧ Below w.heap.size w w' := by
  obtain ⟨a, cap, rfl⟩ := hS.len
  obtain ⟨i0, hi, hz0, hz1, hz2⟩ := info_parts infoErr
  have HN := Lib.hid (new_any n w hn h8)
  have hlen := hl.1
  have HS := Lib.hid hS
  have HL := Lib.hid hl
  clear hS hl
  go_enter Tryz.func32, Tryz.ntmps32
  go_wp2_with fail
  refine HN.out.mono ?_
  rintro e w1 ⟨p, b, rfl, hP, b1⟩
  have hsz1 := b1.size
  replace hP := Lib.hid hP
  replace b1 := Lib.hid b1
  go_wp2_with fail
  go_loopw [7, 14] (fun v i wr => ∃ (k : Nat) (vp : Value) (xs : List X3) (pool : List Mv) (cs : List Int), i = .int .i64 k ∧ k ≤ l.length ∧ Hid (RunS n (l.take k) (xs.map (·.2)) pool cs) ∧ Hid (PW wr w.heap.size p b vp xs pool) ∧ Hid (OwnC wr w.heap.size v cs) ∧ Hid (∀ j, v.ownBlock = some j → ¬ PB p b vp xs j) ∧ Hid (Below w.heap.size w wr)) (fun _ i _ => l.length - (intOf i).toNat)
  case atStart => exact ⟨0, _, _, _, [], rfl, by omega, Lib.hid (by rw [map_x0]; exact RunS.nil), hP, Lib.hid (World.ownsRow_nil _ _ _ _), Lib.hid (fun j e => by simp [Value.ownBlock] at e), b1⟩
  case round =>
    obtain ⟨k, vp, xs, pool, cs, rfl, hk, hr, hPr, hO, hsep, hb⟩ := hrel
    by_cases hlt : k < l.length
    · have hlt' : (k : Int) < (l.length : Nat) := by omega
      obtain ⟨x, hx⟩ := some_at hlt
      obtain ⟨bd, off, rfl⟩ := HS.out.addr (by omega)
      have hSr := HS.out.below hb.out
      have hbl := sl_lt hSr (by omega)
      obtain ⟨q0, q1, q2, q3, q4, q5, q6, q7⟩ := dd_at hSr rfl hx
      obtain ⟨hinv, hcl, hrl⟩ := HL.out.run hr.out
      have hxd := HL.out.2 x (List.mem_of_getElem? hx)
      have hlw := hb.out.size
      have hg := alloc_new wr (.cells #[.int .i64 x.kind, .int .i64 x.who, .int .i64 x.frm, .int .i64 x.at_, .int .i64 x.pa, .int .i64 x.ch, .string x.nm, .float .f64 x.rk] 63)
      have hb1 := hb.out.alloc hlw (.cells #[.int .i64 x.kind, .int .i64 x.who, .int .i64 x.frm, .int .i64 x.at_, .int .i64 x.pa, .int .i64 x.ch, .string x.nm, .float .f64 x.rk] 63)
      have hP1 := hPr.out.below ((Below.refl wr.heap.size wr).alloc (Nat.le_refl _) (.cells #[.int .i64 x.kind, .int .i64 x.who, .int .i64 x.frm, .int .i64 x.at_, .int .i64 x.pa, .int .i64 x.ch, .string x.nm, .float .f64 x.rk] 63))
      have hO1 := own_below hO.out ((Below.refl wr.heap.size wr).alloc (Nat.le_refl _) (.cells #[.int .i64 x.kind, .int .i64 x.who, .int .i64 x.frm, .int .i64 x.at_, .int .i64 x.pa, .int .i64 x.ch, .string x.nm, .float .f64 x.rk] 63))
      have HST := Lib.hid (step_any x _ hP1 (fun y hy => hinv.okR (by omega) _ (List.mem_map_of_mem hy)) (by omega) (by have := hinv.p; omega) (fun m hm => by have := hinv.nm m hm; omega))
      unfold dedV at HST
      have d0 : (wr.alloc (.cells #[.int .i64 x.kind, .int .i64 x.who, .int .i64 x.frm, .int .i64 x.at_, .int .i64 x.pa, .int .i64 x.ch, .string x.nm, .float .f64 x.rk] 63)).cell? ⟨wr.heap.size, 0, none⟩ = some (.int .i64 x.kind) := cell_at hg 0
      have d1 : (wr.alloc (.cells #[.int .i64 x.kind, .int .i64 x.who, .int .i64 x.frm, .int .i64 x.at_, .int .i64 x.pa, .int .i64 x.ch, .string x.nm, .float .f64 x.rk] 63)).cell? ⟨wr.heap.size, 1, none⟩ = some (.int .i64 x.who) := cell_at hg 1
      have d2 : (wr.alloc (.cells #[.int .i64 x.kind, .int .i64 x.who, .int .i64 x.frm, .int .i64 x.at_, .int .i64 x.pa, .int .i64 x.ch, .string x.nm, .float .f64 x.rk] 63)).cell? ⟨wr.heap.size, 2, none⟩ = some (.int .i64 x.frm) := cell_at hg 2
      have d3 : (wr.alloc (.cells #[.int .i64 x.kind, .int .i64 x.who, .int .i64 x.frm, .int .i64 x.at_, .int .i64 x.pa, .int .i64 x.ch, .string x.nm, .float .f64 x.rk] 63)).cell? ⟨wr.heap.size, 3, none⟩ = some (.int .i64 x.at_) := cell_at hg 3
      have d4 : (wr.alloc (.cells #[.int .i64 x.kind, .int .i64 x.who, .int .i64 x.frm, .int .i64 x.at_, .int .i64 x.pa, .int .i64 x.ch, .string x.nm, .float .f64 x.rk] 63)).cell? ⟨wr.heap.size, 4, none⟩ = some (.int .i64 x.pa) := cell_at hg 4
      have d5 : (wr.alloc (.cells #[.int .i64 x.kind, .int .i64 x.who, .int .i64 x.frm, .int .i64 x.at_, .int .i64 x.pa, .int .i64 x.ch, .string x.nm, .float .f64 x.rk] 63)).cell? ⟨wr.heap.size, 5, none⟩ = some (.int .i64 x.ch) := cell_at hg 5
      have d6 : (wr.alloc (.cells #[.int .i64 x.kind, .int .i64 x.who, .int .i64 x.frm, .int .i64 x.at_, .int .i64 x.pa, .int .i64 x.ch, .string x.nm, .float .f64 x.rk] 63)).cell? ⟨wr.heap.size, 6, none⟩ = some (.string x.nm) := cell_at hg 6
      have d7 : (wr.alloc (.cells #[.int .i64 x.kind, .int .i64 x.who, .int .i64 x.frm, .int .i64 x.at_, .int .i64 x.pa, .int .i64 x.ch, .string x.nm, .float .f64 x.rk] 63)).cell? ⟨wr.heap.size, 7, none⟩ = some (.float .f64 x.rk) := cell_at hg 7
      replace hg := Lib.hid hg
      replace hb1 := Lib.hid hb1
      replace hP1 := Lib.hid hP1
      replace hO1 := Lib.hid hO1
      replace hx := Lib.hid hx
      replace hinv := Lib.hid hinv
      replace hxd := Lib.hid hxd
      clear hSr
      obtain ⟨av, kv, ev⟩ := (own_sl hO1.out).len
      subst ev
      go_wp2_with fail
      refine HST.out.mono ?_
      rintro e w2 ⟨vp', xs', pool', c, rfl, hSt, hP2, hb2, hk2, hn2⟩
      have hs2 := hk2.size
      simp only [World.size_alloc] at hs2 hn2
      have hlo := fun j (e : (Value.slice av cs.length kv).ownBlock = some j) => (hO1.out.lt j e)
      have hlo0 := fun j (e : (Value.slice av cs.length kv).ownBlock = some j) => (hO.out.lt j e)
      have hO2 := own_other hO1.out (fun j e => hk2.block j (hlo j e).2 (fun q => hsep.out j e (q.elim .inl (fun q => q.elim (fun q => .inr (.inl q)) (fun q => .inr (.inr (.inl q)))))))
      have hb3 := (hb1.out.trans hb2).alloc (by omega) (.cells #[.int .i64 c] 37)
      have hP3 := hP2.below ((Below.refl w2.heap.size w2).alloc (Nat.le_refl _) (.cells #[.int .i64 c] 37))
      have hO3 := own_below hO2 ((Below.refl w2.heap.size w2).alloc (Nat.le_refl _) (.cells #[.int .i64 c] 37))
      have h3 := alloc_new w2 (.cells #[.int .i64 c] 37)
      have hr2 : RunS n (l.take (k + 1)) (xs'.map (·.2)) pool' (cs ++ [c]) := by rw [take_snoc hx.out]; exact hr.out.snoc hSt
      have hsep2 : ∀ j, (Value.slice av cs.length kv).ownBlock = some j → ¬ PB p b vp' xs' j := fun j e q => by
        rcases hn2 j q with h | h
        · exact hsep.out j e h
        · have := (hlo0 j e).2; omega
      replace hSt := Lib.hid hSt
      replace hP2 := Lib.hid hP2
      replace hb2 := Lib.hid hb2
      replace hk2 := Lib.hid hk2
      replace hn2 := Lib.hid hn2
      replace hO2 := Lib.hid hO2
      replace hb3 := Lib.hid hb3
      replace hP3 := Lib.hid hP3
      replace hO3 := Lib.hid hO3
      replace hlo := Lib.hid hlo
      replace hlo0 := Lib.hid hlo0
      replace hr2 := Lib.hid hr2
      replace hsep2 := Lib.hid hsep2
      clear d0 d1 d2 d3 d4 d5 d6 d7 q0 q1 q2 q3 q4 q5 q6 q7
      go_wp2_with (at_builtin; refine wpList_append_near (by rfl) (.tmp 18) (.tmp 22) 79 (by rfl) w.heap.size 37 i0 (.int .i64 0) 1 8 Tryz.underlying79 hi hz0 hz1 hz2 rfl (by decide) _ cs.length (cs.map (Value.int .i64)) (by rfl) hO3.out w2.heap.size 1 1 [Value.int .i64 c] (by rfl) rfl h3 (by intro u hu; rw [List.mem_singleton.1 hu]; rfl) (by unfold maxLen; omega) (by omega) (by simp; omega) ?_; intro v5 w5 hown hgrow hnear)
      have hgr := hgrow.out
      have hgs := hgr.size
      simp only [World.size_alloc] at hgs
      have hP5 := hP3.out.same hgr.size (fun j hj => hgr.block j (hP3.out.lt hj) (fun e => hsep2.out j e.symm hj))
      have hb5 := hb3.out.grown hgr hb3.out.size (fun j e => (hlo.out j e).1)
      have hsep5 : ∀ j, v5.ownBlock = some j → ¬ PB p b vp' xs' j := fun j e q => by
        rcases hnear.out j e with h | h
        · exact hsep2.out j h q
        · have := hP3.out.lt q; omega
      have hO5 : OwnC w5 w.heap.size v5 (cs ++ [c]) := by
        unfold OwnC
        rw [List.length_append, List.length_singleton, List.map_append]
        exact hown.out
      replace hP5 := Lib.hid hP5
      replace hb5 := Lib.hid hb5
      replace hsep5 := Lib.hid hsep5
      replace hO5 := Lib.hid hO5
      clear hown hgrow hnear hgr
      go_wp2_with fail
      go_roundw
      case rel => exact ⟨k + 1, vp', xs', pool', cs ++ [c], by go_num, by omega, hr2, hP5, hO5, hsep5, hb5⟩
      case measure => simp [intOf]; omega
    · obtain rfl : k = l.length := by omega
      have hge : ¬ ((l.length : Int) < (l.length : Nat)) := by omega
      go_wp2_with fail
      go_ret2
      have hr' := hr.out
      rw [List.take_length] at hr'
      exact ⟨p, b, vp, xs, pool, cs, _, rfl, hr', hPr.out, hO.out, hb.out⟩
end Pl
end
section
open Go.RowKit
namespace Fl
theorem wd_lt (s : Bool) {r : Nat} (h : r ≤ I) : wd s r < 2 * S := by
  have := I_lt_S
  unfold wd; split <;> omega
theorem not_nan (s : Bool) {r : Nat} (h : r ≤ I) : isNan (wd s r) = false := by
  have := I_lt_S
  have e : wd s r % S = r := by
    cases s
    · rw [wd_false, Nat.mod_eq_of_lt (by omega)]
    · show (S + r) % S = r
      rw [Nat.add_mod_left, Nat.mod_eq_of_lt (by omega)]
  unfold isNan
  rw [e]
  exact decide_eq_false (by omega)
theorem fo_gt (s t : Bool) {r q : Nat} (hr : r ≤ I) (hq : q ≤ I) (h : sg t q < sg s r) : FloatKind.f64.format.order (wd s r) (wd t q) = some .gt := by
  rw [fo_num s t hr hq, Int.compare_eq_gt.2 h]
theorem sg_f (r : Nat) : sg false r = (r : Int) := rfl
end Fl
end
section
open Go.RowKit
namespace Fl
theorem rtop_any (w : World) : Calls Tryz.prog 172 #[] w fun e w' => e = .returned (.int .u64 9223372036854775808) ∧ w = w' := by
  go_enter Tryz.func172, Tryz.ntmps172
  go_wp2_with fail
  go_ret
  exact ⟨rfl, rfl⟩
theorem rnone_any (w : World) : Calls Tryz.prog 170 #[] w fun e w' => e = .returned (.int .u64 9221120237041090560) ∧ w = w' := by
  go_enter Tryz.func170, Tryz.ntmps170
  go_wp2_with fail
  go_ret
  exact ⟨rfl, rfl⟩
theorem rminus_num (s : Bool) (r : Nat) (w : World) (hr : r ≤ I) :
    Calls Tryz.prog 171 #[.float .f64 (wd s r)] w fun e w' => e = .returned (.bool s) ∧ w = w' := by
  rcases Nat.eq_zero_or_pos r with h0 | h0
  · subst h0
    have ho := fo_zero s
    cases s
    · have hd := run_div (a := 4607182418800017408) (b := wd false 0) (r := wd false I) (by decide +kernel)
      have hi := fo_pos (r := I) (by decide) (Nat.le_refl _)
      generalize wd false 0 = b at *
      generalize wd false I = c at *
      go_enter Tryz.func171, Tryz.ntmps171
      go_wp2_with fail
      go_ret
      exact ⟨rfl, rfl⟩
    · have hd := run_div (a := 4607182418800017408) (b := wd true 0) (r := wd true I) (by decide +kernel)
      have hi := fo_neg (r := I) (by decide) (Nat.le_refl _)
      generalize wd true 0 = b at *
      generalize wd true I = c at *
      go_enter Tryz.func171, Tryz.ntmps171
      go_wp2_with fail
      go_ret
      exact ⟨rfl, rfl⟩
  · cases s
    · have ho := fo_pos h0 hr
      generalize wd false r = b at *
      go_enter Tryz.func171, Tryz.ntmps171
      go_wp2_with fail
      go_ret
      exact ⟨rfl, rfl⟩
    · have ho := fo_neg h0 hr
      generalize wd true r = b at *
      go_enter Tryz.func171, Tryz.ntmps171
      go_wp2_with fail
      go_ret
      exact ⟨rfl, rfl⟩
theorem rbits_nan (b : Nat) (w : World) (hb : b < 2 * S) (h : isNan b = true) :
    Calls Tryz.prog 125 #[.float .f64 b] w fun e w' => e = .returned (.int .u64 (nanU : Nat)) ∧ w = w' := by
  have ho : FloatKind.f64.format.order b b = none := order_nan_left b b hb h
  go_enter Tryz.func125, Tryz.ntmps125
  go_wp2_with fail
  refine (rnone_any _).mono ?_
  rintro e w' ⟨rfl, rfl⟩
  go_wp2_with fail
  go_ret
  exact ⟨rfl, rfl⟩
theorem rbits_zero (s : Bool) (w : World) :
    Calls Tryz.prog 125 #[.float .f64 (wd s 0)] w fun e w' => e = .returned (.int .u64 (wd s 0 : Nat)) ∧ w = w' := by
  have ho := fo_zero false
  have he := order_self (wd_lt s (r := 0) (by decide)) (not_nan s (by decide))
  cases s
  · go_enter Tryz.func125, Tryz.ntmps125
    go_wp2_with fail
    refine (rminus_num false 0 _ (by decide)).mono ?_
    rintro e w' ⟨rfl, rfl⟩
    go_wp2_with fail
    go_ret
    exact ⟨rfl, rfl⟩
  · have hn := run_neg true (r := 0) (by decide)
    go_enter Tryz.func125, Tryz.ntmps125
    go_wp2_with fail
    refine (rminus_num true 0 _ (by decide)).mono ?_
    rintro e w' ⟨rfl, rfl⟩
    go_wp2_with fail
    refine (rtop_any _).mono ?_
    rintro e w' ⟨rfl, rfl⟩
    go_wp2_with fail
    go_ret
    exact ⟨rfl, rfl⟩
theorem rbits_inf (s : Bool) (w : World) :
    Calls Tryz.prog 125 #[.float .f64 (wd s I)] w fun e w' => e = .returned (.int .u64 (wd s I : Nat)) ∧ w = w' := by
  have he := order_self (wd_lt s (Nat.le_refl I)) (not_nan s (Nat.le_refl I))
  have he' := eq_self (r := I) (Nat.le_refl _)
  have ho : FloatKind.f64.format.order (wd false I) 0 = some .gt := fo_pos (by decide) (Nat.le_refl _)
  have hd := run_mul (a := wd false I) (b := 4611686018427387904) (r := wd false I) (by decide +kernel)
  cases s
  · go_enter Tryz.func125, Tryz.ntmps125
    go_wp2_with fail
    refine (rminus_num false I _ (Nat.le_refl _)).mono ?_
    rintro e w' ⟨rfl, rfl⟩
    go_wp2_with fail
    go_ret
    exact ⟨rfl, rfl⟩
  · have hn := run_neg true (r := I) I_lt_S
    go_enter Tryz.func125, Tryz.ntmps125
    go_wp2_with fail
    refine (rminus_num true I _ (Nat.le_refl _)).mono ?_
    rintro e w' ⟨rfl, rfl⟩
    go_wp2_with fail
    refine (rtop_any _).mono ?_
    rintro e w' ⟨rfl, rfl⟩
    go_wp2_with fail
    go_ret
    exact ⟨rfl, rfl⟩
end Fl
end
section
open Go.RowKit
namespace Fl
theorem two_R : 4611686018427387904 = R 1 1075 := by decide +kernel
theorem one_R : 4607182418800017408 = R 1 1074 := by decide +kernel
theorem half_R : 4602678819172646912 = R 1 1073 := by decide +kernel
theorem mul_two {m j : Nat} (hm : m < 2 * B) (hf : R m (j + 1) < I) : Ieee.double.mul (R m j) 4611686018427387904 = some (R m (j + 1)) := by
  have := mul_pow false (m := m) (j := j) (i := 1075) hm (Nat.lt_of_le_of_lt (R_mono hm (by omega)) hf) (by decide +kernel) (by omega)
  rw [wd_false, wd_false, show j + 1075 - 1074 = j + 1 from by omega, Nat.min_eq_left (Nat.le_of_lt hf)] at this
  rw [two_R]; exact this
theorem mul_half {m j : Nat} (hm : m < 2 * B) (hf : R m j < I) (hj : 1 ≤ j) : Ieee.double.mul (R m j) 4602678819172646912 = some (R m (j - 1)) := by
  have hf' : R m (j - 1) < I := Nat.lt_of_le_of_lt (R_mono hm (by omega)) hf
  have := mul_pow false (m := m) (j := j) (i := 1073) hm hf (by decide +kernel) (by omega)
  rw [wd_false, wd_false, show j + 1073 - 1074 = j - 1 from by omega, Nat.min_eq_left (Nat.le_of_lt hf')] at this
  rw [half_R]; exact this
theorem rbits_fin (s : Bool) (r : Nat) (w : World) (h0 : 0 < r) (hr : r < I) :
    Calls Tryz.prog 125 #[.float .f64 (wd s r)] w fun e w' => e = .returned (.int .u64 (wd s r : Nat)) ∧ w = w' := by
  have hself := R_self r
  have hm0 := mg_pos h0
  have hm := mg_lt r
  have hlog := log2_of_fin h0 hr
  generalize mg r = m at *
  generalize pl r = j at *
  subst hself
  obtain ⟨n1, n2, n3⟩ := norm_range hm0 hm
  have he := order_self (wd_lt s (Nat.le_of_lt hr)) (not_nan s (Nat.le_of_lt hr))
  have ho : FloatKind.f64.format.order (wd false (R m j)) 0 = some .gt := fo_pos h0 (Nat.le_of_lt hr)
  have hd := run_mul (a := wd false (R m j)) (b := 4611686018427387904) (r := wd false (min (R m (j + 1)) I)) (by
    have := mul_pow false (m := m) (j := j) (i := 1075) hm hr (by decide +kernel) (by omega)
    rw [show j + 1075 - 1074 = j + 1 from by omega] at this
    rw [two_R]; exact this)
  have hlt : FloatKind.f64.format.order (wd false (min (R m (j + 1)) I)) (wd false (R m j)) = some .gt := by
    refine fo_gt _ _ (Nat.min_le_right _ _) (Nat.le_of_lt hr) ?_
    have h1 : R m j < R m (j + 1) := by
      have a := @R_le m (j + 1) m j hm hm
      have b : ¬ m * 2 ^ (j + 1) ≤ m * 2 ^ j := by
        rw [Nat.pow_succ, ← Nat.mul_assoc]
        have := Nat.mul_pos hm0 (Nat.two_pow_pos j)
        omega
      omega
    rw [sg_f, sg_f]
    omega
  have hnf : ∀ w, (Op.unary .neg (.float .f64 (wd true (R m j)))).run Tryz.prog w = .ok (.float .f64 (wd false (R m j))) w := fun w => run_neg true (r := R m j) (by have := I_lt_S; omega) w
  have HM := Lib.hid (fun s w => rminus_num s (R m j) w (Nat.le_of_lt hr))
  have HW := Lib.hid (show ∀ s, wd s (R m j) = (if s then 9223372036854775808 else 0) + R m j from fun s => by cases s <;> simp [wd, S])
  have HR : Hid (R m j = if m.log2 + j < 52 then m * 2 ^ j else (m.log2 + j - 51) * 4503599627370496 + (m * 2 ^ (52 - m.log2) - 4503599627370496)) := Lib.hid (by
    have hB : B = 4503599627370496 := rfl
    unfold R
    rw [if_neg (by omega)]
    by_cases h : m.log2 + j < 52
    · rw [if_pos h, if_pos h]
    · rw [if_neg h, if_neg h, show m.log2 + j - 51 = (m.log2 + j - 52) + 1 from by omega, Nat.succ_mul, hB]
      omega)
  have HS := Lib.hid (hr)
  have HI : Hid (I = 9218868437227405312) := Lib.hid rfl
  have hfin : ∀ i, m.log2 + i < 2098 → R m i < I := fun i h => fin_of hm0 hm h
  replace hfin := Lib.hid hfin
  have HM2 := Lib.hid hm
  have HM0 := Lib.hid hm0
  have HN1 := Lib.hid n1
  have HN2 := Lib.hid n2
  generalize hQ : wd false (min (R m (j + 1)) I) = Q at *
  clear hQ h0 hr hm hm0 n1 n2
  have HMF := Lib.hid (HM.out false)
  have HMT := Lib.hid (HM.out true)
  have hF' : Hid (wd false (R m j) = R m j) := Lib.hid (wd_false _)
  have hT' : Hid (wd true (R m j) = 9223372036854775808 + R m j) := Lib.hid rfl
  clear HM HW
  cases s
  · generalize wd false (R m j) = F at *
    generalize wd true (R m j) = T at *
    go_enter Tryz.func125, Tryz.ntmps125
    go_wp2_with fail
    refine (HMF.out _).mono ?_
    rintro e w' ⟨rfl, rfl⟩
    go_wp2_with fail
    clear hd hlt ho he hnf
    go_loop [0, 4] (fun f e => ∃ i E : Nat, f = .float .f64 (R m i) ∧ e = .int .u64 (E : Nat) ∧ E + i = 1023 + j ∧ 1 ≤ E ∧ m.log2 + i < 2098) (fun _ e => (4096 - intOf e).toNat)
    case atStart => exact ⟨j, 1023, by rw [hF'.out], rfl, rfl, by omega, hlog⟩
    case round =>
      obtain ⟨i, E, rfl, rfl, hE, hE1, hi⟩ := hrel
      by_cases hge : 1075 ≤ m.log2 + i
      · have hmul := run_mul (mul_half HM2.out (hfin.out i hi) (by omega))
        have ho : FloatKind.f64.format.order (R m i) 4611686018427387904 = some .gt ∨ FloatKind.f64.format.order (R m i) 4611686018427387904 = some .eq := by
          rw [two_R]; exact pow_ge HM0.out HM2.out (hfin.out i hi) hge
        rcases ho with ho | ho
        all_goals
          go_wp2_with fail
          go_round
          case rel => exact ⟨i - 1, E + 1, rfl, by go_num, by omega, by omega, by omega⟩
          case measure => simp [intOf]; omega
      · have ho : FloatKind.f64.format.order (R m i) 4611686018427387904 = some .lt := by
          rw [two_R]; exact pow_lt HM0.out HM2.out (by decide) (by omega)
        go_wp2_with fail
        clear ho
        go_loop [0, 4] (fun f e => ∃ i E : Nat, f = .float .f64 (R m i) ∧ e = .int .u64 (E : Nat) ∧ E + i = 1023 + j ∧ 1 ≤ E ∧ m.log2 + i ≤ 1074) (fun _ e => (intOf e).toNat)
        case atStart => exact ⟨i, E, rfl, rfl, hE, hE1, by omega⟩
        case round =>
          clear hE hE1 hi hge
          obtain ⟨i, E, rfl, rfl, hE, hE1, hi⟩ := hrel
          by_cases hlt : m.log2 + i < 1074
          · have ho : FloatKind.f64.format.order (R m i) 4607182418800017408 = some .lt := by
              rw [one_R]; exact pow_lt HM0.out HM2.out (by decide) (by omega)
            by_cases h1 : 1 < E
            · have hmul := run_mul (mul_two HM2.out (hfin.out (i + 1) (by omega)))
              go_wp2_with fail
              go_round
              case rel => exact ⟨i + 1, E - 1, rfl, by go_num, by omega, by omega, by omega⟩
              case measure => simp [intOf]; omega
            · obtain rfl : E = 1 := by omega
              obtain rfl : i = 1022 + j := by omega
              clear hE hE1 h1
              go_wp2_with fail
              clear ho
              have hjj : m.log2 + j < 52 := by omega
              have hp : m * 2 ^ j ≤ m * 2 ^ (52 - m.log2) := Nat.mul_le_mul_left _ (Nat.pow_le_pow_right (by decide) (by omega))
              have hV : m * 2 ^ j < 2 * B := Nat.lt_of_le_of_lt hp HN2.out
              have hB : B = 4503599627370496 := rfl
              have hc := run_to_u64 (a := R m (1022 + j + 52)) (n := m * 2 ^ j) (by
                rw [show 1022 + j + 52 = j + 1074 from by omega, ← R_move hV]
                exact to_whole hV (whole_fin hV)) (by omega)
              have hR := HR.out
              rw [if_pos hjj] at hR
              have hfinal := Lib.hid (show (m * 2 ^ j : Nat) = R m j from hR.symm)
              replace hV : m * 2 ^ j < 9007199254740992 := hV
              clear hR hp HR HN2 HN1 hB
              generalize m * 2 ^ j = V at *
              go_loop [0, 5] (fun f x => ∃ k : Nat, k ≤ 52 ∧ x = .int .i64 (k : Nat) ∧ f = .float .f64 (R m (1022 + j + k))) (fun _ x => 52 - (intOf x).toNat)
              case atStart => exact ⟨0, by omega, by go_num, rfl⟩
              case round =>
                obtain ⟨k, hk, rfl, rfl⟩ := hrel
                by_cases hk1 : k < 52
                · have hmul := run_mul (mul_two HM2.out (hfin.out (1022 + j + k + 1) (by omega)))
                  go_wp2_with fail
                  go_round
                  case rel => exact ⟨k + 1, by omega, by go_num, rfl⟩
                  case measure => simp [intOf]; omega
                · obtain rfl : k = 52 := by omega
                  go_wp2_with fail
                  go_ret
                  refine ⟨ret_u64 ?_, rfl⟩
                  rw [hF'.out, ← hfinal.out]
                  all_goals omega
          · have ho : FloatKind.f64.format.order (R m i) 4607182418800017408 = some .gt ∨ FloatKind.f64.format.order (R m i) 4607182418800017408 = some .eq := by
              rw [one_R]; exact pow_ge HM0.out HM2.out (hfin.out i (by omega)) (by omega)
            have hsub := run_sub (a := R m i) (b := 4607182418800017408) (r := R (m * 2 ^ (52 - m.log2) - B) 1022) (by
              have e := R_move (m := m) (a := 52 - m.log2) (j := 1022) HN2.out
              rw [show 52 - m.log2 + 1022 = i from by omega] at e
              rw [← e, one_R]
              exact sub_one HN1.out HN2.out)
            rcases ho with ho | ho
            all_goals
              go_wp2_with fail
              clear ho
              have hB : B = 4503599627370496 := rfl
              have hN : m * 2 ^ (52 - m.log2) - B < 2 * B := by have := HN2.out; omega
              have hc := run_to_u64 (a := R (m * 2 ^ (52 - m.log2) - B) (1022 + 52)) (n := m * 2 ^ (52 - m.log2) - B) (to_whole hN (whole_fin hN)) (by omega)
              have hR := HR.out
              rw [if_neg (show ¬ m.log2 + j < 52 by omega), show m.log2 + j - 51 = E from by omega] at hR
              have hNN := Lib.hid hN
              have hE2 : (E : Int) ≤ 2046 := by omega
              have hf3 : ∀ k, k ≤ 52 → R (m * 2 ^ (52 - m.log2) - B) (1022 + k) < I := fun k hk => Nat.lt_of_le_of_lt (R_mono hN (show 1022 + k ≤ 1074 by omega)) (whole_fin hN)
              have HF3 := Lib.hid hf3
              rw [← hB] at hR
              have hN3 : m * 2 ^ (52 - m.log2) - B < 9007199254740992 := by omega
              clear hsub HR HN2 HN1 hf3 hN
              generalize m * 2 ^ (52 - m.log2) - B = N at *
              have hfinal := Lib.hid hR
              clear hR hB
              go_loop [0, 5] (fun f x => ∃ k : Nat, k ≤ 52 ∧ x = .int .i64 (k : Nat) ∧ f = .float .f64 (R N (1022 + k))) (fun _ x => 52 - (intOf x).toNat)
              case atStart => exact ⟨0, by omega, by go_num, rfl⟩
              case round =>
                obtain ⟨k, hk, rfl, rfl⟩ := hrel
                by_cases hk1 : k < 52
                · have hmul := run_mul (mul_two (m := N) (j := 1022 + k) hNN.out (HF3.out (k + 1) (by omega)))
                  go_wp2_with fail
                  go_round
                  case rel => exact ⟨k + 1, by omega, by go_num, rfl⟩
                  case measure => simp [intOf]; omega
                · obtain rfl : k = 52 := by omega
                  go_wp2_with fail
                  go_ret
                  refine ⟨ret_u64 ?_, rfl⟩
                  rw [hF'.out, hfinal.out]
                  show _ = (((_ : Nat)) : Int)
                  have hb : B = 4503599627370496 := rfl
                  rw [hb]
                  all_goals omega
  · generalize wd false (R m j) = F at *
    generalize wd true (R m j) = T at *
    go_enter Tryz.func125, Tryz.ntmps125
    go_wp2_with fail
    refine (HMT.out _).mono ?_
    rintro e w' ⟨rfl, rfl⟩
    go_wp2_with fail
    refine (rtop_any _).mono ?_
    rintro e w' ⟨rfl, rfl⟩
    go_wp2_with fail
    clear hd hlt ho he hnf
    go_loop [0, 4] (fun f e => ∃ i E : Nat, f = .float .f64 (R m i) ∧ e = .int .u64 (E : Nat) ∧ E + i = 1023 + j ∧ 1 ≤ E ∧ m.log2 + i < 2098) (fun _ e => (4096 - intOf e).toNat)
    case atStart => exact ⟨j, 1023, by rw [hF'.out], rfl, rfl, by omega, hlog⟩
    case round =>
      obtain ⟨i, E, rfl, rfl, hE, hE1, hi⟩ := hrel
      by_cases hge : 1075 ≤ m.log2 + i
      · have hmul := run_mul (mul_half HM2.out (hfin.out i hi) (by omega))
        have ho : FloatKind.f64.format.order (R m i) 4611686018427387904 = some .gt ∨ FloatKind.f64.format.order (R m i) 4611686018427387904 = some .eq := by
          rw [two_R]; exact pow_ge HM0.out HM2.out (hfin.out i hi) hge
        rcases ho with ho | ho
        all_goals
          go_wp2_with fail
          go_round
          case rel => exact ⟨i - 1, E + 1, rfl, by go_num, by omega, by omega, by omega⟩
          case measure => simp [intOf]; omega
      · have ho : FloatKind.f64.format.order (R m i) 4611686018427387904 = some .lt := by
          rw [two_R]; exact pow_lt HM0.out HM2.out (by decide) (by omega)
        go_wp2_with fail
        clear ho
        go_loop [0, 4] (fun f e => ∃ i E : Nat, f = .float .f64 (R m i) ∧ e = .int .u64 (E : Nat) ∧ E + i = 1023 + j ∧ 1 ≤ E ∧ m.log2 + i ≤ 1074) (fun _ e => (intOf e).toNat)
        case atStart => exact ⟨i, E, rfl, rfl, hE, hE1, by omega⟩
        case round =>
          clear hE hE1 hi hge
          obtain ⟨i, E, rfl, rfl, hE, hE1, hi⟩ := hrel
          by_cases hlt : m.log2 + i < 1074
          · have ho : FloatKind.f64.format.order (R m i) 4607182418800017408 = some .lt := by
              rw [one_R]; exact pow_lt HM0.out HM2.out (by decide) (by omega)
            by_cases h1 : 1 < E
            · have hmul := run_mul (mul_two HM2.out (hfin.out (i + 1) (by omega)))
              go_wp2_with fail
              go_round
              case rel => exact ⟨i + 1, E - 1, rfl, by go_num, by omega, by omega, by omega⟩
              case measure => simp [intOf]; omega
            · obtain rfl : E = 1 := by omega
              obtain rfl : i = 1022 + j := by omega
              clear hE hE1 h1
              go_wp2_with fail
              clear ho
              have hjj : m.log2 + j < 52 := by omega
              have hp : m * 2 ^ j ≤ m * 2 ^ (52 - m.log2) := Nat.mul_le_mul_left _ (Nat.pow_le_pow_right (by decide) (by omega))
              have hV : m * 2 ^ j < 2 * B := Nat.lt_of_le_of_lt hp HN2.out
              have hB : B = 4503599627370496 := rfl
              have hc := run_to_u64 (a := R m (1022 + j + 52)) (n := m * 2 ^ j) (by
                rw [show 1022 + j + 52 = j + 1074 from by omega, ← R_move hV]
                exact to_whole hV (whole_fin hV)) (by omega)
              have hR := HR.out
              rw [if_pos hjj] at hR
              have hfinal := Lib.hid (show (m * 2 ^ j : Nat) = R m j from hR.symm)
              replace hV : m * 2 ^ j < 9007199254740992 := hV
              clear hR hp HR HN2 HN1 hB
              generalize m * 2 ^ j = V at *
              go_loop [0, 5] (fun f x => ∃ k : Nat, k ≤ 52 ∧ x = .int .i64 (k : Nat) ∧ f = .float .f64 (R m (1022 + j + k))) (fun _ x => 52 - (intOf x).toNat)
              case atStart => exact ⟨0, by omega, by go_num, rfl⟩
              case round =>
                obtain ⟨k, hk, rfl, rfl⟩ := hrel
                by_cases hk1 : k < 52
                · have hmul := run_mul (mul_two HM2.out (hfin.out (1022 + j + k + 1) (by omega)))
                  go_wp2_with fail
                  go_round
                  case rel => exact ⟨k + 1, by omega, by go_num, rfl⟩
                  case measure => simp [intOf]; omega
                · obtain rfl : k = 52 := by omega
                  go_wp2_with fail
                  go_ret
                  refine ⟨ret_u64 ?_, rfl⟩
                  rw [hT'.out, ← hfinal.out]
                  all_goals omega
          · have ho : FloatKind.f64.format.order (R m i) 4607182418800017408 = some .gt ∨ FloatKind.f64.format.order (R m i) 4607182418800017408 = some .eq := by
              rw [one_R]; exact pow_ge HM0.out HM2.out (hfin.out i (by omega)) (by omega)
            have hsub := run_sub (a := R m i) (b := 4607182418800017408) (r := R (m * 2 ^ (52 - m.log2) - B) 1022) (by
              have e := R_move (m := m) (a := 52 - m.log2) (j := 1022) HN2.out
              rw [show 52 - m.log2 + 1022 = i from by omega] at e
              rw [← e, one_R]
              exact sub_one HN1.out HN2.out)
            rcases ho with ho | ho
            all_goals
              go_wp2_with fail
              clear ho
              have hB : B = 4503599627370496 := rfl
              have hN : m * 2 ^ (52 - m.log2) - B < 2 * B := by have := HN2.out; omega
              have hc := run_to_u64 (a := R (m * 2 ^ (52 - m.log2) - B) (1022 + 52)) (n := m * 2 ^ (52 - m.log2) - B) (to_whole hN (whole_fin hN)) (by omega)
              have hR := HR.out
              rw [if_neg (show ¬ m.log2 + j < 52 by omega), show m.log2 + j - 51 = E from by omega] at hR
              have hNN := Lib.hid hN
              have hE2 : (E : Int) ≤ 2046 := by omega
              have hf3 : ∀ k, k ≤ 52 → R (m * 2 ^ (52 - m.log2) - B) (1022 + k) < I := fun k hk => Nat.lt_of_le_of_lt (R_mono hN (show 1022 + k ≤ 1074 by omega)) (whole_fin hN)
              have HF3 := Lib.hid hf3
              rw [← hB] at hR
              have hN3 : m * 2 ^ (52 - m.log2) - B < 9007199254740992 := by omega
              clear hsub HR HN2 HN1 hf3 hN
              generalize m * 2 ^ (52 - m.log2) - B = N at *
              have hfinal := Lib.hid hR
              clear hR hB
              go_loop [0, 5] (fun f x => ∃ k : Nat, k ≤ 52 ∧ x = .int .i64 (k : Nat) ∧ f = .float .f64 (R N (1022 + k))) (fun _ x => 52 - (intOf x).toNat)
              case atStart => exact ⟨0, by omega, by go_num, rfl⟩
              case round =>
                obtain ⟨k, hk, rfl, rfl⟩ := hrel
                by_cases hk1 : k < 52
                · have hmul := run_mul (mul_two (m := N) (j := 1022 + k) hNN.out (HF3.out (k + 1) (by omega)))
                  go_wp2_with fail
                  go_round
                  case rel => exact ⟨k + 1, by omega, by go_num, rfl⟩
                  case measure => simp [intOf]; omega
                · obtain rfl : k = 52 := by omega
                  go_wp2_with fail
                  go_ret
                  refine ⟨ret_u64 ?_, rfl⟩
                  rw [hT'.out, hfinal.out]
                  show _ = (((_ : Nat)) : Int)
                  have hb : B = 4503599627370496 := rfl
                  rw [hb]
                  all_goals omega
end Fl
end
section
open Go.RowKit
namespace Fl
theorem rbits_any (b : Nat) (w : World) (hb : b < 2 * S) :
    Calls Tryz.prog 125 #[.float .f64 b] w fun e w' => e = .returned (.int .u64 (canon b : Nat)) ∧ w = w' := by
  unfold canon
  by_cases h : isNan b = true
  · rw [if_pos h]; exact rbits_nan b w hb h
  · rw [if_neg h]
    have hr : b % S ≤ I := by unfold isNan at h; simpa using h
    rw [wd_of b hb]
    generalize b % S = r at *
    generalize neg b = s
    rcases Nat.eq_zero_or_pos r with h0 | h0
    · subst h0; exact rbits_zero s w
    · rcases Nat.lt_or_ge r I with h1 | h1
      · exact rbits_fin s r w h0 h1
      · obtain rfl : r = I := by omega
        exact rbits_inf s w
theorem rsame_any (a b : Nat) (w : World) (ha : a < 2 * S) (hb : b < 2 * S) :
    Calls Tryz.prog 80 #[.float .f64 a, .float .f64 b] w fun e w' => e = .returned (.bool (canon a == canon b)) ∧ w = w' := by
  have h := nat_beq (canon a) (canon b)
  have HA := Lib.hid (fun w => rbits_any a w ha)
  have HB := Lib.hid (fun w => rbits_any b w hb)
  go_enter Tryz.func80, Tryz.ntmps80
  go_wp2_with fail
  refine (HA.out _).mono ?_
  rintro e w1 ⟨rfl, rfl⟩
  go_wp2_with fail
  refine (HB.out _).mono ?_
  rintro e w2 ⟨rfl, rfl⟩
  go_wp2_with fail
  go_ret
  exact ⟨rfl, rfl⟩
end Fl
end
section
open Go.RowKit Go.Shelf
attribute [local go_sem] Fl.run_store_float
namespace Rf
open Mem Tp Tr Mo Fo Sn Og St Pl
theorem nm_eq (x y : ByteArray) : (x.toList == y.toList) = true ↔ x = y := by
  rw [beq_iff_eq, ByteArray.toList_eq, ByteArray.toList_eq]
  constructor
  · intro h
    cases x; cases y
    simp only at h
    congr 1
    exact Array.toList_inj.1 h
  · rintro rfl; rfl
theorem nrmR_dec (a b : Rw) : decide (nrmR a = nrmR b) = (a.ch == b.ch && (a.pa == b.pa && ((a.nm.toList == b.nm.toList) && (Fl.canon a.rk == Fl.canon b.rk)))) := by
  obtain ⟨a1, a2, a3, a4⟩ := a
  obtain ⟨b1, b2, b3, b4⟩ := b
  rw [Bool.eq_iff_iff]
  simp only [nrmR, decide_eq_true_eq, Rw.mk.injEq, Bool.and_eq_true, nm_eq, beq_iff_eq (α := Int), beq_iff_eq (α := Nat)]
theorem alike_any (a b : Rw) (w : World) (ha : a.rk < 2 * Fl.S) (hb : b.rk < 2 * Fl.S) :
    Calls Tryz.prog 41 #[rowV a, rowV b] w fun e w' => e = .returned (.bool (decide (nrmR a = nrmR b))) ∧ Below w.heap.size w w' := by
  have HS := Lib.hid (fun W => Fl.rsame_any a.rk b.rk W ha hb)
  rw [nrmR_dec]
  obtain ⟨W0, hW0⟩ : ∃ W0, lay w [.cells #[.int .i64 a.ch, .int .i64 a.pa, .string a.nm, .float .f64 a.rk] 96, .cells #[.int .i64 b.ch, .int .i64 b.pa, .string b.nm, .float .f64 b.rk] 96] = W0 := ⟨_, rfl⟩
  have hb0 : Below w.heap.size w W0 := by rw [← hW0]; exact lay_below _ _
  have hs0 : W0.heap.size = w.heap.size + 2 := by rw [← hW0]; exact lay_size _ _
  have g0 : W0.heap[w.heap.size]? = some (.cells #[.int .i64 a.ch, .int .i64 a.pa, .string a.nm, .float .f64 a.rk] 96 (0, 0)) := by rw [← hW0]; exact lay_at _ w 0 _ rfl
  have g1 : W0.heap[w.heap.size + 1]? = some (.cells #[.int .i64 b.ch, .int .i64 b.pa, .string b.nm, .float .f64 b.rk] 96 (0, 0)) := by rw [← hW0]; exact lay_at _ w 1 _ rfl
  have a0 : W0.cell? ⟨w.heap.size, 0, none⟩ = some (.int .i64 a.ch) := cell_at g0 0
  have a1 : W0.cell? ⟨w.heap.size, 1, none⟩ = some (.int .i64 a.pa) := cell_at g0 1
  have a2 : W0.cell? ⟨w.heap.size, 2, none⟩ = some (.string a.nm) := cell_at g0 2
  have a3 : W0.cell? ⟨w.heap.size, 3, none⟩ = some (.float .f64 a.rk) := cell_at g0 3
  have b0 : W0.cell? ⟨w.heap.size + 1, 0, none⟩ = some (.int .i64 b.ch) := cell_at g1 0
  have b1 : W0.cell? ⟨w.heap.size + 1, 1, none⟩ = some (.int .i64 b.pa) := cell_at g1 1
  have b2 : W0.cell? ⟨w.heap.size + 1, 2, none⟩ = some (.string b.nm) := cell_at g1 2
  have b3 : W0.cell? ⟨w.heap.size + 1, 3, none⟩ = some (.float .f64 b.rk) := cell_at g1 3
  obtain ⟨ea, eb⟩ : ∃ q, (a.ch == b.ch) = q := ⟨_, rfl⟩
  obtain ⟨ec, ed⟩ : ∃ q, (a.pa == b.pa) = q := ⟨_, rfl⟩
  obtain ⟨ee, ef⟩ : ∃ q, (a.nm.toList == b.nm.toList) = q := ⟨_, rfl⟩
  rw [eb, ed, ef]
  simp only [lay, List.foldl_cons, List.foldl_nil] at hW0
  rw [← hW0] at a0 a1 a2 a3 b0 b1 b2 b3
  replace hb0 := Lib.hid hb0
  replace hW0 := Lib.hid hW0
  replace g0 := Lib.hid g0
  replace g1 := Lib.hid g1
  unfold rowV
  go_enter Tryz.func41, Tryz.ntmps41
  cases ea with
  | false =>
    go_wp2_with fail
    rw [hW0.out]
    go_ret
    exact ⟨rfl, hb0.out⟩
  | true =>
    cases ec with
    | false =>
      go_wp2_with fail
      rw [hW0.out]
      go_ret
      exact ⟨rfl, hb0.out⟩
    | true =>
      cases ee with
      | false =>
        go_wp2_with fail
        rw [hW0.out]
        go_ret
        exact ⟨rfl, hb0.out⟩
      | true =>
        go_wp2_with fail
        refine (HS.out _).mono ?_
        rintro e w1 ⟨rfl, rfl⟩
        rw [hW0.out]
        go_wp2_with fail
        go_ret
        exact ⟨rfl, hb0.out⟩
end Rf
end
section
open Go.RowKit Go.Shelf
attribute [local go_sem] Fl.run_store_float
namespace Rf
open Mem Tp Tr Mo Fo Sn Og St Pl
theorem map_ne {α β : Type} {f : α → β} {a b : List α} {k : Nat} {x y : α} (hx : a[k]? = some x) (hy : b[k]? = some y) (h : ¬ f x = f y) : ¬ a.map f = b.map f := fun e => by
  have h1 : (a.map f)[k]? = some (f x) := by rw [List.getElem?_map, hx]; rfl
  have h2 : (b.map f)[k]? = some (f y) := by rw [List.getElem?_map, hy]; rfl
  rw [e, h2] at h1
  exact h (Option.some.inj h1).symm
theorem map_eq {α β : Type} {f : α → β} {a b : List α} (hl : a.length = b.length) (h : ∀ (j : Nat) (x y : α), a[j]? = some x → b[j]? = some y → f x = f y) : a.map f = b.map f := by
  refine List.ext_getElem? fun j => ?_
  rw [List.getElem?_map, List.getElem?_map]
  by_cases hj : j < a.length
  · obtain ⟨x, hx⟩ := some_at hj
    obtain ⟨y, hy⟩ := some_at (l := b) (k := j) (by omega)
    rw [hx, hy]
    exact congrArg some (h j x y hx hy)
  · rw [List.getElem?_eq_none (by omega), List.getElem?_eq_none (by omega)]
theorem sameR_any (va vb : Value) (a b : List Rw) (w : World) (hA : Mem.Rows w va a) (hB : Mem.Rows w vb b) (ha : ∀ x ∈ a, x.rk < 2 * Fl.S) (hb : ∀ x ∈ b, x.rk < 2 * Fl.S) (hl : a.length ≤ 5000) :
    Calls Tryz.prog 15 #[va, vb] w fun e w' => e = .returned (.bool (decide (a.map nrmR = b.map nrmR))) ∧ Below w.heap.size w w' := by
  obtain ⟨pa, ca, rfl⟩ := hA.len
  obtain ⟨pb, cb, rfl⟩ := hB.len
  have hB : Sl w (.slice pb b.length cb) b.length (b.flatMap rowC) := hB
  by_cases hlen : a.length = b.length
  · replace hA := Lib.hid hA
    replace hB := Lib.hid hB
    replace ha := Lib.hid ha
    replace hb := Lib.hid hb
    have hlen' := Lib.hid hlen
    rw [← hlen]
    rw [← hlen] at hB
    clear hlen
    go_enter Tryz.func15, Tryz.ntmps15
    go_wp2_with fail
    go_loopw [5] (fun i wr => ∃ k : Nat, i = .int .i64 k ∧ k ≤ a.length ∧ Hid (∀ (j : Nat) (x y : Rw), j < k → a[j]? = some x → b[j]? = some y → nrmR x = nrmR y) ∧ Hid (Below w.heap.size w wr)) (fun i _ => a.length - (intOf i).toNat)
    case atStart => exact ⟨0, rfl, by omega, Lib.hid (fun j x y h => absurd h (by omega)), Lib.hid (Below.refl _ _)⟩
    case round =>
      obtain ⟨k, rfl, hk, hq, hbr⟩ := hrel
      by_cases hlt : k < a.length
      · have hlt' : (k : Int) < (a.length : Nat) := by omega
        have hk0 : (0 : Int) ≤ (k : Int) := by omega
        obtain ⟨x, hx⟩ := some_at hlt
        obtain ⟨y, hy⟩ := some_at (l := b) (k := k) (by have := hlen'.out; omega)
        obtain ⟨ba, oa, rfl⟩ := hA.out.addr (by omega)
        obtain ⟨bb, ob, rfl⟩ := hB.out.addr (by omega)
        have hAr := hA.out.below hbr.out
        have hBr := hB.out.below hbr.out
        have hla := sl_lt hAr (by omega)
        have hlb := sl_lt hBr (by omega)
        obtain ⟨p0, p1, p2, p3⟩ := row_at hAr rfl hx
        obtain ⟨r0, r1, r2, r3⟩ := row_at hBr hlen'.out.symm hy
        have hS1 := (Below.refl wr.heap.size wr).drew
        haveI hne : Nonempty (Held (Below wr.heap.size wr)) := ⟨⟨_, hS1⟩⟩
        have cx0 : ∀ q : Held (Below wr.heap.size wr), q.w.cell? ⟨ba, oa + k * 4, none⟩ = some (.int .i64 x.ch) := fun q => (q.h.cell (p := ⟨ba, oa + k * 4, none⟩) hla).trans p0
        have cx1 : ∀ q : Held (Below wr.heap.size wr), q.w.cell? ⟨ba, oa + k * 4 + 1, none⟩ = some (.int .i64 x.pa) := fun q => (q.h.cell (p := ⟨ba, oa + k * 4 + 1, none⟩) hla).trans p1
        have cx2 : ∀ q : Held (Below wr.heap.size wr), q.w.cell? ⟨ba, oa + k * 4 + 2, none⟩ = some (.string x.nm) := fun q => (q.h.cell (p := ⟨ba, oa + k * 4 + 2, none⟩) hla).trans p2
        have cx3 : ∀ q : Held (Below wr.heap.size wr), q.w.cell? ⟨ba, oa + k * 4 + 3, none⟩ = some (.float .f64 x.rk) := fun q => (q.h.cell (p := ⟨ba, oa + k * 4 + 3, none⟩) hla).trans p3
        have cy0 : ∀ q : Held (Below wr.heap.size wr), q.w.cell? ⟨bb, ob + k * 4, none⟩ = some (.int .i64 y.ch) := fun q => (q.h.cell (p := ⟨bb, ob + k * 4, none⟩) hlb).trans r0
        have cy1 : ∀ q : Held (Below wr.heap.size wr), q.w.cell? ⟨bb, ob + k * 4 + 1, none⟩ = some (.int .i64 y.pa) := fun q => (q.h.cell (p := ⟨bb, ob + k * 4 + 1, none⟩) hlb).trans r1
        have cy2 : ∀ q : Held (Below wr.heap.size wr), q.w.cell? ⟨bb, ob + k * 4 + 2, none⟩ = some (.string y.nm) := fun q => (q.h.cell (p := ⟨bb, ob + k * 4 + 2, none⟩) hlb).trans r2
        have cy3 : ∀ q : Held (Below wr.heap.size wr), q.w.cell? ⟨bb, ob + k * 4 + 3, none⟩ = some (.float .f64 y.rk) := fun q => (q.h.cell (p := ⟨bb, ob + k * 4 + 3, none⟩) hlb).trans r3
        have HC : Hid (∀ q : Held (Below wr.heap.size wr), Calls Tryz.prog 41 #[rowV x, rowV y] q.w fun e w' => e = .returned (.bool (decide (nrmR x = nrmR y))) ∧ ∃ q' : Held (Below wr.heap.size wr), w' = q'.w) :=
          Lib.hid (fun q => held_calls ((alike_any x y q.w (ha.out x (List.mem_of_getElem? hx)) (hb.out y (List.mem_of_getElem? hy))).mono fun e w' (c : _ ∧ Below q.w.heap.size q.w w') => And.intro c.1 (q.h.trans (c.2.mono q.h.size))))
        obtain ⟨z, hz⟩ : ∃ z, decide (nrmR x = nrmR y) = z := ⟨_, rfl⟩
        rw [hz] at HC
        unfold rowV at HC
        replace hz := Lib.hid hz
        replace hx := Lib.hid hx
        replace hy := Lib.hid hy
        clear p0 p1 p2 p3 r0 r1 r2 r3 hAr hBr
        go_wp2_with fail
        refine wp_region_class (Below wr.heap.size wr) (by kernel_rfl) (by kernel_rfl) hS1 ?_
        repeat (go_big_quiet_step ((go_at_call 41; with_reducible exact HC.out _)))
        refine wpQuiet_nil ?_
        intro _ hw'
        obtain ⟨⟨Wq, hq2⟩, hw''⟩ := hw'
        subst hw''
        have hbq := Lib.hid (hbr.out.trans (hq2.mono hbr.out.size))
        clear hq2 hS1 HC hne cx0 cy0 cx1 cy1 cx2 cy2 cx3 cy3
        cases z with
        | true =>
          have hq3 : Hid (∀ (j : Nat) (x y : Rw), j < k + 1 → a[j]? = some x → b[j]? = some y → nrmR x = nrmR y) := Lib.hid (fun j x' y' hj hx' hy' => by
            by_cases e : j < k
            · exact hq.out j x' y' e hx' hy'
            · obtain rfl : j = k := by omega
              have e1 := hx.out.symm.trans hx'
              have e2 := hy.out.symm.trans hy'
              cases e1
              cases e2
              exact of_decide_eq_true hz.out)
          go_wp2_with fail
          go_roundw
          case rel => exact ⟨k + 1, by go_num, by omega, hq3, hbq⟩
          case measure => simp [intOf]; omega
        | false =>
          go_wp2_with fail
          go_ret
          exact ⟨by rw [decide_eq_false (map_ne hx.out hy.out (of_decide_eq_false hz.out))]; rfl, hbq.out⟩
      · obtain rfl : k = a.length := by omega
        have hge : ¬ ((a.length : Int) < (a.length : Nat)) := by omega
        go_wp2_with fail
        go_ret
        exact ⟨by rw [decide_eq_true (map_eq hlen'.out (fun j x y hx hy => hq.out j x y (List.getElem?_eq_some_iff.1 hx).1 hx hy))]; rfl, hbr.out⟩
  · have hne : ((a.length : Int) == (b.length : Int)) = false := by rw [beq_eq_false_iff_ne]; omega
    have hne2 : ¬ (a.length : Int) = (b.length : Int) := by omega
    rw [decide_eq_false (fun e => hlen (by simpa using congrArg List.length e))]
    clear hlen hA hB
    go_enter Tryz.func15, Tryz.ntmps15
    go_wp2_with fail
    go_ret
    exact ⟨rfl, Below.refl _ _⟩
end Rf
end
section
open Go.RowKit Go.Shelf
attribute [local go_sem] Fl.run_store_float
namespace Rf
open Mem Tp Tr Mo Fo Sn Og St Pl
theorem sameK_any (va vb : Value) (a b : List Mk) (w : World) (hA : Mem.Mks w va a) (hB : Mem.Mks w vb b) (hl : a.length ≤ 5000) :
    Calls Tryz.prog 25 #[va, vb] w fun e w' => e = .returned (.bool (decide (a = b))) ∧ Below w.heap.size w w' := by
  obtain ⟨pa, ca, rfl⟩ := hA.len
  obtain ⟨pb, cb, rfl⟩ := hB.len
  have hB : Sl w (.slice pb b.length cb) b.length (b.flatMap mkC) := hB
  by_cases hlen : a.length = b.length
  · replace hA := Lib.hid hA
    replace hB := Lib.hid hB
    have hlen' := Lib.hid hlen
    rw [← hlen]
    rw [← hlen] at hB
    clear hlen
    go_enter Tryz.func25, Tryz.ntmps25
    go_wp2_with fail
    go_loopw [5] (fun i wr => ∃ k : Nat, i = .int .i64 k ∧ k ≤ a.length ∧ Hid (∀ (j : Nat) (x y : Mk), j < k → a[j]? = some x → b[j]? = some y → id x = id y) ∧ Hid (Below w.heap.size w wr)) (fun i _ => a.length - (intOf i).toNat)
    case atStart => exact ⟨0, rfl, by omega, Lib.hid (fun j x y h => absurd h (by omega)), Lib.hid (Below.refl _ _)⟩
    case round =>
      obtain ⟨k, rfl, hk, hq, hbr⟩ := hrel
      by_cases hlt : k < a.length
      · have hlt' : (k : Int) < (a.length : Nat) := by omega
        have hk0 : (0 : Int) ≤ (k : Int) := by omega
        obtain ⟨x, hx⟩ := some_at hlt
        obtain ⟨y, hy⟩ := some_at (l := b) (k := k) (by have := hlen'.out; omega)
        obtain ⟨ba, oa, rfl⟩ := hA.out.addr (by omega)
        obtain ⟨bb, ob, rfl⟩ := hB.out.addr (by omega)
        have hAr := hA.out.below hbr.out
        have hBr := hB.out.below hbr.out
        have hla := sl_lt hAr (by omega)
        have hlb := sl_lt hBr (by omega)
        obtain ⟨p0, p1⟩ := mk_at hAr rfl hx
        obtain ⟨r0, r1⟩ := mk_at hBr hlen'.out.symm hy
        have hS1 := (Below.refl wr.heap.size wr).drew
        haveI hne : Nonempty (Held (Below wr.heap.size wr)) := ⟨⟨_, hS1⟩⟩
        have cx0 : ∀ q : Held (Below wr.heap.size wr), q.w.cell? ⟨ba, oa + k * 2, none⟩ = some (.int .i64 x.rep) := fun q => (q.h.cell (p := ⟨ba, oa + k * 2, none⟩) hla).trans p0
        have cx1 : ∀ q : Held (Below wr.heap.size wr), q.w.cell? ⟨ba, oa + k * 2 + 1, none⟩ = some (.int .i64 x.cnt) := fun q => (q.h.cell (p := ⟨ba, oa + k * 2 + 1, none⟩) hla).trans p1
        have cy0 : ∀ q : Held (Below wr.heap.size wr), q.w.cell? ⟨bb, ob + k * 2, none⟩ = some (.int .i64 y.rep) := fun q => (q.h.cell (p := ⟨bb, ob + k * 2, none⟩) hlb).trans r0
        have cy1 : ∀ q : Held (Below wr.heap.size wr), q.w.cell? ⟨bb, ob + k * 2 + 1, none⟩ = some (.int .i64 y.cnt) := fun q => (q.h.cell (p := ⟨bb, ob + k * 2 + 1, none⟩) hlb).trans r1
        have hx' := Lib.hid hx
        have hy' := Lib.hid hy
        clear p0 p1 r0 r1 hAr hBr hx hy
        by_cases hxy : x = y
        · have hq3 : Hid (∀ (j : Nat) (x y : Mk), j < k + 1 → a[j]? = some x → b[j]? = some y → id x = id y) := Lib.hid (fun j x1 y1 hj h1 h2 => by
            by_cases e : j < k
            · exact hq.out j x1 y1 e h1 h2
            · obtain rfl : j = k := by omega
              have e1 := hx'.out.symm.trans h1
              have e2 := hy'.out.symm.trans h2
              cases e1
              cases e2
              exact hxy)
          have h1 : x.rep = y.rep := by rw [hxy]
          have h2 : x.cnt = y.cnt := by rw [hxy]
          rw [h1] at cx0
          rw [h2] at cx1
          clear h1 h2 hxy
          go_wp2_with fail
          refine wp_region_class (Below wr.heap.size wr) (by kernel_rfl) (by kernel_rfl) hS1 ?_
          repeat (go_big_quiet_step (fail))
          refine wpQuiet_nil ?_
          intro _ hw'
          obtain ⟨⟨Wq, hq2⟩, hw''⟩ := hw'
          subst hw''
          have hbq := Lib.hid (hbr.out.trans (hq2.mono hbr.out.size))
          clear hq2 hS1 hne cx0 cx1 cy0 cy1
          go_wp2_with fail
          go_roundw
          case rel => exact ⟨k + 1, by go_num, by omega, hq3, hbq⟩
          case measure => simp [intOf]; omega
        · have hF : Hid (decide (a = b) = false) := Lib.hid (decide_eq_false (fun e => map_ne (f := id) hx'.out hy'.out hxy (by rw [e])))
          by_cases h1 : x.rep = y.rep
          · have h2 : ¬ x.cnt = y.cnt := fun h2 => hxy (by cases x; cases y; simp only at h1 h2; rw [h1, h2])
            rw [h1] at cx0
            go_wp2_with fail
            refine wp_region_class (Below wr.heap.size wr) (by kernel_rfl) (by kernel_rfl) hS1 ?_
            repeat (go_big_quiet_step (fail))
            refine wpQuiet_nil ?_
            intro _ hw'
            obtain ⟨⟨Wq, hq2⟩, hw''⟩ := hw'
            subst hw''
            have hbq := Lib.hid (hbr.out.trans (hq2.mono hbr.out.size))
            clear hq2 hS1 hne cx0 cx1 cy0 cy1
            go_wp2_with fail
            go_ret
            exact ⟨by rw [hF.out]; rfl, hbq.out⟩
          · go_wp2_with fail
            refine wp_region_class (Below wr.heap.size wr) (by kernel_rfl) (by kernel_rfl) hS1 ?_
            repeat (go_big_quiet_step (fail))
            refine wpQuiet_nil ?_
            intro _ hw'
            obtain ⟨⟨Wq, hq2⟩, hw''⟩ := hw'
            subst hw''
            have hbq := Lib.hid (hbr.out.trans (hq2.mono hbr.out.size))
            clear hq2 hS1 hne cx0 cx1 cy0 cy1
            go_wp2_with fail
            go_ret
            exact ⟨by rw [hF.out]; rfl, hbq.out⟩
      · obtain rfl : k = a.length := by omega
        have hge : ¬ ((a.length : Int) < (a.length : Nat)) := by omega
        go_wp2_with fail
        go_ret
        exact ⟨by rw [decide_eq_true (show a = b by simpa using map_eq (f := id) hlen'.out (fun j x y hx hy => hq.out j x y (List.getElem?_eq_some_iff.1 hx).1 hx hy))]; rfl, hbr.out⟩
  · have hne : ((a.length : Int) == (b.length : Int)) = false := by rw [beq_eq_false_iff_ne]; omega
    have hne2 : ¬ (a.length : Int) = (b.length : Int) := by omega
    rw [decide_eq_false (fun e => hlen (by rw [e]))]
    clear hlen hA hB
    go_enter Tryz.func25, Tryz.ntmps25
    go_wp2_with fail
    go_ret
    exact ⟨rfl, Below.refl _ _⟩
def short_anyD (l : List Dd) (most : Nat) : Bool := decide (l.length ≤ most ∧ ∀ x ∈ l, x.nm.size ≤ 100)
theorem short_any (v : Value) (l : List Dd) (most : Nat) (w : World) (hA : Mem.Dds w v l) (hm : most ≤ 1000) (hl : l.length ≤ 9223372036854775807) :
    Calls Tryz.prog 8 #[v, .int .i64 (most : Int)] w fun e w' => e = .returned (.bool (short_anyD l most)) ∧ Below w.heap.size w w' := by
  obtain ⟨pa, ca, rfl⟩ := hA.len
  by_cases hlm : (most : Int) < (l.length : Nat)
  · rw [show short_anyD l most = false from decide_eq_false (fun e => by omega)]
    clear hA
    go_enter Tryz.func8, Tryz.ntmps8
    go_wp2_with fail
    go_ret
    exact ⟨rfl, Below.refl _ _⟩
  · have hA := Lib.hid hA
    have hle := Lib.hid (show l.length ≤ most by omega)
    go_enter Tryz.func8, Tryz.ntmps8
    go_wp2_with fail
    go_loopw [5] (fun i wr => ∃ k : Nat, i = .int .i64 k ∧ k ≤ l.length ∧ Hid (∀ (j : Nat) (x : Dd), j < k → l[j]? = some x → x.nm.size ≤ 100) ∧ Hid (Below w.heap.size w wr)) (fun i _ => l.length - (intOf i).toNat)
    case atStart => exact ⟨0, rfl, by omega, Lib.hid (fun j x h => absurd h (by omega)), Lib.hid (Below.refl _ _)⟩
    case round =>
      obtain ⟨k, rfl, hk, hq, hbr⟩ := hrel
      by_cases hlt : k < l.length
      · have hlt' : (k : Int) < (l.length : Nat) := by omega
        have hk0 : (0 : Int) ≤ (k : Int) := by omega
        obtain ⟨x, hx⟩ := some_at hlt
        obtain ⟨ba, oa, rfl⟩ := hA.out.addr (by omega)
        have hAr := hA.out.below hbr.out
        have hla := sl_lt hAr (by omega)
        obtain ⟨p0, p1, p2, p3, p4, p5, p6, p7⟩ := dd_at hAr rfl hx
        have hx' := Lib.hid hx
        clear hx hAr p0 p1 p2 p3 p4 p5 p7
        by_cases hn : (100 : Int) < (x.nm.size : Nat)
        · have hF : Hid (short_anyD l most = false) := Lib.hid (decide_eq_false (fun e => by have := e.2 x (List.mem_of_getElem? hx'.out); omega))
          go_wp2_with fail
          go_ret
          exact ⟨by rw [hF.out]; rfl, hbr.out⟩
        · have hq3 : Hid (∀ (j : Nat) (x : Dd), j < k + 1 → l[j]? = some x → x.nm.size ≤ 100) := Lib.hid (fun j x1 hj h1 => by
            by_cases e : j < k
            · exact hq.out j x1 e h1
            · obtain rfl : j = k := by omega
              have e1 := hx'.out.symm.trans h1
              cases e1
              omega)
          go_wp2_with fail
          go_roundw
          case rel => exact ⟨k + 1, by go_num, by omega, hq3, hbr⟩
          case measure => simp [intOf]; omega
      · obtain rfl : k = l.length := by omega
        have hge : ¬ ((l.length : Int) < (l.length : Nat)) := by omega
        go_wp2_with fail
        go_ret
        exact ⟨by rw [show short_anyD l most = true from decide_eq_true ⟨hle.out, fun x hx => (by obtain ⟨j, hj⟩ := List.getElem?_of_mem hx; exact hq.out j x (List.getElem?_eq_some_iff.1 hj).1 hj)⟩]; rfl, hbr.out⟩
end Rf
end
section
open Go.RowKit Go.Shelf
attribute [local go_sem] Fl.run_store_float
namespace Tw
open Mem Tp Tr Mo Fo Sn Og St Pl Iv Rf
theorem world_any (n : Nat) (v : Value) (l : List Dd) (w : World) (hn : 1 ≤ n) (h8 : n ≤ 8) (hS : Mem.Dds w v l) (hl : OkD l) :
    Calls Tryz.prog 11 #[.int .i64 (n : Int), v] w fun e w' => ∃ (p b : Nat) (vp : Value) (xs : List X3) (pool : List Mv) (cs : List Int), e = .returned (.pointer (some ⟨p, 0, none⟩)) ∧ RunS n l (xs.map (·.2)) pool cs ∧ PW w' w.heap.size p b vp xs pool ∧ Below w.heap.size w w' := by
  have HR := Lib.hid (run_any n v l w hn h8 hS hl)
  obtain ⟨a, cap, rfl⟩ := hS.len
  clear hS hl
  go_enter Tryz.func11, Tryz.ntmps11
  go_wp2_with fail
  refine HR.out.mono ?_
  rintro e w1 ⟨p, b, vp, xs, pool, cs, v', rfl, h1, h2, h3, h4⟩
  obtain ⟨a1, c1, e1⟩ := (own_sl h3).len
  subst e1
  replace h1 := Lib.hid h1
  replace h2 := Lib.hid h2
  replace h4 := Lib.hid h4
  clear h3
  go_wp2_with fail
  go_ret
  exact ⟨p, b, vp, xs, pool, cs, rfl, h1.out, h2.out, h4.out⟩
theorem sl_block {W : World} {b n : Nat} {cs : List Value} {t : TypeId} (h : W.heap[b]? = some (.cells cs.toArray t (0, 0))) : Sl W (.slice (some ⟨b, 0, none⟩) n n) n cs :=
  ⟨some ⟨b, 0, none⟩, n, rfl, Nat.le_refl _, (fun e => by cases e), fun _ => ⟨b, 0, rfl, lt_of_block h, fun j u hu => by rw [Nat.zero_add, cell_at h]; simpa using hu⟩⟩
theorem okD4 : OkD [d1, d2, d3, d4] := by
  refine ⟨by decide, fun d hd => ?_⟩
  simp only [List.mem_cons, List.not_mem_nil, or_false] at hd
  rcases hd with rfl | rfl | rfl | rfl <;> exact ⟨by decide, by decide⟩
theorem works_any (w : World) :
    Calls Tryz.prog 10 #[] w fun e w' => e = .returned (.bool true) ∧ Below w.heap.size w w' := by
  have g0 := alloc_new w (.cells #[.int .i64 1, .int .i64 1, .int .i64 0, .int .i64 0, .int .i64 0, .int .i64 1, .string ⟨#[97]⟩, .float .f64 0, .int .i64 2, .int .i64 2, .int .i64 0, .int .i64 0, .int .i64 0, .int .i64 0, .string ⟨#[]⟩, .float .f64 0, .int .i64 4, .int .i64 2, .int .i64 0, .int .i64 0, .int .i64 0, .int .i64 0, .string ⟨#[]⟩, .float .f64 0, .int .i64 1, .int .i64 2, .int .i64 0, .int .i64 0, .int .i64 1, .int .i64 2, .string ⟨#[]⟩, .float .f64 0] 63)
  have b0 := (Below.refl w.heap.size w).alloc (Nat.le_refl _) (.cells #[.int .i64 1, .int .i64 1, .int .i64 0, .int .i64 0, .int .i64 0, .int .i64 1, .string ⟨#[97]⟩, .float .f64 0, .int .i64 2, .int .i64 2, .int .i64 0, .int .i64 0, .int .i64 0, .int .i64 0, .string ⟨#[]⟩, .float .f64 0, .int .i64 4, .int .i64 2, .int .i64 0, .int .i64 0, .int .i64 0, .int .i64 0, .string ⟨#[]⟩, .float .f64 0, .int .i64 1, .int .i64 2, .int .i64 0, .int .i64 0, .int .i64 1, .int .i64 2, .string ⟨#[]⟩, .float .f64 0] 63)
  have hS : Mem.Dds (w.alloc (.cells #[.int .i64 1, .int .i64 1, .int .i64 0, .int .i64 0, .int .i64 0, .int .i64 1, .string ⟨#[97]⟩, .float .f64 0, .int .i64 2, .int .i64 2, .int .i64 0, .int .i64 0, .int .i64 0, .int .i64 0, .string ⟨#[]⟩, .float .f64 0, .int .i64 4, .int .i64 2, .int .i64 0, .int .i64 0, .int .i64 0, .int .i64 0, .string ⟨#[]⟩, .float .f64 0, .int .i64 1, .int .i64 2, .int .i64 0, .int .i64 0, .int .i64 1, .int .i64 2, .string ⟨#[]⟩, .float .f64 0] 63)) (.slice (some ⟨w.heap.size, 0, none⟩) 4 4) [d1, d2, d3, d4] := sl_block g0
  have HR := Lib.hid (run_any 2 _ _ _ (by omega) (by omega) hS okD4)
  replace b0 := Lib.hid b0
  clear g0 hS
  go_enter Tryz.func10, Tryz.ntmps10
  go_wp2_with fail
  refine HR.out.mono ?_
  rintro e w1 ⟨p, b, vp, xs, pool, cs, v', rfl, h1, h2, h3, h4⟩
  obtain ⟨r, m, hr, hcl, hc3, ht⟩ := works_plain h1
  obtain ⟨x, hx, hxr⟩ : ∃ x, xs[1]? = some x ∧ x.2 = r := by
    rw [List.getElem?_map] at hr
    exact Option.map_eq_some_iff.1 hr
  have hinv := h1.inv (fun d hd => (okD4.2 d hd).2)
  have hO := hinv.okR (by decide) r (List.mem_of_getElem? hr)
  subst hxr
  have HT := Lib.hid (tree_any w1 h2 1 x hx hO.w)
  rw [ht] at HT
  obtain ⟨a1, c1, e1⟩ := (own_sl h3).len
  rw [hcl] at e1
  subst e1
  have h3' := own_sl h3
  rw [hcl] at h3'
  obtain ⟨be, oe, ee⟩ := h3'.addr (by decide)
  subst ee
  have hbe := sl_lt h3' (by decide)
  have hce := (h3'.at (by decide)).2 3 (.int .i64 0) (by rw [List.getElem?_map, hc3]; rfl)
  have hb1 := Lib.hid (b0.out.trans (h4.mono b0.out.size))
  replace hbe := Lib.hid hbe
  replace hce := Lib.hid hce
  clear h1 h2 h3 h3' h4 hr hc3 ht hinv hO
  go_wp2_with fail
  refine HT.out.mono ?_
  rintro e w2 ⟨⟨y, rfl, hy⟩, b2⟩
  have hb2 := hb1.out.trans (b2.mono hb1.out.size)
  have HP := Lib.hid (Tr.Path_ok y [⟨1, 0, m.nm, m.rk⟩, ⟨2, 1, ByteArray.empty, 0⟩] 2 w2 hy (by simp) (by simp) (fun r hr => by simp only [List.mem_cons, List.not_mem_nil, or_false] at hr; rcases hr with rfl | rfl <;> exact ⟨by unfold InR; simp, by unfold InR; simp⟩) (by unfold InR; decide) (by simp [chain, up]) (by simp [chain, up]) (by simp [up]))
  rw [show (2 : Int) :: chain [⟨1, 0, m.nm, m.rk⟩, ⟨2, 1, ByteArray.empty, 0⟩] [(⟨1, 0, m.nm, m.rk⟩ : Rw), ⟨2, 1, ByteArray.empty, 0⟩].length 2 = [2, 1, 0] from by simp [chain, up]] at HP
  obtain ⟨a3, c3, e3⟩ := hy.len
  subst e3
  replace hb2 := Lib.hid hb2
  replace b2 := Lib.hid b2
  clear hy
  go_wp2_with fail
  refine HP.out.mono ?_
  rintro e w3 ⟨⟨z, rfl, hz⟩, b3⟩
  obtain ⟨a4, c4, e4⟩ := hz.len
  subst e4
  have hb3 := Lib.hid (hb2.out.trans (b3.mono hb2.out.size))
  have hbe3 := Lib.hid (Nat.lt_of_lt_of_le hbe.out (Nat.le_trans b2.out.size b3.size))
  have hce3 := (b3.cell (p := ⟨be, oe + 3, none⟩) (Nat.lt_of_lt_of_le hbe.out b2.out.size)).trans ((b2.out.cell (p := ⟨be, oe + 3, none⟩) hbe.out).trans hce.out)
  have g4 := alloc_new w3 (.cells #[.int .i64 2, .int .i64 1, .int .i64 0] 3)
  have b4 := hb3.out.alloc hb3.out.size (.cells #[.int .i64 2, .int .i64 1, .int .i64 0] 3)
  have hin : ∀ n ∈ [(2 : Int), 1, 0], IntKind.i64.min ≤ n ∧ n ≤ IntKind.i64.max := by decide
  have hI : Is (w3.alloc (.cells #[.int .i64 2, .int .i64 1, .int .i64 0] 3)) (.slice (some ⟨w3.heap.size, 0, none⟩) 3 3) [2, 1, 0] := sl_block g4
  have HS := Lib.hid (Dl.same_any _ _ _ _ _ (is_ints (Sl.below hz ((Below.refl w3.heap.size w3).alloc (Nat.le_refl _) (.cells #[.int .i64 2, .int .i64 1, .int .i64 0] 3))) hin) (is_ints hI hin) (by decide))
  replace hz := Lib.hid hz
  replace b4 := Lib.hid b4
  clear g4 hI hin
  go_wp2_with fail
  refine HS.out.mono ?_
  rintro e w5 ⟨rfl, b5⟩
  have hb5 := Lib.hid (b4.out.trans (b5.mono b4.out.size))
  clear hce3
  go_wp2_with fail
  go_ret
  exact ⟨rfl, hb5.out⟩
end Tw
end
section
open Go.RowKit Go.Shelf Go.ChangeShapes Go.WideShapes Go.ChangeAt
namespace Tw
open Mem Tp Tr Mo Fo Sn Og St Pl Iv Rf
theorem add_none {a : Addr} {W : World} {u : Value} (h : W.cell? (a.add 0) = some u) : ∃ b off, a = ⟨b, off, none⟩ := by
  obtain ⟨b, off, spot⟩ := a
  have hspot : spot = none := by simpa [Addr.add] using World.cell?_spot h
  subst hspot
  exact ⟨b, off, rfl⟩
theorem add_at (b off i : Nat) : (⟨b, off, none⟩ : Addr).add i = ⟨b, off + i, none⟩ := by unfold Addr.add; split <;> simp_all
theorem flat_back {α : Type} {f : α → List Value} {k : Nat} (hf : ∀ x, (f x).length = k) (h0 : 0 < k) (l : List α) {j : Nat} {u : Value} (h : (l.flatMap f)[j]? = some u) : ∃ x, l[j / k]? = some x ∧ (f x)[j % k]? = some u ∧ j / k < l.length := by
  have hj : j < l.length * k := by rw [← flat_length hf l]; exact (List.getElem?_eq_some_iff.1 h).1
  have hd : j / k < l.length := Nat.div_lt_of_lt_mul (by rw [Nat.mul_comm]; exact hj)
  obtain ⟨x, hx⟩ := some_at hd
  refine ⟨x, hx, ?_, hd⟩
  have := flat_at hf l (j / k) x hx (j % k) (Nat.mod_lt _ h0)
  rw [Nat.mul_comm, Nat.div_add_mod] at this
  rw [← this, h]
instance : Inhabited Dd := ⟨⟨0, 0, 0, 0, 0, 0, ByteArray.empty, 0⟩⟩
instance : Inhabited Mv := ⟨⟨⟨0, 0⟩, 0, 0, ByteArray.empty, 0⟩⟩
theorem sl_of {α : Type} [Inhabited α] {f : α → List Value} {P : α → Prop} {k : Nat} {H : Type} {enc : TypeId × Value → H} {W : World} {t e : TypeId} {v : Value} {d : DataW H} {p : List MemPlace} (ht : Tryz.prog.underlying t = some (.slice e)) (ce : Tryz.prog.cellsOf e = k) (hf : ∀ x, (f x).length = k) (h0 : 0 < k)
    (el : ∀ (n : Nat) (cs : List Value) (x : DataW H × List MemPlace), cs.length = k → DataW.trod enc Tryz.prog W 0 (fun _ => true) true n e cs = some x → ∃ z : α, cs = f z ∧ P z)
    (h : DataW.Trod enc Tryz.prog W 0 (fun _ => true) true t v d p) (hv : ∃ a len cap, v = .slice a len cap) : ∃ l : List α, Sl W v l.length (l.flatMap f) ∧ (∀ z ∈ l, P z) ∧ l.length ≤ maxLen := by
  obtain ⟨a, len, cap, rfl⟩ := hv
  obtain ⟨fuel, hfu⟩ := h
  rcases Go.Deep.open_slice ht hfu with ⟨hcs, -⟩ | ⟨a', len', cap', m, n, D, Pl, hcs, hb, hl, hm, hmm, hx, hcell⟩
  · simp [Value.cells] at hcs
    obtain ⟨rfl, rfl, rfl⟩ := hcs
    exact ⟨[], sl_nil W, fun z hz => by simp at hz, Nat.zero_le _⟩
  · simp [Value.cells] at hcs
    obtain ⟨rfl, rfl, rfl⟩ := hcs
    simp only [if_true] at hmm
    have hV : ∀ i, i < len → ∃ z : α, (∀ j, j < k → W.cell? (a'.add (i * k + j)) = (f z)[j]?) ∧ P z := fun i hi => by
      obtain ⟨cs', h1, h2⟩ := hcell i (by omega)
      rw [ce] at h1
      obtain ⟨_, hlen, hc⟩ := World.cells?_some h1
      obtain ⟨z, rfl, hz⟩ := el _ _ _ hlen h2
      refine ⟨z, fun j hj => ?_, hz⟩
      have := hc j hj
      rw [Go.Deep.add_add] at this
      exact this
    obtain ⟨Z, hZ⟩ := Go.Deep.choose_lt (α := α) hV
    have hlen : ((List.range len).map Z).length = len := by simp
    have hat : ∀ j, j < len → ((List.range len).map Z)[j]? = some (Z j) := fun j hj => by simp [hj]
    refine ⟨(List.range len).map Z, ⟨some a', cap, by rw [hlen], by rw [hlen]; exact hl, (fun e => by cases e), fun hp => ?_⟩, fun c hc => ?_, by rw [hlen]; omega⟩
    · rw [hlen] at hp
      have h1 := (hZ 0 hp).1 0 h0
      obtain ⟨u, hu⟩ : ∃ u, (f (Z 0))[0]? = some u := some_at (by rw [hf]; exact h0)
      rw [hu, show 0 * k + 0 = 0 by omega] at h1
      obtain ⟨b', off, rfl⟩ := add_none h1
      refine ⟨b', off, rfl, World.block_lt_of_cell? _ _ (by simpa [Addr.add] using h1), fun j u hju => ?_⟩
      obtain ⟨x, hx1, hx2, hx3⟩ := flat_back hf h0 _ hju
      rw [hlen] at hx3
      rw [hat _ hx3] at hx1
      cases hx1
      have := (hZ _ hx3).1 (j % k) (Nat.mod_lt _ h0)
      rw [Nat.mul_comm, Nat.div_add_mod, add_at, hx2] at this
      exact this
    · simp only [List.mem_map, List.mem_range] at hc
      obtain ⟨i, hi, rfl⟩ := hc
      exact (hZ i hi).2
theorem dds_of {H : Type} {enc : TypeId × Value → H} {W : World} {b : Nat} {v : Value} {d : DataW H} {p : List MemPlace} (o : Value.okWide Tryz.prog W .any b 22 v) (h : DataW.Trod enc Tryz.prog W 0 (fun _ => true) true 22 v d p) :
    ∃ l : List Dd, Mem.Dds W v l ∧ (∀ z ∈ l, z.rk < 2 * Fl.S) ∧ l.length ≤ maxLen := by
  refine sl_of (f := ddC) Tryz.underlying22 (by kernel_rfl) ddC_len (by omega) (fun n cs x hl hx => ?_) h (Opened.ok_slice Tryz.underlying22 o)
  obtain ⟨xs, k, hk, hxy, _, hxl, hf⟩ := DataW.trod_struct Tryz.underlying63 hx
  match cs, hl with
  | [v0, v1, v2, v3, v4, v5, v6, v7], _ =>
    have g0 : DataW.trod enc Tryz.prog W 0 (fun _ => true) true k 3 (([v0, v1, v2, v3, v4, v5, v6, v7].drop 0).take (Tryz.prog.cellsOf 3)) = xs[0]? := hf 0 _ rfl
    rw [show Tryz.prog.cellsOf 3 = 1 by kernel_rfl] at g0
    obtain ⟨yg0, hyg0⟩ := some_at (l := xs) (k := 0) (by rw [hxl]; decide)
    rw [hyg0] at g0
    have g1 : DataW.trod enc Tryz.prog W 0 (fun _ => true) true k 3 (([v0, v1, v2, v3, v4, v5, v6, v7].drop 1).take (Tryz.prog.cellsOf 3)) = xs[1]? := hf 1 _ rfl
    rw [show Tryz.prog.cellsOf 3 = 1 by kernel_rfl] at g1
    obtain ⟨yg1, hyg1⟩ := some_at (l := xs) (k := 1) (by rw [hxl]; decide)
    rw [hyg1] at g1
    have g2 : DataW.trod enc Tryz.prog W 0 (fun _ => true) true k 3 (([v0, v1, v2, v3, v4, v5, v6, v7].drop 2).take (Tryz.prog.cellsOf 3)) = xs[2]? := hf 2 _ rfl
    rw [show Tryz.prog.cellsOf 3 = 1 by kernel_rfl] at g2
    obtain ⟨yg2, hyg2⟩ := some_at (l := xs) (k := 2) (by rw [hxl]; decide)
    rw [hyg2] at g2
    have g3 : DataW.trod enc Tryz.prog W 0 (fun _ => true) true k 3 (([v0, v1, v2, v3, v4, v5, v6, v7].drop 3).take (Tryz.prog.cellsOf 3)) = xs[3]? := hf 3 _ rfl
    rw [show Tryz.prog.cellsOf 3 = 1 by kernel_rfl] at g3
    obtain ⟨yg3, hyg3⟩ := some_at (l := xs) (k := 3) (by rw [hxl]; decide)
    rw [hyg3] at g3
    have g4 : DataW.trod enc Tryz.prog W 0 (fun _ => true) true k 3 (([v0, v1, v2, v3, v4, v5, v6, v7].drop 4).take (Tryz.prog.cellsOf 3)) = xs[4]? := hf 4 _ rfl
    rw [show Tryz.prog.cellsOf 3 = 1 by kernel_rfl] at g4
    obtain ⟨yg4, hyg4⟩ := some_at (l := xs) (k := 4) (by rw [hxl]; decide)
    rw [hyg4] at g4
    have g5 : DataW.trod enc Tryz.prog W 0 (fun _ => true) true k 3 (([v0, v1, v2, v3, v4, v5, v6, v7].drop 5).take (Tryz.prog.cellsOf 3)) = xs[5]? := hf 5 _ rfl
    rw [show Tryz.prog.cellsOf 3 = 1 by kernel_rfl] at g5
    obtain ⟨yg5, hyg5⟩ := some_at (l := xs) (k := 5) (by rw [hxl]; decide)
    rw [hyg5] at g5
    have g6 : DataW.trod enc Tryz.prog W 0 (fun _ => true) true k 9 (([v0, v1, v2, v3, v4, v5, v6, v7].drop 6).take (Tryz.prog.cellsOf 9)) = xs[6]? := hf 6 _ rfl
    rw [show Tryz.prog.cellsOf 9 = 1 by kernel_rfl] at g6
    obtain ⟨yg6, hyg6⟩ := some_at (l := xs) (k := 6) (by rw [hxl]; decide)
    rw [hyg6] at g6
    have g7 : DataW.trod enc Tryz.prog W 0 (fun _ => true) true k 47 (([v0, v1, v2, v3, v4, v5, v6, v7].drop 7).take (Tryz.prog.cellsOf 47)) = xs[7]? := hf 7 _ rfl
    rw [show Tryz.prog.cellsOf 47 = 1 by kernel_rfl] at g7
    obtain ⟨yg7, hyg7⟩ := some_at (l := xs) (k := 7) (by rw [hxl]; decide)
    rw [hyg7] at g7
    obtain ⟨n0, eg0, -, bg0⟩ := DataW.trod_int (cs := [v0]) Tryz.underlying3 g0
    simp only [List.cons.injEq, and_true] at eg0
    obtain ⟨n1, eg1, -, bg1⟩ := DataW.trod_int (cs := [v1]) Tryz.underlying3 g1
    simp only [List.cons.injEq, and_true] at eg1
    obtain ⟨n2, eg2, -, bg2⟩ := DataW.trod_int (cs := [v2]) Tryz.underlying3 g2
    simp only [List.cons.injEq, and_true] at eg2
    obtain ⟨n3, eg3, -, bg3⟩ := DataW.trod_int (cs := [v3]) Tryz.underlying3 g3
    simp only [List.cons.injEq, and_true] at eg3
    obtain ⟨n4, eg4, -, bg4⟩ := DataW.trod_int (cs := [v4]) Tryz.underlying3 g4
    simp only [List.cons.injEq, and_true] at eg4
    obtain ⟨n5, eg5, -, bg5⟩ := DataW.trod_int (cs := [v5]) Tryz.underlying3 g5
    simp only [List.cons.injEq, and_true] at eg5
    obtain ⟨sn, eg6, -, -⟩ := DataW.trod_string (cs := [v6]) Tryz.underlying9 g6
    simp only [List.cons.injEq, and_true] at eg6
    obtain ⟨rk, eg7, bg7⟩ := Rl.trod_float (cs := [v7]) Tryz.underlying47 g7
    simp only [List.cons.injEq, and_true] at eg7
    have hrk : rk < 2 * Fl.S := by
      have : rk < 2 ^ 64 := by simpa [Lit.wf] using bg7
      unfold Fl.S
      omega
    exact ⟨⟨n0, n1, n2, n3, n4, n5, sn, rk⟩, by rw [eg0, eg1, eg2, eg3, eg4, eg5, eg6, eg7]; rfl, hrk⟩
end Tw
end
section
open Go.RowKit Go.Shelf
namespace Tw
open Mem Tp Tr Mo Fo Sn Og St Pl Iv Rf
structure Boxed (W : World) (q : Rp) (B : Nat) (y : X3) (wx : World) : Prop where
  h : wx.heap[B]? = some (rpO y)
  r : RepX wx y
  b : Below W.heap.size W wx
  y : y.2 = q
theorem boxed_old {W w6 : World} {vb vl vm vb' vl' vm' : Value} {q : Rp} (hX : ∀ k, vb.ownBlock = some k ∨ vl.ownBlock = some k ∨ vm.ownBlock = some k → k < W.heap.size) (hB : Back (W.alloc rep0).drew w6 vb vl vm vb' vl' vm' q) (b6 : Below (W.alloc rep0).drew.heap.size (W.alloc rep0).drew w6) :
    Boxed W q W.heap.size (⟨vb', vl', vm'⟩, q) (((((w6.setCell ⟨W.heap.size, 0, none⟩ vb').setCell ⟨W.heap.size, 1, none⟩ (.int .i64 q.fl.c)).setCell ⟨W.heap.size, 2, none⟩ (.int .i64 q.fl.r)).setCell ⟨W.heap.size, 3, none⟩ vl').setCell ⟨W.heap.size, 4, none⟩ vm') := by
  have hs : (W.alloc rep0).drew.heap.size = W.heap.size + 1 := by show (W.alloc rep0).heap.size = _; simp
  have g : (W.alloc rep0).drew.heap[W.heap.size]? = some rep0 := alloc_new W rep0
  have g6 := below_at b6 g (by omega)
  have h5 := set5 (cs := [.slice none 0 0, .int .i64 0, .int .i64 0, .slice none 0 0, .slice none 0 0]) g6 0 vb' (.int .i64 q.fl.c) (.int .i64 q.fl.r) vl' vm' (by decide)
  have ho := fun j (hj : j ≠ W.heap.size) => set5_other (w := w6) hj 0 vb' (.int .i64 q.fl.c) (.int .i64 q.fl.r) vl' vm'
  have b60 : Below W.heap.size W w6 := ((Below.refl W.heap.size W).alloc (Nat.le_refl _) rep0).drew.trans (b6.mono (by omega))
  have hbe := set5_below b60 (Nat.le_refl _) 0 vb' (.int .i64 q.fl.c) (.int .i64 q.fl.r) vl' vm'
  have hne : ∀ k, blocks (⟨vb', vl', vm'⟩, q) k → k ≠ W.heap.size := fun k hk => by
    rcases hk with e | e | e
    · rcases hB.nb k e with h | h
      · have := hX k (.inl h); omega
      · omega
    · rcases hB.nl k e with h | h
      · have := hX k (.inr (.inl h)); omega
      · omega
    · rcases hB.nm k e with h | h
      · have := hX k (.inr (.inr h)); omega
      · omega
  exact ⟨h5, RepX.same (x := (⟨vb', vl', vm'⟩, q)) hB.r (by simp [World.setCell]) (fun k hk => ho k (hne k hk)), hbe, rfl⟩
theorem boxed_new {W w6 : World} {vb vl vm vb' vl' vm' : Value} {q : Rp} (hB : Back W.drew w6 vb vl vm vb' vl' vm' q) (b6 : Below W.drew.heap.size W.drew w6) :
    Boxed W q w6.heap.size (⟨vb', vl', vm'⟩, q) (w6.alloc (.cells #[vb', .int .i64 q.fl.c, .int .i64 q.fl.r, vl', vm'] 34)) := by
  have b60 : Below W.heap.size W w6 := (Below.refl W.heap.size W).drew.trans b6
  exact ⟨alloc_new _ _, RepW.below hB.r ((Below.refl w6.heap.size w6).alloc (Nat.le_refl _) _), b60.alloc b60.size _, rfl⟩
end Tw
end
section
open Go.RowKit Go.Shelf
attribute [local go_sem] Fl.run_store_float
namespace Tw
open Mem Tp Tr Mo Fo Sn Og St Pl Iv Rf
theorem since_last {l : List Mv} {j : Nat} {m : Mv} (h : l.Pairwise (fun a b => bef a.t b.t = true)) (hm : l[j]? = some m) (hj : l.length = j + 1) : since l m.t = [] := by
  unfold since
  rw [List.filter_eq_nil_iff]
  intro x hx
  obtain ⟨i, hi⟩ := List.getElem?_of_mem hx
  obtain ⟨hi1, rfl⟩ := List.getElem?_eq_some_iff.1 hi
  obtain ⟨hj1, rfl⟩ := List.getElem?_eq_some_iff.1 hm
  rcases Nat.lt_or_ge i j with q | q
  · have := List.pairwise_iff_getElem.1 h i j hi1 hj1 q
    rw [bef_not this]
    simp
  · obtain rfl : i = j := by omega
    rw [bef_irrefl]
    simp
theorem prune_last {n : Nat} {r : Rp} (h : InvR n r) {j : Nat} {m : Mv} (hm : r.log[j]? = some m) (hj : r.log.length = j + 1) : pruneR r m.t = (⟨treeR r, m.t, [], r.mks⟩, 0) := by
  have hmm := List.mem_of_getElem? hm
  have hs := since_last h.lrise hm hj
  rw [pruneR_yes ⟨(oneM_in (h.lone m hmm)).1, h.bel m hmm⟩ (h.abv m hmm)]
  unfold upto treeR
  rw [hs, List.length_nil, Nat.sub_zero, List.take_length]
theorem okD_of {l : List Dd} {most : Nat} (h : short_anyD l most = true) (hm : most ≤ 45) (hr : ∀ z ∈ l, z.rk < 2 * Fl.S) : OkD l := by
  have h := of_decide_eq_true h
  exact ⟨by omega, fun d hd => ⟨h.2 d hd, hr d hd⟩⟩
theorem allC_len8 (r : Rp) : (allC r).length = 8 := rfl
theorem chs_len {W : World} {v : Value} {l : List Ck.Ch} (h : Ck.Chs W v l) {n : Nat} (hn : l.length = n) (h0 : 0 < n) : ∃ b off cap, v = .slice (some ⟨b, off, none⟩) n cap ∧ b < W.heap.size := by
  obtain ⟨⟨a, cap, e, -, -, h1⟩, -⟩ := h
  obtain ⟨b, off, e1, e2, -⟩ := h1 (by omega)
  subst e1
  exact ⟨b, off, cap, by rw [e, hn], e2⟩
theorem sizes_walk (v : Value) (l : List Dd) (w : World) (hS : Mem.Dds w v l) (hr : ∀ z ∈ l, z.rk < 2 * Fl.S) (hl : l.length ≤ maxLen) :
    Calls Tryz.prog 4 #[v] w fun e w' => e = .returned (.bool true) ∧ Below w.heap.size w w' := by
  have HSH := Lib.hid (short_any v l 30 w hS (by omega) (by unfold maxLen at hl; omega))
  obtain ⟨a, cap, rfl⟩ := hS.len
  by_cases hsh : short_anyD l 30 = true
  · rw [hsh] at HSH
    have hOk := okD_of hsh (by omega) hr
    have HW := Lib.hid (fun W (h : Below w.heap.size w W) => world_any 3 _ l W (by omega) (by omega) (Sl.below hS h) hOk)
    replace hOk := Lib.hid hOk
    clear hS hsh hr hl
    go_enter Tryz.func4, Tryz.ntmps4
    go_wp2_with fail
    refine HSH.out.mono ?_
    rintro e w1 ⟨rfl, b1⟩
    have HW1 := Lib.hid (HW.out w1 b1)
    replace b1 := Lib.hid b1
    go_wp2_with fail
    refine HW1.out.mono ?_
    rintro e w2 ⟨p, b, vp, xs, pool, cs, rfl, hR, hP, b2⟩
    have hb2 := b1.out.trans (b2.mono b1.out.size)
    have hinv := hR.inv (fun d hd => (hOk.out.2 d hd).2)
    have hxl := hR.len.1
    rw [List.length_map] at hxl
    obtain ⟨x, hx⟩ := some_at (l := xs) (k := 0) (by omega)
    have hI := hinv.r x.2 (List.mem_map_of_mem (List.mem_of_getElem? hx))
    have hI' := hI.mono (show l.length ≤ 45 from hOk.out.1)
    have HC := Lib.hid (fun W => chunks_any _ _ _ r0 W (rep_x0 W) (inv_r0.wf (by omega)) inv_r0.rk)
    rw [show repV x0.1.b r0.fl x0.1.l x0.1.m = .agg #[.slice none 0 0, .int .i64 0, .int .i64 0, .slice none 0 0, .slice none 0 0] from rfl] at HC
    have HRp := Lib.hid (fun W (h : Below w2.heap.size w2 W) => replica_any W (hP.below h) 0 x hx)
    rw [show ((0 : Nat) : Int) + 1 = 1 from rfl] at HRp
    have HX := Lib.hid (fun W (h : Below w2.heap.size w2 W) => RepW.below (hP.rep x (List.mem_of_getElem? hx)) h)
    replace hI' := Lib.hid hI'
    replace hb2 := Lib.hid hb2
    replace b2 := Lib.hid b2
    clear hI hinv hR hP hx hxl
    go_wp2_with fail
    refine (HC.out _).mono ?_
    rintro e w3 ⟨⟨ve, rfl, hE⟩, b3⟩
    obtain ⟨be, oe, ce, rfl, hbe⟩ := chs_len hE (allC_len8 _) (by omega)
    have HRp3 := Lib.hid (HRp.out w3 b3)
    replace hE := Lib.hid hE
    replace b3 := Lib.hid b3
    go_wp2_with fail
    refine HRp3.out.mono ?_
    rintro e w4 ⟨rfl, b4⟩
    have b24 := b3.out.trans (b4.mono b3.out.size)
    have hX4 := HX.out w4 b24
    have hE4 := Ck.chs_below hE.out b4
    have hbe4 := Nat.lt_of_lt_of_le hbe b4.size
    obtain ⟨ab, kb, eb⟩ := hX4.b.len
    obtain ⟨al, kl, el⟩ := hX4.l.len
    obtain ⟨am, km, em⟩ := hX4.m.len
    obtain ⟨⟨vb, vl, vm⟩, r⟩ := x
    simp only at eb el em
    subst eb el em
    rw [show rpV (⟨.slice ab r.base.length kb, .slice al r.log.length kl, .slice am r.mks.length km⟩, r) = .agg #[.slice ab r.base.length kb, .int .i64 r.fl.c, .int .i64 r.fl.r, .slice al r.log.length kl, .slice am r.mks.length km] from rfl]
    have g5 := alloc_new w4 (.cells #[.slice ab r.base.length kb, .int .i64 r.fl.c, .int .i64 r.fl.r, .slice al r.log.length kl, .slice am r.mks.length km] 34)
    have b5 := (Below.refl w4.heap.size w4).alloc (Nat.le_refl _) (.cells #[.slice ab r.base.length kb, .int .i64 r.fl.c, .int .i64 r.fl.r, .slice al r.log.length kl, .slice am r.mks.length km] 34)
    have hX5 : RepX _ (⟨.slice ab r.base.length kb, .slice al r.log.length kl, .slice am r.mks.length km⟩, r) := RepW.below hX4 b5
    have hE5 := Ck.chs_below hE4 b5
    have hb5 := (hb2.out.trans (b24.mono hb2.out.size)).trans (b5.mono (Nat.le_trans hb2.out.size b24.size))
    have hbe5 := Nat.lt_of_lt_of_le hbe4 b5.size
    obtain ⟨W5, hW5⟩ : ∃ W5, w4.alloc (.cells #[.slice ab r.base.length kb, .int .i64 r.fl.c, .int .i64 r.fl.r, .slice al r.log.length kl, .slice am r.mks.length km] 34) = W5 := ⟨_, rfl⟩
    rw [hW5] at g5 b5 hX5 hE5 hb5 hbe5
    have hs5 : w4.heap.size < W5.heap.size := lt_of_block g5
    have c3 : W5.cell? ⟨w4.heap.size, 3, none⟩ = some (.slice al r.log.length kl) := cell_at g5 3
    rw [← hW5] at c3
    replace hW5 := Lib.hid hW5
    replace g5 := Lib.hid g5
    replace hX5 := Lib.hid hX5
    replace hE5 := Lib.hid hE5
    replace hb5 := Lib.hid hb5
    simp only at hI'
    clear HC HRp HRp3 HX hX4 hE hE4 b3 b4 b24 b5 hb2 b2 hbe hbe4
    have HWK := Lib.hid works_any
    by_cases hlog : r.log.length = 0
    · have t1 : ((r.log.length : Int) == 0) = true := by rw [hlog]; rfl
      replace hlog := Lib.hid hlog
      go_wp2_with fail
      rw [hW5.out]
      refine (HWK.out _).mono ?_
      rintro e w6 ⟨rfl, b6⟩
      have hb6 := Lib.hid (hb5.out.trans (b6.mono hb5.out.size))
      clear b6 c3
      go_wp2_with fail
      go_ret
      exact ⟨rfl, hb6.out⟩
    · have t1 : ((r.log.length : Int) == 0) = false := by rw [beq_eq_false_iff_ne]; omega
      obtain ⟨j, hj⟩ : ∃ j, r.log.length = j + 1 := ⟨r.log.length - 1, by omega⟩
      obtain ⟨m, hm⟩ := some_at (l := r.log) (k := j) (by omega)
      obtain ⟨bl, ol, rfl⟩ := hX5.out.l.addr (by omega)
      have hlt5 := sl_lt hX5.out.l (by omega)
      obtain ⟨n0, n1, -⟩ := mov_at hX5.out.l rfl hm
      have hpr := prune_last hI'.out hm hj
      have hIq := Lib.hid (inv_prune hI'.out m.t)
      obtain ⟨q, hq⟩ : ∃ q : Rp, q = ⟨treeR r, m.t, [], r.mks⟩ := ⟨_, rfl⟩
      rw [← hq] at hpr
      rw [hpr] at hIq
      have HPR := Lib.hid (fun W (h : Below W5.heap.size W5 W) => Fo.prune_any _ _ _ r m.t W (RepW.below hX5.out h) (hI'.out.wf (by omega)))
      rw [hpr] at HPR
      unfold repV tmV at HPR
      simp only at HPR hIq
      replace hq := Lib.hid hq
      have hw1 : IntKind.i64.wrap ((r.log.length : Int) - 1) = (j : Int) := by have := hI'.out.len; rw [IntKind.wrap_i64]; omega
      have hw2 : IntKind.i64.wrap (j : Int) = (j : Int) := by have := hI'.out.len; rw [IntKind.wrap_i64]; omega
      have i0 : (0 : Int) ≤ (j : Int) := by omega
      have i1 : (j : Int) < (r.log.length : Nat) := by omega
      replace hj := Lib.hid hj
      replace hm := Lib.hid hm
      have K5 := Lib.hid (fun W (h : Below W5.heap.size W5 W) => below_at h g5.out hs5)
      go_upto_region 10 with fail
      rw [hW5.out]
      go_cut [8, 9] (fun v8 v9 wx => ∃ (B : Nat) (y : X3), v8 = .pointer (some ⟨B, 0, none⟩) ∧ v9 = .int .i64 0 ∧ Hid (Boxed W5 q B y wx))
      case first =>
        have c0 : W5.cell? ⟨w4.heap.size, 0, none⟩ = some (.slice ab r.base.length kb) := cell_at g5.out 0
        have c1 : W5.cell? ⟨w4.heap.size, 1, none⟩ = some (.int .i64 r.fl.c) := cell_at g5.out 1
        have c2 : W5.cell? ⟨w4.heap.size, 2, none⟩ = some (.int .i64 r.fl.r) := cell_at g5.out 2
        have c3 : W5.cell? ⟨w4.heap.size, 3, none⟩ = some (.slice (some ⟨bl, ol, none⟩) r.log.length kl) := cell_at g5.out 3
        have c4 : W5.cell? ⟨w4.heap.size, 4, none⟩ = some (.slice am r.mks.length km) := cell_at g5.out 4
        have hBd := (Below.refl W5.heap.size W5).drew
        have hBa := ((Below.refl W5.heap.size W5).alloc (Nat.le_refl _) rep0).drew
        have gz : (W5.alloc rep0).drew.heap[W5.heap.size]? = some (.cells #[.slice none 0 0, .int .i64 0, .int .i64 0, .slice none 0 0, .slice none 0 0] 34 (0, 0)) := alloc_new W5 rep0
        have hsz : W5.heap.size < (W5.alloc rep0).drew.heap.size := by show _ < (W5.alloc rep0).heap.size; simp
        have hlt := fun k (h : _ ∨ _ ∨ _) => hX5.out.lt (k := k) h
        replace gz := Lib.hid gz
        replace hsz := Lib.hid hsz
        replace hlt := Lib.hid hlt
        unfold rep0 at hBa
        have cS : ∀ W, Below W5.heap.size W5 W → (W.cell? ⟨w4.heap.size, 0, none⟩ = some (.slice ab r.base.length kb) ∧ W.cell? ⟨w4.heap.size, 1, none⟩ = some (.int .i64 r.fl.c) ∧ W.cell? ⟨w4.heap.size, 2, none⟩ = some (.int .i64 r.fl.r) ∧ W.cell? ⟨w4.heap.size, 3, none⟩ = some (.slice (some ⟨bl, ol, none⟩) r.log.length kl) ∧ W.cell? ⟨w4.heap.size, 4, none⟩ = some (.slice am r.mks.length km) ∧ W.cell? ⟨bl, ol + j * 6, none⟩ = some (.int .i64 m.t.c) ∧ W.cell? ⟨bl, ol + j * 6 + 1, none⟩ = some (.int .i64 m.t.r) ∧ Below W5.heap.size W5 W) := fun W h => ⟨cell_at (K5.out W h) 0, cell_at (K5.out W h) 1, cell_at (K5.out W h) 2, cell_at (K5.out W h) 3, cell_at (K5.out W h) 4, (h.cell (p := ⟨bl, ol + j * 6, none⟩) hlt5).trans n0, (h.cell (p := ⟨bl, ol + j * 6 + 1, none⟩) hlt5).trans n1, h⟩
        replace cS := Lib.hid cS
        have HPA := Lib.hid (HPR.out _ hBa)
        have HPD := Lib.hid (HPR.out _ hBd)
        clear c0 c1 c2 c3 c4 n0 n1
        go_region_held3 (fun W : World => W.cell? ⟨w4.heap.size, 0, none⟩ = some (.slice ab r.base.length kb) ∧ W.cell? ⟨w4.heap.size, 1, none⟩ = some (.int .i64 r.fl.c) ∧ W.cell? ⟨w4.heap.size, 2, none⟩ = some (.int .i64 r.fl.r) ∧ W.cell? ⟨w4.heap.size, 3, none⟩ = some (.slice (some ⟨bl, ol, none⟩) r.log.length kl) ∧ W.cell? ⟨w4.heap.size, 4, none⟩ = some (.slice am r.mks.length km) ∧ W.cell? ⟨bl, ol + j * 6, none⟩ = some (.int .i64 m.t.c) ∧ W.cell? ⟨bl, ol + j * 6 + 1, none⟩ = some (.int .i64 m.t.r) ∧ Below W5.heap.size W5 W)
          (first | with_reducible assumption | with_reducible exact cS.out _ hBd | with_reducible exact cS.out _ hBa | with_reducible exact cS.out _ hb6.out | with_reducible exact cS.out _ (hb6.out.alloc hb6.out.size _) | exact cS.out _ (set5_below hb6.out (Nat.le_refl _) 0 _ _ _ _ _))
          (first
            | (go_at_call 13; (with_reducible refine HPA.out.mono ?_); rintro e w6 ⟨⟨vb', vl', vm', rfl, hB⟩, b6⟩; obtain ⟨ab', kb', eb⟩ := hB.r.b.len; subst eb; obtain ⟨al', kl', el⟩ := hB.r.l.len; subst el; obtain ⟨am', km', em⟩ := hB.r.m.len; subst em; have kk := below_at b6 gz.out hsz.out; have f0 := free_at kk 0; have f1 := free_at kk 1; have f2 := free_at kk 2; have f3 := free_at kk 3; have f4 := free_at kk 4; have u0 := (show w6.cell? ⟨W5.heap.size, 0, none⟩ = some _ from cell_at kk 0); have u1 := (show w6.cell? ⟨W5.heap.size, 1, none⟩ = some _ from cell_at kk 1); have u2 := (show w6.cell? ⟨W5.heap.size, 2, none⟩ = some _ from cell_at kk 2); have u3 := (show w6.cell? ⟨W5.heap.size, 3, none⟩ = some _ from cell_at kk 3); have u4 := (show w6.cell? ⟨W5.heap.size, 4, none⟩ = some _ from cell_at kk 4); have hb6 := Lib.hid (hBa.trans (b6.mono hBa.size)); have hbx := Lib.hid (boxed_old hlt.out hB b6); clear hB b6 kk)
            | (go_at_call 13; (with_reducible refine HPD.out.mono ?_); rintro e w6 ⟨⟨vb', vl', vm', rfl, hB⟩, b6⟩; obtain ⟨ab', kb', eb⟩ := hB.r.b.len; subst eb; obtain ⟨al', kl', el⟩ := hB.r.l.len; subst el; obtain ⟨am', km', em⟩ := hB.r.m.len; subst em; have hb6 := Lib.hid (hBd.trans (b6.mono hBd.size)); have hbx := Lib.hid (boxed_new hB b6); clear hB b6))
        all_goals
          go_wp2_with fail
          go_meet
          exact ⟨_, _, rfl, rfl, hbx⟩
      case rest =>
        obtain ⟨B, y, h8, h9, hBx⟩ := hcut
        subst h8 h9
        obtain ⟨⟨yb, yl, ym⟩, yr⟩ := y
        have hyq := hBx.out.y
        simp only at hyq
        obtain rfl : q = yr := hyq.symm
        obtain ⟨ab', kb', eb⟩ := hBx.out.r.b.len
        obtain ⟨al', kl', el⟩ := hBx.out.r.l.len
        obtain ⟨am', km', em⟩ := hBx.out.r.m.len
        simp only at eb el em
        subst eb el em
        have gB := hBx.out.h
        unfold rpO repO at gB
        simp only at gB
        have hBl := lt_of_block gB
        have y0 : wc.cell? ⟨B, 0, none⟩ = some (.slice ab' q.base.length kb') := cell_at gB 0
        have y1 : wc.cell? ⟨B, 1, none⟩ = some (.int .i64 q.fl.c) := cell_at gB 1
        have y2 : wc.cell? ⟨B, 2, none⟩ = some (.int .i64 q.fl.r) := cell_at gB 2
        have y3 : wc.cell? ⟨B, 3, none⟩ = some (.slice al' q.log.length kl') := cell_at gB 3
        have y4 : wc.cell? ⟨B, 4, none⟩ = some (.slice am' q.mks.length km') := cell_at gB 4
        have HC2 := Lib.hid (chunks_any _ _ _ q wc hBx.out.r (hIq.out.wf (by omega)) hIq.out.rk)
        unfold repV at HC2
        simp only at HC2
        replace gB := Lib.hid gB
        go_wp2_with fail
        refine HC2.out.mono ?_
        rintro e w7 ⟨⟨vk, rfl, hK⟩, b7⟩
        obtain ⟨bk, ok, ck, rfl, hbk⟩ := chs_len hK (allC_len8 _) (by omega)
        have h57 := hBx.out.b.trans (b7.mono hBx.out.b.size)
        have hE7 := Ck.chs_below hE5.out h57
        have hbe7 := Nat.lt_of_lt_of_le hbe5 h57.size
        have hb7 := hb5.out.trans (h57.mono hb5.out.size)
        have gB7 := below_at b7 gB.out hBl
        have g57 := below_at h57 g5.out hs5
        have hY7 := RepW.below hBx.out.r b7
        have hX7 := RepW.below hX5.out h57
        have hCE : ∀ k, 3 ≤ k → k < 8 → Ck.chAt (allC q) k = Ck.chAt (allC r0) k := fun k h1 h2 => by
          rw [hq.out]
          rcases (show k = 3 ∨ k = 4 ∨ k = 5 ∨ k = 6 ∨ k = 7 by omega) with rfl | rfl | rfl | rfl | rfl <;> rfl
        replace hCE := Lib.hid hCE
        replace hK := Lib.hid hK
        replace hE7 := Lib.hid hE7
        replace hb7 := Lib.hid hb7
        replace gB7 := Lib.hid gB7
        replace g57 := Lib.hid g57
        replace hY7 := Lib.hid hY7
        replace hX7 := Lib.hid hX7
        have hBl7 := Nat.lt_of_lt_of_le hBl b7.size
        have hs57 := Nat.lt_of_lt_of_le hs5 h57.size
        clear y0 y1 y2 y3 y4 b7 h57 gB
        go_wp2_with fail
        go_loopw [12] (fun i wr => ∃ k : Nat, i = .int .i64 k ∧ 3 ≤ k ∧ k ≤ 8 ∧ Hid (Below w7.heap.size w7 wr)) (fun i _ => 8 - (intOf i).toNat)
        case atStart => exact ⟨3, rfl, by omega, by omega, Lib.hid (Below.refl _ _)⟩
        case round =>
          obtain ⟨k, rfl, hk3, hk8, hbr⟩ := hrel
          by_cases hlt : k < 8
          · have hlt' : (k : Int) < 8 := by omega
            have hk0 : (0 : Int) ≤ (k : Int) := by omega
            have hK' := Ck.chs_below hK.out hbr.out
            have hE' := Ck.chs_below hE7.out hbr.out
            obtain ⟨hlk, k0, k1⟩ := Ck.chs_at hK' (j := k) (by rw [allC_len8]; exact hlt)
            obtain ⟨hle, e0, e1⟩ := Ck.chs_at hE' (j := k) (by rw [allC_len8]; exact hlt)
            rw [hCE.out k hk3 hlt] at k0 k1
            obtain ⟨z, hz⟩ : ∃ z, Ck.chAt (allC r0) k = z := ⟨_, rfl⟩
            rw [hz] at k0 k1 e0 e1
            have hS1 := (Below.refl wr.heap.size wr).drew
            haveI hne : Nonempty (Held (Below wr.heap.size wr)) := ⟨⟨_, hS1⟩⟩
            have cx0 : ∀ q : Held (Below wr.heap.size wr), q.w.cell? ⟨bk, ok + k * 2, none⟩ = some (.int .i64 z.1) := fun q => (q.h.cell (p := ⟨bk, ok + k * 2, none⟩) hlk).trans k0
            have cx1 : ∀ q : Held (Below wr.heap.size wr), q.w.cell? ⟨bk, ok + k * 2 + 1, none⟩ = some (.string z.2) := fun q => (q.h.cell (p := ⟨bk, ok + k * 2 + 1, none⟩) hlk).trans k1
            have cy0 : ∀ q : Held (Below wr.heap.size wr), q.w.cell? ⟨be, oe + k * 2, none⟩ = some (.int .i64 z.1) := fun q => (q.h.cell (p := ⟨be, oe + k * 2, none⟩) hle).trans e0
            have cy1 : ∀ q : Held (Below wr.heap.size wr), q.w.cell? ⟨be, oe + k * 2 + 1, none⟩ = some (.string z.2) := fun q => (q.h.cell (p := ⟨be, oe + k * 2 + 1, none⟩) hle).trans e1
            clear k0 k1 e0 e1 hK' hE' hz
            go_wp2_with fail
            refine wp_region_class (Below wr.heap.size wr) (by kernel_rfl) (by kernel_rfl) hS1 ?_
            repeat (go_big_quiet_step (fail))
            refine wpQuiet_nil ?_
            intro _ hw'
            obtain ⟨⟨Wq, hq2⟩, hw''⟩ := hw'
            subst hw''
            have hbq := Lib.hid (hbr.out.trans (hq2.mono hbr.out.size))
            clear hq2 hS1 hne cx0 cx1 cy0 cy1
            go_wp2_with fail
            go_roundw
            case rel => exact ⟨k + 1, by go_num, by omega, by omega, hbq⟩
            case measure => simp [intOf]; omega
          · obtain rfl : k = 8 := by omega
            have gB9 := below_at hbr.out gB7.out hBl7
            have g59 := below_at hbr.out g57.out hs57
            have hY9 := RepW.below hY7.out hbr.out
            have hX9 := RepW.below hX7.out hbr.out
            have hlq : q.log.length = 0 := by rw [hq.out]; rfl
            have t9 : ((q.log.length : Int) == 0) = true := by rw [hlq]; rfl
            replace hlq := Lib.hid hlq
            have hBd := (Below.refl wr.heap.size wr).drew
            have cS : ∀ W, Below wr.heap.size wr W → (W.cell? ⟨B, 0, none⟩ = some (.slice ab' q.base.length kb') ∧ W.cell? ⟨B, 3, none⟩ = some (.slice al' q.log.length kl') ∧ W.cell? ⟨w4.heap.size, 0, none⟩ = some (.slice ab r.base.length kb) ∧ W.cell? ⟨w4.heap.size, 1, none⟩ = some (.int .i64 r.fl.c) ∧ W.cell? ⟨w4.heap.size, 2, none⟩ = some (.int .i64 r.fl.r) ∧ W.cell? ⟨w4.heap.size, 3, none⟩ = some (.slice (some ⟨bl, ol, none⟩) r.log.length kl) ∧ W.cell? ⟨w4.heap.size, 4, none⟩ = some (.slice am r.mks.length km) ∧ Below wr.heap.size wr W) := fun W h => (fun a b => ⟨cell_at a 0, cell_at a 3, cell_at b 0, cell_at b 1, cell_at b 2, cell_at b 3, cell_at b 4, h⟩) (below_at h gB9 (lt_of_block gB9)) (below_at h g59 (lt_of_block g59))
            have hwfr := hI'.out.wf (by omega)
            have HTd := Lib.hid (Fo.tree_any _ _ (.slice am r.mks.length km) r.fl r.base r.log wr.drew (RepW.below hX9 hBd).b (RepW.below hX9 hBd).l (by have := hwfr.len; omega) (by have := hwfr.len; omega) (WfR.okT hwfr) (WfR.inR hwfr))
            unfold repV at HTd
            have htq : foldM r.base r.log = q.base := by rw [hq.out]; rfl
            rw [htq] at HTd
            have HSm := Lib.hid (fun W vt (h : Below wr.heap.size wr W) (ht : Mem.Rows W vt q.base) => (by have h := sameR_any _ vt q.base q.base W (RepW.below hY9 h).b ht hIq.out.rk.1 hIq.out.rk.1 (by have := hIq.out.len; omega); rw [decide_eq_true rfl] at h; exact h : Calls Tryz.prog 15 #[.slice ab' q.base.length kb', vt] W fun e w' => e = .returned (.bool true) ∧ Below W.heap.size W w'))
            have hfin := Lib.hid (hb7.out.trans (hbr.out.mono hb7.out.size))
            replace cS := Lib.hid cS
            clear gB9 g59 hY9 hX9 hwfr htq
            go_wp2_with fail
            go_region_held3 (fun W : World => W.cell? ⟨B, 0, none⟩ = some (.slice ab' q.base.length kb') ∧ W.cell? ⟨B, 3, none⟩ = some (.slice al' q.log.length kl') ∧ W.cell? ⟨w4.heap.size, 0, none⟩ = some (.slice ab r.base.length kb) ∧ W.cell? ⟨w4.heap.size, 1, none⟩ = some (.int .i64 r.fl.c) ∧ W.cell? ⟨w4.heap.size, 2, none⟩ = some (.int .i64 r.fl.r) ∧ W.cell? ⟨w4.heap.size, 3, none⟩ = some (.slice (some ⟨bl, ol, none⟩) r.log.length kl) ∧ W.cell? ⟨w4.heap.size, 4, none⟩ = some (.slice am r.mks.length km) ∧ Below wr.heap.size wr W)
              (first | with_reducible assumption | with_reducible exact cS.out _ hBd | with_reducible exact cS.out _ hba.out | with_reducible exact cS.out _ hbb.out | with_reducible exact cS.out _ hbc.out)
              (first
                | (go_at_call 16; (with_reducible refine HTd.out.mono ?_); rintro e wa ⟨⟨vt, rfl, ht⟩, ba⟩; obtain ⟨at', kt', et⟩ := ht.len; subst et; have hba := Lib.hid (hBd.trans (ba.mono hBd.size)); have HS2 := Lib.hid (HSm.out _ _ hba.out ht); clear ht ba)
                | (go_at_call 15; (with_reducible refine HS2.out.mono ?_); rintro e wb ⟨rfl, bb⟩; have hbb := Lib.hid (hba.out.trans (bb.mono hba.out.size)); clear bb)
                | (go_at_call 10; (with_reducible refine (HWK.out _).mono ?_); rintro e wd ⟨rfl, bd⟩; have hbc := Lib.hid (hbb.out.trans (bd.mono hbb.out.size)); clear bd))
            all_goals
              go_wp2_with fail
              go_ret
              exact ⟨rfl, hfin.out.trans (hbc.out.mono hfin.out.size)⟩
  · replace hsh : short_anyD l 30 = false := by simpa using hsh
    rw [hsh] at HSH
    have HWK := Lib.hid works_any
    clear hS hsh hr hl
    go_enter Tryz.func4, Tryz.ntmps4
    go_wp2_with fail
    refine HSH.out.mono ?_
    rintro e w1 ⟨rfl, b1⟩
    replace b1 := Lib.hid b1
    go_wp2_with fail
    refine (HWK.out _).mono ?_
    rintro e w6 ⟨rfl, b6⟩
    have hb6 := Lib.hid (b1.out.trans (b6.mono b1.out.size))
    clear b6
    go_wp2_with fail
    go_ret
    exact ⟨rfl, hb6.out⟩
open Go.ChangeShapes Go.WideShapes Go.ChangeAt in
theorem sizes_ok {H : Type} {enc : TypeId × Value → H} {d0 : DataW H} {p0 : List MemPlace} (W : World) (b : Nat) (v0 : Value) (o0 : Value.okWide Tryz.prog W .any b 22 v0) (h0 : DataW.Trod enc Tryz.prog W 0 (fun _ => true) true 22 v0 d0 p0) :
    Calls Tryz.prog 4 #[v0] W fun e w' => e = .returned (.bool true) ∧ Below W.heap.size W w' := by
  obtain ⟨l, hS, hr, hl⟩ := dds_of o0 h0
  exact sizes_walk v0 l W hS hr hl
end Tw
end
end Go.Proofs.YtnlijlknjhkoaaaGreat
