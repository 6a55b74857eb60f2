/-
  PART 5 of what law TopSizes leans on: plain lemmas and walks, of which each says its own condition.
-/
import Derived.Test.YtnlijlknjhkoaaaGreatBTopSizes4
set_option maxRecDepth 100000
set_option maxHeartbeats 16000000
namespace Go.Proofs.YtnlijlknjhkoaaaGreat
section
open Go.RowKit Go.Shelf
attribute [local go_sem] Fl.run_store_float
namespace Sn
open Mem Tp Tr Mo Pk Og Fo
theorem rep_resultsAt (fn : Func) (tc t5 : Nat) (hr : fn.results = #[.cell tc 34, .tmp t5]) (tmps : Array Value) (w : World) (B : Nat) (fl : Tm) (vb vl vm : Value) (h : tmps.getD tc undef = .pointer (some ⟨B, 0, none⟩)) (hw : w.heap[B]? = some (repO vb fl vl vm)) :
    (results fn tmps).run Tryz.prog w = .ok (.tuple #[repV vb fl vl vm, tmps.getD t5 undef]) w := by
  unfold repO at hw
  have c0 : w.cell? ⟨B, 0, none⟩ = some vb := cell_at hw 0
  have c1 : w.cell? ⟨B, 1, none⟩ = some (.int .i64 fl.c) := cell_at hw 1
  have c2 : w.cell? ⟨B, 2, none⟩ = some (.int .i64 fl.r) := cell_at hw 2
  have c3 : w.cell? ⟨B, 3, none⟩ = some vl := cell_at hw 3
  have c4 : w.cell? ⟨B, 4, none⟩ = some vm := cell_at hw 4
  simp only [results, hr]
  simp only [Array.getD_eq_getD_getElem?] at h
  simp [Sem.run_bind, Result.andThen, h, go_sem]
  simp [c0, c1, c2, c3, c4]
  rfl
theorem decode_ok (vl : Value) (r : Rp) (w : World) (hC : Ck.Chs w vl (sepC r)) (hW : WfR r) (hk : RkR r) :
    Calls Tryz.prog 111 #[vl] w fun e w' => (∃ vb vm base', e = .returned (.tuple #[repV vb r.fl (.slice none 0 0) vm, .int .i64 0]) ∧ Mem.Rows w' vb base' ∧ EqR r.base base' ∧ Mem.Mks w' vm r.mks ∧
      (∀ k, vb.ownBlock = some k → w.heap.size ≤ k ∧ k < w'.heap.size) ∧ (∀ k, vm.ownBlock = some k → w.heap.size ≤ k ∧ k < w'.heap.size)) ∧ Below w.heap.size w w' := by
  have h1 := hW.len
  have h2 := hW.mlen
  obtain ⟨f1, f2, f3, f4⟩ := fl_nat hW
  obtain ⟨nc, hnc⟩ : ∃ nc : Nat, r.fl.c = (nc : Int) := ⟨r.fl.c.toNat, by omega⟩
  obtain ⟨nr, hnr⟩ : ∃ nr : Nat, r.fl.r = (nr : Int) := ⟨r.fl.r.toNat, by omega⟩
  have hx1 : colsB [Col.cnt r.fl.c.toNat, .cnt r.fl.r.toNat] = putL nc ++ putL nr := by rw [hnc, hnr]; unfold colsB; simp [colB]
  have hcl : (sepC r).length = 3 := rfl
  obtain ⟨a0, cap0, rfl⟩ := (chs_sl hC).len
  obtain ⟨cb, co, rfl⟩ := (chs_sl hC).addr (by rw [hcl]; decide)
  rw [hcl]
  have K : ∀ W, Below w.heap.size w W → W.cell? ⟨cb, co, none⟩ = some (.int .i64 1) ∧ W.cell? ⟨cb, co + 1, none⟩ = some (.string (str (putL nc ++ putL nr))) ∧ W.cell? ⟨cb, co + 2, none⟩ = some (.int .i64 2) ∧ W.cell? ⟨cb, co + 2 + 1, none⟩ = some (.string (str (colsB (rowsC r.base)))) ∧ W.cell? ⟨cb, co + 4, none⟩ = some (.int .i64 3) ∧ W.cell? ⟨cb, co + 4 + 1, none⟩ = some (.string (str (colsB (marksC r.mks)))) := fun W h => by
    have hc := Ck.chs_below hC h
    have q0 := Ck.chs_at hc (j := 0) (by rw [hcl]; decide)
    have q1 := Ck.chs_at hc (j := 1) (by rw [hcl]; decide)
    have q2 := Ck.chs_at hc (j := 2) (by rw [hcl]; decide)
    exact ⟨q0.2.1, q0.2.2.trans (by rw [← hx1]; rfl), q1.2.1, q1.2.2, q2.2.1, q2.2.2⟩
  replace K := Lib.hid K
  have HR := Lib.hid (fun (W : World) => takeRows_ok r.base W (by omega) hW.one hk.1 hW.rise hW.acyc)
  have HM := Lib.hid (fun (W : World) => takeMarks_ok r.mks W (by omega) hW.mks)
  have hwc : IntKind.i64.wrap (nc : Int) = (nc : Int) := by rw [IntKind.wrap_i64]; omega
  have hwr : IntKind.i64.wrap (nr : Int) = (nr : Int) := by rw [IntKind.wrap_i64]; omega
  have hgc : decide (9223372036854775807 < (nc : Int)) = false := decide_eq_false (by omega)
  have hgr : decide (9223372036854775807 < (nr : Int)) = false := decide_eq_false (by omega)
  have hc1 : nc ≤ 4611686018427387903 := by omega
  have hr1 : nr ≤ 255 := by omega
  have hb0 := (Below.refl w.heap.size w).alloc (Nat.le_refl _) (.cells #[.slice none 0 0, .int .i64 0, .int .i64 0, .slice none 0 0, .slice none 0 0] 34)
  have g0 := alloc_new w (.cells #[.slice none 0 0, .int .i64 0, .int .i64 0, .slice none 0 0, .slice none 0 0] 34)
  obtain ⟨W0, hW0⟩ : ∃ W0, w.alloc (.cells #[.slice none 0 0, .int .i64 0, .int .i64 0, .slice none 0 0, .slice none 0 0] 34) = W0 := ⟨_, rfl⟩
  rw [hW0] at hb0 g0
  have hs0 : W0.heap.size = w.heap.size + 1 := by rw [← hW0]; simp
  obtain ⟨c0, c1, c2, c3, c4, c5⟩ := K.out (w.alloc (.cells #[.slice none 0 0, .int .i64 0, .int .i64 0, .slice none 0 0, .slice none 0 0] 34)) ((Below.refl w.heap.size w).alloc (Nat.le_refl _) _)
  have HRes := Lib.hid (fun (tmps : Array Value) (W : World) (vb vm : Value) h h' => rep_resultsAt Tryz.f111 2 3 rfl tmps W w.heap.size r.fl vb (.slice none 0 0) vm h h')
  replace hW0 := Lib.hid hW0
  have HG := Lib.hid g0
  replace hb0 := Lib.hid hb0
  replace hnc := Lib.hid hnc
  replace hnr := Lib.hid hnr
  obtain ⟨s0, hs0'⟩ : ∃ s, str (putL nc ++ putL nr) = s := ⟨_, rfl⟩
  rw [hs0'] at c1 K
  replace hs0' := Lib.hid hs0'
  clear hC hW hk g0 hx1 f1 f2 f3 f4
  generalize str (colsB (rowsC r.base)) = s1 at *
  generalize str (colsB (marksC r.mks)) = s2 at *
  go_enter Tryz.func111, Tryz.ntmps111
  go_wp2_with fail
  rw [hW0.out]
  refine (new_any _ _).mono ?_
  rintro e w1 ⟨rfl, hw1⟩
  have hB := Lib.hid (show RB (w.heap.size + 1) (putL nc ++ putL nr) w1 by rw [hw1, ← hs0'.out, ← hs0]; exact RB.new _ _)
  have hb := Lib.hid (show Below W0.heap.size W0 w1 by rw [hw1]; exact (Below.refl _ _).alloc (Nat.le_refl _) _)
  have hl0 := lt_of_block hB.out
  clear hw1 c0 c1 c2 c3 c4 c5 hW0
  go_wp2_with fail
  refine (rb_num hB.out (by unfold W64; omega) (by have := putL_length nr; omega)).mono ?_
  rintro e w2 ⟨rfl, hB2, k2⟩
  have hb2 := Lib.hid (hb.out.trans (k2.to_below (B := W0.heap.size) (by omega) (fun i hi h => by omega)))
  have hB2' := Lib.hid (show RB (w.heap.size + 1) (putL nr ++ []) w2 by rw [List.append_nil]; exact hB2)
  have hs2 := k2.size
  clear k2 hB hb hB2
  go_wp2_with fail
  refine (rb_num hB2'.out (by unfold W64; omega) (by simp)).mono ?_
  rintro e w3 ⟨rfl, hB3, k3⟩
  have hb3 := Lib.hid (hb2.out.trans (k3.to_below (B := W0.heap.size) (by omega) (fun i hi h => by omega)))
  replace hB3 := Lib.hid hB3
  have hs3 := k3.size
  clear k3 hB2' hb2
  go_wp2_with fail
  refine (rb_done hB3.out).mono ?_
  rintro e w4 ⟨rfl, rfl⟩
  have hbw := hb0.out.trans (hb3.out.mono hb0.out.size)
  obtain ⟨c0, c1, c2, c3, c4, c5⟩ := K.out w3 hbw
  have hbw3 := hbw.size
  replace hbw := Lib.hid hbw
  clear hB3
  go_wp2_with fail
  refine (HR.out _).mono ?_
  rintro e w5 ⟨⟨vb, base', rfl, hRb, hEq, hxb⟩, b5⟩
  obtain ⟨ab, kb, eb⟩ := hRb.len
  subst eb
  have hb5 := Lib.hid (hb3.out.trans (b5.mono hb3.out.size))
  have hbw5 := hbw.out.trans (b5.mono hbw3)
  have hs5 := b5.size
  clear c0 c1 c2 c3 c4 c5
  obtain ⟨c0, c1, c2, c3, c4, c5⟩ := K.out w5 hbw5
  replace hRb := Lib.hid hRb
  replace hEq := Lib.hid hEq
  replace hxb := Lib.hid hxb
  replace hbw5 := Lib.hid hbw5
  clear b5 hb3 HR
  go_wp2_with fail
  refine (HM.out _).mono ?_
  rintro e w6 ⟨⟨vm, rfl, hMk, hxm⟩, b6⟩
  obtain ⟨am, km, em⟩ := hMk.len
  subst em
  have hb6 := hb5.out.trans (b6.mono hb5.out.size)
  have hRb6 := Lib.hid (hRb.out.below b6)
  have hbw6 := Lib.hid (hbw5.out.trans (b6.mono hbw5.out.size))
  have k2 : w6.heap[w.heap.size]? = some (.cells #[.slice none 0 0, .int .i64 0, .int .i64 0, .slice none 0 0, .slice none 0 0] 34 (0, 0)) := below_at hb6 HG.out (by omega)
  have hs6 := b6.size
  have ones : Hid (∀ v ∈ [Value.slice ab base'.length kb, .int .i64 (nc : Int), .int .i64 (nr : Int), .slice none 0 0, .slice am r.mks.length km], v.oneCell' = true) := Lib.hid (by
    intro v hv
    simp only [List.mem_cons, List.not_mem_nil, or_false] at hv
    rcases hv with rfl | rfl | rfl | rfl | rfl <;> rfl)
  replace hMk := Lib.hid hMk
  replace hxm := Lib.hid hxm
  clear c0 c1 c2 c3 c4 c5 b6 hb6 hb5 HM
  go_wp2_with (refine wpList_store_splice (by rfl) 34 _ _ (by rfl) w.heap.size 0 [.slice ab base'.length kb, .int .i64 (nc : Int), .int .i64 (nr : Int), .slice none 0 0, .slice am r.mks.length km] (by rfl) (by rfl) 34 [.slice none 0 0, .int .i64 0, .int .i64 0, .slice none 0 0, .slice none 0 0] k2 (info_rep.trans rfl) (by simp) ones.out ?_; intro w7 hg7 hB7 hO7)
  have hb9 := hB7.out w.heap.size w hbw6.out (Nat.le_refl _)
  have hs9 : w6.heap.size ≤ w7.heap.size := (hB7.out 0 _ (Below.refl 0 _) (Nat.zero_le _)).size
  refine bodyPost_ret (HRes.out _ w7 (.slice ab base'.length kb) (.slice am r.mks.length km) rfl ?_) rfl ?_
  · unfold repO
    rw [hnc.out, hnr.out]
    exact hg7.out.trans rfl
  · have hx1 := hxb.out
    have hx2 := hxm.out
    exact ⟨⟨_, _, _, rfl, sl_same hRb6.out hs9 (fun k e _ => hO7.out k (by have := hx1 k e; omega)), hEq.out, sl_same hMk.out hs9 (fun k e _ => hO7.out k (by have := hx2 k e; omega)), (fun k e => by have := hx1 k e; omega), (fun k e => by have := hx2 k e; omega)⟩, hb9⟩
end Sn
end
section
open Go.RowKit Go.Shelf
attribute [local go_sem] Fl.run_store_float
namespace Og
open Mem Tp Tr Mo Pk
def D1 (l : List Mv) (bl B : Nat) (w' : World) : Prop := ∃ v L, VM bl v w' ∧ w'.ownsRow B 49 6 v l.length ((withRk l L).flatMap movC) ∧ L.length = l.length ∧ (∀ z ∈ L, z < 2 * Fl.S) ∧ L.map Fl.canon = (l.map (fun m => m.rk)).map Fl.canon
theorem dec1_ok (l : List Mv) (vl : Value) (bs bl : Nat) (w : World) (h0 : w.heap[bs]? = some (.cells #[vl] 53 (0, 0))) (hC : Ck.Chs w vl (opC l)) (h2 : VM bl (.slice none 0 0) w) (_hne : bs ≠ bl)
    (hl : l.length ≤ 250) (hn : ∀ x ∈ l, oneM x = true) (hk : ∀ x ∈ l, x.rk < 2 * Fl.S) (hso : l.Pairwise (fun a b => bef a.t b.t = true)) :
    Calls Tryz.prog 149 #[.pointer (some ⟨bs, 0, none⟩), .pointer (some ⟨bl, 0, none⟩)] w fun e w' => e = .returned (.tuple #[]) ∧ D1 l bl w.heap.size w' ∧ Kept (· = bl) w w' := by
  obtain ⟨j0, hj, hy0, hy1, hy2⟩ := info_parts infoMov
  have hin : ∀ x ∈ l, okT x.t ∧ (1 ≤ x.ch ∧ x.ch ≤ 2147483647 ∧ 0 ≤ x.pa ∧ x.pa ≤ 2147483647 ∧ x.nm.size ≤ 64) ∧ Wd.validU x.nm = true := fun x hx => by
    have h := Fo.oneM_in (hn x hx)
    have h2 := Fo.oneR_in h.2
    exact ⟨h.1, h2.1, h2.2⟩
  have hm : ∀ (f : Mv → Int), (∀ x ∈ l, -9223372036854775808 ≤ f x ∧ f x ≤ 9223372036854775807) → ∀ n ∈ l.map f, -9223372036854775808 ≤ n ∧ n ≤ 9223372036854775807 := fun f hf n hn => by
    obtain ⟨x, hx, rfl⟩ := List.mem_map.1 hn
    exact hf x hx
  have hlm : ∀ {β : Type} (f : Mv → β), (l.map f).length = l.length := fun f => List.length_map ..
  have C0 := Lib.hid (fun W => count_ok l.length W (by omega))
  have C1 := Lib.hid (fun W => cut_ok (dEnc (l.map (fun m : Mv => m.t.c))) (Rn.encRuns (l.map fun m : Mv => m.t.r.toNat)) W (by have h1 := dEnc_len (l.map (fun m : Mv => m.t.c)); have h2 := Rn.encRuns_len (l.map fun m : Mv => m.t.r.toNat); rw [hlm] at h1 h2; omega))
  have C2 := Lib.hid (fun W => decD (l := l.map (fun m : Mv => m.t.c)) (hm _ (fun x hx => by have := (hin x hx).1; unfold okT at this; omega)) (by rw [hlm]; omega) W)
  have C3 := Lib.hid (fun W => Rn.decode_any (l.map fun m : Mv => m.t.r.toNat) W (by rw [hlm]; omega) (fun n hn => by
    obtain ⟨x, hx, rfl⟩ := List.mem_map.1 hn
    have := (hin x hx).1
    unfold okT at this
    unfold W64
    omega))
  have C4 := Lib.hid (fun W => cut_ok (dEnc (l.map (fun m : Mv => m.pa))) (dEnc (l.map (fun m : Mv => m.ch))) W (by have h1 := dEnc_len (l.map (fun m : Mv => m.pa)); have h2 := dEnc_len (l.map fun m : Mv => m.ch); rw [hlm] at h1 h2; omega))
  have C5 := Lib.hid (fun W => decD (l := l.map (fun m : Mv => m.pa)) (hm _ (fun x hx => by have := (hin x hx).2; omega)) (by rw [hlm]; omega) W)
  have C6 := Lib.hid (fun W => decD (l := l.map (fun m : Mv => m.ch)) (hm _ (fun x hx => by have := (hin x hx).2; omega)) (by rw [hlm]; omega) W)
  have C7 := Lib.hid (fun W => Dc.decode_any (l.map (fun m : Mv => m.nm)) W (by rw [hlm]; omega) (fun n hn => by
    obtain ⟨x, hx, rfl⟩ := List.mem_map.1 hn
    have := hin x hx
    exact ⟨by omega, this.2.2⟩))
  have C8 := Lib.hid (fun W => takeRanks_ok (l.map (fun m : Mv => m.rk)) (fun n hn => by
    obtain ⟨x, hx, rfl⟩ := List.mem_map.1 hn
    exact hk x hx) (by rw [hlm]; omega) W)
  rw [hlm] at C2 C3 C5 C6 C7 C8
  have HIN := Lib.hid hin
  have HN := Lib.hid hn
  have HQ := Lib.hid hso
  have hbl := lt_of_block h2
  have hbs := lt_of_block h0
  obtain ⟨a0, cap0, rfl⟩ := (Sn.chs_sl hC).len
  have hcl : (opC l).length = 5 := rfl
  obtain ⟨cb, co, rfl⟩ := (Sn.chs_sl hC).addr (by rw [hcl]; decide)
  rw [hcl] at h0
  have K : ∀ W, Below w.heap.size w W → W.cell? ⟨bs, 0, none⟩ = some (.slice (some ⟨cb, co, none⟩) 5 cap0) ∧ W.cell? ⟨cb, co + 1, none⟩ = some (.string (str (putL l.length))) ∧ W.cell? ⟨cb, co + 2 + 1, none⟩ = some (.string (str (partL (dEnc (l.map (fun m : Mv => m.t.c))) ++ Rn.encRuns (l.map fun m : Mv => m.t.r.toNat)))) ∧
      W.cell? ⟨cb, co + 4 + 1, none⟩ = some (.string (str (partL (dEnc (l.map (fun m : Mv => m.pa))) ++ dEnc (l.map (fun m : Mv => m.ch))))) ∧ W.cell? ⟨cb, co + 6 + 1, none⟩ = some (.string (str (Dc.encDict (l.map (fun m : Mv => m.nm))))) ∧ W.cell? ⟨cb, co + 8 + 1, none⟩ = some (.string (str (ranksL (l.map (fun m : Mv => m.rk))))) := fun W h => by
    have hc := Ck.chs_below hC h
    refine ⟨cell_at (below_at h h0 hbs) 0, ?_, ?_, ?_, ?_, ?_⟩
    · exact (Ck.chs_at hc (j := 0) (by rw [hcl]; decide)).2.2
    · exact (Ck.chs_at hc (j := 1) (by rw [hcl]; decide)).2.2
    · exact (Ck.chs_at hc (j := 2) (by rw [hcl]; decide)).2.2
    · exact (Ck.chs_at hc (j := 3) (by rw [hcl]; decide)).2.2
    · exact (Ck.chs_at hc (j := 4) (by rw [hcl]; decide)).2.2
  replace K := Lib.hid K
  have h2' := Lib.hid h2
  clear hC h0 h2 hn hk hso hin hm hlm hcl
  obtain ⟨k0, k1, -⟩ := K.out w (Below.refl _ _)
  generalize str (putL l.length) = s0 at *
  generalize str (partL (dEnc (l.map (fun m : Mv => m.t.c))) ++ Rn.encRuns (l.map fun m : Mv => m.t.r.toNat)) = s1 at *
  generalize str (partL (dEnc (l.map (fun m : Mv => m.pa))) ++ dEnc (l.map (fun m : Mv => m.ch))) = s2 at *
  generalize str (Dc.encDict (l.map (fun m : Mv => m.nm))) = s3 at *
  generalize str (ranksL (l.map (fun m : Mv => m.rk))) = s4 at *
  generalize str (dEnc (l.map (fun m : Mv => m.t.c))) = t1 at *
  generalize str (Rn.encRuns (l.map fun m : Mv => m.t.r.toNat)) = t2 at *
  generalize str (dEnc (l.map (fun m : Mv => m.pa))) = t3 at *
  generalize str (dEnc (l.map (fun m : Mv => m.ch))) = t4 at *
  go_enter Tryz.func149, Tryz.ntmps149
  go_wp2_with fail
  refine (C0.out _).mono ?_
  rintro e w1 ⟨rfl, b1⟩
  obtain ⟨q0, -, q1, -⟩ := K.out _ b1
  replace b1 := Lib.hid b1
  clear k0 k1
  go_wp2_with fail
  refine (C1.out _).mono ?_
  rintro e w2 ⟨rfl, b2⟩
  replace b2 := Lib.hid (b1.out.trans (b2.mono b1.out.size))
  clear q0 q1 b1
  go_wp2_with fail
  refine (C2.out _).mono ?_
  rintro e w3 ⟨⟨y1, rfl, hY1⟩, b3⟩
  replace hY1 := Lib.hid hY1
  replace b3 := Lib.hid (b2.out.trans (b3.mono b2.out.size))
  clear b2
  go_wp2_with fail
  refine (got_ints _ _).mono ?_
  rintro e w4 ⟨rfl, rfl⟩
  go_wp2_with fail
  refine (C3.out _).mono ?_
  rintro e w4 ⟨⟨y2, rfl, hY2⟩, b4⟩
  replace hY1 := Lib.hid (hY1.out.below b4)
  replace hY2 := Lib.hid (rd_sl hY2)
  replace b4 := Lib.hid (b3.out.trans (b4.mono b3.out.size))
  clear b3
  go_wp2_with fail
  refine (got_us _ _).mono ?_
  rintro e w5 ⟨rfl, rfl⟩
  obtain ⟨q0, -, -, q1, -⟩ := K.out _ b4.out
  go_wp2_with fail
  refine (C4.out _).mono ?_
  rintro e w5 ⟨rfl, b5⟩
  replace hY1 := Lib.hid (hY1.out.below b5)
  replace hY2 := Lib.hid (hY2.out.below b5)
  replace b5 := Lib.hid (b4.out.trans (b5.mono b4.out.size))
  clear b4 q0 q1
  go_wp2_with fail
  refine (C5.out _).mono ?_
  rintro e w6 ⟨⟨y3, rfl, hY3⟩, b6⟩
  replace hY1 := Lib.hid (hY1.out.below b6)
  replace hY2 := Lib.hid (hY2.out.below b6)
  replace hY3 := Lib.hid hY3
  replace b6 := Lib.hid (b5.out.trans (b6.mono b5.out.size))
  clear b5
  go_wp2_with fail
  refine (got_ints _ _).mono ?_
  rintro e w7 ⟨rfl, rfl⟩
  go_wp2_with fail
  refine (C6.out _).mono ?_
  rintro e w7 ⟨⟨y4, rfl, hY4⟩, b7⟩
  replace hY1 := Lib.hid (hY1.out.below b7)
  replace hY2 := Lib.hid (hY2.out.below b7)
  replace hY3 := Lib.hid (hY3.out.below b7)
  replace hY4 := Lib.hid hY4
  replace b7 := Lib.hid (b6.out.trans (b7.mono b6.out.size))
  clear b6
  go_wp2_with fail
  refine (got_ints _ _).mono ?_
  rintro e w8 ⟨rfl, rfl⟩
  obtain ⟨q0, -, -, -, q1, -⟩ := K.out _ b7.out
  go_wp2_with fail
  refine (C7.out _).mono ?_
  rintro e w8 ⟨⟨y5, rfl, hY5⟩, b8⟩
  replace hY1 := Lib.hid (hY1.out.below b8)
  replace hY2 := Lib.hid (hY2.out.below b8)
  replace hY3 := Lib.hid (hY3.out.below b8)
  replace hY4 := Lib.hid (hY4.out.below b8)
  replace hY5 := Lib.hid (rd_sl hY5)
  replace b8 := Lib.hid (b7.out.trans (b8.mono b7.out.size))
  clear b7 q0 q1
  go_wp2_with fail
  refine (got_strs _ _).mono ?_
  rintro e w9 ⟨rfl, rfl⟩
  obtain ⟨q0, -, -, -, -, q1⟩ := K.out _ b8.out
  go_wp2_with fail
  refine (C8.out _).mono ?_
  rintro e w9 ⟨⟨y6, L, rfl, hY6, hL⟩, b9⟩
  have hLb := Lib.hid hY6.bound
  have hLl : L.length = l.length := by have := congrArg List.length hL; rw [List.length_map, List.length_map, List.length_map] at this; exact this
  replace hY1 := Lib.hid (hY1.out.below b9)
  replace hY2 := Lib.hid (hY2.out.below b9)
  replace hY3 := Lib.hid (hY3.out.below b9)
  replace hY4 := Lib.hid (hY4.out.below b9)
  replace hY5 := Lib.hid (hY5.out.below b9)
  replace hY6 := Lib.hid (rd_flts hY6)
  replace b9 := Lib.hid (b8.out.trans (b9.mono b8.out.size))
  replace hL := Lib.hid hL
  clear b8 q0 q1
  go_wp2_with fail
  refine (got_flts _ _).mono ?_
  rintro e w10 ⟨rfl, rfl⟩
  have hV := Lib.hid (show VM bl (.slice none 0 0) w9 from (b9.out.block _ hbl).trans h2'.out)
  clear C0 C1 C2 C3 C4 C5 C6 C7 C8 K
  go_wp2_with fail
  have hWl := Lib.hid (withRk_len hLl)
  go_loopw [77] (fun i wr => ∃ (k : Nat) (y : Value), i = .int .i64 k ∧ k ≤ l.length ∧ Hid (VM bl y wr) ∧ Hid (wr.ownsRow w9.heap.size 49 6 y k (((withRk l L).take k).flatMap movC)) ∧ Hid (Kept (· = bl) w9 wr)) (fun i _ => l.length - (intOf i).toNat)
  case atStart => exact ⟨0, _, rfl, by omega, hV, Lib.hid (World.ownsRow_nil _ _ _ _), Lib.hid (Kept.refl _ _)⟩
  case round =>
    obtain ⟨k, y, rfl, hk, hVk, hO, hK⟩ := hrel
    by_cases hlt : k < l.length
    · have hlt' : (k : Int) < (l.length : Nat) := by omega
      obtain ⟨x, hx⟩ := some_at hlt
      obtain ⟨z, hz⟩ := some_at (show k < L.length by omega)
      have hns : ∀ (f : Mv → Value), (∀ m a n c, f m ≠ .slice a n c) → ∀ a n c, f x ≠ .slice a n c := fun f h a n c => h x a n c
      have hxm := List.mem_of_getElem? hx
      have hin := HIN.out x hxm
      have hrr : 0 ≤ x.t.r ∧ x.t.r ≤ 255 := by have := hin.1; unfold okT at this; omega
      have hcv : IntKind.i64.wrap ((x.t.r.toNat : Nat) : Int) = x.t.r := by rw [IntKind.wrap_i64]; omega
      obtain ⟨d1, o1, p1, rfl, q1⟩ := rd_at hY1.out hV.out hK.out (k := k) (u := .int .i64 x.t.c) (by rw [List.map_map, List.getElem?_map, hx]; rfl) (fun _ _ _ e => by cases e) hlt
      obtain ⟨d2, o2, p2, rfl, q2⟩ := rd_at hY2.out hV.out hK.out (k := k) (u := .int .u64 ((x.t.r.toNat : Nat) : Int)) (by rw [List.map_map, List.getElem?_map, hx]; rfl) (fun _ _ _ e => by cases e) (by rw [List.length_map]; exact hlt)
      obtain ⟨d3, o3, p3, rfl, q3⟩ := rd_at hY3.out hV.out hK.out (k := k) (u := .int .i64 x.pa) (by rw [List.map_map, List.getElem?_map, hx]; rfl) (fun _ _ _ e => by cases e) hlt
      obtain ⟨d4, o4, p4, rfl, q4⟩ := rd_at hY4.out hV.out hK.out (k := k) (u := .int .i64 x.ch) (by rw [List.map_map, List.getElem?_map, hx]; rfl) (fun _ _ _ e => by cases e) hlt
      obtain ⟨d5, o5, p5, rfl, q5⟩ := rd_at hY5.out hV.out hK.out (k := k) (u := .string x.nm) (by rw [List.map_map, List.getElem?_map, hx]; rfl) (fun _ _ _ e => by cases e) (by rw [List.length_map]; exact hlt)
      obtain ⟨d6, o6, p6, rfl, q6⟩ := rd_at hY6.out hV.out hK.out (k := k) (u := .float .f64 z) (by rw [List.getElem?_map, hz]; rfl) (fun _ _ _ e => by cases e) (by omega)
      have hwk := Lib.hid (take_snoc (withRk_at hx hz))
      have hone : oneM { x with rk := z } = true := HN.out x hxm
      have HO := Lib.hid (fun W => Mo.one_any { x with rk := z } W (by show x.nm.size ≤ 100000; omega))
      rw [hone] at HO
      unfold movV at HO
      dsimp only at HO
      rw [hLl] at *
      simp only [List.length_map] at *
      generalize ((x.t.r.toNat : Nat) : Int) = rr at *
      have hlo := Lib.hid hO.out.lt
      have hszr : w9.heap.size ≤ wr.heap.size := hK.out.size
      have hwl := lt_of_block hVk.out
      clear hx hz hns hxm hin hrr hone
      go_upto_region 10 with fail
      have qa1 := fun o => (((Below.refl wr.heap.size wr).alloc (Nat.le_refl _) o).cell (p := ⟨d1, o1 + k, none⟩) (World.block_lt_of_cell? _ _ q1)).trans q1
      have qa2 := fun o => (((Below.refl wr.heap.size wr).alloc (Nat.le_refl _) o).cell (p := ⟨d2, o2 + k, none⟩) (World.block_lt_of_cell? _ _ q2)).trans q2
      have qa3 := fun o => (((Below.refl wr.heap.size wr).alloc (Nat.le_refl _) o).cell (p := ⟨d3, o3 + k, none⟩) (World.block_lt_of_cell? _ _ q3)).trans q3
      have qa4 := fun o => (((Below.refl wr.heap.size wr).alloc (Nat.le_refl _) o).cell (p := ⟨d4, o4 + k, none⟩) (World.block_lt_of_cell? _ _ q4)).trans q4
      have qa5 := fun o => (((Below.refl wr.heap.size wr).alloc (Nat.le_refl _) o).cell (p := ⟨d5, o5 + k, none⟩) (World.block_lt_of_cell? _ _ q5)).trans q5
      have qa6 := fun o => (((Below.refl wr.heap.size wr).alloc (Nat.le_refl _) o).cell (p := ⟨d6, o6 + k, none⟩) (World.block_lt_of_cell? _ _ q6)).trans q6
      go_cut [12] (fun v12 wx => ∃ g, v12 = .pointer (some ⟨g, 0, none⟩) ∧ wr.heap.size ≤ g ∧ Hid (wx.heap[g]? = some (.cells #[.int .i64 x.t.c, .int .i64 x.t.r, .int .i64 x.pa, .int .i64 x.ch, .string x.nm, .float .f64 z] 49 (0, 0))) ∧ Hid (Below wr.heap.size wr wx))
      case first =>
        go_region
        all_goals
          go_wp2_with fail
          go_meet
          exact ⟨_, rfl, Nat.le_refl _, Lib.hid (alloc_new wr _), Lib.hid ((Below.refl _ _).alloc (Nat.le_refl _) _).drew⟩
      case rest =>
        obtain ⟨g, rfl, hg, hgx, hbx⟩ := hcut
        clear q1 q2 q3 q4 q5 q6 qa1 qa2 qa3 qa4 qa5 qa6 hcv
        have e0 := (show wc.cell? ⟨g, 0, none⟩ = some (.int .i64 x.t.c) from cell_at hgx.out 0)
        have e1 := (show wc.cell? ⟨g, 1, none⟩ = some (.int .i64 x.t.r) from cell_at hgx.out 1)
        have e2 := (show wc.cell? ⟨g, 2, none⟩ = some (.int .i64 x.pa) from cell_at hgx.out 2)
        have e3 := (show wc.cell? ⟨g, 3, none⟩ = some (.int .i64 x.ch) from cell_at hgx.out 3)
        have e4 := (show wc.cell? ⟨g, 4, none⟩ = some (.string x.nm) from cell_at hgx.out 4)
        have e5 := (show wc.cell? ⟨g, 5, none⟩ = some (.float .f64 z) from cell_at hgx.out 5)
        go_wp2_with fail
        refine (HO.out _).mono ?_
        rintro e w2 ⟨rfl, b2⟩
        clear e0 e1 e2 e3 e4 e5
        have hb3 := hbx.out.trans (b2.mono hbx.out.size)
        have hgx2 := below_at b2 hgx.out (lt_of_block hgx.out)
        have e0 := (show w2.cell? ⟨g, 0, none⟩ = some (.int .i64 x.t.c) from cell_at hgx2 0)
        have e1 := (show w2.cell? ⟨g, 1, none⟩ = some (.int .i64 x.t.r) from cell_at hgx2 1)
        have e2 := (show w2.cell? ⟨g, 2, none⟩ = some (.int .i64 x.pa) from cell_at hgx2 2)
        have e3 := (show w2.cell? ⟨g, 3, none⟩ = some (.int .i64 x.ch) from cell_at hgx2 3)
        have e4 := (show w2.cell? ⟨g, 4, none⟩ = some (.string x.nm) from cell_at hgx2 4)
        have e5 := (show w2.cell? ⟨g, 5, none⟩ = some (.float .f64 z) from cell_at hgx2 5)
        have hO2 := Lib.hid (own_below hO.out hb3)
        have hV2 : VM bl y w2 := (hb3.block _ hwl).trans hVk.out
        have cv : w2.cell? ⟨bl, 0, none⟩ = some y := cell_at hV2 0
        have fv : w2.frozen? ⟨bl, 0, none⟩ = false := free_at hV2 0
        have hK2 := Lib.hid (hK.out.below hb3)
        have hs2 := hb3.size
        obtain ⟨ay, cy, ey⟩ := (own_sl hO2.out).len
        subst ey
        replace hV2 := Lib.hid hV2
        have hbw := lt_of_block hV.out
        have hal := Lib.hid (alloc_at (.cells #[.int .i64 x.t.c, .int .i64 x.t.r, .int .i64 x.pa, .int .i64 x.ch, .string x.nm, .float .f64 z] 49) hV2.out)
        clear b2 hb3 hgx2 hO hVk hK HO hgx hbx
        go_wp2_with (at_builtin; refine wpList_append_src (by rfl) _ _ 25 (by rfl) w9.heap.size 49 j0 _ 6 56 Tryz.underlying25 hj hy0 hy1 hy2 rfl (by decide) _ k (((withRk l L).take k).flatMap movC) (by rfl) (World.ownsRow.alloc hO2.out _) _ 1 (movC { x with rk := z }) (by rfl) (movC_len _) (src_new (alloc_new w2 _) _) (movC_one _) (by unfold maxLen; omega) (by omega) (by simp; omega) ?_; intro v5 w5 hown5 hgrow5; obtain ⟨a5, k5, e5'⟩ := (own_sl hown5).len; subst e5'; have hV5 := fam_other hgrow5 hal.out (fun e => by have := (hO2.out.lt _ e).1; omega); have cv5 := (show w5.cell? ⟨bl, 0, none⟩ = some (.slice ay k cy) from cell_at hV5 0); have fv5 : w5.frozen? ⟨bl, 0, none⟩ = false := free_at hV5 0; have hV5' := Lib.hid hV5; have hO5 := Lib.hid hown5; have hK5 := Lib.hid ((hK2.out.alloc (.cells #[.int .i64 x.t.c, .int .i64 x.t.r, .int .i64 x.pa, .int .i64 x.ch, .string x.nm, .float .f64 z] 49)).grown hgrow5 (fun j e hj => by have := (hO2.out.lt j e).1; omega)); clear hV5 hown5 hgrow5)
        have hVf := Lib.hid (show VM bl (.slice a5 (k + 1) k5) (w5.setCell ⟨bl, 0, none⟩ (.slice a5 (k + 1) k5)) from (set_at hV5'.out 0 _).trans rfl)
        have hKf := Lib.hid (hK5.out.setCell (p := ⟨bl, 0, none⟩) (fun _ => rfl) (.slice a5 (k + 1) k5))
        have hOf : Hid ((w5.setCell ⟨bl, 0, none⟩ (.slice a5 (k + 1) k5)).ownsRow w9.heap.size 49 6 (.slice a5 (k + 1) k5) (k + 1) (((withRk l L).take (k + 1)).flatMap movC)) := Lib.hid (by
          rw [hwk.out, flat_snoc]
          exact own_kept hO5.out (Kept.setCell (T := fun k => k = bl) (Kept.refl _ w5) (p := ⟨bl, 0, none⟩) (fun _ => rfl) _) (fun i hi e => by omega))
        go_roundw
        case rel => exact ⟨k + 1, _, by go_num, by omega, hVf, hOf, hKf⟩
        case measure => simp [intOf]; omega
    · -- THE END OF THE LOOP
      obtain rfl : k = l.length := by omega
      have hge : ¬ ((l.length : Int) < (l.length : Nat)) := by omega
      rw [List.take_of_length_le (by rw [hWl.out]; exact Nat.le_refl _)] at hO
      have cv : wr.cell? ⟨bl, 0, none⟩ = some y := cell_at hVk.out 0
      have hMv : Mem.Mvs wr y (withRk l L) := by
        have := own_sl hO.out
        unfold Mem.Mvs
        rw [hWl.out]
        exact this
      have HMay := Lib.hid (Mo.may_ok y (withRk l L) wr hMv (by rw [hWl.out]; omega) (fun x h => by
        obtain ⟨⟨m, hm, e⟩, -⟩ := withRk_mem h
        rw [e]
        exact HN.out m hm) (fun x h => by
        obtain ⟨⟨m, hm, e⟩, -⟩ := withRk_mem h
        rw [e]
        have := (HIN.out m hm).2.1
        show m.nm.size ≤ 100000
        omega) (fun j a b ha hb => by
        have ht := withRk_t hLl
        have h1 : (l.map (fun m => m.t))[j]? = some a.t := by rw [← ht, List.getElem?_map, ha]; rfl
        have h2 : (l.map (fun m => m.t))[j + 1]? = some b.t := by rw [← ht, List.getElem?_map, hb]; rfl
        have hpw : (l.map (fun m : Mv => m.t)).Pairwise (fun a b => bef a b = true) := List.pairwise_map.2 HQ.out
        exact Fo.pw_adj hpw j _ _ h1 h2))
      obtain ⟨ay, cy, ey⟩ := (own_sl hO.out).len
      subst ey
      go_wp2_with fail
      refine HMay.out.mono ?_
      rintro e w2 ⟨rfl, b2⟩
      have hV2 : VM bl (.slice ay l.length cy) w2 := (b2.block _ (lt_of_block hVk.out)).trans hVk.out
      have hO2 := own_below hO.out b2
      have hK2 := hK.out.below b2
      replace hV2 := Lib.hid hV2
      replace hO2 := Lib.hid hO2
      replace hK2 := Lib.hid hK2
      have hb9s := b9.out.size
      go_wp2_with fail
      go_end0
      exact ⟨rfl, ⟨_, L, hV2.out, own_mono hO2.out hb9s, hLl, hLb.out, hL.out⟩, ((Kept.of_below (T := fun k => k = bl) b9.out).trans hK2.out)⟩
end Og
end
section
open Go.RowKit Go.Shelf
attribute [local go_sem] Fl.run_store_float
namespace Og
open Mem Tp Tr Mo Pk
def EqM (l l' : List Mv) : Prop := l'.map nrmM = l.map nrmM ∧ ∀ m ∈ l', m.rk < 2 * Fl.S
theorem enterD1 (args : Array Value) (w : World) : (callFunc 149 args).run Tryz.prog w = .ok (.enter 149 args) w := by simp [go_sem]
theorem decode_ok (l : List Mv) (vl : Value) (w : World) (hC : Ck.Chs w vl (opC l)) (hl : l.length ≤ 250) (hn : ∀ x ∈ l, oneM x = true) (hk : ∀ x ∈ l, x.rk < 2 * Fl.S) (hso : l.Pairwise (fun a b => bef a.t b.t = true)) :
    Calls Tryz.prog 113 #[vl] w fun e w' => (∃ v' l', e = .returned (.tuple #[v', .int .i64 0]) ∧ Mem.Mvs w' v' l' ∧ EqM l l' ∧ (∀ k, v'.ownBlock = some k → w.heap.size ≤ k ∧ k < w'.heap.size)) ∧ Below w.heap.size w w' := by
  have hcl : (opC l).length = 5 := rfl
  have hD := Lib.hid (fun (bs bl : Nat) (W : World) h0 h1 h2 h3 => dec1_ok l vl bs bl W h0 h1 h2 h3 hl hn hk hso)
  have K : ∀ W, Below w.heap.size w W → Ck.Chs W vl (opC l) := fun W h => Ck.chs_below hC h
  obtain ⟨a0, cap0, rfl⟩ := (Sn.chs_sl hC).len
  obtain ⟨cb, co, rfl⟩ := (Sn.chs_sl hC).addr (by rw [hcl]; decide)
  rw [hcl] at hD K ⊢
  replace K := Lib.hid K
  have hb0 := (Below.refl w.heap.size w).alloc (Nat.le_refl _) (.cells #[.slice (some ⟨cb, co, none⟩) 5 cap0] 53)
  have g0 := alloc_new w (.cells #[.slice (some ⟨cb, co, none⟩) 5 cap0] 53)
  obtain ⟨W0, hW0⟩ : ∃ W0, w.alloc (.cells #[.slice (some ⟨cb, co, none⟩) 5 cap0] 53) = W0 := ⟨_, rfl⟩
  have hs0 : W0.heap.size = w.heap.size + 1 := by rw [← hW0]; simp
  rw [hW0] at hb0 g0
  have c0 : W0.cell? ⟨w.heap.size, 0, none⟩ = some (.slice (some ⟨cb, co, none⟩) 5 cap0) := cell_at g0 0
  have hkn : ∀ W, Below w.heap.size w W → ∀ j : Nat, j < 5 → ∃ s : ByteArray, W.cell? ⟨cb, co + j * 2, none⟩ = some (.int .i64 (4 + j : Nat)) ∧ W.cell? ⟨cb, co + j * 2 + 1, none⟩ = some (.string s) := fun W h j hj => by
    have hc := Ck.chs_at (K.out W h) (j := j) (by rw [hcl]; exact hj)
    refine ⟨_, hc.2.1.trans ?_, hc.2.2⟩
    match j, hj with
    | 0, _ => rfl
    | 1, _ => rfl
    | 2, _ => rfl
    | 3, _ => rfl
    | 4, _ => rfl
  replace hkn := Lib.hid hkn
  have HB := Lib.hid hb0
  have HG := Lib.hid g0
  replace hW0 := Lib.hid hW0
  clear hC hb0 g0 hn hk hso
  go_enter Tryz.func113, Tryz.ntmps113
  go_wp2_with fail
  rw [hW0.out]
  go_loopw [13] (fun i wr => ∃ k : Nat, i = .int .i64 k ∧ k ≤ 5 ∧ Hid (Below W0.heap.size W0 wr)) (fun i _ => 5 - (intOf i).toNat)
  case atStart => exact ⟨0, rfl, by omega, Lib.hid (Below.refl _ _)⟩
  case round =>
    obtain ⟨k, rfl, hk, hb⟩ := hrel
    by_cases hlt : k < 5
    · have hlt' : (k : Int) < 5 := by omega
      obtain ⟨s, q0, q1⟩ := hkn.out wr (HB.out.trans (hb.out.mono HB.out.size)) k hlt
      have hc4 : ((4 + k : Nat) : Int) = 4 + (k : Int) := by omega
      rw [hc4] at q0
      have hw4 : IntKind.i64.wrap (4 + (k : Int)) = 4 + (k : Int) := by rw [IntKind.wrap_i64]; omega
      have hw5 : IntKind.i64.wrap ((k : Int) + 1) = (k : Int) + 1 := by rw [IntKind.wrap_i64]; omega
      have hb' := Lib.hid (hb.out.alloc hb.out.size (.cells #[.int .i64 (4 + (k : Int)), .string s] 57))
      clear hc4
      go_wp2_with fail
      go_roundw
      case rel => exact ⟨k + 1, by go_num, by omega, hb'⟩
      case measure => simp [intOf]; omega
    · obtain rfl : k = 5 := by omega
      have hge : ¬ ((5 : Int) < 5) := by omega
      have hg := Lib.hid (below_at hb.out HG.out (lt_of_block HG.out))
      have hsz := hb.out.size
      have hb1 := Lib.hid (HB.out.trans (hb.out.mono HB.out.size))
      obtain ⟨Wd, hWd⟩ : ∃ Wd, wr.alloc (.cells #[.slice none 0 0] 25) = Wd := ⟨_, rfl⟩
      have hgd : VM wr.heap.size (.slice none 0 0) Wd := by rw [← hWd]; exact alloc_new wr _
      have hgs : Wd.heap[w.heap.size]? = some (.cells #[.slice (some ⟨cb, co, none⟩) 5 cap0] 53 (0, 0)) := by rw [← hWd]; exact alloc_at _ hg.out
      have hbd : Below w.heap.size w Wd := by rw [← hWd]; exact hb1.out.alloc (by have := hb1.out.size; omega) _
      have hsd : Wd.heap.size = wr.heap.size + 1 := by rw [← hWd]; simp
      have HGd := Lib.hid (guard_ok 149 #[.pointer (some ⟨w.heap.size, 0, none⟩), .pointer (some ⟨wr.heap.size, 0, none⟩)] Wd
        (fun w' => ∃ w0, Below Wd.heap.size Wd w0 ∧ Wd.heap.size < w0.heap.size ∧ D1 l wr.heap.size w0.heap.size w' ∧ Kept (· = wr.heap.size) w0 w') (fun w1 => enterD1 _ w1)
        (fun w1 h hlt => (hD.out w.heap.size wr.heap.size w1 (below_at h hgs (lt_of_block hgs)) (K.out _ (hbd.trans (h.mono hbd.size))) (below_at h hgd (lt_of_block hgd)) (by omega)).mono (fun e w' h3 => ⟨h3.1, h3.2.2.block _ hlt (by omega), w1, h, hlt, h3.2.1, h3.2.2⟩)))
      have hmf : ∀ (fn : Fn) (first cap : Array Value) (w : World), (Instr.makeFunc fn first cap).run Tryz.prog w = .ok (.func fn first cap) w := fun _ _ _ _ => rfl
      replace hWd := Lib.hid hWd
      replace hgd := Lib.hid hgd
      replace hsd := Lib.hid hsd
      replace hbd := Lib.hid hbd
      clear hb hg hgs K hkn hD hsz
      go_wp2_with fail
      rw [hWd.out]
      refine HGd.out.mono ?_
      rintro e w3 ⟨rfl, w2, ⟨w0, k0, k1, ⟨v, L, hv, hOw, hLl, hLb, hLc⟩, hkp⟩, rfl⟩
      have hs0' := k0.size
      have hs2' := hkp.size
      have hsd' := hsd.out
      obtain ⟨Wf, hWf⟩ : ∃ Wf, w2.setCell ⟨Wd.heap.size, 0, none⟩ (.int .i64 0) = Wf := ⟨_, rfl⟩
      have hzf : Wf.heap.size = w2.heap.size := by rw [← hWf]; simp [World.setCell]
      have hv3 : VM wr.heap.size v Wf := by rw [← hWf]; exact set_other hv (p := ⟨Wd.heap.size, 0, none⟩) (by show wr.heap.size ≠ Wd.heap.size; omega) _
      have hblk : ∀ k, v.ownBlock = some k → w0.heap.size ≤ k ∧ k < w2.heap.size := fun k e => hOw.lt k e
      have hMv : Mem.Mvs Wf v (withRk l L) := by
        have h9 := own_sl hOw
        unfold Mem.Mvs
        rw [withRk_len hLl]
        exact sl_same h9 (by omega) (fun k e _ => by rw [← hWf]; exact setCell_heap_other (by show k ≠ Wd.heap.size; have := hblk k e; omega))
      have hwd := hbd.out.size
      have hbf : Below w.heap.size w Wf := by
        rw [← hWf]
        refine ((hbd.out.trans (k0.mono hwd)).trans (hkp.to_below (by omega) (fun k hk e => by have := HB.out.size; have := hb1.out.size; omega))).setCell (p := ⟨Wd.heap.size, 0, none⟩) (by show w.heap.size ≤ Wd.heap.size; omega) _
      rw [hWf]
      have cv := (show Wf.cell? ⟨wr.heap.size, 0, none⟩ = some v from cell_at hv3 0)
      have hbl := Lib.hid (fun k (e : v.ownBlock = some k) => (show w.heap.size ≤ k ∧ k < Wf.heap.size by have := hblk k e; omega))
      replace hMv := Lib.hid hMv
      replace hbf := Lib.hid hbf
      have hEq : Hid (EqM l (withRk l L)) := Lib.hid ⟨withRk_nrm hLc, fun m h => hLb _ (withRk_mem h).2⟩
      obtain ⟨av, cvv, ev⟩ := hMv.out.len
      clear hv hOw hLl hLb hLc hkp k0 hv3 hblk hWf hzf
      subst ev
      go_wp2_with fail
      go_ret2
      exact ⟨⟨_, _, rfl, hMv.out, hEq.out, hbl.out⟩, hbf.out⟩
end Og
end
section
open Go.RowKit Go.Shelf
namespace Ck
open Mem Pk Bd
def magic : List UInt8 := [66, 78, 83, 73]
theorem magic_size {s : ByteArray} (h : s.data.toList.take 4 = magic) : 4 ≤ s.size := by
  have := congrArg List.length h
  rw [List.length_take, size_list] at this
  unfold magic at this
  simp at this
  omega
theorem ver_short {s : ByteArray} (h : ¬ s.data.toList.take 4 = magic) : verE s = 7 ∧ verN s = 0 := by
  have e : verE s = 7 := by
    unfold verE
    exact if_neg h
  exact ⟨e, by unfold verN; rw [e]; rfl⟩
theorem ver_cut {s : ByteArray} (h : s.data.toList.take 4 = magic) (h5 : s.size < 5) : verE s = 2 ∧ verN s = 0 := by
  have e : verE s = 2 := by
    unfold verE
    rw [if_pos (show s.data.toList.take 4 = [66, 78, 83, 73] from h), if_pos h5]
  exact ⟨e, by unfold verN; rw [e]; rfl⟩
theorem ver_good {s : ByteArray} (h : s.data.toList.take 4 = magic) (h5 : ¬ s.size < 5) : verE s = 0 ∧ verN s = ((s.data.toList[4]?.getD 0).toNat : Int) := by
  have e : verE s = 0 := by
    unfold verE
    rw [if_pos (show s.data.toList.take 4 = [66, 78, 83, 73] from h), if_neg h5]
  exact ⟨e, by unfold verN; rw [if_pos e]⟩
theorem wrap_byte (b : UInt8) : wrap64 (b.toNat : Int) = (b.toNat : Int) := by
  have := b.toNat_lt
  unfold wrap64
  omega
theorem byte_at {s : ByteArray} {k : Nat} (h : k < s.size) : s[k] = s.data.toList[k]?.getD 0 := by
  have h2 : k < s.data.toList.length := h
  rw [List.getElem?_eq_getElem h2]
  rfl
def verV (s : ByteArray) : Value := .tuple #[.int .i64 (verN s), .int .i64 (verE s)]
theorem pre4 {s : ByteArray} : Lib.hasPrefix s.data.toList (⟨#[66, 78, 83, 73]⟩ : ByteArray).data.toList = decide (s.data.toList.take 4 = magic) := by
  unfold Lib.hasPrefix magic
  rcases hs : s.data.toList with _ | ⟨a, _ | ⟨b, _ | ⟨c, _ | ⟨d, l⟩⟩⟩⟩ <;> simp [List.isPrefixOf]
  rw [Bool.eq_iff_iff]
  simp only [Bool.and_eq_true, beq_iff_eq, decide_eq_true_eq]
  constructor
  · rintro ⟨h1, h2, h3, h4⟩
    exact ⟨h1.symm, h2.symm, h3.symm, h4.symm⟩
  · rintro ⟨h1, h2, h3, h4⟩
    exact ⟨h1.symm, h2.symm, h3.symm, h4.symm⟩
theorem cut4 {s : ByteArray} (h : s.data.toList.take 4 = magic) : (⟨(Lib.trimPrefix s.data.toList (⟨#[66, 78, 83, 73]⟩ : ByteArray).data.toList).toArray⟩ : ByteArray) = s.extract 4 s.size := by
  have e : Lib.trimPrefix s.data.toList (⟨#[66, 78, 83, 73]⟩ : ByteArray).data.toList = s.data.toList.drop 4 := by
    unfold Lib.trimPrefix
    rw [pre4, if_pos (decide_eq_true h)]
    rfl
  rw [e]
  refine ext_list ?_
  show _ = (rest s 4).data.toList
  rw [rest_list]
theorem ver_any (s : ByteArray) (w : World) :
    Calls Tryz.prog 107 #[.string s] w fun e w' => e = .returned (verV s) ∧ Below w.heap.size w w' := by
  have HC := Lib.hid (Tryz.strings_CutPrefix s ⟨#[66, 78, 83, 73]⟩ w)
  rw [pre4] at HC
  unfold verV
  by_cases hm : s.data.toList.take 4 = magic
  · have h4 := magic_size hm
    rw [cut4 hm, decide_eq_true hm] at HC
    obtain ⟨u, hu⟩ : ∃ u, s.extract 4 s.size = u := ⟨_, rfl⟩
    have hul : u.data.toList = s.data.toList.drop 4 := by rw [← hu]; exact rest_list s 4
    have hus : u.size = s.size - 4 := by rw [← size_list, hul, List.length_drop, size_list]
    rw [hu] at HC
    by_cases h5 : s.size < 5
    · obtain ⟨e1, e2⟩ := ver_cut hm h5
      rw [e1, e2]
      obtain rfl : u = ByteArray.empty := ext_list (by rw [hul, List.drop_eq_nil_of_le (by rw [size_list]; omega)]; rfl)
      clear hm h5 e1 e2 hul hu
      go_enter Tryz.func107, Tryz.ntmps107
      go_wp2_with fail
      refine HC.out.mono ?_
      rintro e w1 ⟨rfl, rfl⟩
      go_wp2_with fail
      go_ret2
      exact ⟨rfl, Below.refl _ _⟩
    · obtain ⟨e1, e2⟩ := ver_good hm h5
      rw [e1, e2]
      have h0 : u.data.toList[0]?.getD 0 = s.data.toList[4]?.getD 0 := by rw [hul, List.getElem?_drop]
      have hne : (u.toList == []) = false := by
        rw [beq_eq_false_iff_ne]
        intro e
        rw [ByteArray.toList_eq] at e
        have := congrArg List.length e
        rw [size_list] at this
        have hz : u.size = 0 := this
        omega
      have hu0 : 0 < u.size := by omega
      rw [← h0]
      clear hm e1 e2 hul hu h0 hus
      go_enter Tryz.func107, Tryz.ntmps107
      go_wp2_with fail
      refine HC.out.mono ?_
      rintro e w1 ⟨rfl, rfl⟩
      go_wp2_with fail
      go_ret2
      exact ⟨by rw [wrap_byte, byte_at]; rfl, Below.refl _ _⟩
  · obtain ⟨e1, e2⟩ := ver_short hm
    rw [e1, e2]
    rw [decide_eq_false hm] at HC
    clear hm e1 e2
    go_enter Tryz.func107, Tryz.ntmps107
    go_wp2_with fail
    refine HC.out.mono ?_
    rintro e w1 ⟨rfl, rfl⟩
    go_wp2_with fail
    go_ret2
    exact ⟨rfl, Below.refl _ _⟩
end Ck
end
section
open Go.RowKit Go.Shelf
namespace Ck
open Mem Pk Bd
def fK (u : ByteArray) : Nat := 1 + numK (rest u 1) 0
def fN (u : ByteArray) : Nat := numN (rest u 1) 0
def fE1 (u : ByteArray) : Int := numE (rest u 1) 0
def fB (u : ByteArray) : ByteArray := (rest u (fK u)).extract 0 (fN u)
def fU (u : ByteArray) : Nat := fK u + fN u + 4
def firstE (u : ByteArray) : Int := if fE1 u ≠ 0 then fE1 u else if 1048576 < fN u then 10 else if u.size < fU u then 2 else if sealL (u.data.toList.take (fK u + fN u)) = u.data.toList.take (fU u) then 0 else 6
def firstC (u : ByteArray) : Ch := (((u.data.toList[0]?.getD 0).toNat : Int), fB u)
def noCh : Ch := (0, ByteArray.empty)
def firstV (u : ByteArray) : Value := .tuple #[vCh (if firstE u = 0 then firstC u else noCh), .int .i64 (if firstE u = 0 then (fU u : Int) else 0), .int .i64 (firstE u)]
theorem take_one {u : ByteArray} (h : 0 < u.size) : takeE u 0 1 = 0 ∧ takeK u 0 1 = 1 := take_ok (n := 1) ⟨by decide, by omega⟩
theorem two_takes (u : ByteArray) (h1 : fK u ≤ u.size) : ∀ r, r = rest u (fK u) → ∀ e2 k2 e3 k3, e2 = takeE r 0 (fN u : Int) → k2 = takeK r 0 (fN u : Int) → e3 = takeE (rest r k2) e2 4 → k3 = takeK (rest r k2) e2 4 →
    (u.size < fU u ∧ e3 = 2) ∨ (¬ u.size < fU u ∧ e3 = 0 ∧ k2 = fN u ∧ k3 = 4 ∧ e2 = 0) := by
  rintro r rfl e2 k2 e3 k3 rfl rfl rfl rfl
  unfold fU
  by_cases hn : fK u + fN u ≤ u.size
  · obtain ⟨a1, a2⟩ := take_ok (s := rest u (fK u)) (n := (fN u : Int)) ⟨by omega, by rw [rest_size]; omega⟩
    rw [a1, a2, Int.toNat_natCast, rest_rest]
    by_cases h4 : fK u + fN u + 4 ≤ u.size
    · obtain ⟨b1, b2⟩ := take_ok (s := rest u (fK u + fN u)) (n := 4) ⟨by omega, by rw [rest_size]; omega⟩
      exact .inr ⟨by omega, b1, rfl, b2, rfl⟩
    · obtain ⟨b1, b2⟩ := take_bad (s := rest u (fK u + fN u)) (n := 4) (by rw [rest_size]; omega)
      exact .inl ⟨by omega, b1⟩
  · obtain ⟨a1, a2⟩ := take_bad (s := rest u (fK u)) (n := (fN u : Int)) (by rw [rest_size]; omega)
    rw [a1, a2]
    exact .inl ⟨by omega, (take_err (by decide)).1⟩
theorem fK_le {u : ByteArray} (h : 0 < u.size) (h1 : fE1 u = 0) : fK u ≤ u.size ∧ 2 ≤ fK u := by
  unfold fE1 numE at h1
  rw [if_pos rfl] at h1
  obtain ⟨-, h3, h4, -⟩ := put_read (l := (rest u 1).data.toList) (m := (numR (rest u 1).data.toList).2.1) (K := (numR (rest u 1).data.toList).2.2) (by rw [← h1])
  rw [size_list, rest_size] at h4
  unfold fK numK
  rw [if_pos rfl]
  omega
theorem first_num {u : ByteArray} (h : fE1 u ≠ 0) : firstE u = fE1 u := if_pos h
theorem first_big {u : ByteArray} (h : fE1 u = 0) (h2 : 1048576 < fN u) : firstE u = 10 := by unfold firstE; rw [if_neg (by simp [h]), if_pos h2]
theorem first_cut {u : ByteArray} (h : fE1 u = 0) (h2 : ¬ 1048576 < fN u) (h3 : u.size < fU u) : firstE u = 2 := by unfold firstE; rw [if_neg (by simp [h]), if_neg h2, if_pos h3]
theorem first_sum {u : ByteArray} (h : fE1 u = 0) (h2 : ¬ 1048576 < fN u) (h3 : ¬ u.size < fU u) : firstE u = if sealL (u.data.toList.take (fK u + fN u)) = u.data.toList.take (fU u) then 0 else 6 := by unfold firstE; rw [if_neg (by simp [h]), if_neg h2, if_neg h3]
theorem firstV_bad {u : ByteArray} (h : firstE u ≠ 0) : firstV u = .tuple #[.agg #[.int .i64 0, .string ByteArray.empty], .int .i64 0, .int .i64 (firstE u)] := by
  unfold firstV
  rw [if_neg h, if_neg h]
  rfl
theorem firstV_good {u : ByteArray} (h : firstE u = 0) : firstV u = .tuple #[.agg #[.int .i64 ((u.data.toList[0]?.getD 0).toNat : Int), .string (fB u)], .int .i64 (fU u : Int), .int .i64 0] := by
  unfold firstV
  rw [if_pos h, if_pos h, h]
  rfl
def FS (w W : World) : Prop := W.heap[w.heap.size]? = some (.cells #[.int .i64 0, .string ⟨#[]⟩] 57) ∧ Below w.heap.size w W ∧ w.heap.size + 2 ≤ W.heap.size
theorem FS.kept {w W W' : World} (h : FS w W) (k : Kept (· = w.heap.size + 1) W W') : FS w W' := ⟨k.at h.1 (by omega), h.2.1.trans (k.to_below h.2.1.size (fun _ _ _ => by omega)), Nat.le_trans h.2.2 k.size⟩
theorem FS.below {w W W' : World} (h : FS w W) (k : Below W.heap.size W W') : FS w W' := ⟨(k.block _ (lt_of_block h.1)).trans h.1, h.2.1.trans (k.mono h.2.1.size), Nat.le_trans h.2.2 k.size⟩
theorem FS.drew {w W : World} (h : FS w W) : FS w W.drew := ⟨h.1, h.2.1.drew, h.2.2⟩
theorem first_results (tmps : Array Value) (w : World) (B : Nat) (k : Int) (s : ByteArray) (h : tmps.getD 2 undef = .pointer (some ⟨B, 0, none⟩)) (hw : w.heap[B]? = some (.cells #[.int .i64 k, .string s] 57)) :
    (results Tryz.f142 tmps).run Tryz.prog w = .ok (.tuple #[.agg #[.int .i64 k, .string s], tmps.getD 3 undef, tmps.getD 4 undef]) w := by
  have hr : Tryz.f142.results = #[.cell 2 57, .tmp 3, .tmp 4] := rfl
  have c0 : w.cell? ⟨B, 0, none⟩ = some (.int .i64 k) := cell_at hw 0
  have c1 : w.cell? ⟨B, 1, none⟩ = some (.string s) := cell_at hw 1
  simp only [results, hr]
  simp only [Array.getD_eq_getD_getElem?] at h
  simp [Sem.run_bind, Result.andThen, h, go_sem]
  simp [c0, c1]
theorem bytes_ne {x y : ByteArray} (h : ¬ x = y) : (x.toList == y.toList) = false := by
  rw [beq_eq_false_iff_ne, ByteArray.toList_eq, ByteArray.toList_eq]
  exact fun e => h (ext_list e)
theorem first_any (u : ByteArray) (w : World) (hu : 0 < u.size) (hs : u.size ≤ 100000) :
    Calls Tryz.prog 142 #[.string u] w fun e w' => e = .returned (firstV u) ∧ Below w.heap.size w w' := by
  have HU := Lib.hid hu
  obtain ⟨t1, t2⟩ := take_one hu
  obtain ⟨T, hT⟩ : ∃ T, takeS u 0 1 = T := ⟨_, rfl⟩
  have hTs : T.size = 1 := by rw [← hT]; unfold takeS; rw [t2, ← size_list, head_list, List.length_take, size_list]; omega
  have hT0 : T.data.toList[0]?.getD 0 = u.data.toList[0]?.getD 0 := by rw [← hT]; unfold takeS; rw [t2, head_list, List.getElem?_take_of_lt (by omega)]
  replace hT0 := Lib.hid hT0
  have HN := Lib.hid (numN_lt (rest u 1) 0)
  go_enter Tryz.func142, Tryz.ntmps142
  go_wp2_with fail
  refine (new_any u _).mono ?_
  rintro e w1 ⟨rfl, hw1⟩
  obtain ⟨w0, hw0⟩ : ∃ w0, w.alloc (.cells #[.int .i64 0, .string ⟨#[]⟩] 57) = w0 := ⟨_, rfl⟩
  rw [hw0] at hw1
  rw [hw0]
  have hz0 : w0.heap.size = w.heap.size + 1 := by rw [← hw0]; simp
  have k1 : w1.heap[w.heap.size + 1]? = some (rd u 0) := by rw [hw1, ← hz0]; exact alloc_new w0 _
  have hF : FS w w1 := ⟨by rw [hw1, ← hw0]; exact alloc_at _ (alloc_new w _), by rw [hw1, ← hw0]; exact ((Below.refl _ _).alloc (Nat.le_refl _) _).alloc (by simp) _, by rw [hw1]; simp [hz0]⟩
  rw [hz0]
  clear hw1 hw0 hz0
  replace k1 := Lib.hid k1
  replace hF := Lib.hid hF
  go_wp2_with fail
  refine (take_any _ u 0 1 _ k1.out).mono ?_
  rintro e w2 ⟨rfl, k2, q2⟩
  rw [t1, t2] at k2
  rw [hT]
  replace hF := Lib.hid (hF.out.kept q2)
  replace k2 := Lib.hid k2
  clear q2 k1
  go_wp2_with fail
  refine (num_any _ (rest u 1) 0 _ k2.out (by rw [rest_size]; omega)).mono ?_
  rintro e w3 ⟨rfl, k3, q3⟩
  replace hF := Lib.hid (hF.out.kept q3)
  replace k3 := Lib.hid k3
  clear q3 k2
  go_wp2_with fail
  refine (err_any _ _ _ _ k3.out).mono ?_
  rintro e w4 ⟨rfl, rfl⟩
  rw [rest_rest] at k3
  change Hid (w3.heap[w.heap.size + 1]? = some (rd (rest u (fK u)) (fE1 u))) at k3
  change Hid (fN u < W64) at HN
  obtain ⟨E, hE⟩ : ∃ E, numE (rest u 1) 0 = E := ⟨_, rfl⟩
  obtain ⟨N, hN⟩ : ∃ N, numN (rest u 1) 0 = N := ⟨_, rfl⟩
  have hE2 : fE1 u = E := hE
  have hN2 : fN u = N := hN
  rw [hE, hN]
  rw [hE2] at k3
  rw [hN2] at HN
  clear hE hN
  have hr := hF.out.1
  have c0 : w3.cell? ⟨w.heap.size, 0, none⟩ = some (.int .i64 0) := cell_at hr 0
  have c1 : w3.cell? ⟨w.heap.size, 1, none⟩ = some (.string ⟨#[]⟩) := cell_at hr 1
  have f0 : w3.frozen? ⟨w.heap.size, 0, none⟩ = false := free_at hr 0
  have f1 : w3.frozen? ⟨w.heap.size, 1, none⟩ = false := free_at hr 1
  by_cases h1 : E = 0
  · subst h1
    obtain ⟨hK, hK2⟩ := fK_le HU.out hE2
    have hNb := HN.out
    by_cases h2 : 1048576 < N
    · have hv := Lib.hid (firstV_bad (u := u) (by rw [first_big hE2 (by rw [hN2]; exact h2)]; decide))
      rw [first_big hE2 (by rw [hN2]; exact h2)] at hv
      have hd : decide ((1048576 : Int) < (N : Nat)) = true := decide_eq_true (by omega)
      clear h2
      go_wp2_with fail
      (try simp only [Exit.inBlock, Exit.then])
      refine bodyPost_ret (v := .tuple #[.agg #[.int .i64 0, .string ⟨#[]⟩], .int .i64 0, .int .i64 10]) ?_ ?_ ?_
      · exact first_results _ _ w.heap.size 0 ⟨#[]⟩ rfl (set_at (set_at hr 0 _) 1 _)
      · rfl
      exact ⟨by rw [hv.out]; rfl, (hF.out.2.1.setCell (Nat.le_refl _) _).setCell (Nat.le_refl _) _⟩
    · have hd : decide ((1048576 : Int) < (N : Nat)) = false := decide_eq_false (by omega)
      have hwN : IntKind.i64.wrap (N : Int) = (N : Int) := IntWalk.i64_in _ (by omega)
      clear c0 c1 f0 f1 hr
      have HH := Lib.hid (two_takes u hK)
      rw [hN2] at HH
      have hfU : fU u = fK u + N + 4 := by unfold fU; rw [hN2]
      have HB : Hid (fB u = (rest u (fK u)).extract 0 N) := Lib.hid (by unfold fB; rw [hN2])
      have HS1 := Lib.hid (fun h3 => first_sum hE2 (by rw [hN2]; exact h2) h3)
      have HS2 := Lib.hid (fun h3 => first_cut hE2 (by rw [hN2]; exact h2) h3)
      rw [hN2] at HS1
      have hfK : Hid (fK u = fK u) := Lib.hid rfl
      generalize hU0 : fU u = Un at *
      replace hU0 := Lib.hid hU0
      generalize fK u = K at *
      go_wp2_with fail
      refine (take_any _ (rest u K) 0 (N : Int) _ k3.out).mono ?_
      rintro e w5 ⟨rfl, k5, q5⟩
      replace hF := Lib.hid (hF.out.kept q5)
      replace k5 := Lib.hid k5
      have HH2 := Lib.hid (HH.out _ rfl _ _ _ _ rfl rfl rfl rfl)
      have HB2 : Hid (takeS (rest u K) 0 (N : Int) = (rest u K).extract 0 (takeK (rest u K) 0 (N : Int))) := Lib.hid rfl
      clear q5 k3 HH
      generalize takeS (rest u K) 0 (N : Int) = body at *
      generalize takeK (rest u K) 0 (N : Int) = k2 at *
      generalize takeE (rest u K) 0 (N : Int) = e2 at *
      go_wp2_with fail
      refine (take_any _ _ e2 4 _ k5.out).mono ?_
      rintro e w6 ⟨rfl, k6, q6⟩
      replace hF := Lib.hid (hF.out.kept q6)
      replace k6 := Lib.hid k6
      clear q6 k5
      rw [rest_rest, rest_rest] at k6
      generalize takeS (rest (rest u K) k2) e2 4 = sum at *
      generalize takeK (rest (rest u K) k2) e2 4 = k3 at *
      generalize takeE (rest (rest u K) k2) e2 4 = e3 at *
      go_wp2_with fail
      refine (err_any _ _ _ _ k6.out).mono ?_
      rintro e w7 ⟨rfl, rfl⟩
      rcases HH2.out with ⟨h3, rfl⟩ | ⟨h3, rfl, rfl, rfl, rfl⟩
      · have hv := Lib.hid (firstV_bad (u := u) (by rw [HS2.out h3]; decide))
        rw [HS2.out h3] at hv
        have hr := hF.out.1
        have c0 : w6.cell? ⟨w.heap.size, 0, none⟩ = some (.int .i64 0) := cell_at hr 0
        have c1 : w6.cell? ⟨w.heap.size, 1, none⟩ = some (.string ⟨#[]⟩) := cell_at hr 1
        have f0 : w6.frozen? ⟨w.heap.size, 0, none⟩ = false := free_at hr 0
        have f1 : w6.frozen? ⟨w.heap.size, 1, none⟩ = false := free_at hr 1
        clear HH2
        go_wp2_with fail
        (try simp only [Exit.inBlock, Exit.then])
        refine bodyPost_ret (v := .tuple #[.agg #[.int .i64 0, .string ⟨#[]⟩], .int .i64 0, .int .i64 2]) ?_ ?_ ?_
        · exact first_results _ _ w.heap.size 0 ⟨#[]⟩ rfl (set_at (set_at hr 0 _) 1 _)
        · rfl
        exact ⟨by rw [hv.out]; rfl, (hF.out.2.1.setCell (Nat.le_refl _) _).setCell (Nat.le_refl _) _⟩
      · go_wp2_with fail
        refine (left_any _ _ _ _ k6.out).mono ?_
        rintro e w8 ⟨rfl, rfl⟩
        rw [rest_size]
        obtain ⟨X, hX⟩ : ∃ X, K + k2 = X := ⟨_, rfl⟩
        have hUn : Un = X + 4 := by omega
        have hXs : X + 4 ≤ u.size := by omega
        have hl1 : ((u.size - Un : Nat) : Int) = (u.size : Int) - (Un : Nat) := by omega
        have hsub : (u.size : Int) - ((u.size : Int) - (Un : Int)) = (Un : Int) := by omega
        have hw1 : IntKind.i64.wrap (Un : Int) = (Un : Int) := IntWalk.i64_in _ (by omega)
        have hw2 : IntKind.i64.wrap ((Un : Int) - 4) = (X : Int) := by rw [show (Un : Int) - 4 = (X : Int) by omega]; exact IntWalk.i64_in _ (by omega)
        rw [show K + (k2 + 4) = Un by omega, hl1]
        have hv0 := HS1.out h3
        rw [hX] at hv0
        have HSe := Lib.hid (fun W => sealed_any (u.extract 0 X) W (by rw [← size_list, head_list, List.length_take, size_list]; omega))
        rw [head_list] at HSe
        have hP1 : u.extract 0 Un = str (u.data.toList.take Un) := ext_list (by rw [head_list, str_data])
        have HSF : Hid (∀ W, FS w W → Calls Tryz.prog 60 #[.string (u.extract 0 X)] W fun e W' => e = .returned (.string (str (sealL (u.data.toList.take X)))) ∧ FS w W') := Lib.hid (fun W h => (HSe.out W).mono fun e W' h2 => ⟨h2.1, h.below h2.2⟩)
        have hi0 : (0 : Int) ≤ (X : Nat) := by omega
        have hi1 : (X : Int) ≤ (u.size : Nat) := by omega
        have hi2 : (0 : Int) ≤ (Un : Int) := by omega
        have hi3 : (Un : Int) ≤ (u.size : Nat) := by omega
        have hj1 : X ≤ u.size := by omega
        have hj2 : Un ≤ u.size := by omega
        have hFo := hF.out
        clear HSe hl1 HH2 HS1 HS2 hfU hX hXs hUn h2 h3 hd hwN
        generalize sealL (u.data.toList.take X) = P at *
        by_cases hq : str P = u.extract 0 Un
        · have he : firstE u = 0 := by rw [hv0]; exact if_pos (by rw [hP1] at hq; exact str_inj hq)
          have hv := Lib.hid (firstV_good he)
          rw [hq] at HSF
          clear hv0 hP1 hq
          go_wp2_with fail
          go_region_held3 (fun W => FS w W) (first | assumption | exact FS.drew hFo) (first | (go_at_call 60; (refine (HSF.out _ (by assumption)).mono ?_); rintro e' W' ⟨rfl, hS'⟩))
          all_goals
            have hr := hS'.1
            have c0 : W'.cell? ⟨w.heap.size, 0, none⟩ = some (.int .i64 0) := cell_at hr 0
            have c1 : W'.cell? ⟨w.heap.size, 1, none⟩ = some (.string ⟨#[]⟩) := cell_at hr 1
            have f0 : W'.frozen? ⟨w.heap.size, 0, none⟩ = false := free_at hr 0
            have f1 : W'.frozen? ⟨w.heap.size, 1, none⟩ = false := free_at hr 1
            have hT1 : 0 < T.size := by omega
            go_wp2_with fail
            (try simp only [Exit.inBlock, Exit.then])
            refine bodyPost_ret (v := .tuple #[.agg #[.int .i64 (wrap64 (T[0].toNat : Int)), .string body], .int .i64 Un, .int .i64 0]) ?_ ?_ ?_
            · exact first_results _ _ w.heap.size _ _ rfl (set_at (set_at hr 0 _) 1 _)
            · rfl
            exact ⟨by rw [hv.out, wrap_byte, byte_at, hT0.out, HB.out, HB2.out, hU0.out], (hS'.2.1.setCell (Nat.le_refl _) _).setCell (Nat.le_refl _) _⟩
        · have he : firstE u = 6 := by rw [hv0]; exact if_neg (fun e => hq (by rw [hP1, e]))
          have hv := Lib.hid (firstV_bad (u := u) (by rw [he]; decide))
          rw [he] at hv
          have hq2 := bytes_ne hq
          clear hv0 hP1 hq
          go_wp2_with fail
          go_region_held3 (fun W => FS w W) (first | assumption | exact FS.drew hFo) (first | (go_at_call 60; (refine (HSF.out _ (by assumption)).mono ?_); rintro e' W' ⟨rfl, hS'⟩))
          all_goals
            have hr := hS'.1
            have c0 : W'.cell? ⟨w.heap.size, 0, none⟩ = some (.int .i64 0) := cell_at hr 0
            have c1 : W'.cell? ⟨w.heap.size, 1, none⟩ = some (.string ⟨#[]⟩) := cell_at hr 1
            have f0 : W'.frozen? ⟨w.heap.size, 0, none⟩ = false := free_at hr 0
            have f1 : W'.frozen? ⟨w.heap.size, 1, none⟩ = false := free_at hr 1
            go_wp2_with fail
            (try simp only [Exit.inBlock, Exit.then])
            refine bodyPost_ret (v := .tuple #[.agg #[.int .i64 0, .string ⟨#[]⟩], .int .i64 0, .int .i64 6]) ?_ ?_ ?_
            · exact first_results _ _ w.heap.size 0 ⟨#[]⟩ rfl (set_at (set_at hr 0 _) 1 _)
            · rfl
            exact ⟨by rw [hv.out]; rfl, (hS'.2.1.setCell (Nat.le_refl _) _).setCell (Nat.le_refl _) _⟩
  · have hv := Lib.hid (firstV_bad (u := u) (by rw [first_num (by rw [hE2]; exact h1), hE2]; exact h1))
    rw [first_num (by rw [hE2]; exact h1), hE2] at hv
    have hd : (E != 0) = true := by rw [bne_iff_ne]; exact h1
    clear h1
    go_wp2_with fail
    (try simp only [Exit.inBlock, Exit.then])
    refine bodyPost_ret (v := .tuple #[.agg #[.int .i64 0, .string ⟨#[]⟩], .int .i64 0, .int .i64 E]) ?_ ?_ ?_
    · exact first_results _ _ w.heap.size 0 ⟨#[]⟩ rfl (set_at (set_at hr 0 _) 1 _)
    · rfl
    exact ⟨by rw [hv.out]; rfl, (hF.out.2.1.setCell (Nat.le_refl _) _).setCell (Nat.le_refl _) _⟩
end Ck
end
section
open Go.RowKit Go.Shelf
namespace Ck
open Mem Pk Bd
def splitGo : Nat → Int → ByteArray → Int × List Ch
  | 0, _, _ => (0, [])
  | f + 1, last, u => if u.size = 0 then (0, []) else if firstE u ≠ 0 then (firstE u, []) else if (firstC u).1 ≤ last then (12, []) else ((splitGo f (firstC u).1 (rest u (fU u))).1, firstC u :: (splitGo f (firstC u).1 (rest u (fU u))).2)
def splitR (s : ByteArray) : Int × List Ch := splitGo s.size 0 (rest s 5)
def splitE (s : ByteArray) : Int := if verE s = 0 then (splitR s).1 else verE s
def splitL (s : ByteArray) : List Ch := if splitE s = 0 then (splitR s).2 else []
def splitV (s : ByteArray) : Int := if splitE s = 0 then verN s else 0
theorem fU_pos (u : ByteArray) : 5 ≤ fU u := by unfold fU fK; omega
theorem firstE_ok {u : ByteArray} (h : firstE u = 0) : fE1 u = 0 ∧ ¬ 1048576 < fN u ∧ ¬ u.size < fU u ∧ sealL (u.data.toList.take (fK u + fN u)) = u.data.toList.take (fU u) := by
  unfold firstE at h
  split at h
  · rename_i h1; exact absurd h h1
  · rename_i h1
    split at h
    · exact absurd h (by decide)
    · rename_i h2
      split at h
      · exact absurd h (by decide)
      · rename_i h3
        split at h
        · rename_i h4
          exact ⟨by simpa using h1, h2, h3, h4⟩
        · exact absurd h (by decide)
theorem firstC_ok {u : ByteArray} (h : firstE u = 0) : Ok (firstC u) ∧ 0 ≤ (firstC u).1 ∧ (firstC u).1 ≤ 255 ∧ (firstC u).2.size ≤ 1048576 := by
  have h1 := (u.data.toList[0]?.getD 0).toNat_lt
  have h2 := (firstE_ok h).2.1
  have h3 : (fB u).size ≤ fN u := by
    unfold fB
    rw [← size_list, head_list, List.length_take]
    omega
  refine ⟨⟨⟨?_, ?_⟩, ?_⟩, ?_, ?_, ?_⟩
  · show (-9223372036854775808 : Int) ≤ ((u.data.toList[0]?.getD 0).toNat : Int); omega
  · show ((u.data.toList[0]?.getD 0).toNat : Int) ≤ 9223372036854775807; omega
  · show (fB u).size ≤ maxLen
    unfold maxLen
    omega
  · show (0 : Int) ≤ ((u.data.toList[0]?.getD 0).toNat : Int); omega
  · show ((u.data.toList[0]?.getD 0).toNat : Int) ≤ 255; omega
  · show (fB u).size ≤ 1048576; omega
structure SAt (s : ByteArray) (last : Int) (u : ByteArray) (acc : List Ch) : Prop where
  e : ∃ f, u.size ≤ f ∧ splitR s = ((splitGo f last u).1, acc ++ (splitGo f last u).2)
  bound : ∀ c ∈ acc, Ok c
  len : acc.length + u.size ≤ s.size
  lo : 0 ≤ last
  hi : last ≤ 255
theorem SAt.start (s : ByteArray) : SAt s 0 (rest s 5) [] := ⟨⟨s.size, by rw [rest_size]; omega, rfl⟩, fun c hc => by simp at hc, by rw [rest_size]; simp, by decide, by decide⟩
theorem SAt.done {s u : ByteArray} {last : Int} {acc : List Ch} (h : SAt s last u acc) (h0 : u.size = 0) : splitR s = (0, acc) := by
  obtain ⟨f, -, e⟩ := h.e
  rw [e]
  cases f with
  | zero => rw [splitGo, List.append_nil]
  | succ f => rw [splitGo, if_pos h0, List.append_nil]
theorem SAt.err {s u : ByteArray} {last : Int} {acc : List Ch} (h : SAt s last u acc) (h0 : 0 < u.size) (h1 : firstE u ≠ 0) : (splitR s).1 = firstE u := by
  obtain ⟨f, hf, e⟩ := h.e
  rw [e]
  cases f with
  | zero => omega
  | succ f => rw [splitGo, if_neg (by omega), if_pos h1]
theorem SAt.low {s u : ByteArray} {last : Int} {acc : List Ch} (h : SAt s last u acc) (h0 : 0 < u.size) (h1 : firstE u = 0) (h2 : (firstC u).1 ≤ last) : (splitR s).1 = 12 := by
  obtain ⟨f, hf, e⟩ := h.e
  rw [e]
  cases f with
  | zero => omega
  | succ f => rw [splitGo, if_neg (by omega), if_neg (by simp [h1]), if_pos h2]
theorem SAt.next {s u : ByteArray} {last : Int} {acc : List Ch} (h : SAt s last u acc) (h0 : 0 < u.size) (h1 : firstE u = 0) (h2 : ¬ (firstC u).1 ≤ last) : SAt s (firstC u).1 (rest u (fU u)) (acc ++ [firstC u]) := by
  obtain ⟨f, hf, e⟩ := h.e
  obtain ⟨c1, c2, c3, -⟩ := firstC_ok h1
  have hp := fU_pos u
  have hl := h.len
  cases f with
  | zero => omega
  | succ f =>
    refine ⟨⟨f, by rw [rest_size]; omega, ?_⟩, fun c hc => ?_, by rw [rest_size, List.length_append, List.length_singleton]; omega, c2, c3⟩
    · rw [e, splitGo, if_neg (by omega), if_neg (by simp [h1]), if_neg h2, List.append_assoc]
      rfl
    · rw [List.mem_append, List.mem_singleton] at hc
      rcases hc with hc | rfl
      · exact h.bound c hc
      · exact c1
def SplitR (s : ByteArray) (w : World) (e : Ending) (w' : World) : Prop :=
  (∃ r L, e = .returned (.tuple #[.int .i64 (splitV s), r, .int .i64 (splitE s)]) ∧ Chs w' r L ∧ L = splitL s) ∧ Below w.heap.size w w'
theorem SplitR.bad {s : ByteArray} {c : Int} {w w' : World} (h : splitE s = c) (hc : c ≠ 0) (hb : Below w.heap.size w w') : SplitR s w (.returned (.tuple #[.int .i64 0, .slice none 0 0, .int .i64 c])) w' := by
  subst h
  refine ⟨⟨.slice none 0 0, [], ?_, chs_nil _, ?_⟩, hb⟩
  · unfold splitV; rw [if_neg hc]
  · unfold splitL; rw [if_neg hc]
theorem SplitR.good {s : ByteArray} {r : Value} {L : List Ch} {w w' : World} (h : verE s = 0) (hs : splitR s = (0, L)) (hr : Chs w' r L) (hb : Below w.heap.size w w') : SplitR s w (.returned (.tuple #[.int .i64 (verN s), r, .int .i64 0])) w' := by
  have h1 : splitE s = 0 := by unfold splitE; rw [if_pos h, hs]
  refine ⟨⟨r, L, ?_, hr, ?_⟩, hb⟩
  · unfold splitV; rw [if_pos h1, h1]
  · unfold splitL; rw [if_pos h1, hs]
theorem splitE_ver {s : ByteArray} (h : verE s ≠ 0) : splitE s = verE s := if_neg h
theorem splitE_of {s : ByteArray} {c : Int} (h : verE s = 0) (hc : (splitR s).1 = c) : splitE s = c := by unfold splitE; rw [if_pos h, hc]
theorem ver_size {s : ByteArray} (h : verE s = 0) : 5 ≤ s.size := by
  unfold verE at h
  split at h
  · split at h
    · exact absurd h (by decide)
    · omega
  · exact absurd h (by decide)
theorem src_two {W : World} {f : Nat} {k : Int} {b : ByteArray} (h : W.heap[f]? = some (.cells #[.int .i64 k, .string b] 57 (0, 0))) : Mem.Src W (.slice (some ⟨f, 0, none⟩) 1 1) 1 [.int .i64 k, .string b] :=
  .inr ⟨⟨f, 0, none⟩, 1, rfl, fun j u hu => World.news_of_block (cs := #[.int .i64 k, .string b]) h j u hu⟩
theorem ownC_kept {T : Nat → Prop} {w w' : World} {B : Nat} {v : Value} {l : List Ch} (k : Kept T w w') (h : OwnC w B v l) (hT : ∀ k, B ≤ k → k < w.heap.size → ¬ T k) : OwnC w' B v l := by
  refine ⟨h.1, ?_⟩
  rcases h.2 with h2 | ⟨g, cap, cur, ev, hg, hh, r⟩
  · exact .inl h2
  · exact .inr ⟨g, cap, cur, ev, hg, k.at hh (hT g hg (lt_of_block hh)), r⟩
theorem ownC_below {w w' : World} {B : Nat} {v : Value} {l : List Ch} (k : Below w.heap.size w w') (h : OwnC w B v l) : OwnC w' B v l := ownC_kept (Kept.of_below (T := fun _ => False) k) h (fun _ _ _ h => h)
end Ck
end
section
open Go.RowKit Go.Shelf
namespace Ck
open Mem Pk Bd
theorem split_any (s : ByteArray) (w : World) (hs : s.size ≤ 10000) :
    Calls Tryz.prog 109 #[.string s] w (SplitR s w) := by
  obtain ⟨i0, hi, hz0, hz1, hz2⟩ := info_parts infoC
  have HV := Lib.hid (ver_any s w)
  unfold verV at HV
  by_cases hv : verE s = 0
  · have h5 := ver_size hv
    have hv0 := Lib.hid hv
    rw [hv] at HV
    clear hv
    go_enter Tryz.func109, Tryz.ntmps109
    go_wp2_with fail
    go_step3
    go_wp2_with fail
    refine HV.out.mono ?_
    rintro e w1 ⟨rfl, hb1⟩
    replace hb1 := Lib.hid hb1
    have hr5 : s.extract 5 s.size = rest s 5 := rfl
    go_wp2_with fail
    go_step3
    go_wp2_with fail
    go_loopw [0, 7, 8] (fun t v i wr => ∃ (last : Int) (u : ByteArray) (acc : List Ch), t = .string u ∧ i = .int .i64 last ∧ Hid (SAt s last u acc) ∧ Hid (OwnC wr w.heap.size v acc) ∧ Hid (Below w.heap.size w wr)) (fun t _ _ _ => match t with | .string u => u.size | _ => 0)
    case atStart => exact ⟨0, rest s 5, [], rfl, rfl, Lib.hid (SAt.start s), Lib.hid (ownC_nil _ _), hb1⟩
    case round =>
      obtain ⟨last, u, acc, rfl, rfl, hS, hO, hb⟩ := hrel
      by_cases h0 : u.size = 0
      · obtain rfl : u = ByteArray.empty := ext_list (List.eq_nil_of_length_eq_zero (by rw [size_list]; exact h0))
        have hE := Lib.hid (SplitR.good hv0.out (hS.out.done rfl) (hO.out.chs hS.out.bound) hb.out)
        clear hS hO h0
        go_wp2_with fail
        go_ret3
        exact hE.out
      · have hu : 0 < u.size := by omega
        have hne : (u.toList == []) = false := by
          rw [beq_eq_false_iff_ne]
          intro e
          rw [ByteArray.toList_eq] at e
          have := congrArg List.length e
          rw [size_list] at this
          exact h0 this
        have hlen := hS.out.len
        have hus : u.size ≤ 100000 := by omega
        clear h0
        go_wp2_with fail
        refine (first_any u _ hu hus).mono ?_
        rintro e w2 ⟨rfl, hb2⟩
        have hbW := Lib.hid (hb.out.trans (hb2.mono hb.out.size))
        have hO2 := Lib.hid (ownC_below hb2 hO.out)
        clear hb2 hO hb
        by_cases h1 : firstE u = 0
        · obtain ⟨g1, g2, g3, g4⟩ := firstC_ok h1
          rw [firstV_good h1]
          have hc : firstC u = (((u.data.toList[0]?.getD 0).toNat : Int), fB u) := rfl
          have hfu : fU u ≤ u.size := by have := (firstE_ok h1).2.2.1; omega
          have hp := fU_pos u
          by_cases h2 : (firstC u).1 ≤ last
          · have hE := Lib.hid (fun w' hb => SplitR.bad (s := s) (w := w) (w' := w') (splitE_of hv0.out (hS.out.low hu h1 h2)) (by decide) hb)
            rw [hc] at h2
            have hd : decide (last < ((u.data.toList[0]?.getD 0).toNat : Int)) = false := decide_eq_false (by simp only at h2; omega)
            clear h2 hc hS g1 g2 g3 g4 hO2
            generalize (u.data.toList[0]?.getD 0) = kb at *
            generalize fB u = body at *
            go_wp2_with fail
            go_ret3
            exact hE.out _ (hbW.out.alloc hbW.out.size _)
          · have hN := Lib.hid (hS.out.next hu h1 h2)
            rw [hc] at h2 hN
            have hd : decide (last < ((u.data.toList[0]?.getD 0).toNat : Int)) = true := decide_eq_true (by simp only at h2; omega)
            clear h2 hc hS g1 g2 g3 g4
            generalize (u.data.toList[0]?.getD 0) = kb at *
            generalize fB u = body at *
            go_wp2_with fail
            obtain ⟨wx, hwx⟩ : ∃ wx, w2.alloc (.cells #[.int .i64 ((kb.toNat : Nat) : Int), .string body] 57) = wx := ⟨_, rfl⟩
            rw [hwx]
            have hx1 : wx.heap[w2.heap.size]? = some (.cells #[.int .i64 ((kb.toNat : Nat) : Int), .string body] 57) := by rw [← hwx]; exact alloc_new w2 _
            have hsx : wx.heap.size = w2.heap.size + 1 := by rw [← hwx]; simp
            have hOx : wx.ownsRow w.heap.size 57 2 u7 acc.length (cellsC acc) := by rw [← hwx]; exact World.ownsRow.alloc hO2.out _
            have hbx : Below w.heap.size w wx := by rw [← hwx]; exact hbW.out.alloc hbW.out.size _
            clear hwx
            have c0 : wx.cell? ⟨w2.heap.size, 0, none⟩ = some (.int .i64 ((kb.toNat : Nat) : Int)) := cell_at hx1 0
            have c1 : wx.cell? ⟨w2.heap.size, 1, none⟩ = some (.string body) := cell_at hx1 1
            have hS0 : wx.drew.cell? ⟨w2.heap.size, 0, none⟩ = some (.int .i64 ((kb.toNat : Nat) : Int)) ∧ wx.drew.cell? ⟨w2.heap.size, 1, none⟩ = some (.string body) ∧ Below w.heap.size w wx.drew := ⟨c0, c1, hbx.drew⟩
            have HSS : Hid (∀ W, W.heap[w2.heap.size]? = some (.cells #[.int .i64 ((kb.toNat : Nat) : Int), .string body] 57) → Below w.heap.size w W → W.cell? ⟨w2.heap.size, 0, none⟩ = some (.int .i64 ((kb.toNat : Nat) : Int)) ∧ W.cell? ⟨w2.heap.size, 1, none⟩ = some (.string body) ∧ Below w.heap.size w W) := Lib.hid (fun W h h2 => ⟨cell_at h 0, cell_at h 1, h2⟩)
            have hno := hOx.lt
            have hno2 := World.ownsRow.lt hO2.out
            have i1 : (0 : Int) ≤ (fU u : Nat) := by omega
            have i2 : (fU u : Int) ≤ (u.size : Nat) := by omega
            have hre : u.extract (fU u) u.size = rest u (fU u) := rfl
            have hbz := hbx.size
            clear hO2 hbW
            go_region_held3 (fun W => W.cell? ⟨w2.heap.size, 0, none⟩ = some (.int .i64 ((kb.toNat : Nat) : Int)) ∧ W.cell? ⟨w2.heap.size, 1, none⟩ = some (.string body) ∧ Below w.heap.size w W) (first | assumption | exact HSS.out _ (alloc_at _ hx1) (hbx.alloc hbz _).drew) ((refine step_append_src (by rfl) (.tmp 39) (.tmp 41) 53 (by rfl) w.heap.size 57 i0 (.agg #[.int .i64 0, .string ByteArray.empty]) 2 24 Tryz.underlying53 hi hz0 hz1 hz2 rfl (by decide) _ acc.length (cellsC acc) (by rfl) ?_ _ 1 [.int .i64 ((kb.toNat : Nat) : Int), .string body] (by rfl) rfl ?_ (one_ch _ _) (by unfold maxLen; omega) (by omega) ?_ ?_; exact World.ownsRow.alloc hOx _; exact src_two (by rw [← hsx]; exact alloc_new wx _); exact (hbx.alloc hbz _).size; intro v1 w1' hown1 hgrow1; have hS1 := HSS.out w1' ((hgrow1.block _ (by simp; omega) (fun e => by have := (hno2 _ e.symm).2; omega)).trans (alloc_at _ hx1)) ((hbx.alloc hbz _).drew.grown hgrow1 (by simp; omega) (fun k e => (hno k e).1))))
            all_goals
              have hOf := Lib.hid (ownC_snoc (c := (((kb.toNat : Nat) : Int), body)) hown1)
              have hbf := Lib.hid hS1.2.2
              clear hown1 hgrow1 hS1 hS0 hno hno2
              go_wp2_with fail
              go_roundw
              case rel => exact ⟨_, _, _, rfl, rfl, hN, hOf, hbf⟩
              case measure => simp [rest_size]; omega
        · have hE := Lib.hid (fun w' hb => SplitR.bad (s := s) (w := w) (w' := w') (splitE_of hv0.out (hS.out.err hu h1)) h1 hb)
          rw [firstV_bad h1]
          have hd : (firstE u != 0) = true := by rw [bne_iff_ne]; exact h1
          clear h1 hS hO2
          generalize firstE u = E at *
          go_wp2_with fail
          go_ret3
          exact hE.out _ (hbW.out.alloc hbW.out.size _)
  · have hE := Lib.hid (fun w' hb => SplitR.bad (s := s) (w := w) (w' := w') (splitE_ver hv) hv hb)
    have hd : (verE s != 0) = true := by rw [bne_iff_ne]; exact hv
    clear hv
    go_enter Tryz.func109, Tryz.ntmps109
    go_wp2_with fail
    go_step3
    go_wp2_with fail
    refine HV.out.mono ?_
    rintro e w1 ⟨rfl, hb1⟩
    go_wp2_with fail
    go_ret3
    exact hE.out _ hb1
end Ck
end
section
open Go.RowKit Go.Shelf
namespace Ck
open Mem Pk Bd
theorem first_one {c : Ch} {u : ByteArray} {R : List UInt8} (hu : u.data.toList = oneL c ++ R) (hk : 0 ≤ c.1 ∧ c.1 ≤ 255) (hb : c.2.size ≤ 1048576) :
    firstE u = 0 ∧ firstC u = c ∧ fU u = (oneL c).length ∧ (rest u (fU u)).data.toList = R ∧ 0 < u.size := by
  obtain ⟨k, b⟩ := c
  simp only at hk hb
  obtain ⟨P, hP⟩ : ∃ P, [b8 k] ++ putL b.size ++ b.data.toList = P := ⟨_, rfl⟩
  obtain ⟨Z, hZ⟩ : ∃ Z, (fixL (Crc.more 0 P)).take 4 = Z := ⟨_, rfl⟩
  have hZl : Z.length = 4 := by rw [← hZ, List.length_take, fix_len]; rfl
  have ho : oneL (k, b) = P ++ Z := by show sealL ([b8 k] ++ putL b.size ++ b.data.toList) = _; rw [hP]; unfold sealL; rw [hZ]
  have hPl : P.length = 1 + (putL b.size).length + b.size := by rw [← hP]; simp; omega
  have hu2 : u.data.toList = [b8 k] ++ (putL b.size ++ (b.data.toList ++ (Z ++ R))) := by rw [hu, ho, ← hP]; simp
  have hr : numR (rest u 1).data.toList = (0, b.size, (putL b.size).length) := by
    rw [rest_list, hu2]
    exact read_put (Nat.lt_of_le_of_lt hb (by decide)) _
  have hE : fE1 u = 0 := by unfold fE1 numE; rw [if_pos rfl, hr]
  have hN : fN u = b.size := by unfold fN numN; rw [if_pos rfl, hr]
  have hK : fK u = 1 + (putL b.size).length := by unfold fK numK; rw [if_pos rfl, hr]
  have hU : fU u = P.length + 4 := by unfold fU; rw [hN, hK, hPl]
  have hus : u.size = P.length + 4 + R.length := by rw [← size_list, hu, ho, List.length_append, List.length_append, hZl]
  have t1 : u.data.toList.take (fK u + fN u) = P := by
    rw [hK, hN, ← hPl, hu, ho, List.append_assoc, List.take_left]
  have t2 : u.data.toList.take (fU u) = P ++ Z := by
    rw [hU, hu, ho, show P.length + 4 = (P ++ Z).length by rw [List.length_append, hZl], List.take_left]
  have hF : firstE u = 0 := by
    rw [first_sum hE (by rw [hN]; omega) (by rw [hU, hus]; omega), t1, t2]
    exact if_pos (by unfold sealL; rw [hZ])
  refine ⟨hF, ?_, by rw [hU, ho, List.length_append, hZl], ?_, by omega⟩
  · unfold firstC
    have h0 : u.data.toList[0]?.getD 0 = b8 k := by rw [hu2]; rfl
    have h1 : ((b8 k).toNat : Int) = k := by rw [← b8_val]; omega
    have h2 : fB u = b := by
      unfold fB
      refine ext_list ?_
      rw [head_list, rest_list, hN, hK, hu2]
      have e : [b8 k] ++ (putL b.size ++ (b.data.toList ++ (Z ++ R))) = ([b8 k] ++ putL b.size) ++ (b.data.toList ++ (Z ++ R)) := by simp
      rw [e, show 1 + (putL b.size).length = ([b8 k] ++ putL b.size).length by simp; omega, List.drop_left, ← size_list, List.take_left]
    rw [h0, h1, h2]
  · rw [rest_list, hU, hu, ho, show P.length + 4 = (P ++ Z).length by rw [List.length_append, hZl], List.drop_left]
theorem joinGo_zero {last : Int} {c : Ch} {l : List Ch} (h : joinGo last (c :: l) = 0) : ¬ c.1 ≤ last ∧ c.1 ≤ 255 ∧ c.2.size ≤ 1048576 ∧ joinGo c.1 l = 0 := by
  rw [joinGo] at h
  split at h
  · exact absurd h (by decide)
  · rename_i h1
    split at h
    · exact absurd h (by decide)
    · rename_i h2
      exact ⟨fun e => h1 (.inl e), by omega, by omega, h⟩
theorem oneL_pos (c : Ch) : 0 < (oneL c).length := by unfold oneL sealL; simp
theorem go_back (l : List Ch) : ∀ (f : Nat) (last : Int) (u : ByteArray), 0 ≤ last → joinGo last l = 0 → u.data.toList = l.flatMap oneL → u.size ≤ f → splitGo f last u = (0, l) := by
  induction l with
  | nil =>
    intro f last u _ _ hu _
    have h0 : u.size = 0 := by rw [← size_list, hu]; rfl
    cases f with
    | zero => rw [splitGo]
    | succ f => rw [splitGo, if_pos h0]
  | cons c l ih =>
    intro f last u h0 hj hu hf
    obtain ⟨h1, h2, h3, h4⟩ := joinGo_zero hj
    rw [List.flatMap_cons] at hu
    obtain ⟨e1, e2, e3, e4, e5⟩ := first_one hu ⟨by omega, h2⟩ h3
    have hp := oneL_pos c
    cases f with
    | zero => omega
    | succ f =>
      rw [splitGo, if_neg (by omega), if_neg (by simp [e1]), e2, if_neg h1, ih f c.1 (rest u (fU u)) (by omega) h4 e4 (by rw [rest_size, e3]; omega)]
theorem join_zero {v : Int} {l : List Ch} (h : joinE v l = 0) : 0 ≤ v ∧ v ≤ 255 ∧ joinGo 0 l = 0 := by
  unfold joinE at h
  split at h
  · exact absurd h (by decide)
  · exact ⟨by omega, by omega, h⟩
theorem split_join {v : Int} {l : List Ch} (h : joinE v l = 0) : splitE (joinS v l) = 0 ∧ splitL (joinS v l) = l ∧ splitV (joinS v l) = v := by
  obtain ⟨h0, h1, h2⟩ := join_zero h
  have hs : joinS v l = str (joinL v l) := if_pos h
  rw [hs]
  have hd : (str (joinL v l)).data.toList = [66, 78, 83, 73] ++ ([b8 v] ++ l.flatMap oneL) := by rw [str_data]; unfold joinL; simp
  have hz : ¬ (str (joinL v l)).size < 5 := by rw [← size_list, hd]; simp
  have hm : (str (joinL v l)).data.toList.take 4 = magic := by rw [hd]; rfl
  obtain ⟨g1, g2⟩ := ver_good hm hz
  have hg2 : verN (str (joinL v l)) = v := by
    rw [g2, hd]
    show ((b8 v).toNat : Int) = v
    rw [← b8_val]
    omega
  have hr : splitR (str (joinL v l)) = (0, l) := by
    unfold splitR
    exact go_back l _ 0 _ (by decide) h2 (by rw [rest_list, hd]; rfl) (by rw [rest_size]; omega)
  have hE : splitE (str (joinL v l)) = 0 := splitE_of g1 (by rw [hr])
  exact ⟨hE, by unfold splitL; rw [if_pos hE, hr], by unfold splitV; rw [if_pos hE, hg2]⟩
end Ck
end
section
open Go.RowKit Go.Shelf
attribute [local go_sem] Fl.run_store_float
namespace St
open Mem Tp Tr Mo Fo Sn Og
theorem chs_head {W : World} {a : Option Addr} {n c k : Nat} {l m : List Ck.Ch} (h : Ck.Chs W (.slice a n c) (l ++ m)) (hk : l.length = k) : Ck.Chs W (.slice a k c) l := by
  obtain ⟨⟨a', cap, e, h1, h2, h3⟩, hb⟩ := h
  cases e
  refine ⟨⟨a, c, by rw [hk], by rw [List.length_append] at h1; omega, h2, fun h0 => ?_⟩, fun x hx => hb x (List.mem_append_left _ hx)⟩
  obtain ⟨b, off, e1, e2, e3⟩ := h3 (by rw [List.length_append]; omega)
  refine ⟨b, off, e1, e2, fun j hj => ?_⟩
  have := e3 j (by rw [List.length_append]; omega)
  have hc : Ck.chAt (l ++ m) j = Ck.chAt l j := by unfold Ck.chAt; rw [List.getElem?_append_left hj]
  rw [hc] at this
  exact this
theorem chs_tail {W : World} {b o n c k : Nat} {l m : List Ck.Ch} (h : Ck.Chs W (.slice (some ⟨b, o, none⟩) n c) (l ++ m)) (hk : l.length = k) (h0 : 0 < m.length) : Ck.Chs W (.slice (some ⟨b, o + k * 2, none⟩) m.length (c - k)) m := by
  obtain ⟨⟨a', cap, e, h1, h2, h3⟩, hb⟩ := h
  cases e
  rw [List.length_append] at h1 h3
  refine ⟨⟨_, c - k, rfl, by omega, (fun e => by cases e), fun _ => ?_⟩, fun x hx => hb x (List.mem_append_right _ hx)⟩
  obtain ⟨b', off, e1, e2, e3⟩ := h3 (by omega)
  cases e1
  refine ⟨b, o + k * 2, rfl, e2, fun j hj => ?_⟩
  have := e3 (k + j) (by omega)
  have hc : Ck.chAt (l ++ m) (k + j) = Ck.chAt m j := by unfold Ck.chAt; rw [List.getElem?_append_right (by omega), show k + j - l.length = j by omega]
  rw [hc, show o + (k + j) * 2 = o + k * 2 + j * 2 by omega] at this
  exact this
theorem run_slice_tail {T E : TypeId} {i : TypeInfo} (hT : Tryz.prog.underlying T = some (.slice E)) (hi : Tryz.prog.info? E = some i) (hs : i.size = 2) (b o n k c : Nat) (hk : k ≤ n) (hkc : k < c) (hk0 : 0 < k) (w : World) :
    (Instr.slice T (.slice (some ⟨b, o, none⟩) n c) (some (.int .i64 (k : Int))) none none).run Tryz.prog w = .ok (.slice (some ⟨b, o + k * 2, none⟩) (n - k) (c - k)) w := by
  have h1 : ¬ c = k := by omega
  have h2 : ¬ k * 2 = 0 := by omega
  simp [Instr.slice, Instr.sliceBounds, Instr.sliceBound, asIntOf, run_underlying hT, Sem.run_bind, Sem.run_pure, Result.andThen_ok, sizeOf, typeInfo, hi, hk, hs, go_sem, h1, Addr.add]
  omega
def CV (b : Nat) (v : Value) (W : World) : Prop := W.heap[b]? = some (.cells #[v] 53 (0, 0))
theorem step1_ok (p q : Value) (s : ByteArray) (w : World) (hv : Ck.verE s = 0) (hn : Ck.verN s = 2) :
    Calls Tryz.prog 106 #[p, .string s, q] w fun e w' => e = .returned (.int .i64 0) ∧ Below w.heap.size w w' := by
  have HV := Lib.hid (Ck.ver_any s w)
  unfold Ck.verV at HV
  rw [hv, hn] at HV
  clear hv hn
  go_enter Tryz.func106, Tryz.ntmps106
  go_wp2_with fail
  refine HV.out.mono ?_
  rintro e w1 ⟨rfl, b1⟩
  replace b1 := Lib.hid b1
  go_wp2_with fail
  go_ret
  exact ⟨rfl, b1.out⟩
theorem chs_same {W W' : World} {v : Value} {l : List Ck.Ch} (h : Ck.Chs W v l) (hs : W.heap.size ≤ W'.heap.size) (hsame : ∀ k, v.ownBlock = some k → W'.heap[k]? = W.heap[k]?) : Ck.Chs W' v l := by
  obtain ⟨⟨a, cap, rfl, h1, h2, h3⟩, hb⟩ := h
  refine ⟨⟨a, cap, rfl, h1, h2, fun h0 => ?_⟩, hb⟩
  obtain ⟨b, off, rfl, e2, e3⟩ := h3 h0
  have := hsame b rfl
  refine ⟨b, off, rfl, Nat.lt_of_lt_of_le e2 hs, fun j hj => ?_⟩
  simp only [World.cell?, this]
  exact e3 j hj
theorem chs_ne {W : World} {cb co n c bl : Nat} {l : List Ck.Ch} {a : Option Addr} {m k : Nat} (hC : Ck.Chs W (.slice (some ⟨cb, co, none⟩) n c) l) (h0 : 0 < l.length) (hl : CV bl (.slice a m k) W) : cb ≠ bl := by
  rintro rfl
  have := (Ck.chs_at hC (j := 0) h0).2.1
  rw [cell_at hl] at this
  cases hj : co + 0 * 2 with
  | zero => rw [hj] at this; simp at this
  | succ j => rw [hj] at this; simp at this
theorem step2_ok (p : Value) (bl : Nat) (s : ByteArray) (w : World) (hl : CV bl (.slice none 0 0) w) (hs : s.size ≤ 10000) (he : Ck.splitE s = 0) (h8 : (Ck.splitL s).length = 8) :
    Calls Tryz.prog 108 #[p, .string s, .pointer (some ⟨bl, 0, none⟩)] w fun e w' => e = .returned (.int .i64 0) ∧ (∃ cb co cap, CV bl (.slice (some ⟨cb, co, none⟩) 8 cap) w' ∧ 8 ≤ cap ∧ Ck.Chs w' (.slice (some ⟨cb, co, none⟩) 8 cap) (Ck.splitL s)) ∧ Kept (· = bl) w w' := by
  have HS := Lib.hid (Ck.split_any s w hs)
  have hlt := lt_of_block hl
  have HC := Lib.hid hl
  have HE := Lib.hid he
  have H8 := Lib.hid h8
  clear hl he h8
  go_enter Tryz.func108, Tryz.ntmps108
  go_wp2_with fail
  refine HS.out.mono ?_
  rintro e w1 ⟨⟨r, L, rfl, hC, hL⟩, b1⟩
  rw [HE.out]
  have hC1 : w1.heap[bl]? = some (.cells #[.slice none 0 0] 53 (0, 0)) := below_at b1 HC.out hlt
  have c0 := (show w1.cell? ⟨bl, 0, none⟩ = some (.slice none 0 0) from cell_at hC1 0)
  have f0 : w1.frozen? ⟨bl, 0, none⟩ = false := free_at hC1 0
  have hL8 : L.length = 8 := by rw [hL]; exact H8.out
  obtain ⟨a5, k5, e5⟩ := (chs_sl hC).len
  rw [hL8] at e5
  subst e5
  obtain ⟨cb, co, rfl⟩ := Ck.some_chs hC (by rw [hL8]; decide)
  have hcap : 8 ≤ k5 := by have := (chs_sl hC).cap.1; omega
  have hne := chs_ne hC (by rw [hL8]; decide) hC1
  obtain ⟨W2, hW2⟩ : ∃ W2, w1.setCell ⟨bl, 0, none⟩ (.slice (some ⟨cb, co, none⟩) 8 k5) = W2 := ⟨_, rfl⟩
  have hV2 : CV bl (.slice (some ⟨cb, co, none⟩) 8 k5) W2 := by rw [← hW2]; exact (set_at hC1 0 _).trans rfl
  have k2 : Kept (· = bl) w W2 := by rw [← hW2]; exact Kept.setCell (T := fun k => k = bl) ((Kept.refl _ w).below b1) (p := ⟨bl, 0, none⟩) (fun _ => rfl) _
  have hC2 : Ck.Chs W2 (.slice (some ⟨cb, co, none⟩) 8 k5) L := by
    rw [← hW2]
    exact chs_same hC (by simp [World.setCell]) (fun k e => setCell_heap_other (by show k ≠ bl; cases e; exact hne))
  have c2 := (show W2.cell? ⟨bl, 0, none⟩ = some (.slice (some ⟨cb, co, none⟩) 8 k5) from cell_at hV2 0)
  have hres := Lib.hid (⟨cb, co, k5, hV2, hcap, by rw [← hL]; exact hC2⟩ : ∃ cb co cap, CV bl (.slice (some ⟨cb, co, none⟩) 8 cap) W2 ∧ 8 ≤ cap ∧ Ck.Chs W2 (.slice (some ⟨cb, co, none⟩) 8 cap) (Ck.splitL s))
  replace hW2 := Lib.hid hW2
  replace k2 := Lib.hid k2
  clear hC hL hC1 hL8 hV2 hC2 b1 HS HC HE H8 hne
  go_wp2_with fail
  go_ret
  rw [hW2.out]
  exact ⟨rfl, hres.out, k2.out⟩
def RV (b : Nat) (vb : Value) (fl : Tm) (vl vm : Value) (W : World) : Prop := W.heap[b]? = some (repO vb fl vl vm)
theorem step3_ok (br bl cb co cap : Nat) (s : Value) (r : Rp) (w : World) (hb : RV br (.slice none 0 0) ⟨0, 0⟩ (.slice none 0 0) (.slice none 0 0) w) (hl : CV bl (.slice (some ⟨cb, co, none⟩) 8 cap) w) (h8 : 8 ≤ cap) (hC : Ck.Chs w (.slice (some ⟨cb, co, none⟩) 8 cap) (allC r)) (hW : WfR r) (hk : RkR r) :
    Calls Tryz.prog 110 #[.pointer (some ⟨br, 0, none⟩), s, .pointer (some ⟨bl, 0, none⟩)] w fun e w' => e = .returned (.int .i64 0) ∧ (∃ vb vm base', RV br vb r.fl (.slice none 0 0) vm w' ∧ Mem.Rows w' vb base' ∧ EqR r.base base' ∧ Mem.Mks w' vm r.mks ∧
      (∀ k, vb.ownBlock = some k → w.heap.size ≤ k ∧ k < w'.heap.size) ∧ (∀ k, vm.ownBlock = some k → w.heap.size ≤ k ∧ k < w'.heap.size)) ∧ Kept (· = br) w w' := by
  have HD := Lib.hid (Sn.decode_ok (.slice (some ⟨cb, co, none⟩) 3 cap) r w (chs_head hC rfl) hW hk)
  have hlt := lt_of_block hb
  have c0 := (show w.cell? ⟨bl, 0, none⟩ = some (.slice (some ⟨cb, co, none⟩) 8 cap) from cell_at hl 0)
  have hsl : ∀ W : World, (Instr.slice 53 (.slice (some ⟨cb, co, none⟩) 8 cap) none (some (.int .i64 3)) none).run Tryz.prog W = .ok (.slice (some ⟨cb, co, none⟩) 3 cap) W := fun W => run_slice_head Tryz.underlying53 (by kernel_rfl) (some ⟨cb, co, none⟩) 8 3 cap (by omega) W
  have HB := Lib.hid hb
  clear hb hl hC hW hk
  go_enter Tryz.func110, Tryz.ntmps110
  go_wp2_with fail
  refine HD.out.mono ?_
  rintro e w1 ⟨⟨vb, vm, base', rfl, hR, hEq, hM, hxb, hxm⟩, b1⟩
  have k2 : w1.heap[br]? = some (.cells #[.slice none 0 0, .int .i64 0, .int .i64 0, .slice none 0 0, .slice none 0 0] 34 (0, 0)) := below_at b1 HB.out hlt
  obtain ⟨ab, kb, eb⟩ := hR.len
  subst eb
  obtain ⟨am, km, em⟩ := hM.len
  subst em
  have ones : Hid (∀ v ∈ [Value.slice ab base'.length kb, .int .i64 r.fl.c, .int .i64 r.fl.r, .slice none 0 0, .slice am r.mks.length km], v.oneCell' = true) := Lib.hid (by
    intro v hv
    simp only [List.mem_cons, List.not_mem_nil, or_false] at hv
    rcases hv with rfl | rfl | rfl | rfl | rfl <;> rfl)
  replace hR := Lib.hid hR
  replace hM := Lib.hid hM
  replace hEq := Lib.hid hEq
  replace b1 := Lib.hid b1
  replace hxb := Lib.hid hxb
  replace hxm := Lib.hid hxm
  clear HD c0 hsl
  unfold repV
  go_wp2_with (refine wpList_store_splice (by rfl) 34 _ _ (by rfl) br 0 [.slice ab base'.length kb, .int .i64 r.fl.c, .int .i64 r.fl.r, .slice none 0 0, .slice am r.mks.length km] (by rfl) (by rfl) 34 [.slice none 0 0, .int .i64 0, .int .i64 0, .slice none 0 0, .slice none 0 0] k2 (info_rep.trans rfl) (by simp) ones.out ?_; intro w4 hg4 hB4 hO4)
  have hs9 : w1.heap.size ≤ w4.heap.size := (hB4.out 0 _ (Below.refl 0 _) (Nat.zero_le _)).size
  have hb0 := hB4.out 0 w1 (Below.refl 0 _) (Nat.zero_le _)
  go_ret
  have x1 := hxb.out
  have x2 := hxm.out
  have hs1 := b1.out.size
  refine ⟨rfl, ⟨_, _, base', hg4.out.trans rfl, sl_same hR.out hs9 (fun k e _ => hO4.out k (by have := x1 k e; omega)), hEq.out, sl_same hM.out hs9 (fun k e _ => hO4.out k (by have := x2 k e; omega)), (fun k e => by have := x1 k e; omega), (fun k e => by have := x2 k e; omega)⟩,
    ((Kept.refl (· = br) w).below b1.out).trans ⟨hb0.os, hb0.tape, hb0.output, hs9, fun k _ hk => hO4.out k hk⟩⟩
theorem step4_ok (br bl cb co cap : Nat) (s : Value) (r : Rp) (vb vm : Value) (w : World) (hb : RV br vb r.fl (.slice none 0 0) vm w) (hl : CV bl (.slice (some ⟨cb, co, none⟩) 8 cap) w) (h8 : 8 ≤ cap) (hC : Ck.Chs w (.slice (some ⟨cb, co, none⟩) 8 cap) (allC r)) (hW : WfR r) (hk : RkR r) :
    Calls Tryz.prog 112 #[.pointer (some ⟨br, 0, none⟩), s, .pointer (some ⟨bl, 0, none⟩)] w fun e w' => e = .returned (.int .i64 0) ∧ (∃ vl l', RV br vb r.fl vl vm w' ∧ Mem.Mvs w' vl l' ∧ EqM r.log l' ∧ (∀ k, vl.ownBlock = some k → w.heap.size ≤ k ∧ k < w'.heap.size)) ∧ Kept (· = br) w w' := by
  obtain ⟨i0, hi, hz0, hz1, hz2⟩ := info_parts Ck.infoC
  have h1 := hW.len
  have HD := Lib.hid (Og.decode_ok r.log (.slice (some ⟨cb, co + 3 * 2, none⟩) 5 (cap - 3)) w (chs_tail (m := Og.opC r.log) hC rfl (by show 0 < 5; decide)) (by omega) hW.lone hk.2 hW.lrise)
  have hlt := lt_of_block hb
  have c0 := (show w.cell? ⟨bl, 0, none⟩ = some (.slice (some ⟨cb, co, none⟩) 8 cap) from cell_at hl 0)
  have hsl : ∀ W : World, (Instr.slice 53 (.slice (some ⟨cb, co, none⟩) 8 cap) (some (.int .i64 3)) none none).run Tryz.prog W = .ok (.slice (some ⟨cb, co + 3 * 2, none⟩) 5 (cap - 3)) W := fun W => run_slice_tail Tryz.underlying53 hi hz1 cb co 8 3 cap (by omega) (by omega) (by omega) W
  have HB := Lib.hid hb
  clear hb hl hC hW hk hi hz0 hz1 hz2
  go_enter Tryz.func112, Tryz.ntmps112
  go_wp2_with fail
  refine HD.out.mono ?_
  rintro e w1 ⟨⟨vl, l', rfl, hM, hEq, hxl⟩, b1⟩
  have k2 : w1.heap[br]? = some (.cells #[vb, .int .i64 r.fl.c, .int .i64 r.fl.r, .slice none 0 0, vm] 34 (0, 0)) := below_at b1 HB.out hlt
  obtain ⟨am, km, em⟩ := hM.len
  subst em
  have c3 := (show w1.cell? ⟨br, 3, none⟩ = some (.slice none 0 0) from cell_at k2 3)
  have f3 : w1.frozen? ⟨br, 3, none⟩ = false := free_at k2 3
  obtain ⟨W2, hW2⟩ : ∃ W2, w1.setCell ⟨br, 3, none⟩ (.slice am l'.length km) = W2 := ⟨_, rfl⟩
  have hV2 : RV br vb r.fl (.slice am l'.length km) vm W2 := by rw [← hW2]; exact (set_at k2 3 _).trans rfl
  have kk : Kept (· = br) w W2 := by rw [← hW2]; exact Kept.setCell (T := fun k => k = br) ((Kept.refl _ w).below b1) (p := ⟨br, 3, none⟩) (fun _ => rfl) _
  have hz : W2.heap.size = w1.heap.size := by rw [← hW2]; simp [World.setCell]
  have hM2 : Mem.Mvs W2 (.slice am l'.length km) l' := by
    rw [← hW2]
    exact sl_same hM (by simp [World.setCell]) (fun k e _ => setCell_heap_other (by show k ≠ br; have := hxl k e; omega))
  have hx2 := Lib.hid (fun k e => (show w.heap.size ≤ k ∧ k < W2.heap.size by have := hxl k e; omega))
  replace hM2 := Lib.hid hM2
  replace hV2 := Lib.hid hV2
  replace kk := Lib.hid kk
  replace hEq := Lib.hid hEq
  replace hW2 := Lib.hid hW2
  clear HD c0 hsl hM b1 k2 hxl hz
  go_wp2_with fail
  go_ret
  rw [hW2.out]
  exact ⟨rfl, ⟨_, l', hV2.out, hM2.out, hEq.out, hx2.out⟩, kk.out⟩
theorem step5_ok (br : Nat) (s q : Value) (r : Rp) (vb vl vm : Value) (w : World) (hb : RV br vb r.fl vl vm w) (hR : RepW w vb vl vm r) (hW : WfR r) :
    Calls Tryz.prog 114 #[.pointer (some ⟨br, 0, none⟩), s, q] w fun e w' => e = .returned (.int .i64 0) ∧ Below w.heap.size w w' := by
  have HM := Lib.hid (Fo.may_ok vb vl vm r w hR hW)
  unfold repV at HM
  unfold RV repO at hb
  have c0 := (show w.cell? ⟨br, 0, none⟩ = some vb from cell_at hb 0)
  have c1 := (show w.cell? ⟨br, 1, none⟩ = some (.int .i64 r.fl.c) from cell_at hb 1)
  have c2 := (show w.cell? ⟨br, 2, none⟩ = some (.int .i64 r.fl.r) from cell_at hb 2)
  have c3 := (show w.cell? ⟨br, 3, none⟩ = some vl from cell_at hb 3)
  have c4 := (show w.cell? ⟨br, 4, none⟩ = some vm from cell_at hb 4)
  clear hb hR hW
  go_enter Tryz.func114, Tryz.ntmps114
  go_wp2_with fail
  refine HM.out.mono ?_
  rintro e w1 ⟨rfl, b1⟩
  replace b1 := Lib.hid b1
  go_wp2_with fail
  go_ret
  exact ⟨rfl, b1.out⟩
end St
end
section
open Go.RowKit Go.Shelf
attribute [local go_sem] Fl.run_store_float
namespace St
open Mem Tp Tr Mo Fo Sn Og
structure EqP (r r' : Rp) : Prop where
  b : EqR r.base r'.base
  f : r'.fl = r.fl
  l : EqM r.log r'.log
  m : r'.mks = r.mks
theorem nrmM_t {l l' : List Mv} (h : l'.map nrmM = l.map nrmM) : l'.map (fun m => m.t) = l.map (fun m => m.t) := by
  have := congrArg (List.map (fun m : Mv => m.t)) h
  rw [List.map_map, List.map_map] at this
  exact this
theorem nrmM_mem {l l' : List Mv} (h : l'.map nrmM = l.map nrmM) {x : Mv} (hx : x ∈ l') : ∃ y ∈ l, nrmM x = nrmM y := by
  have : nrmM x ∈ l.map nrmM := by rw [← h]; exact List.mem_map_of_mem hx
  obtain ⟨y, hy, e⟩ := List.mem_map.1 this
  exact ⟨y, hy, e.symm⟩
theorem oneM_eq {x y : Mv} (h : nrmM x = nrmM y) : oneM x = oneM y := by
  have h1 : oneM (nrmM x) = oneM x := rfl
  have h2 : oneM (nrmM y) = oneM y := rfl
  rw [← h1, ← h2, h]
theorem ofM_t (l : List Mv) : ofM l = (l.map (fun m => m.t)).foldl raiseM [] := by unfold ofM; rw [List.foldl_map]
theorem len_eqM {l l' : List Mv} (h : l'.map nrmM = l.map nrmM) : l'.length = l.length := by have := congrArg List.length h; simpa using this
theorem wf_eq {r r' : Rp} (h : WfR r) (e : EqP r r') : WfR r' := by
  have eb := e.b.1
  have el := e.l.1
  have et := nrmM_t el
  have ho : ofM r'.log = ofM r.log := by rw [ofM_t, ofM_t, et]
  refine ⟨rise_eq eb h.rise, fun x hx => ?_, fun x hx => ?_, ?_, fun m hm => ?_, by rw [e.m]; exact h.mks, by rw [ho, e.m]; exact h.below, by rw [e.f, e.m]; exact h.fl, ?_, by rw [nrm_len eb, len_eqM el]; exact h.len, by rw [e.m]; exact h.mlen⟩
  · obtain ⟨y, hy, q⟩ := nrm_mem eb hx
    rw [one_eq q]
    exact h.one y hy
  · obtain ⟨y, hy, q⟩ := nrm_mem eb hx
    rw [above_eq eb, nrm_ch q]
    exact h.acyc y hy
  · have h1 : (r.log.map (fun m => m.t)).Pairwise (fun a b => bef a b = true) := List.pairwise_map.2 h.lrise
    rw [← et] at h1
    exact List.pairwise_map.1 h1
  · obtain ⟨y, hy, q⟩ := nrmM_mem el hm
    rw [oneM_eq q]
    exact h.lone y hy
  · have h1 := h.abv
    unfold since at h1 ⊢
    rw [List.filter_eq_self] at h1 ⊢
    intro m hm
    obtain ⟨y, hy, q⟩ := nrmM_mem el hm
    have ht : m.t = y.t := show (nrmM m).t = (nrmM y).t by rw [q]
    rw [e.f, ht]
    exact h1 y hy
theorem rk_eq {r r' : Rp} (e : EqP r r') : RkR r' := ⟨e.b.2, e.l.2⟩
def stepsV : Value := .agg #[.func (.func 106) #[] #[], .func (.func 108) #[] #[], .func (.func 110) #[] #[], .func (.func 112) #[] #[], .func (.func 114) #[] #[]]
theorem steps_results (tmps : Array Value) (w : World) (B : Nat) (h : tmps.getD 0 undef = .pointer (some ⟨B, 0, none⟩))
    (hw : w.heap[B]? = some (.cells #[.func (.func 106) #[] #[], .func (.func 108) #[] #[], .func (.func 110) #[] #[], .func (.func 112) #[] #[], .func (.func 114) #[] #[]] 123 (0, 0))) :
    (results Tryz.f62 tmps).run Tryz.prog w = .ok stepsV w := by
  have hr : Tryz.f62.results = #[.cell 0 123] := rfl
  have c0 := cell_at hw 0
  have c1 := cell_at hw 1
  have c2 := cell_at hw 2
  have c3 := cell_at hw 3
  have c4 := cell_at hw 4
  simp only [results, hr]
  simp only [Array.getD_eq_getD_getElem?] at h
  simp [Sem.run_bind, Result.andThen, h, go_sem]
  simp [c0, c1, c2, c3, c4]
  rfl
theorem steps_any (w : World) : Calls Tryz.prog 62 #[] w fun e w' => e = .returned stepsV ∧ Below w.heap.size w w' := by
  go_enter Tryz.func62, Tryz.ntmps62
  go_wp2_with fail
  refine bodyPost_ret (steps_results _ _ w.heap.size rfl ((alloc_new w _).trans rfl)) rfl ?_
  exact ⟨rfl, (Below.refl _ _).alloc (Nat.le_refl _) _⟩
theorem file_ver {r : Rp} (hf : ((allC r).flatMap Ck.oneL).length ≤ 90000) : Ck.verE (fileS r) = 0 ∧ Ck.verN (fileS r) = 2 ∧ Ck.splitE (fileS r) = 0 ∧ Ck.splitL (fileS r) = allC r := by
  have hj := join_all hf
  obtain ⟨h1, h2, h3⟩ := Ck.split_join hj
  have hv : Ck.verE (fileS r) = 0 := Decidable.byContradiction fun h => by
    have := Ck.splitE_ver h
    unfold fileS at this h
    rw [h1] at this
    exact h this.symm
  refine ⟨hv, ?_, h1, h2⟩
  have h3' : Ck.splitV (fileS r) = 2 := h3
  have h1' : Ck.splitE (fileS r) = 0 := h1
  unfold Ck.splitV at h3'
  rw [if_pos h1'] at h3'
  exact h3'
end St
end
section
open Go.RowKit Go.Shelf
attribute [local go_sem] Fl.run_store_float
namespace St
open Mem Tp Tr Mo Fo Sn Og
def rep0 : Obj := .cells #[.slice none 0 0, .int .i64 0, .int .i64 0, .slice none 0 0, .slice none 0 0] 34
def chs0 : Obj := .cells #[.slice none 0 0] 53
theorem index_step0 (w : World) : (Instr.index 123 (.agg #[.func (.func 106) #[] #[], .func (.func 108) #[] #[], .func (.func 110) #[] #[], .func (.func 112) #[] #[], .func (.func 114) #[] #[]]) (.int .i64 0)).run Tryz.prog w = .ok (.func (.func 106) #[] #[]) w := by kernel_rfl
theorem index_step1 (w : World) : (Instr.index 123 (.agg #[.func (.func 106) #[] #[], .func (.func 108) #[] #[], .func (.func 110) #[] #[], .func (.func 112) #[] #[], .func (.func 114) #[] #[]]) (.int .i64 1)).run Tryz.prog w = .ok (.func (.func 108) #[] #[]) w := by kernel_rfl
theorem index_step2 (w : World) : (Instr.index 123 (.agg #[.func (.func 106) #[] #[], .func (.func 108) #[] #[], .func (.func 110) #[] #[], .func (.func 112) #[] #[], .func (.func 114) #[] #[]]) (.int .i64 2)).run Tryz.prog w = .ok (.func (.func 110) #[] #[]) w := by kernel_rfl
theorem index_step3 (w : World) : (Instr.index 123 (.agg #[.func (.func 106) #[] #[], .func (.func 108) #[] #[], .func (.func 110) #[] #[], .func (.func 112) #[] #[], .func (.func 114) #[] #[]]) (.int .i64 3)).run Tryz.prog w = .ok (.func (.func 112) #[] #[]) w := by kernel_rfl
theorem index_step4 (w : World) : (Instr.index 123 (.agg #[.func (.func 106) #[] #[], .func (.func 108) #[] #[], .func (.func 110) #[] #[], .func (.func 112) #[] #[], .func (.func 114) #[] #[]]) (.int .i64 4)).run Tryz.prog w = .ok (.func (.func 114) #[] #[]) w := by kernel_rfl
attribute [local go_sem] index_step0 index_step1 index_step2 index_step3 index_step4
theorem kept_below {w W W' : World} {b : Nat} (h : Below w.heap.size w W) (k : Kept (· = b) W W') (hb : w.heap.size ≤ b) : Below w.heap.size w W' :=
  ⟨k.os.trans h.os, k.tape.trans h.tape, k.output.trans h.output, Nat.le_trans h.size k.size, fun j hj => (k.block j (Nat.lt_of_lt_of_le hj h.size) (by omega)).trans (h.block j hj)⟩
theorem kept_at {W W' : World} {b x : Nat} {o : Obj} (k : Kept (· = b) W W') (h : W.heap[x]? = some o) (hx : x ≠ b) : W'.heap[x]? = some o :=
  (k.block x (lt_of_block h) hx).trans h
theorem chs_rv {W : World} {cb co n c br : Nat} {l : List Ck.Ch} {vb vl vm : Value} {fl : Tm} (hC : Ck.Chs W (.slice (some ⟨cb, co, none⟩) n c) l) (h0 : 0 < l.length) (h : RV br vb fl vl vm W) (hl : ∀ s, vl ≠ .string s) (hm : ∀ s, vm ≠ .string s) : cb ≠ br := by
  rintro rfl
  have := (Ck.chs_at hC (j := 0) h0).2.2
  unfold RV repO at h
  rw [cell_at h] at this
  rcases hj : co + 0 * 2 + 1 with _ | _ | _ | _ | _ | j
  · omega
  · rw [hj] at this; simp at this
  · rw [hj] at this; simp at this
  · rw [hj] at this; simp at this; exact hl _ this
  · rw [hj] at this; simp at this; exact hm _ this
  · rw [hj] at this; simp at this
theorem load_ok (r : Rp) (w : World) (hW : WfR r) (hk : RkR r) (hf : ((allC r).flatMap Ck.oneL).length ≤ 90000) (hs : (fileS r).size ≤ 10000) :
    Calls Tryz.prog 31 #[.string (fileS r)] w fun e w' => (∃ vb vl vm r', e = .returned (.tuple #[repV vb r'.fl vl vm, .int .i64 0]) ∧ RepW w' vb vl vm r' ∧ EqP r r' ∧
      (∀ k, vb.ownBlock = some k → w.heap.size ≤ k) ∧ (∀ k, vl.ownBlock = some k → w.heap.size ≤ k) ∧ (∀ k, vm.ownBlock = some k → w.heap.size ≤ k)) ∧ Below w.heap.size w w' := by
  obtain ⟨v1, v2, v3, v4⟩ := file_ver hf
  generalize fileS r = s at *
  obtain ⟨W0, hW0⟩ : ∃ W0, ((w.alloc rep0).alloc rep0).alloc chs0 = W0 := ⟨_, rfl⟩
  have hb0 : Below w.heap.size w W0 := by
    rw [← hW0]
    exact (((Below.refl w.heap.size w).alloc (Nat.le_refl _) rep0).alloc (by simp) rep0).alloc (by simp; omega) chs0
  have hz0 : W0.heap.size = w.heap.size + 1 + 1 + 1 := by rw [← hW0]; simp
  have g0 : W0.heap[w.heap.size]? = some rep0 := by rw [← hW0]; exact alloc_at _ (alloc_at _ (alloc_new w _))
  have g1 : W0.heap[w.heap.size + 1]? = some rep0 := by
    rw [← hW0]
    have := alloc_new (w.alloc rep0) rep0
    exact alloc_at _ (by simpa using this)
  have g2 : W0.heap[w.heap.size + 1 + 1]? = some chs0 := by
    rw [← hW0]
    have := alloc_new ((w.alloc rep0).alloc rep0) chs0
    simpa using this
  replace hW0 := Lib.hid hW0
  go_enter Tryz.func31, Tryz.ntmps31
  go_wp2_with fail
  refine (steps_any _).mono ?_
  rintro e w1 ⟨rfl, b1⟩
  replace b1 : Below W0.heap.size W0 w1 := by rw [← hW0.out]; exact b1
  have R1 : RV (w.heap.size + 1) (.slice none 0 0) ⟨0, 0⟩ (.slice none 0 0) (.slice none 0 0) w1 := below_at b1 g1 (by omega)
  have L1 : CV (w.heap.size + 1 + 1) (.slice none 0 0) w1 := below_at b1 g2 (by omega)
  have G1 : w1.heap[w.heap.size]? = some rep0 := below_at b1 g0 (by omega)
  have s1 := b1.size
  have K1 : Below w.heap.size w w1 := hb0.trans (b1.mono (by omega))
  have S1 := Lib.hid (step1_ok (.pointer (some ⟨w.heap.size + 1, 0, none⟩)) (.pointer (some ⟨w.heap.size + 1 + 1, 0, none⟩)) s w1 v1 v2)
  replace K1 := Lib.hid K1
  replace R1 := Lib.hid R1
  replace L1 := Lib.hid L1
  replace G1 := Lib.hid G1
  replace v1 := Lib.hid v1
  replace v2 := Lib.hid v2
  replace v3 := Lib.hid v3
  replace v4 := Lib.hid v4
  replace hs := Lib.hid hs
  clear hb0 g0 g1 g2 hW0 b1
  unfold stepsV
  go_wp2_with fail
  refine wp_loop_rounds 6 ?_
  rw [rounds_succ]
  go_wp2_with fail
  refine S1.out.mono ?_
  rintro e w2 ⟨rfl, b2⟩
  have h8 : (Ck.splitL s).length = 8 := by rw [v4.out]; rfl
  have s2 := b2.size
  have R2 : RV (w.heap.size + 1) (.slice none 0 0) ⟨0, 0⟩ (.slice none 0 0) (.slice none 0 0) w2 := below_at b2 R1.out (by omega)
  have L2 : CV (w.heap.size + 1 + 1) (.slice none 0 0) w2 := below_at b2 L1.out (by omega)
  have G2 : w2.heap[w.heap.size]? = some rep0 := below_at b2 G1.out (by omega)
  have K2 : Below w.heap.size w w2 := K1.out.trans (b2.mono (by omega))
  have S2 := Lib.hid (step2_ok (.pointer (some ⟨w.heap.size + 1, 0, none⟩)) (w.heap.size + 1 + 1) s w2 L2 hs.out v3.out h8)
  replace K2 := Lib.hid K2
  replace R2 := Lib.hid R2
  replace G2 := Lib.hid G2
  clear S1 K1 R1 L1 G1 b2 L2
  go_wp2_with fail
  rw [rounds_succ]
  go_wp2_with fail
  refine S2.out.mono ?_
  rintro e w3 ⟨rfl, ⟨cb, co, cap, L3, h8', C3⟩, k3⟩
  rw [v4.out] at C3
  have s3 := k3.size
  have R3 : RV (w.heap.size + 1) (.slice none 0 0) ⟨0, 0⟩ (.slice none 0 0) (.slice none 0 0) w3 := kept_at k3 R2.out (by omega)
  have G3 : w3.heap[w.heap.size]? = some rep0 := kept_at k3 G2.out (by omega)
  have K3 : Below w.heap.size w w3 := kept_below K2.out k3 (by omega)
  have hne := chs_rv C3 (by show 0 < 8; decide) R3 (by intro s e; cases e) (by intro s e; cases e)
  have S3 := Lib.hid (step3_ok (w.heap.size + 1) (w.heap.size + 1 + 1) cb co cap (.string s) r w3 R3 L3 h8' C3 hW hk)
  replace K3 := Lib.hid K3
  replace L3 := Lib.hid L3
  replace C3 := Lib.hid C3
  replace G3 := Lib.hid G3
  clear S2 K2 R2 G2 k3 R3 v4 v3 h8 hs
  go_wp2_with fail
  rw [rounds_succ]
  go_wp2_with fail
  refine S3.out.mono ?_
  rintro e w4 ⟨rfl, ⟨vb, vm, base', R4, hB4, hE4, hM4, x4b, x4m⟩, k4⟩
  have s4 := k4.size
  have L4 : CV (w.heap.size + 1 + 1) (.slice (some ⟨cb, co, none⟩) 8 cap) w4 := kept_at k4 L3.out (by omega)
  have C4 : Ck.Chs w4 (.slice (some ⟨cb, co, none⟩) 8 cap) (allC r) := chs_same C3.out s4 (fun j e => k4.block j (by have := (Ck.chs_at C3.out (j := 0) (by show 0 < 8; decide)).1; cases e; exact this) (by cases e; exact hne))
  have G4 : w4.heap[w.heap.size]? = some rep0 := kept_at k4 G3.out (by omega)
  have K4 : Below w.heap.size w w4 := kept_below K3.out k4 (by omega)
  have S4 := Lib.hid (step4_ok (w.heap.size + 1) (w.heap.size + 1 + 1) cb co cap (.string s) r vb vm w4 R4 L4 h8' C4 hW hk)
  replace K4 := Lib.hid K4
  replace G4 := Lib.hid G4
  replace hB4 := Lib.hid hB4
  replace hM4 := Lib.hid hM4
  replace hE4 := Lib.hid hE4
  clear S3 K3 L3 C3 G3 k4 R4 L4 C4 h8'
  go_wp2_with fail
  rw [rounds_succ]
  go_wp2_with fail
  refine S4.out.mono ?_
  rintro e w5 ⟨rfl, ⟨vl, l', R5, hL5, hE5, x5l⟩, k5⟩
  have s5 := k5.size
  have hR5 : RepW w5 vb vl vm ⟨base', r.fl, l', r.mks⟩ := ⟨sl_same hB4.out s5 (fun j e _ => k5.block j (by have := x4b j e; omega) (by have := x4b j e; omega)), hL5, sl_same hM4.out s5 (fun j e _ => k5.block j (by have := x4m j e; omega) (by have := x4m j e; omega)),
    (fun j e => by have := x4b j e; omega), (fun j e => (x5l j e).2), (fun j e => by have := x4m j e; omega)⟩
  have hEq : EqP r ⟨base', r.fl, l', r.mks⟩ := ⟨hE4.out, rfl, hE5, rfl⟩
  have hW5 := wf_eq hW hEq
  have G5 : w5.heap[w.heap.size]? = some rep0 := kept_at k5 G4.out (by omega)
  have K5 : Below w.heap.size w w5 := kept_below K4.out k5 (by omega)
  have S5 := Lib.hid (step5_ok (w.heap.size + 1) (.string s) (.pointer (some ⟨w.heap.size + 1 + 1, 0, none⟩)) ⟨base', r.fl, l', r.mks⟩ vb vl vm w5 R5 hR5 hW5)
  have x5b : ∀ j, vb.ownBlock = some j → w.heap.size + 1 + 1 + 1 ≤ j := fun j e => by have := x4b j e; omega
  have x5m : ∀ j, vm.ownBlock = some j → w.heap.size + 1 + 1 + 1 ≤ j := fun j e => by have := x4m j e; omega
  have x5l' : ∀ j, vl.ownBlock = some j → w.heap.size + 1 + 1 + 1 ≤ j := fun j e => by have := x5l j e; omega
  replace K5 := Lib.hid K5
  replace G5 := Lib.hid G5
  replace R5 := Lib.hid R5
  replace hR5 := Lib.hid hR5
  replace hEq := Lib.hid hEq
  replace x5b := Lib.hid x5b
  replace x5m := Lib.hid x5m
  replace x5l' := Lib.hid x5l'
  clear S4 K4 G4 hB4 hM4 hE4 hE5 hL5 k5 x4b x4m x5l hW5
  go_wp2_with fail
  rw [rounds_succ]
  go_wp2_with fail
  refine S5.out.mono ?_
  rintro e w6 ⟨rfl, b6⟩
  have s6 := b6.size
  have R6 : RV (w.heap.size + 1) vb r.fl vl vm w6 := below_at b6 R5.out (by omega)
  have G6 : w6.heap[w.heap.size]? = some rep0 := below_at b6 G5.out (by omega)
  have K6 : Below w.heap.size w w6 := K5.out.trans (b6.mono (by omega))
  have hR6 := hR5.out.below b6
  replace K6 := Lib.hid K6
  clear S5 K5 G5 R5 hR5 b6
  go_wp2_with fail
  rw [rounds_succ]
  obtain ⟨ab, kb, eb⟩ := hR6.b.len
  subst eb
  obtain ⟨al, kl, el⟩ := hR6.l.len
  subst el
  obtain ⟨am, km, em⟩ := hR6.m.len
  subst em
  unfold RV repO at R6
  unfold rep0 at G6
  have c0 := (show w6.cell? ⟨w.heap.size + 1, 0, none⟩ = some _ from cell_at R6 0)
  have c1 := (show w6.cell? ⟨w.heap.size + 1, 1, none⟩ = some _ from cell_at R6 1)
  have c2 := (show w6.cell? ⟨w.heap.size + 1, 2, none⟩ = some _ from cell_at R6 2)
  have c3 := (show w6.cell? ⟨w.heap.size + 1, 3, none⟩ = some _ from cell_at R6 3)
  have c4 := (show w6.cell? ⟨w.heap.size + 1, 4, none⟩ = some _ from cell_at R6 4)
  have ones : Hid (∀ v ∈ [Value.slice ab base'.length kb, .int .i64 r.fl.c, .int .i64 r.fl.r, .slice al l'.length kl, .slice am r.mks.length km], v.oneCell' = true) := Lib.hid (by
    intro v hv
    simp only [List.mem_cons, List.not_mem_nil, or_false] at hv
    rcases hv with rfl | rfl | rfl | rfl | rfl <;> rfl)
  replace hR6 := Lib.hid hR6
  clear R6
  go_wp2_with (refine wpList_store_splice (by rfl) 34 _ _ (by rfl) w.heap.size 0 [.slice ab base'.length kb, .int .i64 r.fl.c, .int .i64 r.fl.r, .slice al l'.length kl, .slice am r.mks.length km] (by rfl) (by rfl) 34 [.slice none 0 0, .int .i64 0, .int .i64 0, .slice none 0 0, .slice none 0 0] G6 (info_rep.trans rfl) (by simp) ones.out ?_; intro w7 hg7 hB7 hO7)
  have hs7 : w6.heap.size ≤ w7.heap.size := (hB7.out 0 _ (Below.refl 0 _) (Nat.zero_le _)).size
  have hb7 := hB7.out w.heap.size w K6.out (Nat.le_refl _)
  refine bodyPost_ret (rep_resultsAt Tryz.f31 2 3 rfl _ w7 w.heap.size r.fl _ _ _ rfl (hg7.out.trans rfl)) rfl ?_
  have x1 := x5b.out
  have x2 := x5l'.out
  have x3 := x5m.out
  exact ⟨⟨_, _, _, ⟨base', r.fl, l', r.mks⟩, rfl, hR6.out.same hs7 (fun k e => hO7.out k (by
    intro h
    subst h
    rcases e with e | e | e
    · have := x1 _ e; omega
    · have := x2 _ e; omega
    · have := x3 _ e; omega)), hEq.out, fun k e => by have := x1 k e; omega, fun k e => by have := x2 k e; omega, fun k e => by have := x3 k e; omega⟩, hb7⟩
end St
end
section
open Go.RowKit Go.Shelf
attribute [local go_sem] Fl.run_store_float
namespace Pl
open Mem Tp Tr Mo Fo Sn Og St
structure R3 where
  b : Value
  l : Value
  m : Value
abbrev X3 := R3 × Rp
def repC (x : X3) : List Value := [x.1.b, .int .i64 x.2.fl.c, .int .i64 x.2.fl.r, x.1.l, x.1.m]
theorem repC_len (x : X3) : (repC x).length = 5 := rfl
def rpV (x : X3) : Value := repV x.1.b x.2.fl x.1.l x.1.m
def RepX (W : World) (x : X3) : Prop := RepW W x.1.b x.1.l x.1.m x.2
def blocks (x : X3) (k : Nat) : Prop := x.1.b.ownBlock = some k ∨ x.1.l.ownBlock = some k ∨ x.1.m.ownBlock = some k
theorem RepX.lt {W : World} {x : X3} (h : RepX W x) {k : Nat} (hk : blocks x k) : k < W.heap.size := by
  rcases hk with e | e | e
  · exact h.xb k e
  · exact h.xl k e
  · exact h.xm k e
theorem RepX.same {W W' : World} {x : X3} (h : RepX W x) (hs : W.heap.size ≤ W'.heap.size) (hsame : ∀ k, blocks x k → W'.heap[k]? = W.heap[k]?) : RepX W' x := RepW.same h hs hsame
structure PW (W : World) (base p b : Nat) (vp : Value) (xs : List X3) (pool : List Mv) : Prop where
  hp : W.heap[p]? = some (.cells #[.slice (some ⟨b, 0, none⟩) xs.length xs.length, vp] 89 (0, 0))
  hb : W.heap[b]? = some (.cells (xs.flatMap repC).toArray 34 (0, 0))
  pb : p ≠ b
  bp : base ≤ p
  bb : base ≤ b
  own : W.ownsRow base 49 6 vp pool.length (pool.flatMap movC)
  pp : ∀ k, vp.ownBlock = some k → k ≠ p ∧ k ≠ b
  rep : ∀ x ∈ xs, RepX W x
  sep : ∀ x ∈ xs, ∀ k, blocks x k → k ≠ p ∧ k ≠ b ∧ vp.ownBlock ≠ some k
  n1 : 1 ≤ xs.length
  n8 : xs.length ≤ 8
theorem PW.below {W W' : World} {base p b : Nat} {vp : Value} {xs : List X3} {pool : List Mv} (h : PW W base p b vp xs pool) (k : Below W.heap.size W W') : PW W' base p b vp xs pool :=
  ⟨below_at k h.hp (lt_of_block h.hp), below_at k h.hb (lt_of_block h.hb), h.pb, h.bp, h.bb, own_below h.own k, h.pp, fun x hx => RepW.below (h.rep x hx) k, h.sep, h.n1, h.n8⟩
theorem PW.cells {W : World} {base p b : Nat} {vp : Value} {xs : List X3} {pool : List Mv} (h : PW W base p b vp xs pool) {k : Nat} {x : X3} (hx : xs[k]? = some x) :
    W.cell? ⟨b, k * 5, none⟩ = some x.1.b ∧ W.cell? ⟨b, k * 5 + 1, none⟩ = some (.int .i64 x.2.fl.c) ∧ W.cell? ⟨b, k * 5 + 2, none⟩ = some (.int .i64 x.2.fl.r) ∧ W.cell? ⟨b, k * 5 + 3, none⟩ = some x.1.l ∧ W.cell? ⟨b, k * 5 + 4, none⟩ = some x.1.m := by
  have hf := fun i (hi : i < 5) => flat_at (f := repC) (k := 5) repC_len xs k x hx i hi
  refine ⟨?_, ?_, ?_, ?_, ?_⟩
  · rw [cell_at h.hb (k * 5)]; simpa [repC] using hf 0 (by decide)
  · rw [cell_at h.hb (k * 5 + 1)]; simpa [repC] using hf 1 (by decide)
  · rw [cell_at h.hb (k * 5 + 2)]; simpa [repC] using hf 2 (by decide)
  · rw [cell_at h.hb (k * 5 + 3)]; simpa [repC] using hf 3 (by decide)
  · rw [cell_at h.hb (k * 5 + 4)]; simpa [repC] using hf 4 (by decide)
theorem replica_any {base p b : Nat} {vp : Value} {xs : List X3} {pool : List Mv} (w : World) (hP : PW w base p b vp xs pool) (k : Nat) (x : X3) (hx : xs[k]? = some x) :
    Calls Tryz.prog 12 #[.pointer (some ⟨p, 0, none⟩), .int .i64 ((k : Int) + 1)] w fun e w' => e = .returned (.tuple #[rpV x, .bool true]) ∧ Below w.heap.size w w' := by
  have hkn := (List.getElem?_eq_some_iff.1 hx).1
  have hb0 := (Below.refl w.heap.size w).alloc (Nat.le_refl _) rep0
  have hP0 := hP.below hb0
  have hg := alloc_new w rep0
  have n8 := hP.n8
  have hR := hP.rep x (List.mem_of_getElem? hx)
  obtain ⟨⟨vb, vl, vm⟩, ⟨xb, xf, xl, xm⟩⟩ := x
  obtain ⟨ab, kb, eb⟩ := hR.b.len
  obtain ⟨al, kl, el⟩ := hR.l.len
  obtain ⟨am, km, em⟩ := hR.m.len
  simp only at eb el em
  subst eb el em
  obtain ⟨c0, c1, c2, c3, c4⟩ := hP0.cells hx
  have d0 := (show (w.alloc rep0).cell? ⟨p, 0, none⟩ = some (.slice (some ⟨b, 0, none⟩) xs.length xs.length) from cell_at hP0.hp 0)
  have t1 : ¬ (k : Int) + 1 < 1 := by omega
  have t2 : ¬ (xs.length : Int) < (k : Int) + 1 := by omega
  have t3 : (0 : Int) ≤ (k : Int) ∧ (k : Int) < (xs.length : Int) := by omega
  simp only at c0 c1 c2 c3 c4
  unfold rep0 at *
  have ones : Hid (∀ v ∈ [Value.slice ab xb.length kb, .int .i64 xf.c, .int .i64 xf.r, .slice al xl.length kl, .slice am xm.length km], v.oneCell' = true) := Lib.hid (by
    intro v hv
    simp only [List.mem_cons, List.not_mem_nil, or_false] at hv
    rcases hv with rfl | rfl | rfl | rfl | rfl <;> rfl)
  replace hb0 := Lib.hid hb0
  clear hP hP0 hR hx
  go_enter Tryz.func12, Tryz.ntmps12
  go_wp2_with fail
  refine bodyPost_ret (rep_resultsAt Tryz.f12 4 5 rfl _ _ w.heap.size xf _ _ _ rfl ((alloc_new w _).trans rfl)) rfl ?_
  exact ⟨rfl, (Below.refl w.heap.size w).alloc (Nat.le_refl _) _⟩
theorem replica_not {base p b : Nat} {vp : Value} {xs : List X3} {pool : List Mv} (w : World) (hP : PW w base p b vp xs pool) (who : Int) (hw : who < 1 ∨ (xs.length : Int) < who) :
    Calls Tryz.prog 12 #[.pointer (some ⟨p, 0, none⟩), .int .i64 who] w fun e w' => e = .returned (.tuple #[repV (.slice none 0 0) ⟨0, 0⟩ (.slice none 0 0) (.slice none 0 0), .bool false]) ∧ Below w.heap.size w w' := by
  have hb0 := (Below.refl w.heap.size w).alloc (Nat.le_refl _) rep0
  have hP0 := hP.below hb0
  have n8 := hP.n8
  have n1 := hP.n1
  have d0 := (show (w.alloc rep0).cell? ⟨p, 0, none⟩ = some (.slice (some ⟨b, 0, none⟩) xs.length xs.length) from cell_at hP0.hp 0)
  unfold rep0 at *
  replace hb0 := Lib.hid hb0
  clear hP hP0
  go_enter Tryz.func12, Tryz.ntmps12
  by_cases t1 : who < 1
  · clear hw
    go_wp2_with fail
    refine bodyPost_ret (rep_resultsAt Tryz.f12 4 5 rfl _ _ w.heap.size ⟨0, 0⟩ _ _ _ rfl ((alloc_new w _).trans rfl)) rfl ?_
    exact ⟨rfl, (Below.refl w.heap.size w).alloc (Nat.le_refl _) _⟩
  · have t2 : (xs.length : Int) < who := by omega
    clear hw
    go_wp2_with fail
    refine bodyPost_ret (rep_resultsAt Tryz.f12 4 5 rfl _ _ w.heap.size ⟨0, 0⟩ _ _ _ rfl ((alloc_new w _).trans rfl)) rfl ?_
    exact ⟨rfl, (Below.refl w.heap.size w).alloc (Nat.le_refl _) _⟩
end Pl
end
section
open Go.RowKit Go.Shelf
attribute [local go_sem] Fl.run_store_float
namespace Pl
open Mem Tp Tr Mo Fo Sn Og St
def dedV (d : Dd) : Value := .agg #[.int .i64 d.kind, .int .i64 d.who, .int .i64 d.frm, .int .i64 d.at_, .int .i64 d.pa, .int .i64 d.ch, .string d.nm, .float .f64 d.rk]
def BackX (w w' : World) (x y : X3) : Prop := RepX w' y ∧ ∀ k, blocks y k → blocks x k ∨ w.heap.size ≤ k
theorem BackX.of {w w0 w' : World} {x : X3} {vb vl vm : Value} {r : Rp} (h : Back w0 w' x.1.b x.1.l x.1.m vb vl vm r) (hs : w.heap.size ≤ w0.heap.size) : BackX w w' x (⟨vb, vl, vm⟩, r) := by
  refine ⟨h.r, fun k hk => ?_⟩
  rcases hk with e | e | e
  · rcases h.nb k e with q | q
    · exact .inl (.inl q)
    · exact .inr (by omega)
  · rcases h.nl k e with q | q
    · exact .inl (.inr (.inl q))
    · exact .inr (by omega)
  · rcases h.nm k e with q | q
    · exact .inl (.inr (.inr q))
    · exact .inr (by omega)
def dedO (d : Dd) : Obj := .cells #[.int .i64 d.kind, .int .i64 d.who, .int .i64 d.frm, .int .i64 d.at_, .int .i64 d.pa, .int .i64 d.ch, .string d.nm, .float .f64 d.rk] 63
def rpO (x : X3) : Obj := repO x.1.b x.2.fl x.1.l x.1.m
theorem prune_any (p : Value) (x : X3) (d : Dd) (w : World) (hX : RepX w x) (hW : WfR x.2) :
    Calls Tryz.prog 52 #[p, rpV x, dedV d] w fun e w' => (∃ y : X3, e = .returned (.tuple #[rpV y, .int .i64 (pruneR x.2 ⟨d.at_, d.frm⟩).2]) ∧ y.2 = (pruneR x.2 ⟨d.at_, d.frm⟩).1 ∧ BackX w w' x y) ∧ Below w.heap.size w w' := by
  obtain ⟨W0, hW0⟩ : ∃ W0, lay w [rpO x, dedO d, rep0] = W0 := ⟨_, rfl⟩
  have hb0 : Below w.heap.size w W0 := by rw [← hW0]; exact lay_below _ _
  have hs0 : W0.heap.size = w.heap.size + 3 := by rw [← hW0]; exact lay_size _ _
  have g2 : W0.heap[w.heap.size + 2]? = some rep0 := by rw [← hW0]; exact lay_at _ w 2 _ rfl
  have hX0 : RepX W0 x := RepW.below hX hb0
  have HP := Lib.hid (Fo.prune_any x.1.b x.1.l x.1.m x.2 ⟨d.at_, d.frm⟩ W0 hX0 hW)
  have hlt : ∀ k, blocks x k → k < w.heap.size := fun k hk => hX.lt hk
  obtain ⟨ab, kb, eb⟩ := hX.b.len
  obtain ⟨al, kl, el⟩ := hX.l.len
  obtain ⟨am, km, em⟩ := hX.m.len
  obtain ⟨⟨vb, vl, vm⟩, r⟩ := x
  simp only at eb el em
  subst eb el em
  simp only [lay, List.foldl_cons, List.foldl_nil, rpO, repO, dedO, rep0] at hW0
  replace hb0 := Lib.hid hb0
  replace hW0 := Lib.hid hW0
  replace g2 := Lib.hid g2
  clear hX hX0 hW
  unfold rpV repV dedV
  go_enter Tryz.func52, Tryz.ntmps52
  go_wp2_with fail
  rw [hW0.out]
  refine HP.out.mono ?_
  rintro e w1 ⟨⟨vb', vl', vm', rfl, hB⟩, b1⟩
  have s1 := b1.size
  have k2 : w1.heap[w.heap.size + 1 + 1]? = some (.cells #[.slice none 0 0, .int .i64 0, .int .i64 0, .slice none 0 0, .slice none 0 0] 34 (0, 0)) := below_at b1 g2.out (by omega)
  have hb1 := Lib.hid (hb0.out.trans (b1.mono (by omega)))
  obtain ⟨q, hq⟩ : ∃ q, pruneR r ⟨d.at_, d.frm⟩ = q := ⟨_, rfl⟩
  simp only [hq] at hB ⊢
  replace hq := Lib.hid hq
  have hX1 := BackX.of (w := w) (x := (⟨.slice ab r.base.length kb, .slice al r.log.length kl, .slice am r.mks.length km⟩, r)) hB (by omega)
  obtain ⟨ab', kb', eb⟩ := hB.r.b.len
  subst eb
  obtain ⟨al', kl', el⟩ := hB.r.l.len
  subst el
  obtain ⟨am', km', em⟩ := hB.r.m.len
  subst em
  have hbx : ∀ k, blocks (⟨.slice ab' q.1.base.length kb', .slice al' q.1.log.length kl', .slice am' q.1.mks.length km'⟩, q.1) k → k ≠ w.heap.size + 1 + 1 := by
    rintro k (e | e | e) rfl
    · rcases hB.nb _ e with h | h
      · exact absurd (hlt _ (.inl h)) (by omega)
      · omega
    · rcases hB.nl _ e with h | h
      · exact absurd (hlt _ (.inr (.inl h))) (by omega)
      · omega
    · rcases hB.nm _ e with h | h
      · exact absurd (hlt _ (.inr (.inr h))) (by omega)
      · omega
  have ones : Hid (∀ v ∈ [Value.slice ab' q.1.base.length kb', .int .i64 q.1.fl.c, .int .i64 q.1.fl.r, .slice al' q.1.log.length kl', .slice am' q.1.mks.length km'], v.oneCell' = true) := Lib.hid (by
    intro v hv
    simp only [List.mem_cons, List.not_mem_nil, or_false] at hv
    rcases hv with rfl | rfl | rfl | rfl | rfl <;> rfl)
  replace hX1 := Lib.hid hX1
  replace hbx := Lib.hid hbx
  clear HP hB b1 hlt
  unfold repV
  go_wp2_with (refine wpList_store_splice (by rfl) 34 _ _ (by rfl) (w.heap.size + 1 + 1) 0 [.slice ab' q.1.base.length kb', .int .i64 q.1.fl.c, .int .i64 q.1.fl.r, .slice al' q.1.log.length kl', .slice am' q.1.mks.length km'] (by rfl) (by rfl) 34 [.slice none 0 0, .int .i64 0, .int .i64 0, .slice none 0 0, .slice none 0 0] k2 (info_rep.trans rfl) (by simp) ones.out ?_; intro w4 hg4 hB4 hO4)
  have hs9 : w1.heap.size ≤ w4.heap.size := (hB4.out 0 _ (Below.refl 0 _) (Nat.zero_le _)).size
  refine bodyPost_ret (rep_resultsAt Tryz.f52 6 7 rfl _ w4 (w.heap.size + 1 + 1) q.1.fl _ _ _ rfl (hg4.out.trans rfl)) rfl ?_
  exact ⟨⟨(⟨.slice ab' q.1.base.length kb', .slice al' q.1.log.length kl', .slice am' q.1.mks.length km'⟩, q.1), by rw [hq.out]; rfl, by rw [hq.out], hX1.out.1.same hs9 (fun k e => hO4.out k (hbx.out k e)), hX1.out.2⟩, hB4.out _ _ hb1.out (by omega)⟩
theorem reload_any (p : Value) (x : X3) (d : Dd) (w : World) (hX : RepX w x) (hW : WfR x.2) (hk : RkR x.2) (hf : ((allC x.2).flatMap Ck.oneL).length ≤ 90000) (hz : (fileS x.2).size ≤ 10000) :
    Calls Tryz.prog 53 #[p, rpV x, dedV d] w fun e w' => (∃ y : X3, e = .returned (.tuple #[rpV y, .int .i64 0]) ∧ EqP x.2 y.2 ∧ BackX w w' x y) ∧ Below w.heap.size w w' := by
  obtain ⟨W0, hW0⟩ : ∃ W0, lay w [rpO x, dedO d, rep0] = W0 := ⟨_, rfl⟩
  have hb0 : Below w.heap.size w W0 := by rw [← hW0]; exact lay_below _ _
  have hs0 : W0.heap.size = w.heap.size + 3 := by rw [← hW0]; exact lay_size _ _
  have g2 : W0.heap[w.heap.size + 2]? = some rep0 := by rw [← hW0]; exact lay_at _ w 2 _ rfl
  have hX0 : RepX W0 x := RepW.below hX hb0
  have HS := Lib.hid (save_any x.1.b x.1.l x.1.m x.2 W0 hX0 hW hk hf)
  have HL := Lib.hid (fun W => load_ok x.2 W hW hk hf hz)
  have hlt : ∀ k, blocks x k → k < w.heap.size := fun k hk => hX.lt hk
  obtain ⟨ab, kb, eb⟩ := hX.b.len
  obtain ⟨al, kl, el⟩ := hX.l.len
  obtain ⟨am, km, em⟩ := hX.m.len
  obtain ⟨⟨vb, vl, vm⟩, r⟩ := x
  simp only at eb el em
  subst eb el em
  simp only [lay, List.foldl_cons, List.foldl_nil, rpO, repO, dedO, rep0] at hW0
  replace hb0 := Lib.hid hb0
  replace hW0 := Lib.hid hW0
  replace g2 := Lib.hid g2
  clear hX hX0 hW hk hf hz hlt
  unfold rpV repV dedV
  go_enter Tryz.func53, Tryz.ntmps53
  go_wp2_with fail
  rw [hW0.out]
  refine HS.out.mono ?_
  rintro e w0 ⟨rfl, b0⟩
  have s0 := b0.size
  have k0 : w0.heap[w.heap.size + 1 + 1]? = some (.cells #[.slice none 0 0, .int .i64 0, .int .i64 0, .slice none 0 0, .slice none 0 0] 34 (0, 0)) := below_at b0 g2.out (by omega)
  have hb1 := Lib.hid (hb0.out.trans (b0.mono (by omega)))
  replace k0 := Lib.hid k0
  clear b0
  go_wp2_with fail
  refine (HL.out _).mono ?_
  rintro e w1 ⟨⟨vb', vl', vm', q, rfl, hR, hE, xb, xl, xm⟩, b1⟩
  have s1 := b1.size
  have k2 : w1.heap[w.heap.size + 1 + 1]? = some (.cells #[.slice none 0 0, .int .i64 0, .int .i64 0, .slice none 0 0, .slice none 0 0] 34 (0, 0)) := below_at b1 k0.out (by omega)
  have hb2 := Lib.hid (hb1.out.trans (b1.mono (by omega)))
  obtain ⟨ab', kb', eb⟩ := hR.b.len
  subst eb
  obtain ⟨al', kl', el⟩ := hR.l.len
  subst el
  obtain ⟨am', km', em⟩ := hR.m.len
  subst em
  have hbx : ∀ k, blocks (⟨.slice ab' q.base.length kb', .slice al' q.log.length kl', .slice am' q.mks.length km'⟩, q) k → w0.heap.size ≤ k := by
    rintro k (e | e | e)
    · exact xb k e
    · exact xl k e
    · exact xm k e
  have ones : Hid (∀ v ∈ [Value.slice ab' q.base.length kb', .int .i64 q.fl.c, .int .i64 q.fl.r, .slice al' q.log.length kl', .slice am' q.mks.length km'], v.oneCell' = true) := Lib.hid (by
    intro v hv
    simp only [List.mem_cons, List.not_mem_nil, or_false] at hv
    rcases hv with rfl | rfl | rfl | rfl | rfl <;> rfl)
  replace hR := Lib.hid (show RepX w1 (⟨.slice ab' q.base.length kb', .slice al' q.log.length kl', .slice am' q.mks.length km'⟩, q) from hR)
  replace hbx := Lib.hid hbx
  replace hE := Lib.hid hE
  clear HS HL b1 xb xl xm hb1 k0
  unfold repV
  go_wp2_with (refine wpList_store_splice (by rfl) 34 _ _ (by rfl) (w.heap.size + 1 + 1) 0 [.slice ab' q.base.length kb', .int .i64 q.fl.c, .int .i64 q.fl.r, .slice al' q.log.length kl', .slice am' q.mks.length km'] (by rfl) (by rfl) 34 [.slice none 0 0, .int .i64 0, .int .i64 0, .slice none 0 0, .slice none 0 0] k2 (info_rep.trans rfl) (by simp) ones.out ?_; intro w4 hg4 hB4 hO4)
  have hs9 : w1.heap.size ≤ w4.heap.size := (hB4.out 0 _ (Below.refl 0 _) (Nat.zero_le _)).size
  refine bodyPost_ret (rep_resultsAt Tryz.f53 6 7 rfl _ w4 (w.heap.size + 1 + 1) q.fl _ _ _ rfl (hg4.out.trans rfl)) rfl ?_
  exact ⟨⟨(⟨.slice ab' q.base.length kb', .slice al' q.log.length kl', .slice am' q.mks.length km'⟩, q), rfl, hE.out, hR.out.same hs9 (fun k e => hO4.out k (by have := hbx.out k e; omega)), fun k e => .inr (by have := hbx.out k e; omega)⟩, hB4.out _ _ hb2.out (by omega)⟩
end Pl
end
section
open Go.RowKit Go.Shelf
attribute [local go_sem] Fl.run_store_float
namespace Pl
open Mem Tp Tr Mo Fo Sn Og St
theorem deliver_not {base p b : Nat} {vp : Value} {xs : List X3} {pool : List Mv} (x : X3) (d : Dd) (w : World) (hP : PW w base p b vp xs pool) (hX : RepX w x) (hd : d.at_ < 0 ∨ (pool.length : Int) ≤ d.at_) :
    Calls Tryz.prog 51 #[.pointer (some ⟨p, 0, none⟩), rpV x, dedV d] w fun e w' => e = .returned (.tuple #[rpV x, .int .i64 1]) ∧ Below w.heap.size w w' := by
  obtain ⟨W0, hW0⟩ : ∃ W0, lay w [rpO x, dedO d, rep0] = W0 := ⟨_, rfl⟩
  have hb0 : Below w.heap.size w W0 := by rw [← hW0]; exact lay_below _ _
  have hs0 : W0.heap.size = w.heap.size + 3 := by rw [← hW0]; exact lay_size _ _
  have g0 : W0.heap[w.heap.size]? = some (rpO x) := by rw [← hW0]; exact lay_at _ w 0 _ rfl
  have g1 : W0.heap[w.heap.size + 1]? = some (dedO d) := by rw [← hW0]; exact lay_at _ w 1 _ rfl
  have g2 : W0.heap[w.heap.size + 1 + 1]? = some rep0 := by rw [← hW0]; exact lay_at _ w 2 _ rfl
  have hP0 := hP.below hb0
  obtain ⟨ap, kp, ep⟩ := (own_sl hP.own).len
  subst ep
  obtain ⟨ab, kb, eb⟩ := hX.b.len
  obtain ⟨al, kl, el⟩ := hX.l.len
  obtain ⟨am, km, em⟩ := hX.m.len
  obtain ⟨⟨vb, vl, vm⟩, r⟩ := x
  simp only at eb el em
  subst eb el em
  simp only [lay, List.foldl_cons, List.foldl_nil, rpO, repO, dedO, rep0] at hW0 g0 g1 g2
  have c0 := (show W0.cell? ⟨w.heap.size, 0, none⟩ = some _ from cell_at g0 0)
  have c1 := (show W0.cell? ⟨w.heap.size, 1, none⟩ = some _ from cell_at g0 1)
  have c2 := (show W0.cell? ⟨w.heap.size, 2, none⟩ = some _ from cell_at g0 2)
  have c3 := (show W0.cell? ⟨w.heap.size, 3, none⟩ = some _ from cell_at g0 3)
  have c4 := (show W0.cell? ⟨w.heap.size, 4, none⟩ = some _ from cell_at g0 4)
  have e3 := (show W0.cell? ⟨w.heap.size + 1, 3, none⟩ = some _ from cell_at g1 3)
  have q1 := (show W0.cell? ⟨p, 1, none⟩ = some (.slice ap pool.length kp) from cell_at hP0.hp 1)
  have ones : Hid (∀ v ∈ [Value.slice ab r.base.length kb, .int .i64 r.fl.c, .int .i64 r.fl.r, .slice al r.log.length kl, .slice am r.mks.length km], v.oneCell' = true) := Lib.hid (by
    intro v hv
    simp only [List.mem_cons, List.not_mem_nil, or_false] at hv
    rcases hv with rfl | rfl | rfl | rfl | rfl <;> rfl)
  replace hb0 := Lib.hid hb0
  replace hW0 := Lib.hid hW0
  clear hP hP0 hX g0 g1
  unfold rpV repV dedV
  by_cases t1 : d.at_ < 0
  · clear hd
    have d1 : decide (d.at_ < 0) = true := decide_eq_true t1
    go_enter Tryz.func51, Tryz.ntmps51
    go_wp2_with fail
    rw [hW0.out]
    go_quiet (fail)
    obtain ⟨W1, hW1⟩ : ∃ W1, W0.drewN nq = W1 := ⟨_, rfl⟩
    rw [hW1]
    have r0 : W1.cell? ⟨w.heap.size, 0, none⟩ = some (.slice ab r.base.length kb) := by rw [← hW1]; exact c0
    have r1 : W1.cell? ⟨w.heap.size, 1, none⟩ = some (.int .i64 r.fl.c) := by rw [← hW1]; exact c1
    have r2 : W1.cell? ⟨w.heap.size, 2, none⟩ = some (.int .i64 r.fl.r) := by rw [← hW1]; exact c2
    have r3 : W1.cell? ⟨w.heap.size, 3, none⟩ = some (.slice al r.log.length kl) := by rw [← hW1]; exact c3
    have r4 : W1.cell? ⟨w.heap.size, 4, none⟩ = some (.slice am r.mks.length km) := by rw [← hW1]; exact c4
    have k2 : W1.heap[w.heap.size + 1 + 1]? = some (.cells #[.slice none 0 0, .int .i64 0, .int .i64 0, .slice none 0 0, .slice none 0 0] 34 (0, 0)) := by rw [← hW1]; exact g2
    have hb1 : Hid (Below w.heap.size w W1) := Lib.hid (by rw [← hW1]; exact ⟨hb0.out.os, hb0.out.tape, hb0.out.output, hb0.out.size, hb0.out.block⟩)
    clear hW1 c0 c1 c2 c3 c4 g2
    go_wp2_with (refine wpList_store_splice (by rfl) 34 _ _ (by rfl) (w.heap.size + 1 + 1) 0 [.slice ab r.base.length kb, .int .i64 r.fl.c, .int .i64 r.fl.r, .slice al r.log.length kl, .slice am r.mks.length km] (by rfl) (by rfl) 34 [.slice none 0 0, .int .i64 0, .int .i64 0, .slice none 0 0, .slice none 0 0] k2 (info_rep.trans rfl) (by simp) ones.out ?_; intro w4 hg4 hB4 hO4)
    refine bodyPost_ret (rep_resultsAt Tryz.f51 6 7 rfl _ w4 (w.heap.size + 1 + 1) r.fl _ _ _ rfl (hg4.out.trans rfl)) rfl ?_
    exact ⟨rfl, hB4.out _ _ hb1.out (by omega)⟩
  · have t2 : (pool.length : Int) ≤ d.at_ := by omega
    clear hd
    have d1 : decide (d.at_ < 0) = false := decide_eq_false t1
    have d2 : decide (d.at_ ≥ (pool.length : Int)) = true := decide_eq_true t2
    go_enter Tryz.func51, Tryz.ntmps51
    go_wp2_with fail
    rw [hW0.out]
    go_quiet (fail)
    obtain ⟨W1, hW1⟩ : ∃ W1, W0.drewN nq = W1 := ⟨_, rfl⟩
    rw [hW1]
    have r0 : W1.cell? ⟨w.heap.size, 0, none⟩ = some (.slice ab r.base.length kb) := by rw [← hW1]; exact c0
    have r1 : W1.cell? ⟨w.heap.size, 1, none⟩ = some (.int .i64 r.fl.c) := by rw [← hW1]; exact c1
    have r2 : W1.cell? ⟨w.heap.size, 2, none⟩ = some (.int .i64 r.fl.r) := by rw [← hW1]; exact c2
    have r3 : W1.cell? ⟨w.heap.size, 3, none⟩ = some (.slice al r.log.length kl) := by rw [← hW1]; exact c3
    have r4 : W1.cell? ⟨w.heap.size, 4, none⟩ = some (.slice am r.mks.length km) := by rw [← hW1]; exact c4
    have k2 : W1.heap[w.heap.size + 1 + 1]? = some (.cells #[.slice none 0 0, .int .i64 0, .int .i64 0, .slice none 0 0, .slice none 0 0] 34 (0, 0)) := by rw [← hW1]; exact g2
    have hb1 : Hid (Below w.heap.size w W1) := Lib.hid (by rw [← hW1]; exact ⟨hb0.out.os, hb0.out.tape, hb0.out.output, hb0.out.size, hb0.out.block⟩)
    clear hW1 c0 c1 c2 c3 c4 g2
    go_wp2_with (refine wpList_store_splice (by rfl) 34 _ _ (by rfl) (w.heap.size + 1 + 1) 0 [.slice ab r.base.length kb, .int .i64 r.fl.c, .int .i64 r.fl.r, .slice al r.log.length kl, .slice am r.mks.length km] (by rfl) (by rfl) 34 [.slice none 0 0, .int .i64 0, .int .i64 0, .slice none 0 0, .slice none 0 0] k2 (info_rep.trans rfl) (by simp) ones.out ?_; intro w4 hg4 hB4 hO4)
    refine bodyPost_ret (rep_resultsAt Tryz.f51 6 7 rfl _ w4 (w.heap.size + 1 + 1) r.fl _ _ _ rfl (hg4.out.trans rfl)) rfl ?_
    exact ⟨rfl, hB4.out _ _ hb1.out (by omega)⟩
end Pl
end
section
open Go.RowKit Go.Shelf
attribute [local go_sem] Fl.run_store_float
namespace Pl
open Mem Tp Tr Mo Fo Sn Og St
structure DvC (w wx : World) (x y : X3) : Prop where
  c : wx.heap[w.heap.size]? = some (.cells #[y.1.b, .int .i64 y.2.fl.c, .int .i64 y.2.fl.r, y.1.l, y.1.m] 34 (0, 0))
  z : wx.heap[w.heap.size + 1 + 1]? = some (.cells #[.slice none 0 0, .int .i64 0, .int .i64 0, .slice none 0 0, .slice none 0 0] 34 (0, 0))
  k : BackX w wx x y
  f : ∀ k, blocks y k → k ≠ w.heap.size ∧ k ≠ w.heap.size + 1 + 1
  b : Below w.heap.size w wx
  s : w.heap.size + 3 ≤ wx.heap.size
theorem dvC_mk {w W0 W1 w2 : World} {x : X3} {vb vl vm : Value} {q : Rp} {o : Array Value} (h0 : Below w.heap.size w W0) (hs : W0.heap.size = w.heap.size + 3) (h1 : Below W0.heap.size W0 W1) (h2 : Below W1.heap.size W1 w2) (hB : Back W1 w2 x.1.b x.1.l x.1.m vb vl vm q) (hlt : ∀ k, blocks x k → k < w.heap.size)
    (g : w2.heap[w.heap.size]? = some (.cells o 34 (0, 0))) (ho : o.size = 5) (z : w2.heap[w.heap.size + 1 + 1]? = some (.cells #[.slice none 0 0, .int .i64 0, .int .i64 0, .slice none 0 0, .slice none 0 0] 34 (0, 0))) :
    DvC w (((((w2.setCell ⟨w.heap.size, 0, none⟩ vb).setCell ⟨w.heap.size, 1, none⟩ (.int .i64 q.fl.c)).setCell ⟨w.heap.size, 2, none⟩ (.int .i64 q.fl.r)).setCell ⟨w.heap.size, 3, none⟩ vl).setCell ⟨w.heap.size, 4, none⟩ vm) x (⟨vb, vl, vm⟩, q) := by
  have t1 := h1.size
  have t2 := h2.size
  obtain ⟨W, hW⟩ : ∃ W, ((((w2.setCell ⟨w.heap.size, 0, none⟩ vb).setCell ⟨w.heap.size, 1, none⟩ (.int .i64 q.fl.c)).setCell ⟨w.heap.size, 2, none⟩ (.int .i64 q.fl.r)).setCell ⟨w.heap.size, 3, none⟩ vl).setCell ⟨w.heap.size, 4, none⟩ vm = W := ⟨_, rfl⟩
  have hz : W.heap.size = w2.heap.size := by rw [← hW]; simp [World.setCell]
  have hoth : ∀ k, k ≠ w.heap.size → W.heap[k]? = w2.heap[k]? := fun k hk => by
    rw [← hW]
    exact (setCell_heap_other (p := ⟨w.heap.size, 4, none⟩) hk).trans ((setCell_heap_other (p := ⟨w.heap.size, 3, none⟩) hk).trans ((setCell_heap_other (p := ⟨w.heap.size, 2, none⟩) hk).trans ((setCell_heap_other (p := ⟨w.heap.size, 1, none⟩) hk).trans (setCell_heap_other (p := ⟨w.heap.size, 0, none⟩) hk))))
  have hc : W.heap[w.heap.size]? = some (.cells #[vb, .int .i64 q.fl.c, .int .i64 q.fl.r, vl, vm] 34 (0, 0)) := by
    rw [← hW, set_at (set_at (set_at (set_at (set_at g 0 vb) 1 (.int .i64 q.fl.c)) 2 (.int .i64 q.fl.r)) 3 vl) 4 vm]
    obtain ⟨l⟩ := o
    rcases l with _ | ⟨a0, _ | ⟨a1, _ | ⟨a2, _ | ⟨a3, _ | ⟨a4, _ | ⟨a5, l⟩⟩⟩⟩⟩⟩ <;> simp at ho
    rfl
  have hbe : Below w.heap.size w W := by
    rw [← hW]
    exact (((((h0.trans ((h1.trans (h2.mono t1)).mono (by omega))).setCell (p := ⟨w.heap.size, 0, none⟩) (Nat.le_refl _) _).setCell (p := ⟨w.heap.size, 1, none⟩) (Nat.le_refl _) _).setCell (p := ⟨w.heap.size, 2, none⟩) (Nat.le_refl _) _).setCell (p := ⟨w.heap.size, 3, none⟩) (Nat.le_refl _) _).setCell (p := ⟨w.heap.size, 4, none⟩) (Nat.le_refl _) _
  have hX := BackX.of (w := w) (x := x) hB (by omega)
  have hbx : ∀ k, blocks (⟨vb, vl, vm⟩, q) k → k < w.heap.size ∨ W1.heap.size ≤ k := by
    rintro k (e | e | e)
    · rcases hB.nb _ e with h | h
      · exact .inl (hlt _ (.inl h))
      · exact .inr h.1
    · rcases hB.nl _ e with h | h
      · exact .inl (hlt _ (.inr (.inl h)))
      · exact .inr h.1
    · rcases hB.nm _ e with h | h
      · exact .inl (hlt _ (.inr (.inr h)))
      · exact .inr h.1
  have hne : ∀ k, blocks (⟨vb, vl, vm⟩, q) k → k ≠ w.heap.size ∧ k ≠ w.heap.size + 1 + 1 := fun k hk => by rcases hbx k hk with h | h <;> omega
  rw [hW]
  exact ⟨hc, (hoth _ (by omega)).trans z, ⟨hX.1.same (by omega) (fun k e => hoth k (hne k e).1), hX.2⟩, hne, hbe, by omega⟩
theorem deliver_any {base p b : Nat} {vp : Value} {xs : List X3} {pool : List Mv} (x : X3) (d : Dd) (k : Nat) (m : Mv) (w : World) (hP : PW w base p b vp xs pool) (hX : RepX w x) (hW : WfR x.2) (hm : pool[k]? = some m) (hd : d.at_ = (k : Int)) (hz : m.nm.size ≤ 100000) :
    Calls Tryz.prog 51 #[.pointer (some ⟨p, 0, none⟩), rpV x, dedV d] w fun e w' => (∃ y : X3, e = .returned (.tuple #[rpV y, .int .i64 (addR x.2 m).2.2]) ∧ y.2 = (addR x.2 m).1 ∧ BackX w w' x y) ∧ Below w.heap.size w w' := by
  obtain ⟨kind, who, frm, at_, pa, ch, nm, rk⟩ := d
  simp only at hd
  subst hd
  have hkn := (List.getElem?_eq_some_iff.1 hm).1
  obtain ⟨W0, hW0⟩ : ∃ W0, lay w [rpO x, dedO ⟨kind, who, frm, (k : Int), pa, ch, nm, rk⟩, rep0] = W0 := ⟨_, rfl⟩
  have hb0 : Below w.heap.size w W0 := by rw [← hW0]; exact lay_below _ _
  have hs0 : W0.heap.size = w.heap.size + 3 := by rw [← hW0]; exact lay_size _ _
  have g0 : W0.heap[w.heap.size]? = some (rpO x) := by rw [← hW0]; exact lay_at _ w 0 _ rfl
  have g1 : W0.heap[w.heap.size + 1]? = some (dedO ⟨kind, who, frm, (k : Int), pa, ch, nm, rk⟩) := by rw [← hW0]; exact lay_at _ w 1 _ rfl
  have g2 : W0.heap[w.heap.size + 1 + 1]? = some rep0 := by rw [← hW0]; exact lay_at _ w 2 _ rfl
  have hP0 := hP.below hb0
  have hX0 : RepX W0 x := RepW.below hX hb0
  have HA := Lib.hid (fun W (h : Below W0.heap.size W0 W) => Fo.add_any x.1.b x.1.l x.1.m x.2 m W (RepW.below hX0 h) hW hz)
  have hlt : ∀ k, blocks x k → k < w.heap.size := fun k hk => hX.lt hk
  have hsl := own_sl hP0.own
  obtain ⟨ap, kp, ep⟩ := hsl.len
  subst ep
  obtain ⟨bm, om, rfl⟩ := hsl.addr (by omega)
  have hlp := (own_sl hP.own).at (by omega)
  obtain ⟨m0, m1, m2, m3, m4, m5⟩ := mov_at hsl rfl hm
  obtain ⟨ab, kb, eb⟩ := hX.b.len
  obtain ⟨al, kl, el⟩ := hX.l.len
  obtain ⟨am, km, em⟩ := hX.m.len
  obtain ⟨⟨vb, vl, vm⟩, r⟩ := x
  simp only at eb el em
  subst eb el em
  simp only [lay, List.foldl_cons, List.foldl_nil, rpO, repO, dedO, rep0] at hW0 g0 g1 g2
  have c0 := (show W0.cell? ⟨w.heap.size, 0, none⟩ = some _ from cell_at g0 0)
  have c1 := (show W0.cell? ⟨w.heap.size, 1, none⟩ = some _ from cell_at g0 1)
  have c2 := (show W0.cell? ⟨w.heap.size, 2, none⟩ = some _ from cell_at g0 2)
  have c3 := (show W0.cell? ⟨w.heap.size, 3, none⟩ = some _ from cell_at g0 3)
  have c4 := (show W0.cell? ⟨w.heap.size, 4, none⟩ = some _ from cell_at g0 4)
  have e3 := (show W0.cell? ⟨w.heap.size + 1, 3, none⟩ = some _ from cell_at g1 3)
  have q1 := (show W0.cell? ⟨p, 1, none⟩ = some (.slice (some ⟨bm, om, none⟩) pool.length kp) from cell_at hP0.hp 1)
  have d1 : decide ((k : Int) < 0) = false := decide_eq_false (by omega)
  have d2 : decide ((k : Int) ≥ (pool.length : Int)) = false := decide_eq_false (by omega)
  have d3 : (0 : Int) ≤ (k : Int) ∧ (k : Int) < (pool.length : Int) := by omega
  replace hb0 := Lib.hid hb0
  replace hW0 := Lib.hid hW0
  replace hm := Lib.hid hm
  clear hP hP0 hX hX0 g1 hsl
  unfold rpV repV dedV
  go_enter Tryz.func51, Tryz.ntmps51
  go_wp2_with fail
  rw [hW0.out]
  go_quiet (fail)
  obtain ⟨W1, hW1⟩ : ∃ W1, W0.drewN nq = W1 := ⟨_, rfl⟩
  rw [hW1]
  have r0 : W1.cell? ⟨w.heap.size, 0, none⟩ = some (.slice ab r.base.length kb) := by rw [← hW1]; exact c0
  have r1 : W1.cell? ⟨w.heap.size, 1, none⟩ = some (.int .i64 r.fl.c) := by rw [← hW1]; exact c1
  have r2 : W1.cell? ⟨w.heap.size, 2, none⟩ = some (.int .i64 r.fl.r) := by rw [← hW1]; exact c2
  have r3 : W1.cell? ⟨w.heap.size, 3, none⟩ = some (.slice al r.log.length kl) := by rw [← hW1]; exact c3
  have r4 : W1.cell? ⟨w.heap.size, 4, none⟩ = some (.slice am r.mks.length km) := by rw [← hW1]; exact c4
  have r5 : W1.cell? ⟨w.heap.size + 1, 3, none⟩ = some (.int .i64 (k : Int)) := by rw [← hW1]; exact e3
  have r6 : W1.cell? ⟨p, 1, none⟩ = some (.slice (some ⟨bm, om, none⟩) pool.length kp) := by rw [← hW1]; exact q1
  have n0 : W1.cell? ⟨bm, om + k * 6, none⟩ = some (.int .i64 m.t.c) := by rw [← hW1]; exact m0
  have n1 : W1.cell? ⟨bm, om + k * 6 + 1, none⟩ = some (.int .i64 m.t.r) := by rw [← hW1]; exact m1
  have n2 : W1.cell? ⟨bm, om + k * 6 + 2, none⟩ = some (.int .i64 m.pa) := by rw [← hW1]; exact m2
  have n3 : W1.cell? ⟨bm, om + k * 6 + 3, none⟩ = some (.int .i64 m.ch) := by rw [← hW1]; exact m3
  have n4 : W1.cell? ⟨bm, om + k * 6 + 4, none⟩ = some (.string m.nm) := by rw [← hW1]; exact m4
  have n5 : W1.cell? ⟨bm, om + k * 6 + 5, none⟩ = some (.float .f64 m.rk) := by rw [← hW1]; exact m5
  have k0 : W1.heap[w.heap.size]? = some (.cells #[.slice ab r.base.length kb, .int .i64 r.fl.c, .int .i64 r.fl.r, .slice al r.log.length kl, .slice am r.mks.length km] 34 (0, 0)) := by rw [← hW1]; exact g0
  have k2 : W1.heap[w.heap.size + 1 + 1]? = some (.cells #[.slice none 0 0, .int .i64 0, .int .i64 0, .slice none 0 0, .slice none 0 0] 34 (0, 0)) := by rw [← hW1]; exact g2
  have hb1 : Hid (Below W0.heap.size W0 W1) := Lib.hid (by rw [← hW1]; exact ⟨rfl, rfl, rfl, Nat.le_refl _, fun _ _ => rfl⟩)
  replace k0 := Lib.hid k0
  replace k2 := Lib.hid k2
  clear hW1 c0 c1 c2 c3 c4 g0 g2 e3 q1 m0 m1 m2 m3 m4 m5 d1 d2
  obtain ⟨q, hq⟩ : ∃ q, addR r m = q := ⟨_, rfl⟩
  simp only [hq] at HA
  replace hq := Lib.hid hq
  replace hlt := Lib.hid hlt
  have K0 := Lib.hid (fun (W W' : World) (h : Below W.heap.size W W') (e : W.heap[w.heap.size]? = some (.cells #[.slice ab r.base.length kb, .int .i64 r.fl.c, .int .i64 r.fl.r, .slice al r.log.length kl, .slice am r.mks.length km] 34 (0, 0))) => below_at h e (lt_of_block e))
  have s1 := hb1.out.size
  go_upto_region 3 with fail
  go_cut [9] (fun v9 wx => v9 = .int .i64 q.2.2 ∧ ∃ y : X3, y.2 = q.1 ∧ Hid (DvC w wx (⟨.slice ab r.base.length kb, .slice al r.log.length kl, .slice am r.mks.length km⟩, r) y))
  case first =>
   go_region_with ((go_at_call 18; (refine (HA.out _ (by first | exact hb1.out.drew | exact hb1.out)).mono ?_); rintro e w2 ⟨⟨vb', vl', vm', rfl, hB⟩, b2⟩; unfold repV; obtain ⟨ab', kb', eb⟩ := hB.r.b.len; subst eb; obtain ⟨al', kl', el⟩ := hB.r.l.len; subst el; obtain ⟨am', km', em⟩ := hB.r.m.len; subst em; have kk0 := K0.out _ _ b2 k0.out; have f0 := free_at kk0 0; have f1 := free_at kk0 1; have f2 := free_at kk0 2; have f3 := free_at kk0 3; have f4 := free_at kk0 4; have u0 := (show w2.cell? ⟨w.heap.size, 0, none⟩ = some (.slice ab r.base.length kb) from cell_at kk0 0); have u1 := (show w2.cell? ⟨w.heap.size, 1, none⟩ = some (.int .i64 r.fl.c) from cell_at kk0 1); have u2 := (show w2.cell? ⟨w.heap.size, 2, none⟩ = some (.int .i64 r.fl.r) from cell_at kk0 2); have u3 := (show w2.cell? ⟨w.heap.size, 3, none⟩ = some (.slice al r.log.length kl) from cell_at kk0 3); have u4 := (show w2.cell? ⟨w.heap.size, 4, none⟩ = some (.slice am r.mks.length km) from cell_at kk0 4); replace kk0 := Lib.hid kk0; replace hB := Lib.hid hB; replace b2 := Lib.hid b2))
   all_goals
    go_wp2_with fail
    go_meet
    exact ⟨rfl, _, rfl, Lib.hid (dvC_mk (W1 := W1.drew) hb0.out hs0 hb1.out.drew b2.out hB.out hlt.out kk0.out rfl (below_at (w := W1.drew) b2.out k2.out (lt_of_block (w := W1) k2.out)))⟩
  case rest =>
    obtain ⟨h9, y, hy, hC⟩ := hcut
    subst h9
    obtain ⟨⟨yb, yl, ym⟩, yr⟩ := y
    simp only at hy
    subst hy
    obtain ⟨ab', kb', eb⟩ := hC.out.k.1.b.len
    simp only at eb
    subst eb
    obtain ⟨al', kl', el⟩ := hC.out.k.1.l.len
    simp only at el
    subst el
    obtain ⟨am', km', em⟩ := hC.out.k.1.m.len
    simp only at em
    subst em
    have k9 := hC.out.c
    have z9 := hC.out.z
    simp only at k9
    have v0 := (show wc.cell? ⟨w.heap.size, 0, none⟩ = some _ from cell_at k9 0)
    have v1 := (show wc.cell? ⟨w.heap.size, 1, none⟩ = some _ from cell_at k9 1)
    have v2 := (show wc.cell? ⟨w.heap.size, 2, none⟩ = some _ from cell_at k9 2)
    have v3 := (show wc.cell? ⟨w.heap.size, 3, none⟩ = some _ from cell_at k9 3)
    have v4 := (show wc.cell? ⟨w.heap.size, 4, none⟩ = some _ from cell_at k9 4)
    have ones : Hid (∀ v ∈ [Value.slice ab' q.1.base.length kb', .int .i64 q.1.fl.c, .int .i64 q.1.fl.r, .slice al' q.1.log.length kl', .slice am' q.1.mks.length km'], v.oneCell' = true) := Lib.hid (by
      intro v hv
      simp only [List.mem_cons, List.not_mem_nil, or_false] at hv
      rcases hv with rfl | rfl | rfl | rfl | rfl <;> rfl)
    clear r0 r1 r2 r3 r4 r5 r6 n0 n1 n2 n3 n4 n5 k0 k2 HA k9
    go_wp2_with (refine wpList_store_splice (by rfl) 34 _ _ (by rfl) (w.heap.size + 1 + 1) 0 [.slice ab' q.1.base.length kb', .int .i64 q.1.fl.c, .int .i64 q.1.fl.r, .slice al' q.1.log.length kl', .slice am' q.1.mks.length km'] (by rfl) (by rfl) 34 [.slice none 0 0, .int .i64 0, .int .i64 0, .slice none 0 0, .slice none 0 0] z9 (info_rep.trans rfl) (by simp) ones.out ?_; intro w4 hg4 hB4 hO4)
    have hs9 : wc.heap.size ≤ w4.heap.size := (hB4.out 0 _ (Below.refl 0 _) (Nat.zero_le _)).size
    refine bodyPost_ret (rep_resultsAt Tryz.f51 6 7 rfl _ w4 (w.heap.size + 1 + 1) q.1.fl _ _ _ rfl (hg4.out.trans rfl)) rfl ?_
    exact ⟨⟨(⟨.slice ab' q.1.base.length kb', .slice al' q.1.log.length kl', .slice am' q.1.mks.length km'⟩, q.1), by rw [hq.out]; rfl, by rw [hq.out], hC.out.k.1.same hs9 (fun k e => hO4.out k (hC.out.f k e).2), hC.out.k.2⟩, hB4.out _ _ hC.out.b (by omega)⟩
end Pl
end
section
open Go.RowKit Go.Shelf
attribute [local go_sem] Fl.run_store_float
namespace Pl
open Mem Tp Tr Mo Fo Sn Og St
def mvOf (t : Tm) (d : Dd) : Mv := ⟨t, d.pa, d.ch, d.nm, d.rk⟩
def localR (r : Rp) (d : Dd) (pool : List Mv) : Rp × List Mv × Int :=
  match nextM r.mks r.fl d.who with
  | none => (r, pool, 10)
  | some t => if (addR r (mvOf t d)).2.2 = 0 then ((addR r (mvOf t d)).1, pool ++ [mvOf t d], 0) else ((addR r (mvOf t d)).1, pool, (addR r (mvOf t d)).2.2)
structure Did (w w' : World) (base p b : Nat) (vp : Value) (xs : List X3) (x y : X3) (vp' : Value) (pool' : List Mv) : Prop where
  pw : PW w' base p b vp' xs pool'
  ry : RepX w' y
  bl : ∀ k, blocks y k → blocks x k ∨ (w.heap.size ≤ k ∧ vp'.ownBlock ≠ some k)
  be : Below base w w'
  kp : Kept (fun k => k = p ∨ vp.ownBlock = some k) w w'
  nv : ∀ k, vp'.ownBlock = some k → vp.ownBlock = some k ∨ w.heap.size ≤ k
theorem Did.of {w w' : World} {base p b : Nat} {xs : List X3} {x y : X3} {vp : Value} {pool : List Mv} (hP : PW w base p b vp xs pool) (h : BackX w w' x y) (hb : Below w.heap.size w w') : Did w w' base p b vp xs x y vp pool :=
  ⟨hP.below hb, h.1, fun k hk => (h.2 k hk).imp id (fun q => ⟨q, fun e => by have := (hP.own.lt k e).2; omega⟩), hb.mono (by have := lt_of_block hP.hp; have := hP.bp; omega), Kept.of_below hb, fun _ e => .inl e⟩
theorem dvC_mk2 {w W0 W1 w2 w4 : World} {x : X3} {vb vl vm : Value} {q : Rp} {B : Nat} (h0 : Below w.heap.size w W1) (hs : w.heap.size + 3 ≤ W1.heap.size) (h2 : Below W1.heap.size W1 w2) (hB : Back W1 w2 x.1.b x.1.l x.1.m vb vl vm q) (hlt : ∀ k, blocks x k → k < w.heap.size) (_h : W0 = W1) (hBB : B = w.heap.size)
    (g : w4.heap[B]? = some (.cells #[vb, .int .i64 q.fl.c, .int .i64 q.fl.r, vl, vm] 34 (0, 0))) (z : w2.heap[w.heap.size + 1 + 1]? = some (.cells #[.slice none 0 0, .int .i64 0, .int .i64 0, .slice none 0 0, .slice none 0 0] 34 (0, 0)))
    (hB4 : ∀ B' (w0 : World), Below B' w0 w2 → B' ≤ B → Below B' w0 w4) (hO4 : ∀ k, k ≠ B → w4.heap[k]? = w2.heap[k]?) : DvC w w4 x (⟨vb, vl, vm⟩, q) := by
  subst hBB
  have t2 := h2.size
  have t4 := (hB4 0 _ (Below.refl 0 _) (Nat.zero_le _)).size
  have hX := BackX.of (w := w) (x := x) hB (by omega)
  have hbx : ∀ k, blocks (⟨vb, vl, vm⟩, q) k → k < w.heap.size ∨ W1.heap.size ≤ k := by
    rintro k (e | e | e)
    · rcases hB.nb _ e with h | h
      · exact .inl (hlt _ (.inl h))
      · exact .inr h.1
    · rcases hB.nl _ e with h | h
      · exact .inl (hlt _ (.inr (.inl h)))
      · exact .inr h.1
    · rcases hB.nm _ e with h | h
      · exact .inl (hlt _ (.inr (.inr h)))
      · exact .inr h.1
  have hne : ∀ k, blocks (⟨vb, vl, vm⟩, q) k → k ≠ w.heap.size ∧ k ≠ w.heap.size + 1 + 1 := fun k hk => by rcases hbx k hk with h | h <;> omega
  exact ⟨g, (hO4 _ (by omega)).trans z, ⟨hX.1.same t4 (fun k e => hO4 k (hne k e).1), hX.2⟩, hne, hB4 _ _ (h0.trans (h2.mono (by omega))) (Nat.le_refl _), by omega⟩
theorem own_other {w w' : World} {base : Nat} {e : TypeId} {k : Nat} {v : Value} {n : Nat} {cs : List Value} (h : w.ownsRow base e k v n cs) (hs : ∀ j, v.ownBlock = some j → w'.heap[j]? = w.heap[j]?) : w'.ownsRow base e k v n cs := by
  refine ⟨h.1, ?_⟩
  rcases h.2 with h2 | ⟨g, cap, cur, ev, hg, hh, r⟩
  · exact .inl h2
  · exact .inr ⟨g, cap, cur, ev, hg, (hs g (by rw [ev]; rfl)).trans hh, r⟩
theorem PW.other {W W' : World} {base p b : Nat} {vp : Value} {xs : List X3} {pool : List Mv} (h : PW W base p b vp xs pool) {z : Nat} (hs : W.heap.size ≤ W'.heap.size) (ho : ∀ k, k ≠ z → W'.heap[k]? = W.heap[k]?) (h1 : p ≠ z) (h2 : b ≠ z) (h3 : vp.ownBlock ≠ some z) (h4 : ∀ x ∈ xs, ¬ blocks x z) : PW W' base p b vp xs pool :=
  ⟨(ho _ h1).trans h.hp, (ho _ h2).trans h.hb, h.pb, h.bp, h.bb, own_other h.own (fun j e => ho j (fun q => h3 (q ▸ e))), h.pp, fun x hx => (h.rep x hx).same hs (fun k hk => ho k (fun q => h4 x hx (q ▸ hk))), h.sep, h.n1, h.n8⟩
theorem pw_grow {W w5 W6 : World} {base p b : Nat} {vp v5 : Value} {xs : List X3} {pool : List Mv} {m : Mv} (h : PW W base p b vp xs pool) (hown : w5.ownsRow base 49 6 v5 (pool.length + 1) (pool.flatMap movC ++ movC m)) (hg : W.grownBy w5 vp.ownBlock) (hn : Near W vp v5)
    (hp6 : W6.heap[p]? = some (.cells #[.slice (some ⟨b, 0, none⟩) xs.length xs.length, v5] 89 (0, 0))) (ho : ∀ k, k ≠ p → W6.heap[k]? = w5.heap[k]?) (hs : w5.heap.size ≤ W6.heap.size) : PW W6 base p b v5 xs (pool ++ [m]) := by
  have hlp := lt_of_block h.hp
  have hlb := lt_of_block h.hb
  have hnew : ∀ k, v5.ownBlock = some k → k ≠ p ∧ k ≠ b := fun k e => by
    rcases hn k e with q | q
    · exact h.pp k q
    · omega
  have hk5 : ∀ x ∈ xs, ∀ k, blocks x k → W6.heap[k]? = W.heap[k]? := fun x hx k hk => by
    have h1 := h.sep x hx k hk
    exact (ho k h1.1).trans (hg.block k ((h.rep x hx).lt hk) (fun e => h1.2.2 e.symm))
  refine ⟨hp6, (ho b (Ne.symm h.pb)).trans ((hg.block b hlb (fun e => (h.pp b e.symm).2 rfl)).trans h.hb), h.pb, h.bp, h.bb, ?_, hnew, fun x hx => (h.rep x hx).same (Nat.le_trans hg.size hs) (hk5 x hx), fun x hx k hk => ?_, h.n1, h.n8⟩
  · rw [List.length_append, List.length_singleton, flat_snoc]
    exact own_other hown (fun j e => ho j (hnew j e).1)
  · have h1 := h.sep x hx k hk
    exact ⟨h1.1, h1.2.1, fun e => by
      rcases hn k e with q | q
      · exact h1.2.2 q
      · have := (h.rep x hx).lt hk; omega⟩
theorem local_any {base p b : Nat} {vp : Value} {xs : List X3} {pool : List Mv} (x : X3) (d : Dd) (w : World) (hP : PW w base p b vp xs pool) (hx : x ∈ xs) (hW : WfR x.2) (hz : d.nm.size ≤ 100000) (hpl : pool.length ≤ 1000) :
    Calls Tryz.prog 50 #[.pointer (some ⟨p, 0, none⟩), rpV x, dedV d] w fun e w' => ∃ (y : X3) (vp' : Value), e = .returned (.tuple #[rpV y, .int .i64 (localR x.2 d pool).2.2]) ∧ y.2 = (localR x.2 d pool).1 ∧ Did w w' base p b vp xs x y vp' (localR x.2 d pool).2.1 := by
  have hX := hP.rep x hx
  have hsep := hP.sep x hx
  obtain ⟨W0, hW0⟩ : ∃ W0, lay w [rpO x, dedO d, rep0] = W0 := ⟨_, rfl⟩
  have hb0 : Below w.heap.size w W0 := by rw [← hW0]; exact lay_below _ _
  have hs0 : W0.heap.size = w.heap.size + 3 := by rw [← hW0]; exact lay_size _ _
  have g0 : W0.heap[w.heap.size]? = some (rpO x) := by rw [← hW0]; exact lay_at _ w 0 _ rfl
  have g1 : W0.heap[w.heap.size + 1]? = some (dedO d) := by rw [← hW0]; exact lay_at _ w 1 _ rfl
  have g2 : W0.heap[w.heap.size + 1 + 1]? = some rep0 := by rw [← hW0]; exact lay_at _ w 2 _ rfl
  have hX0 : RepX W0 x := RepW.below hX hb0
  have HN := Lib.hid (Mr.next_any x.1.m x.2.mks x.2.fl d.who W0 hX0.m (by have := hW.mlen; omega))
  have HA := Lib.hid (fun W m (h : Below W0.heap.size W0 W) hz => Fo.add_any x.1.b x.1.l x.1.m x.2 m W (RepW.below hX0 h) hW hz)
  obtain ⟨ab, kb, eb⟩ := hX.b.len
  obtain ⟨al, kl, el⟩ := hX.l.len
  obtain ⟨am, km, em⟩ := hX.m.len
  obtain ⟨⟨vb, vl, vm⟩, r⟩ := x
  simp only at eb el em
  subst eb el em
  simp only [lay, List.foldl_cons, List.foldl_nil, rpO, repO, dedO, rep0] at hW0 g0 g1 g2
  replace hb0 := Lib.hid hb0
  replace hW0 := Lib.hid hW0
  replace g0 := Lib.hid g0
  replace g1 := Lib.hid g1
  replace g2 := Lib.hid g2
  replace hsep := Lib.hid hsep
  replace hx := Lib.hid hx
  replace hP := Lib.hid hP
  replace hX0 := Lib.hid hX0
  clear hW hX
  unfold rpV repV dedV
  unfold tmV at HN
  go_enter Tryz.func50, Tryz.ntmps50
  go_wp2_with fail
  rw [hW0.out]
  refine HN.out.mono ?_
  rintro e w1 ⟨rfl, b1⟩
  have s1 := b1.size
  have G0 := below_at b1 g0.out (by omega)
  have G1 := below_at b1 g1.out (by omega)
  have G2 := below_at b1 g2.out (by omega)
  obtain ⟨o, ho⟩ : ∃ o, nextM r.mks r.fl d.who = o := ⟨_, rfl⟩
  rw [ho]
  have ones : Hid (∀ v ∈ [Value.slice ab r.base.length kb, .int .i64 r.fl.c, .int .i64 r.fl.r, .slice al r.log.length kl, .slice am r.mks.length km], v.oneCell' = true) := Lib.hid (by
    intro v hv
    simp only [List.mem_cons, List.not_mem_nil, or_false] at hv
    rcases hv with rfl | rfl | rfl | rfl | rfl <;> rfl)
  have hb1 := hb0.out.trans (b1.mono (by omega))
  cases o with
  | none =>
    have hL : Hid (localR r d pool = (r, pool, 10)) := Lib.hid (by unfold localR; rw [ho])
    have hb2 := hb1.alloc (by omega) (.cells #[.int .i64 0, .int .i64 0] 24)
    have G02 := alloc_at (.cells #[.int .i64 0, .int .i64 0] 24) G0
    have G22 := alloc_at (.cells #[.int .i64 0, .int .i64 0] 24) G2
    have r0 := (show (w1.alloc (.cells #[.int .i64 0, .int .i64 0] 24)).cell? ⟨w.heap.size, 0, none⟩ = some _ from cell_at G02 0)
    have r1 := (show (w1.alloc (.cells #[.int .i64 0, .int .i64 0] 24)).cell? ⟨w.heap.size, 1, none⟩ = some _ from cell_at G02 1)
    have r2 := (show (w1.alloc (.cells #[.int .i64 0, .int .i64 0] 24)).cell? ⟨w.heap.size, 2, none⟩ = some _ from cell_at G02 2)
    have r3 := (show (w1.alloc (.cells #[.int .i64 0, .int .i64 0] 24)).cell? ⟨w.heap.size, 3, none⟩ = some _ from cell_at G02 3)
    have r4 := (show (w1.alloc (.cells #[.int .i64 0, .int .i64 0] 24)).cell? ⟨w.heap.size, 4, none⟩ = some _ from cell_at G02 4)
    replace hb2 := Lib.hid hb2
    clear HA HN G0 G1 G2 G02 b1 hb1
    unfold Mr.nextV tmV
    simp only
    go_wp2_with (refine wpList_store_splice (by rfl) 34 _ _ (by rfl) (w.heap.size + 1 + 1) 0 [.slice ab r.base.length kb, .int .i64 r.fl.c, .int .i64 r.fl.r, .slice al r.log.length kl, .slice am r.mks.length km] (by rfl) (by rfl) 34 [.slice none 0 0, .int .i64 0, .int .i64 0, .slice none 0 0, .slice none 0 0] G22 (info_rep.trans rfl) (by simp) ones.out ?_; intro w4 hg4 hB4 hO4)
    have hs9 := (hB4.out 0 _ (Below.refl 0 _) (Nat.zero_le _)).size
    have hb9 := hB4.out _ _ hb2.out (by omega)
    refine bodyPost_ret (rep_resultsAt Tryz.f50 6 7 rfl _ w4 (w.heap.size + 1 + 1) r.fl _ _ _ rfl (hg4.out.trans rfl)) rfl ?_
    refine ⟨(⟨.slice ab r.base.length kb, .slice al r.log.length kl, .slice am r.mks.length km⟩, r), vp, by rw [hL.out]; rfl, by rw [hL.out], ?_⟩
    rw [hL.out]
    exact Did.of hP.out ⟨RepW.below (hP.out.rep _ hx.out) hb9, fun k hk => .inl hk⟩ hb9
  | some t =>
    obtain ⟨q, hq⟩ : ∃ q, addR r (mvOf t d) = q := ⟨_, rfl⟩
    have hL : Hid (localR r d pool = if q.2.2 = 0 then (q.1, pool ++ [mvOf t d], 0) else (q.1, pool, q.2.2)) := Lib.hid (by unfold localR; simp only [ho, hq])
    have hb2 := (hb1.alloc (by omega) (.cells #[.int .i64 t.c, .int .i64 t.r] 24)).alloc (by simp; omega) (.cells #[.int .i64 t.c, .int .i64 t.r, .int .i64 d.pa, .int .i64 d.ch, .string d.nm, .float .f64 d.rk] 49)
    have hb2' := (b1.alloc s1 (.cells #[.int .i64 t.c, .int .i64 t.r] 24)).alloc (by simp; omega) (.cells #[.int .i64 t.c, .int .i64 t.r, .int .i64 d.pa, .int .i64 d.ch, .string d.nm, .float .f64 d.rk] 49)
    have HA2 := HA.out _ (mvOf t d) hb2' hz
    rw [hq] at HA2
    have J0 := alloc_at (.cells #[.int .i64 t.c, .int .i64 t.r, .int .i64 d.pa, .int .i64 d.ch, .string d.nm, .float .f64 d.rk] 49) (alloc_at (.cells #[.int .i64 t.c, .int .i64 t.r] 24) G0)
    have J2 := alloc_at (.cells #[.int .i64 t.c, .int .i64 t.r, .int .i64 d.pa, .int .i64 d.ch, .string d.nm, .float .f64 d.rk] 49) (alloc_at (.cells #[.int .i64 t.c, .int .i64 t.r] 24) G2)
    have JM := alloc_new (w1.alloc (.cells #[.int .i64 t.c, .int .i64 t.r] 24)) (.cells #[.int .i64 t.c, .int .i64 t.r, .int .i64 d.pa, .int .i64 d.ch, .string d.nm, .float .f64 d.rk] 49)
    obtain ⟨W2, hW2⟩ : ∃ W2, (w1.alloc (.cells #[.int .i64 t.c, .int .i64 t.r] 24)).alloc (.cells #[.int .i64 t.c, .int .i64 t.r, .int .i64 d.pa, .int .i64 d.ch, .string d.nm, .float .f64 d.rk] 49) = W2 := ⟨_, rfl⟩
    have hs2 : W2.heap.size = w1.heap.size + 1 + 1 := by rw [← hW2]; simp
    simp only [World.size_alloc] at JM
    rw [hW2] at hb2 hb2' HA2 J0 J2 JM
    have E1 := alloc_at (.cells #[.int .i64 t.c, .int .i64 t.r] 24) G1
    have r0 := (show (w1.alloc (.cells #[.int .i64 t.c, .int .i64 t.r] 24)).cell? ⟨w.heap.size + 1, 4, none⟩ = some _ from cell_at E1 4)
    have r1 := (show (w1.alloc (.cells #[.int .i64 t.c, .int .i64 t.r] 24)).cell? ⟨w.heap.size + 1, 5, none⟩ = some _ from cell_at E1 5)
    have r2 := (show (w1.alloc (.cells #[.int .i64 t.c, .int .i64 t.r] 24)).cell? ⟨w.heap.size + 1, 6, none⟩ = some _ from cell_at E1 6)
    have r3 := (show (w1.alloc (.cells #[.int .i64 t.c, .int .i64 t.r] 24)).cell? ⟨w.heap.size + 1, 7, none⟩ = some _ from cell_at E1 7)
    replace hW2 := Lib.hid hW2
    have v0 := (show W2.cell? ⟨w.heap.size, 0, none⟩ = some _ from cell_at J0 0)
    have v1 := (show W2.cell? ⟨w.heap.size, 1, none⟩ = some _ from cell_at J0 1)
    have v2 := (show W2.cell? ⟨w.heap.size, 2, none⟩ = some _ from cell_at J0 2)
    have v3 := (show W2.cell? ⟨w.heap.size, 3, none⟩ = some _ from cell_at J0 3)
    have v4 := (show W2.cell? ⟨w.heap.size, 4, none⟩ = some _ from cell_at J0 4)
    rw [← hW2.out] at v0 v1 v2 v3 v4
    replace J0 := Lib.hid J0
    replace J2 := Lib.hid J2
    replace JM := Lib.hid JM
    replace HA2 := Lib.hid HA2
    replace hb2 := Lib.hid hb2
    replace hb2' := Lib.hid hb2'
    replace hq := Lib.hid hq
    replace hL := Lib.hid hL
    replace ho := Lib.hid ho
    clear HA HN G0 G1 G2 b1 hb1 E1
    have hlt := Lib.hid (fun k hk => (hP.out.rep _ hx.out).lt (k := k) hk)
    unfold Mr.nextV tmV
    simp only
    go_upto_region 5 with fail
    go_cut [12] (fun v12 wx => v12 = .int .i64 q.2.2 ∧ ∃ y : X3, y.2 = q.1 ∧ Hid (DvC w wx (⟨.slice ab r.base.length kb, .slice al r.log.length kl, .slice am r.mks.length km⟩, r) y) ∧ Hid (wx.heap[w1.heap.size + 1]? = some (.cells #[.int .i64 t.c, .int .i64 t.r, .int .i64 d.pa, .int .i64 d.ch, .string d.nm, .float .f64 d.rk] 49 (0, 0))))
    case first =>
      go_wp2_with fail
      rw [hW2.out]
      refine HA2.out.mono ?_
      rintro e w3 ⟨⟨vb', vl', vm', rfl, hB⟩, b3⟩
      have s3 := b3.size
      have k0 := below_at b3 J0.out (by omega)
      have k2 := below_at b3 J2.out (by omega)
      have kM := below_at b3 JM.out (by omega)
      obtain ⟨ab', kb', eb⟩ := hB.r.b.len
      subst eb
      obtain ⟨al', kl', el⟩ := hB.r.l.len
      subst el
      obtain ⟨am', km', em⟩ := hB.r.m.len
      subst em
      have one2 : Hid (∀ v ∈ [Value.slice ab' q.1.base.length kb', .int .i64 q.1.fl.c, .int .i64 q.1.fl.r, .slice al' q.1.log.length kl', .slice am' q.1.mks.length km'], v.oneCell' = true) := Lib.hid (by
        intro v hv
        simp only [List.mem_cons, List.not_mem_nil, or_false] at hv
        rcases hv with rfl | rfl | rfl | rfl | rfl <;> rfl)
      replace hB := Lib.hid hB
      replace b3 := Lib.hid b3
      replace k2 := Lib.hid k2
      replace kM := Lib.hid kM
      unfold repV
      clear r0 r1 r2 r3 v0 v1 v2 v3 v4
      go_wp2_with (refine wpList_store_splice (by rfl) 34 _ _ (by rfl) w.heap.size 0 [.slice ab' q.1.base.length kb', .int .i64 q.1.fl.c, .int .i64 q.1.fl.r, .slice al' q.1.log.length kl', .slice am' q.1.mks.length km'] (by rfl) (by rfl) 34 [.slice ab r.base.length kb, .int .i64 r.fl.c, .int .i64 r.fl.r, .slice al r.log.length kl, .slice am r.mks.length km] k0 (info_rep.trans rfl) (by simp) one2.out ?_; intro w4 hg4 hB4 hO4)
      go_meet
      exact ⟨rfl, _, rfl, Lib.hid (dvC_mk2 hb2.out (by omega) b3.out hB.out hlt.out rfl rfl (hg4.out.trans rfl) k2.out hB4.out hO4.out), Lib.hid ((hO4.out _ (by omega)).trans kM.out)⟩
    case rest =>
      obtain ⟨h9, y, hy, hC, hM⟩ := hcut
      subst h9
      obtain ⟨⟨yb, yl, ym⟩, yr⟩ := y
      simp only at hy
      subst hy
      obtain ⟨ab', kb', eb⟩ := hC.out.k.1.b.len
      simp only at eb
      subst eb
      obtain ⟨al', kl', el⟩ := hC.out.k.1.l.len
      simp only at el
      subst el
      obtain ⟨am', km', em⟩ := hC.out.k.1.m.len
      simp only at em
      subst em
      have k9 := hC.out.c
      have z9 := hC.out.z
      simp only at k9
      have v0 := (show wc.cell? ⟨w.heap.size, 0, none⟩ = some _ from cell_at k9 0)
      have v1 := (show wc.cell? ⟨w.heap.size, 1, none⟩ = some _ from cell_at k9 1)
      have v2 := (show wc.cell? ⟨w.heap.size, 2, none⟩ = some _ from cell_at k9 2)
      have v3 := (show wc.cell? ⟨w.heap.size, 3, none⟩ = some _ from cell_at k9 3)
      have v4 := (show wc.cell? ⟨w.heap.size, 4, none⟩ = some _ from cell_at k9 4)
      have one2 : Hid (∀ v ∈ [Value.slice ab' q.1.base.length kb', .int .i64 q.1.fl.c, .int .i64 q.1.fl.r, .slice al' q.1.log.length kl', .slice am' q.1.mks.length km'], v.oneCell' = true) := Lib.hid (by
        intro v hv
        simp only [List.mem_cons, List.not_mem_nil, or_false] at hv
        rcases hv with rfl | rfl | rfl | rfl | rfl <;> rfl)
      have hPc := hP.out.below hC.out.b
      replace hPc := Lib.hid hPc
      by_cases hq0 : q.2.2 = 0
      · have h0 : (q.2.2 == 0) = true := by rw [hq0]; rfl
        replace hq0 := Lib.hid hq0
        obtain ⟨i0, hi, hz0, hz1, hz2⟩ := info_parts infoMov
        obtain ⟨ap, kp, ep⟩ := (own_sl hPc.out.own).len
        subst ep
        have p1 := (show wc.cell? ⟨p, 1, none⟩ = some (.slice ap pool.length kp) from cell_at hPc.out.hp 1)
        have m0 := (show wc.cell? ⟨w1.heap.size + 1, 0, none⟩ = some _ from cell_at hM.out 0)
        have m1 := (show wc.cell? ⟨w1.heap.size + 1, 1, none⟩ = some _ from cell_at hM.out 1)
        have m2 := (show wc.cell? ⟨w1.heap.size + 1, 2, none⟩ = some _ from cell_at hM.out 2)
        have m3 := (show wc.cell? ⟨w1.heap.size + 1, 3, none⟩ = some _ from cell_at hM.out 3)
        have m4 := (show wc.cell? ⟨w1.heap.size + 1, 4, none⟩ = some _ from cell_at hM.out 4)
        have m5 := (show wc.cell? ⟨w1.heap.size + 1, 5, none⟩ = some _ from cell_at hM.out 5)
        have on6 : ∀ u ∈ [Value.int .i64 t.c, .int .i64 t.r, .int .i64 d.pa, .int .i64 d.ch, .string d.nm, .float .f64 d.rk], u.oneCell' = true := movC_one (mvOf t d)
        have hlp := lt_of_block hPc.out.hp
        have hbp := hPc.out.bp
        replace on6 := Lib.hid on6
        clear HA2 J0 J2 JM r0 r1 r2 r3 v0 v1 v2 v3 v4
        go_wp2_with fail
        have cS := Lib.hid (fun (W : World) (h : Below wc.heap.size wc W) => (⟨(h.cell (p := ⟨p, 1, none⟩) hlp).trans p1, (h.cell (p := ⟨w1.heap.size + 1, 0, none⟩) (lt_of_block hM.out)).trans m0, (h.cell (p := ⟨w1.heap.size + 1, 1, none⟩) (lt_of_block hM.out)).trans m1, (h.cell (p := ⟨w1.heap.size + 1, 2, none⟩) (lt_of_block hM.out)).trans m2, (h.cell (p := ⟨w1.heap.size + 1, 3, none⟩) (lt_of_block hM.out)).trans m3, (h.cell (p := ⟨w1.heap.size + 1, 4, none⟩) (lt_of_block hM.out)).trans m4, (h.cell (p := ⟨w1.heap.size + 1, 5, none⟩) (lt_of_block hM.out)).trans m5⟩ : (W.cell? ⟨p, 1, none⟩ = some (.slice ap pool.length kp) ∧ W.cell? ⟨w1.heap.size + 1, 0, none⟩ = some (.int .i64 t.c) ∧ W.cell? ⟨w1.heap.size + 1, 1, none⟩ = some (.int .i64 t.r) ∧ W.cell? ⟨w1.heap.size + 1, 2, none⟩ = some (.int .i64 d.pa) ∧ W.cell? ⟨w1.heap.size + 1, 3, none⟩ = some (.int .i64 d.ch) ∧ W.cell? ⟨w1.heap.size + 1, 4, none⟩ = some (.string d.nm) ∧ W.cell? ⟨w1.heap.size + 1, 5, none⟩ = some (.float .f64 d.rk))))
        go_region_law ((refine step_append_near (by rfl) (.tmp 49) (.tmp 51) 25 (by rfl) base 49 i0 (.agg #[.int .i64 0, .int .i64 0, .int .i64 0, .int .i64 0, .string ByteArray.empty, .float .f64 0]) 6 56 Tryz.underlying25 hi hz0 hz1 hz2 rfl (by decide) _ pool.length (pool.flatMap movC) (by rfl) (World.ownsRow.alloc hPc.out.own _) wc.heap.size 1 1 [Value.int .i64 t.c, .int .i64 t.r, .int .i64 d.pa, .int .i64 d.ch, .string d.nm, .float .f64 d.rk] (by rfl) rfl (alloc_new wc _) on6.out (by unfold maxLen; omega) (by omega) (by simp; omega) ?_; intro v5 w5 hown hgrow hnear; obtain ⟨a5, k5, e5⟩ := (own_sl hown.out).len; subst e5; have hp5 := fam_other hgrow.out (alloc_at _ hPc.out.hp) (fun e => (hPc.out.pp _ e).1 rfl); have x1 := (show w5.cell? ⟨p, 1, none⟩ = some _ from cell_at hp5 1); have f1 : w5.frozen? ⟨p, 1, none⟩ = false := free_at hp5 1; have hm5 := fam_other hgrow.out (alloc_at _ hM.out) (fun e => by have := (hP.out.own.lt _ e).2; omega); have y0 := (show w5.cell? ⟨w1.heap.size + 1, 0, none⟩ = some _ from cell_at hm5 0); have y1 := (show w5.cell? ⟨w1.heap.size + 1, 1, none⟩ = some _ from cell_at hm5 1); have y2 := (show w5.cell? ⟨w1.heap.size + 1, 2, none⟩ = some _ from cell_at hm5 2); have y3 := (show w5.cell? ⟨w1.heap.size + 1, 3, none⟩ = some _ from cell_at hm5 3); have y4 := (show w5.cell? ⟨w1.heap.size + 1, 4, none⟩ = some _ from cell_at hm5 4); have y5 := (show w5.cell? ⟨w1.heap.size + 1, 5, none⟩ = some _ from cell_at hm5 5); replace hm5 := Lib.hid hm5; replace hp5 := Lib.hid hp5))
        all_goals
          have hgr := hgrow.out
          have hne0 : (Value.slice ap pool.length kp).ownBlock ≠ some w.heap.size := fun e => by have := (hP.out.own.lt _ e).2; omega
          have hne2 : (Value.slice ap pool.length kp).ownBlock ≠ some (w.heap.size + 1 + 1) := fun e => by have := (hP.out.own.lt _ e).2; omega
          have hlw := lt_of_block hP.out.hp
          have hlb := lt_of_block hP.out.hb
          have q0 := fam_other hgr (alloc_at _ k9) hne0
          have q2 := fam_other hgr (alloc_at _ z9) hne2
          obtain ⟨w6, hw6⟩ : ∃ w6, w5.setCell ⟨p, 1, none⟩ (.slice a5 (pool.length + 1) k5) = w6 := ⟨_, rfl⟩
          have hoth : ∀ k, k ≠ p → w6.heap[k]? = w5.heap[k]? := fun k hk => by rw [← hw6]; exact setCell_heap_other hk
          have hs6 : w6.heap.size = w5.heap.size := by rw [← hw6]; simp [World.setCell]
          have hp6 := set_at hp5.out 1 (.slice a5 (pool.length + 1) k5)
          rw [hw6] at hp6 ⊢
          have hP6 := Lib.hid (pw_grow (m := mvOf t d) (hPc.out.below ((Below.refl _ _).alloc (Nat.le_refl _) _).drew) hown.out hgr hnear.out (hp6.trans rfl) hoth (by omega))
          have z6 := (hoth _ (by omega)).trans q2
          have k6 := (hoth _ (by omega)).trans q0
          have v0 := (show w6.cell? ⟨w.heap.size, 0, none⟩ = some _ from cell_at k6 0)
          have v1 := (show w6.cell? ⟨w.heap.size, 1, none⟩ = some _ from cell_at k6 1)
          have v2 := (show w6.cell? ⟨w.heap.size, 2, none⟩ = some _ from cell_at k6 2)
          have v3 := (show w6.cell? ⟨w.heap.size, 3, none⟩ = some _ from cell_at k6 3)
          have v4 := (show w6.cell? ⟨w.heap.size, 4, none⟩ = some _ from cell_at k6 4)
          go_wp2_with (refine wpList_store_splice (by rfl) 34 _ _ (by rfl) (w.heap.size + 1 + 1) 0 [.slice ab' q.1.base.length kb', .int .i64 q.1.fl.c, .int .i64 q.1.fl.r, .slice al' q.1.log.length kl', .slice am' q.1.mks.length km'] (by rfl) (by rfl) 34 [.slice none 0 0, .int .i64 0, .int .i64 0, .slice none 0 0, .slice none 0 0] z6 (info_rep.trans rfl) (by simp) one2.out ?_; intro w7 hg7 hB7 hO7)
          refine bodyPost_ret (rep_resultsAt Tryz.f50 6 7 rfl _ w7 (w.heap.size + 1 + 1) q.1.fl _ _ _ rfl (hg7.out.trans rfl)) rfl ?_
          have hs7 := (hB7.out 0 _ (Below.refl 0 _) (Nat.zero_le _)).size
          have hsw := hgr.size
          simp at hsw
          have hyk : ∀ k, blocks (⟨.slice ab' q.1.base.length kb', .slice al' q.1.log.length kl', .slice am' q.1.mks.length km'⟩, q.1) k → k ≠ p ∧ (Value.slice ap pool.length kp).ownBlock ≠ some k := fun k hk => by
            rcases hC.out.k.2 k hk with h | h
            · exact ⟨(hsep.out k h).1, (hsep.out k h).2.2⟩
            · exact ⟨by omega, fun e => by have := (hP.out.own.lt _ e).2; omega⟩
          have hry := hC.out.k.1.same (W' := w7) (by omega) (fun k hk => (hO7.out k (hC.out.f k hk).2).trans ((hoth k (hyk k hk).1).trans ((hgr.block k (by have := hC.out.k.1.lt hk; simp; omega) (fun e => (hyk k hk).2 e.symm)).trans (((Below.refl wc.heap.size wc).alloc (Nat.le_refl _) _).block k (hC.out.k.1.lt hk)))))
          have hbe5 := ((hC.out.b.mono (show base ≤ w.heap.size by omega)).alloc (by have := hC.out.s; omega) (.cells #[.int .i64 t.c, .int .i64 t.r, .int .i64 d.pa, .int .i64 d.ch, .string d.nm, .float .f64 d.rk] 49)).drew.grown hgr (by have := hC.out.s; simp; omega) (fun k e => (hP.out.own.lt _ e).1)
          have hbe6 : Below base w w6 := by rw [← hw6]; exact hbe5.setCell (p := ⟨p, 1, none⟩) hbp _
          have hbe7 := hB7.out _ _ hbe6 (show base ≤ w.heap.size + 1 + 1 by omega)
          refine ⟨(⟨.slice ab' q.1.base.length kb', .slice al' q.1.log.length kl', .slice am' q.1.mks.length km'⟩, q.1), .slice a5 (pool.length + 1) k5, by rw [hL.out, if_pos hq0.out, hq0.out]; rfl, by rw [hL.out, if_pos hq0.out], ?_⟩
          rw [hL.out, if_pos hq0.out]
          refine ⟨hP6.out.other hs7 hO7.out (by omega) (by omega) (fun e => ?_) (fun x hx' hk => by have := (hP.out.rep x hx').lt hk; omega), hry, fun k hk => ?_, hbe7, ⟨hbe7.os, hbe7.tape, hbe7.output, hbe7.size, fun k hk ht => (hO7.out k (by omega)).trans ((hoth k (fun e => ht (.inl e))).trans ((hgr.block k (by have := hC.out.s; simp; omega) (fun e => ht (.inr e.symm))).trans ((((Below.refl wc.heap.size wc).alloc (Nat.le_refl _) _).block k (by have := hC.out.s; omega)).trans (hC.out.b.block k hk))))⟩, fun k e => (hnear.out k e).imp id (fun h => by have := hC.out.s; simp at h; omega)⟩
          · rcases hnear.out _ e with h | h
            · exact hne2 h
            · have := hC.out.s; simp at h; omega
          · rcases hC.out.k.2 k hk with h | h
            · exact .inl h
            · refine .inr ⟨h, fun e => ?_⟩
              rcases hnear.out _ e with g | g
              · exact (hyk k hk).2 g
              · have := hC.out.k.1.lt hk; simp at g; omega
      · have h0 : (q.2.2 == 0) = false := by rw [beq_eq_false_iff_ne]; exact hq0
        replace hq0 := Lib.hid hq0
        clear HA2 J0 J2 JM k9 r0 r1 r2 r3
        go_wp2_with (refine wpList_store_splice (by rfl) 34 _ _ (by rfl) (w.heap.size + 1 + 1) 0 [.slice ab' q.1.base.length kb', .int .i64 q.1.fl.c, .int .i64 q.1.fl.r, .slice al' q.1.log.length kl', .slice am' q.1.mks.length km'] (by rfl) (by rfl) 34 [.slice none 0 0, .int .i64 0, .int .i64 0, .slice none 0 0, .slice none 0 0] z9 (info_rep.trans rfl) (by simp) one2.out ?_; intro w4 hg4 hB4 hO4)
        have hs9 : wc.heap.size ≤ w4.heap.size := (hB4.out 0 _ (Below.refl 0 _) (Nat.zero_le _)).size
        refine bodyPost_ret (rep_resultsAt Tryz.f50 6 7 rfl _ w4 (w.heap.size + 1 + 1) q.1.fl _ _ _ rfl (hg4.out.trans rfl)) rfl ?_
        refine ⟨(⟨.slice ab' q.1.base.length kb', .slice al' q.1.log.length kl', .slice am' q.1.mks.length km'⟩, q.1), vp, by rw [hL.out, if_neg hq0.out]; rfl, by rw [hL.out, if_neg hq0.out], ?_⟩
        rw [hL.out, if_neg hq0.out]
        exact Did.of hP.out ⟨hC.out.k.1.same hs9 (fun k e => hO4.out k (hC.out.f k e).2), hC.out.k.2⟩ (hB4.out _ _ hC.out.b (by omega))
end Pl
end
section
open Go.RowKit Go.Shelf
attribute [local go_sem] Fl.run_store_float
namespace Pl
open Mem Tp Tr Mo Fo Sn Og St
def StepR (r : Rp) (d : Dd) (pool : List Mv) (r' : Rp) (pool' : List Mv) (e : Int) : Prop :=
  (d.kind = 1 ∧ (r', pool', e) = localR r d pool) ∨
  (d.kind = 2 ∧ pool' = pool ∧ ((d.at_ < 0 ∨ (pool.length : Int) ≤ d.at_) ∧ r' = r ∧ e = 1 ∨ ∃ (k : Nat) (m : Mv), pool[k]? = some m ∧ d.at_ = (k : Int) ∧ r' = (addR r m).1 ∧ e = (addR r m).2.2)) ∨
  (d.kind = 3 ∧ pool' = pool ∧ (r', e) = pruneR r ⟨d.at_, d.frm⟩) ∨
  (d.kind = 4 ∧ pool' = pool ∧ EqP r r' ∧ e = 0)
structure OkR (r : Rp) : Prop where
  w : WfR r
  k : RkR r
  f : ((allC r).flatMap Ck.oneL).length ≤ 90000
  z : (fileS r).size ≤ 10000
def DidC (base p b : Nat) (vp : Value) (xs : List X3) (pool : List Mv) (x : X3) (d : Dd) (w : World) (e : Ending) (w' : World) : Prop :=
  ∃ (y : X3) (vp' : Value) (pool' : List Mv) (c : Int), e = .returned (.tuple #[rpV y, .int .i64 c]) ∧ StepR x.2 d pool y.2 pool' c ∧ Did w w' base p b vp xs x y vp' pool'
theorem did_local {base p b : Nat} {vp : Value} {xs : List X3} {pool : List Mv} (x : X3) (d : Dd) (w : World) (hP : PW w base p b vp xs pool) (hx : x ∈ xs) (hW : OkR x.2) (hz : d.nm.size ≤ 100000) (hpl : pool.length ≤ 1000) (hk : d.kind = 1) :
    Calls Tryz.prog 50 #[.pointer (some ⟨p, 0, none⟩), rpV x, dedV d] w (DidC base p b vp xs pool x d w) := by
  refine (local_any x d w hP hx hW.w hz hpl).mono ?_
  rintro e w' ⟨y, vp', rfl, hy, hD⟩
  exact ⟨y, vp', _, _, rfl, .inl ⟨hk, by rw [hy]⟩, hD⟩
theorem did_deliver {base p b : Nat} {vp : Value} {xs : List X3} {pool : List Mv} (x : X3) (d : Dd) (w : World) (hP : PW w base p b vp xs pool) (hx : x ∈ xs) (hW : OkR x.2) (hpz : ∀ m ∈ pool, m.nm.size ≤ 100000) (hk : d.kind = 2) :
    Calls Tryz.prog 51 #[.pointer (some ⟨p, 0, none⟩), rpV x, dedV d] w (DidC base p b vp xs pool x d w) := by
  by_cases h : d.at_ < 0 ∨ (pool.length : Int) ≤ d.at_
  · refine (deliver_not x d w hP (hP.rep x hx) h).mono ?_
    rintro e w' ⟨rfl, hb⟩
    exact ⟨x, vp, pool, 1, rfl, .inr (.inl ⟨hk, rfl, .inl ⟨h, rfl, rfl⟩⟩), Did.of hP ⟨RepW.below (hP.rep x hx) hb, fun k hk => .inl hk⟩ hb⟩
  · obtain ⟨k, e⟩ : ∃ k : Nat, d.at_ = (k : Int) := ⟨d.at_.toNat, by omega⟩
    have hm := List.getElem?_eq_getElem (l := pool) (i := k) (by omega)
    refine (deliver_any x d k _ w hP (hP.rep x hx) hW.w hm e (hpz _ (List.mem_of_getElem? hm))).mono ?_
    rintro e' w' ⟨⟨y, rfl, hy, hB⟩, hb⟩
    exact ⟨y, vp, pool, _, rfl, .inr (.inl ⟨hk, rfl, .inr ⟨k, _, hm, e, hy, rfl⟩⟩), Did.of hP hB hb⟩
theorem did_prune {base p b : Nat} {vp : Value} {xs : List X3} {pool : List Mv} (x : X3) (d : Dd) (w : World) (hP : PW w base p b vp xs pool) (hx : x ∈ xs) (hW : OkR x.2) (hk : d.kind = 3) :
    Calls Tryz.prog 52 #[.pointer (some ⟨p, 0, none⟩), rpV x, dedV d] w (DidC base p b vp xs pool x d w) := by
  refine (prune_any _ x d w (hP.rep x hx) hW.w).mono ?_
  rintro e w' ⟨⟨y, rfl, hy, hB⟩, hb⟩
  exact ⟨y, vp, pool, _, rfl, .inr (.inr (.inl ⟨hk, rfl, by rw [hy]⟩)), Did.of hP hB hb⟩
theorem did_reload {base p b : Nat} {vp : Value} {xs : List X3} {pool : List Mv} (x : X3) (d : Dd) (w : World) (hP : PW w base p b vp xs pool) (hx : x ∈ xs) (hW : OkR x.2) (hk : d.kind = 4) :
    Calls Tryz.prog 53 #[.pointer (some ⟨p, 0, none⟩), rpV x, dedV d] w (DidC base p b vp xs pool x d w) := by
  refine (reload_any _ x d w (hP.rep x hx) hW.w hW.k hW.f hW.z).mono ?_
  rintro e w' ⟨⟨y, rfl, hy, hB⟩, hb⟩
  exact ⟨y, vp, pool, _, rfl, .inr (.inr (.inr ⟨hk, rfl, hy, rfl⟩)), Did.of hP hB hb⟩
end Pl
end
section
open Go.RowKit Go.Shelf
namespace Iv
open Mem Tp Tr Mo Fo Sn Og St Pl Pk
structure InvR (j : Nat) (r : Rp) : Prop where
  tree : TreeP r.base
  lrise : r.log.Pairwise (fun a b => bef a.t b.t = true)
  lone : ∀ m ∈ r.log, oneM m = true
  mks : MksP r.mks
  bel : ∀ m ∈ r.log, m.t.c ≤ getM r.mks m.t.r
  fl : r.fl = ⟨0, 0⟩ ∨ knownT r.mks r.fl
  abv : ∀ m ∈ r.log, bef r.fl m.t = true
  len : r.base.length + r.log.length ≤ j
  mlen : r.mks.length ≤ j
  rk : RkR r
  zero : r.fl = ⟨0, 0⟩ → r.base = [] ∧ r.mks = ofM r.log
theorem InvR.mono {i j : Nat} {r : Rp} (h : InvR i r) (hij : i ≤ j) : InvR j r :=
  ⟨h.tree, h.lrise, h.lone, h.mks, h.bel, h.fl, h.abv, Nat.le_trans h.len hij, Nat.le_trans h.mlen hij, h.rk, h.zero⟩
def r0 : Rp := ⟨[], ⟨0, 0⟩, [], []⟩
theorem inv_r0 : InvR 0 r0 :=
  ⟨treeP_nil, List.Pairwise.nil, fun _ h => by simp [r0] at h, mksP_nil, fun _ h => by simp [r0] at h, .inl rfl, fun _ h => by simp [r0] at h, Nat.le_refl _, Nat.le_refl _, ⟨fun _ h => by simp [r0] at h, fun _ h => by simp [r0] at h⟩, fun _ => ⟨rfl, rfl⟩⟩
theorem InvR.wf {j : Nat} {r : Rp} (h : InvR j r) (hj : j ≤ 250) : WfR r := by
  refine ⟨h.tree.rise, h.tree.one, fun x _ => above_no h.tree.dep x.ch, h.lrise, h.lone, h.mks.ok, fun x _ => ?_, h.fl, ?_, Nat.le_trans h.len hj, Nat.le_trans h.mlen hj⟩
  · rw [ofM_ofV]
    exact get_ofV (fun m hm => (oneM_in (h.lone m hm)).1.1) (get_pos h.mks _) (fun m hm e => e ▸ h.bel m hm)
  · unfold since
    rw [List.filter_eq_self]
    exact h.abv
theorem hasT_no {l : List Mv} {t : Tm} (h : hasT l t = false) : ∀ m ∈ l, m.t ≠ t := fun m hm e => by
  unfold hasT at h
  rw [List.any_eq_false] at h
  exact h m hm (by simpa using e)
theorem mem_insM {l : List Mv} {m x : Mv} (h : x ∈ insM l m) : x = m ∨ x ∈ l := by
  unfold insM at h
  split at h
  · exact .inr h
  · exact mem_ins.1 h
theorem insM_rise {l : List Mv} {m : Mv} (h : l.Pairwise (fun a b => bef a.t b.t = true)) : (insM l m).Pairwise (fun a b => bef a.t b.t = true) := by
  unfold insM
  split
  · exact h
  · rename_i hh
    have hn := hasT_no (by simpa using hh)
    exact ins_sorted (R := fun a b : Mv => bef a.t b.t = true) (p := fun x => bef m.t x.t) h (fun y hy e => bef_total e (fun q => hn y hy q.symm)) (fun y _ e => e) (fun y z h1 h2 => bef_trans h2 h1)
theorem addR_yes {r : Rp} {m : Mv} (h1 : oneM m = true) (h2 : bef r.fl m.t = true) (h3 : hasT r.log m.t = false) : addR r m = (⟨r.base, r.fl, insM r.log m, raiseM r.mks m.t⟩, true, 0) := by
  unfold addR
  rw [if_neg (by rw [h1]; simp), if_neg (by rw [h2]; simp), if_neg (by rw [h3]; simp)]
theorem addR_old {r : Rp} {m : Mv} (h1 : oneM m = true) (h2 : bef r.fl m.t = true) (h3 : hasT r.log m.t = true) : addR r m = (r, false, 0) := by
  unfold addR
  rw [if_neg (by rw [h1]; simp), if_neg (by rw [h2]; simp), if_pos h3]
theorem addR_stale {r : Rp} {m : Mv} (h1 : oneM m = true) (h2 : bef r.fl m.t = false) : addR r m = (r, false, 9) := by
  unfold addR
  rw [if_neg (by rw [h1]; simp), if_pos h2]
theorem addR_bad {r : Rp} {m : Mv} (h1 : oneM m = false) : addR r m = (r, false, 1) := by
  unfold addR
  rw [if_pos h1]
theorem addR_cases (r : Rp) (m : Mv) : (oneM m = true ∧ bef r.fl m.t = true ∧ hasT r.log m.t = false) ∨ (addR r m).1 = r := by
  by_cases h1 : oneM m = true
  · by_cases h2 : bef r.fl m.t = true
    · by_cases h3 : hasT r.log m.t = true
      · rw [addR_old h1 h2 h3]; exact .inr rfl
      · exact .inl ⟨h1, h2, by simpa using h3⟩
    · rw [addR_stale h1 (by simpa using h2)]; exact .inr rfl
  · rw [addR_bad (by simpa using h1)]; exact .inr rfl
theorem addR_one {r : Rp} {m : Mv} (h : (addR r m).2.2 = 0) : oneM m = true ∧ bef r.fl m.t = true := by
  by_cases h1 : oneM m = true
  · by_cases h2 : bef r.fl m.t = true
    · exact ⟨h1, h2⟩
    · rw [addR_stale h1 (by simpa using h2)] at h; cases h
  · rw [addR_bad (by simpa using h1)] at h; cases h
theorem inv_add {j : Nat} {r : Rp} (h : InvR j r) {m : Mv} (hk : m.rk < 2 * Fl.S) : InvR (j + 1) (addR r m).1 := by
  rcases addR_cases r m with ⟨h1, h2, h3⟩ | e
  · rw [addR_yes h1 h2 h3]
    have ht := (oneM_in h1).1
    have hle : ∀ x, getM r.mks x ≤ getM (raiseM r.mks m.t) x := fun x => by
      rw [get_raise _ ht.1]
      by_cases q : x = m.t.r
      · rw [if_pos q, q]; omega
      · rw [if_neg q]; exact Int.le_refl _
    have hins : insM r.log m = ins (fun x => bef m.t x.t) m r.log := by unfold insM; rw [if_neg (by rw [h3]; simp)]; rfl
    have hlen := h.len
    refine ⟨h.tree, insM_rise h.lrise, fun x hx => ?_, mksP_raise h.mks ht, fun x hx => ?_, h.fl.imp id (fun q => ⟨q.1, Int.le_trans q.2 (hle _)⟩), fun x hx => ?_, ?_, Nat.le_trans (Mr.raise_len _ _) (Nat.succ_le_succ h.mlen), ⟨h.rk.1, fun x hx => ?_⟩, fun q => ?_⟩
    · rcases mem_insM hx with rfl | hx
      · exact h1
      · exact h.lone x hx
    · rcases mem_insM hx with rfl | hx
      · show _ ≤ getM (raiseM r.mks x.t) x.t.r
        rw [get_raise _ ht.1, if_pos rfl]
        omega
      · exact Int.le_trans (h.bel x hx) (hle _)
    · rcases mem_insM hx with rfl | hx
      · exact h2
      · exact h.abv x hx
    · show r.base.length + (insM r.log m).length ≤ j + 1
      rw [hins, len_ins]
      omega
    · rcases mem_insM hx with rfl | hx
      · exact hk
      · exact h.rk.2 x hx
    · have := h.zero q
      refine ⟨this.1, ?_⟩
      show raiseM r.mks m.t = ofM (insM r.log m)
      rw [hins, ofM_ofV, ofV_ins ht mksP_nil (fun x hx => (oneM_in (h.lone x hx)).1), this.2]
      rfl
  · rw [e]; exact h.mono (Nat.le_succ j)
theorem rk_do {l : List Rw} {m : Mv} (h : TreeP l) (hl : ∀ x ∈ l, x.rk < 2 * Fl.S) (hm : m.rk < 2 * Fl.S) : ∀ x ∈ doM l m, x.rk < 2 * Fl.S := by
  unfold doM
  split
  · exact hl
  · intro x hx
    rcases mem_setR h.rise hx with rfl | ⟨hx, -⟩
    · exact hm
    · exact hl x hx
theorem rk_fold : ∀ {l : List Rw} (ms : List Mv), TreeP l → (∀ m ∈ ms, oneM m = true) → (∀ x ∈ l, x.rk < 2 * Fl.S) → (∀ m ∈ ms, m.rk < 2 * Fl.S) → ∀ x ∈ foldM l ms, x.rk < 2 * Fl.S
  | _, [], _, _, h, _ => h
  | l, m :: ms, ht, ho, h, hm => by
    show ∀ x ∈ foldM (doM l m) ms, x.rk < 2 * Fl.S
    exact rk_fold ms (treeP_do ht (ho m List.mem_cons_self)) (fun x hx => ho x (List.mem_cons_of_mem _ hx)) (rk_do ht h (hm m List.mem_cons_self)) (fun x hx => hm x (List.mem_cons_of_mem _ hx))
def upto (r : Rp) (t : Tm) : List Mv := r.log.take (r.log.length - (since r.log t).length)
theorem pruneR_no {r : Rp} {t : Tm} (h : ¬ knownT r.mks t) : pruneR r t = (r, 1) := by unfold pruneR; rw [if_pos h]
theorem pruneR_old {r : Rp} {t : Tm} (h : knownT r.mks t) (hb : bef r.fl t = false) : pruneR r t = (r, 0) := by unfold pruneR; rw [if_neg (by simpa using h), if_pos hb]
theorem pruneR_yes {r : Rp} {t : Tm} (h : knownT r.mks t) (hb : bef r.fl t = true) : pruneR r t = (⟨foldM r.base (upto r t), t, since r.log t, r.mks⟩, 0) := by
  unfold pruneR
  rw [if_neg (by simpa using h), if_neg (by rw [hb]; simp)]
  rfl
theorem mem_since {l : List Mv} {t : Tm} {m : Mv} (h : m ∈ since l t) : m ∈ l ∧ bef t m.t = true := by
  unfold since at h
  exact List.mem_filter.1 h
theorem inv_prune {j : Nat} {r : Rp} (h : InvR j r) (t : Tm) : InvR j (pruneR r t).1 := by
  by_cases hk : knownT r.mks t
  · by_cases hb : bef r.fl t = true
    · rw [pruneR_yes hk hb]
      have hup : ∀ m ∈ upto r t, m ∈ r.log := fun m hm => List.mem_of_mem_take hm
      have hlen := h.len
      have h1 := len_fold r.base (upto r t)
      have h2 : (upto r t).length + (since r.log t).length = r.log.length := by
        have := since_len r.log t
        unfold upto
        rw [List.length_take]
        omega
      have hone : ∀ m ∈ upto r t, oneM m = true := fun m hm => h.lone m (hup m hm)
      refine ⟨treeP_fold _ h.tree hone, ?_, fun m hm => h.lone m (mem_since hm).1, h.mks, fun m hm => h.bel m (mem_since hm).1, .inr hk, fun m hm => (mem_since hm).2, ?_, h.mlen, ⟨rk_fold _ h.tree hone h.rk.1 (fun m hm => h.rk.2 m (hup m hm)), fun m hm => h.rk.2 m (mem_since hm).1⟩, fun q => ?_⟩
      · exact h.lrise.filter _
      · show (foldM r.base (upto r t)).length + (since r.log t).length ≤ j
        omega
      · replace q : t = ⟨0, 0⟩ := q
        have := hk.1.1
        rw [q] at this
        exact absurd this (by decide)
    · rw [pruneR_old hk (by simpa using hb)]; exact h
  · rw [pruneR_no hk]; exact h
theorem inv_eq {j : Nat} {r r' : Rp} (h : InvR j r) (e : EqP r r') : InvR j r' := by
  have eb := e.b.1
  have el := e.l.1
  have et := nrmM_t el
  have ho : ofM r'.log = ofM r.log := by rw [ofM_t, ofM_t, et]
  have hm : ∀ m ∈ r'.log, ∃ y ∈ r.log, nrmM m = nrmM y := fun m hm => nrmM_mem el hm
  have ht : ∀ {x y : Mv}, nrmM x = nrmM y → x.t = y.t := fun {x y} q => show (nrmM x).t = (nrmM y).t by rw [q]
  refine ⟨⟨rise_eq eb h.tree.rise, fun x hx => ?_, ?_⟩, ?_, fun m hm' => ?_, by rw [e.m]; exact h.mks, fun m hm' => ?_, by rw [e.f, e.m]; exact h.fl, fun m hm' => ?_, by rw [nrm_len eb, len_eqM el]; exact h.len, by rw [e.m]; exact h.mlen, rk_eq e, fun q => ?_⟩
  · obtain ⟨y, hy, q⟩ := nrm_mem eb hx
    rw [one_eq q]
    exact h.tree.one y hy
  · obtain ⟨d, hd⟩ := h.tree.dep
    refine ⟨d, fun x hx => ?_⟩
    obtain ⟨y, hy, q⟩ := nrm_mem eb hx
    rw [nrm_ch q, nrm_pa q]
    exact hd y hy
  · have h1 : (r.log.map (fun m => m.t)).Pairwise (fun a b => bef a b = true) := List.pairwise_map.2 h.lrise
    rw [← et] at h1
    exact List.pairwise_map.1 h1
  · obtain ⟨y, hy, q⟩ := hm m hm'
    rw [oneM_eq q]
    exact h.lone y hy
  · obtain ⟨y, hy, q⟩ := hm m hm'
    rw [e.m, ht q]
    exact h.bel y hy
  · obtain ⟨y, hy, q⟩ := hm m hm'
    rw [e.f, ht q]
    exact h.abv y hy
  · rw [e.f] at q
    have := h.zero q
    refine ⟨List.length_eq_zero_iff.1 (by rw [nrm_len eb, this.1]; rfl), by rw [e.m, ho, this.2]⟩
theorem ranksL_len' (zs : List Nat) : (ranksL zs).length ≤ 20 + 20 * zs.length := by
  unfold ranksL
  have h1 := partL_len (Fg.encFlags (someL zs))
  have h2 := Fg.encFlags_len (someL zs)
  have h3 := Rl.encR_len (restL zs) 0
  have h4 := restL_len zs
  rw [someL_len] at h2
  rw [List.length_append]
  omega
theorem oneL_len (k : Int) (s : ByteArray) : (Ck.oneL (k, s)).length ≤ 15 + s.size := by
  unfold Ck.oneL Ck.sealL
  simp only [List.length_append, List.length_take, List.length_cons, List.length_nil]
  have h1 := putL_length s.size
  have h2 := size_list s
  omega
theorem allC_len {j : Nat} {r : Rp} (h : InvR j r) : ((allC r).flatMap Ck.oneL).length ≤ 164 * (r.base.length + r.log.length) + 20 * r.mks.length + 600 := by
  have b1 := dEnc_len (r.base.map (·.ch))
  have b2 := dEnc_len (r.base.map (·.pa))
  have b3 : (Dc.encDict (r.base.map (fun x : Rw => x.nm))).length ≤ 10 + (10 + 64) * (r.base.map (fun x : Rw => x.nm)).length + 20 * (r.base.map (fun x : Rw => x.nm)).length := Dc.encDict_len (fun s hs => by
    obtain ⟨x, hx, rfl⟩ := List.mem_map.1 hs
    exact (oneR_in (h.tree.one x hx)).1.2.2.2.2)
  have b4 := ranksL_len' (r.base.map (·.rk))
  have c1 := partL_len (dEnc (r.base.map (·.ch)))
  have c2 := partL_len (dEnc (r.base.map (·.pa)))
  have c3 := partL_len (Dc.encDict (r.base.map (fun x : Rw => x.nm)))
  have m1 := dEnc_len (r.mks.map (·.rep))
  have m2 := dEnc_len (r.mks.map (·.cnt))
  have m3 := partL_len (dEnc (r.mks.map (·.rep)))
  have l1 := dEnc_len (r.log.map (·.t.c))
  have l2 := Rn.encRuns_len (r.log.map fun m => m.t.r.toNat)
  have l3 := dEnc_len (r.log.map (·.pa))
  have l4 := dEnc_len (r.log.map (·.ch))
  have l5 : (Dc.encDict (r.log.map (·.nm))).length ≤ 10 + (10 + 64) * (r.log.map (·.nm)).length + 20 * (r.log.map (·.nm)).length := Dc.encDict_len (fun s hs => by
    obtain ⟨m, hm, rfl⟩ := List.mem_map.1 hs
    have := (oneR_in (oneM_in (h.lone m hm)).2).1
    unfold rowOf at this
    exact this.2.2.2.2)
  have l6 := ranksL_len' (r.log.map (·.rk))
  have l7 := partL_len (dEnc (r.log.map (·.t.c)))
  have l8 := partL_len (dEnc (r.log.map (·.pa)))
  have p1 := putL_length r.fl.c.toNat
  have p2 := putL_length r.fl.r.toNat
  have p3 := putL_length r.base.length
  have p4 := putL_length r.mks.length
  have p5 := putL_length r.log.length
  rw [List.length_map] at b1 b2 b3 b4 m1 m2 l1 l2 l3 l4 l5 l6
  have o1 := oneL_len 1 (str (colsB [Col.cnt r.fl.c.toNat, .cnt r.fl.r.toNat]))
  have o2 := oneL_len 2 (str (colsB (rowsC r.base)))
  have o3 := oneL_len 3 (str (colsB (marksC r.mks)))
  have o4 := oneL_len 4 (str (putL r.log.length))
  have o5 := oneL_len 5 (str (partL (dEnc (r.log.map (·.t.c))) ++ Rn.encRuns (r.log.map fun m => m.t.r.toNat)))
  have o6 := oneL_len 6 (str (partL (dEnc (r.log.map (·.pa))) ++ dEnc (r.log.map (·.ch))))
  have o7 := oneL_len 7 (str (Dc.encDict (r.log.map (·.nm))))
  have o8 := oneL_len 8 (str (ranksL (r.log.map (·.rk))))
  rw [str_size] at o1 o2 o3 o4 o5 o6 o7 o8
  have s1 : (colsB [Col.cnt r.fl.c.toNat, .cnt r.fl.r.toNat]).length = (putL r.fl.c.toNat).length + (putL r.fl.r.toNat).length := by
    unfold colsB
    simp only [List.flatMap_cons, List.flatMap_nil, List.length_append, List.length_nil, colB]
    omega
  have s2 : (colsB (rowsC r.base)).length = (putL r.base.length).length + ((partL (dEnc (r.base.map (·.ch)))).length + ((partL (dEnc (r.base.map (·.pa)))).length + ((partL (Dc.encDict (r.base.map (fun x : Rw => x.nm)))).length + (ranksL (r.base.map (·.rk))).length))) := by
    unfold colsB rowsC
    simp only [List.flatMap_cons, List.flatMap_nil, List.length_append, List.length_nil, colB]
    omega
  have s3 : (colsB (marksC r.mks)).length = (putL r.mks.length).length + ((partL (dEnc (r.mks.map (·.rep)))).length + (dEnc (r.mks.map (·.cnt))).length) := by
    unfold colsB marksC
    simp only [List.flatMap_cons, List.flatMap_nil, List.length_append, List.length_nil, colB]
    omega
  unfold allC sepC opC
  simp only [List.flatMap_cons, List.flatMap_nil, List.cons_append, List.nil_append, List.length_append, List.length_nil] at *
  omega
theorem fileS_len (r : Rp) : (fileS r).size ≤ 5 + ((allC r).flatMap Ck.oneL).length := by
  unfold fileS Ck.joinS
  split
  · rw [str_size]
    unfold Ck.joinL
    simp only [List.length_append, List.length_cons, List.length_nil]
    omega
  · exact Nat.zero_le _
theorem InvR.ok {j : Nat} {r : Rp} (h : InvR j r) (hj : j ≤ 45) : OkR r := by
  have h1 := allC_len h
  have h2 := fileS_len r
  have h3 := h.len
  have h4 := h.mlen
  refine ⟨h.wf (by omega), h.rk, ?_, ?_⟩ <;> omega
end Iv
end
section
open Go.RowKit Go.Shelf
attribute [local go_sem] Fl.run_store_float
namespace Pl
open Mem Tp Tr Mo Fo Sn Og St
theorem index_way0 (w : World) : (Instr.index 109 (.agg #[.int .i64 1, .func (.func 50) #[] #[], .int .i64 2, .func (.func 51) #[] #[], .int .i64 3, .func (.func 52) #[] #[], .int .i64 4, .func (.func 53) #[] #[]]) (.int .i64 0)).run Tryz.prog w = .ok (.agg #[.int .i64 1, .func (.func 50) #[] #[]]) w := by kernel_rfl
theorem index_way1 (w : World) : (Instr.index 109 (.agg #[.int .i64 1, .func (.func 50) #[] #[], .int .i64 2, .func (.func 51) #[] #[], .int .i64 3, .func (.func 52) #[] #[], .int .i64 4, .func (.func 53) #[] #[]]) (.int .i64 1)).run Tryz.prog w = .ok (.agg #[.int .i64 2, .func (.func 51) #[] #[]]) w := by kernel_rfl
theorem index_way2 (w : World) : (Instr.index 109 (.agg #[.int .i64 1, .func (.func 50) #[] #[], .int .i64 2, .func (.func 51) #[] #[], .int .i64 3, .func (.func 52) #[] #[], .int .i64 4, .func (.func 53) #[] #[]]) (.int .i64 2)).run Tryz.prog w = .ok (.agg #[.int .i64 3, .func (.func 52) #[] #[]]) w := by kernel_rfl
theorem index_way3 (w : World) : (Instr.index 109 (.agg #[.int .i64 1, .func (.func 50) #[] #[], .int .i64 2, .func (.func 51) #[] #[], .int .i64 3, .func (.func 52) #[] #[], .int .i64 4, .func (.func 53) #[] #[]]) (.int .i64 3)).run Tryz.prog w = .ok (.agg #[.int .i64 4, .func (.func 53) #[] #[]]) w := by kernel_rfl
attribute [local go_sem] index_way0 index_way1 index_way2 index_way3
theorem splice5 (l : List Value) (o : Nat) (v0 v1 v2 v3 v4 : Value) (h : o + 5 ≤ l.length) : ((((l.set o v0).set (o + 1) v1).set (o + 2) v2).set (o + 3) v3).set (o + 4) v4 = splice l o [v0, v1, v2, v3, v4] := by
  refine List.ext_getElem? fun i => ?_
  have hm : min o l.length = o := by omega
  unfold splice
  rw [List.getElem?_append, List.getElem?_append]
  simp only [List.length_take, List.length_cons, List.length_nil, List.getElem?_set, List.length_set, hm]
  by_cases q : i < o
  · rw [if_neg (by omega), if_neg (by omega), if_neg (by omega), if_neg (by omega), if_neg (by omega), if_pos (by omega), List.getElem?_take_of_lt q]
  · obtain ⟨d, rfl⟩ : ∃ d, i = o + d := ⟨i - o, by omega⟩
    have hd : o + d - o = d := by omega
    rcases (show d = 0 ∨ d = 1 ∨ d = 2 ∨ d = 3 ∨ d = 4 ∨ 5 ≤ d by omega) with q | q | q | q | q | q
    · subst q; simp [show o < l.length by omega]
    · subst q; simp [show o + 1 < l.length by omega]; intro h; omega
    · subst q; simp [show o + 2 < l.length by omega]; intro h; omega
    · subst q; simp [show o + 3 < l.length by omega]; intro h; omega
    · subst q; simp [show o + 4 < l.length by omega]; intro h; omega
    · rw [if_neg (by omega), if_neg (by omega), if_neg (by omega), if_neg (by omega), if_neg (by omega), if_neg (by omega), List.getElem?_drop, if_neg (by omega)]
      congr 1
      omega
theorem set5 {w : World} {b : Nat} {cs : List Value} {t : TypeId} (h : w.heap[b]? = some (.cells cs.toArray t (0, 0))) (o : Nat) (v0 v1 v2 v3 v4 : Value) (ho : o + 5 ≤ cs.length) :
    (((((w.setCell ⟨b, o, none⟩ v0).setCell ⟨b, o + 1, none⟩ v1).setCell ⟨b, o + 2, none⟩ v2).setCell ⟨b, o + 3, none⟩ v3).setCell ⟨b, o + 4, none⟩ v4).heap[b]? = some (.cells (splice cs o [v0, v1, v2, v3, v4]).toArray t (0, 0)) := by
  have h5 := set_at (set_at (set_at (set_at (set_at h o v0) (o + 1) v1) (o + 2) v2) (o + 3) v3) (o + 4) v4
  simp only [List.setIfInBounds_toArray] at h5
  rw [h5, splice5 cs o v0 v1 v2 v3 v4 ho]
theorem set5_other {w : World} {b j : Nat} (hj : j ≠ b) (o : Nat) (v0 v1 v2 v3 v4 : Value) :
    (((((w.setCell ⟨b, o, none⟩ v0).setCell ⟨b, o + 1, none⟩ v1).setCell ⟨b, o + 2, none⟩ v2).setCell ⟨b, o + 3, none⟩ v3).setCell ⟨b, o + 4, none⟩ v4).heap[j]? = w.heap[j]? :=
  (setCell_heap_other hj).trans ((setCell_heap_other hj).trans ((setCell_heap_other hj).trans ((setCell_heap_other hj).trans (setCell_heap_other hj))))
theorem set5_below {B : Nat} {w0 w : World} {b : Nat} (h : Below B w0 w) (hb : B ≤ b) (o : Nat) (v0 v1 v2 v3 v4 : Value) :
    Below B w0 (((((w.setCell ⟨b, o, none⟩ v0).setCell ⟨b, o + 1, none⟩ v1).setCell ⟨b, o + 2, none⟩ v2).setCell ⟨b, o + 3, none⟩ v3).setCell ⟨b, o + 4, none⟩ v4) :=
  ((((h.setCell (p := ⟨b, o, none⟩) hb v0).setCell (p := ⟨b, o + 1, none⟩) hb v1).setCell (p := ⟨b, o + 2, none⟩) hb v2).setCell (p := ⟨b, o + 3, none⟩) hb v3).setCell (p := ⟨b, o + 4, none⟩) hb v4
theorem pw_store {W W' : World} {base p b : Nat} {vp : Value} {xs : List X3} {pool : List Mv} (h : PW W base p b vp xs pool) {k : Nat} {y : X3} (hy : RepX W y) (hsep : ∀ j, blocks y j → j ≠ p ∧ j ≠ b ∧ vp.ownBlock ≠ some j)
    (hg : W'.heap[b]? = some (.cells ((xs.set k y).flatMap repC).toArray 34 (0, 0))) (ho : ∀ j, j ≠ b → W'.heap[j]? = W.heap[j]?) (hs : W.heap.size ≤ W'.heap.size) : PW W' base p b vp (xs.set k y) pool := by
  have hm : ∀ x ∈ xs.set k y, x = y ∨ x ∈ xs := fun x hx => (List.mem_or_eq_of_mem_set hx).symm
  refine ⟨by rw [List.length_set]; exact (ho _ h.pb).trans h.hp, hg, h.pb, h.bp, h.bb, own_other h.own (fun j e => ho j (h.pp j e).2), h.pp, fun x hx => ?_, fun x hx => ?_, by rw [List.length_set]; exact h.n1, by rw [List.length_set]; exact h.n8⟩
  · rcases hm x hx with rfl | hx
    · exact hy.same hs (fun j hj => ho j (hsep j hj).2.1)
    · exact (h.rep x hx).same hs (fun j hj => ho j (h.sep x hx j hj).2.1)
  · rcases hm x hx with rfl | hx
    · exact hsep
    · exact h.sep x hx
def PB (p b : Nat) (vp : Value) (xs : List X3) (j : Nat) : Prop := j = p ∨ j = b ∨ vp.ownBlock = some j ∨ ∃ x ∈ xs, blocks x j
theorem PW.same {W W' : World} {base p b : Nat} {vp : Value} {xs : List X3} {pool : List Mv} (h : PW W base p b vp xs pool) (hs : W.heap.size ≤ W'.heap.size) (ho : ∀ k, PB p b vp xs k → W'.heap[k]? = W.heap[k]?) : PW W' base p b vp xs pool :=
  ⟨(ho _ (.inl rfl)).trans h.hp, (ho _ (.inr (.inl rfl))).trans h.hb, h.pb, h.bp, h.bb, own_other h.own (fun j e => ho j (.inr (.inr (.inl e)))), h.pp, fun x hx => (h.rep x hx).same hs (fun k hk => ho k (.inr (.inr (.inr ⟨x, hx, hk⟩)))), h.sep, h.n1, h.n8⟩
theorem PW.lt {W : World} {base p b : Nat} {vp : Value} {xs : List X3} {pool : List Mv} (h : PW W base p b vp xs pool) {k : Nat} (hk : PB p b vp xs k) : k < W.heap.size := by
  rcases hk with rfl | rfl | e | ⟨x, hx, e⟩
  · exact lt_of_block h.hp
  · exact lt_of_block h.hb
  · exact (h.own.lt k e).2
  · exact (h.rep x hx).lt e
theorem pb_vp {p b n m : Nat} {vp vp' : Value} {xs : List X3} (hnv : ∀ j, vp'.ownBlock = some j → vp.ownBlock = some j ∨ n ≤ j) (hn : m ≤ n) : ∀ j, PB p b vp' xs j → PB p b vp xs j ∨ m ≤ j := fun j h => by
  rcases h with e | e | e | e
  · exact .inl (.inl e)
  · exact .inl (.inr (.inl e))
  · rcases hnv j e with e | e
    · exact .inl (.inr (.inr (.inl e)))
    · exact .inr (Nat.le_trans hn e)
  · exact .inl (.inr (.inr (.inr e)))
theorem pb_set {p b n m k : Nat} {vp vp' : Value} {xs : List X3} {x y : X3} (hx : xs[k]? = some x) (hnv : ∀ j, vp'.ownBlock = some j → vp.ownBlock = some j ∨ n ≤ j) (hbl : ∀ j, blocks y j → blocks x j ∨ n ≤ j) (hn : m ≤ n) : ∀ j, PB p b vp' (xs.set k y) j → PB p b vp xs j ∨ m ≤ j := fun j h => by
  rcases h with e | e | e | ⟨z, hz, e⟩
  · exact .inl (.inl e)
  · exact .inl (.inr (.inl e))
  · rcases hnv j e with e | e
    · exact .inl (.inr (.inr (.inl e)))
    · exact .inr (Nat.le_trans hn e)
  · rcases List.mem_or_eq_of_mem_set hz with hz | rfl
    · exact .inl (.inr (.inr (.inr ⟨z, hz, e⟩)))
    · rcases hbl j e with e | e
      · exact .inl (.inr (.inr (.inr ⟨x, List.mem_of_getElem? hx, e⟩)))
      · exact .inr (Nat.le_trans hn e)
def StepS (rs : List Rp) (pool : List Mv) (d : Dd) (rs' : List Rp) (pool' : List Mv) (c : Int) : Prop :=
  (c = 1 ∧ rs' = rs ∧ pool' = pool ∧ ((d.who < 1 ∨ (rs.length : Int) < d.who) ∨ (d.kind ≠ 1 ∧ d.kind ≠ 2 ∧ d.kind ≠ 3 ∧ d.kind ≠ 4))) ∨
  ∃ (k : Nat) (r r' : Rp), rs[k]? = some r ∧ d.who = (k : Int) + 1 ∧ StepR r d pool r' pool' c ∧ rs' = if c = 0 then rs.set k r' else rs
def StepC (base p b : Nat) (vp : Value) (xs : List X3) (pool : List Mv) (d : Dd) (w : World) (e : Ending) (w' : World) : Prop :=
  ∃ (vp' : Value) (xs' : List X3) (pool' : List Mv) (c : Int), e = .returned (.int .i64 c) ∧ StepS (xs.map (·.2)) pool d (xs'.map (·.2)) pool' c ∧ PW w' base p b vp' xs' pool' ∧ Below base w w' ∧ Kept (fun j => j = p ∨ j = b ∨ vp.ownBlock = some j) w w' ∧ ∀ j, PB p b vp' xs' j → PB p b vp xs j ∨ w.heap.size ≤ j
theorem step_not {base p b : Nat} {vp : Value} {xs : List X3} {pool : List Mv} (d : Dd) (w : World) (hP : PW w base p b vp xs pool) (hw : d.who < 1 ∨ (xs.length : Int) < d.who) :
    Calls Tryz.prog 23 #[.pointer (some ⟨p, 0, none⟩), dedV d] w (StepC base p b vp xs pool d w) := by
  have hb0 := (Below.refl w.heap.size w).alloc (Nat.le_refl _) (dedO d)
  have HR := Lib.hid (replica_not _ (hP.below hb0) d.who hw)
  have hF := Lib.hid (fun w' (h : Below w.heap.size w w') => (⟨vp, xs, pool, 1, rfl, .inl ⟨rfl, rfl, rfl, .inl (by rw [List.length_map]; exact hw)⟩, hP.below h, h.mono (Nat.le_trans hP.bp (Nat.le_of_lt (lt_of_block hP.hp))), Kept.of_below h, fun _ e => .inl e⟩ : StepC base p b vp xs pool d w (.returned (.int .i64 1)) w'))
  clear hw
  unfold dedV
  unfold dedO at *
  replace hb0 := Lib.hid hb0
  go_enter Tryz.func23, Tryz.ntmps23
  go_wp2_with fail
  refine HR.out.mono ?_
  rintro e w1 ⟨rfl, b1⟩
  have hb1 := Lib.hid ((hb0.out.trans (b1.mono hb0.out.size)).alloc (by have := hb0.out.size; have := b1.size; omega) rep0)
  unfold repV
  unfold rep0 at hb1
  go_wp2_with fail
  go_ret
  exact hF.out _ hb1.out
theorem step_fin {base p b k : Nat} {vp vp' v0 v1 v2 : Value} {xs : List X3} {pool pool' : List Mv} {x : X3} {yr : Rp} {d : Dd} {w W9 : World} {n : Nat} (hP9 : PW W9 base p b vp' xs pool') (hx : xs[k]? = some x) (hwho : d.who = (k : Int) + 1) (hy9 : RepX W9 (⟨v0, v1, v2⟩, yr)) (hsep : ∀ j, blocks (⟨v0, v1, v2⟩, yr) j → j ≠ p ∧ j ≠ b ∧ vp'.ownBlock ≠ some j)
    (hS : StepR x.2 d pool yr pool' 0) (hb9 : Below base w W9) (hk9 : Kept (fun k => k = p ∨ vp.ownBlock = some k) w W9) (hnv : ∀ j, vp'.ownBlock = some j → vp.ownBlock = some j ∨ n ≤ j) (hbl : ∀ j, blocks (⟨v0, v1, v2⟩, yr) j → blocks x j ∨ n ≤ j) (hn : w.heap.size ≤ n) :
    StepC base p b vp xs pool d w (.returned (.int .i64 0)) (((((W9.setCell ⟨b, k * 5, none⟩ v0).setCell ⟨b, k * 5 + 1, none⟩ (.int .i64 yr.fl.c)).setCell ⟨b, k * 5 + 2, none⟩ (.int .i64 yr.fl.r)).setCell ⟨b, k * 5 + 3, none⟩ v1).setCell ⟨b, k * 5 + 4, none⟩ v2).drew := by
  have hkn := (List.getElem?_eq_some_iff.1 hx).1
  have hfit : k * 5 + 5 ≤ (xs.flatMap repC).length := by rw [flat_length repC_len]; omega
  have hfl : splice (xs.flatMap repC) (k * 5) [v0, .int .i64 yr.fl.c, .int .i64 yr.fl.r, v1, v2] = (xs.set k (⟨v0, v1, v2⟩, yr)).flatMap repC := flat_splice repC_len xs k (⟨v0, v1, v2⟩, yr) hkn
  have hg10 := set5 hP9.hb (k * 5) v0 (.int .i64 yr.fl.c) (.int .i64 yr.fl.r) v1 v2 hfit
  have hb10 := set5_below hb9 hP9.bb (k * 5) v0 (.int .i64 yr.fl.c) (.int .i64 yr.fl.r) v1 v2
  have hO10 := fun j (hj : j ≠ b) => set5_other (w := W9) hj (k * 5) v0 (.int .i64 yr.fl.c) (.int .i64 yr.fl.r) v1 v2
  rw [hfl] at hg10
  obtain ⟨X, hX⟩ : ∃ X, ((((W9.setCell ⟨b, k * 5, none⟩ v0).setCell ⟨b, k * 5 + 1, none⟩ (.int .i64 yr.fl.c)).setCell ⟨b, k * 5 + 2, none⟩ (.int .i64 yr.fl.r)).setCell ⟨b, k * 5 + 3, none⟩ v1).setCell ⟨b, k * 5 + 4, none⟩ v2 = X := ⟨_, rfl⟩
  have hs : W9.heap.size ≤ X.heap.size := by rw [← hX]; simp [World.setCell]
  rw [hX] at hg10 hb10 hO10 ⊢
  clear hX
  exact ⟨vp', _, pool', 0, rfl, .inr ⟨k, x.2, yr, by rw [List.getElem?_map, hx]; rfl, hwho, hS, by rw [if_pos rfl, List.map_set]⟩, pw_store (W' := X.drew) hP9 hy9 hsep hg10 hO10 hs, hb10.drew, ⟨hb10.drew.os, hb10.drew.tape, hb10.drew.output, hb10.size, fun j hj ht => (hO10 j (fun e => ht (.inr (.inl e)))).trans (hk9.block j hj (fun e => ht (e.imp id .inr)))⟩, pb_set hx hnv hbl hn⟩
theorem step_in {base p b : Nat} {vp : Value} {xs : List X3} {pool : List Mv} (x : X3) (d : Dd) (k : Nat) (w : World) (hP : PW w base p b vp xs pool) (hx : xs[k]? = some x) (hwho : d.who = (k : Int) + 1)
    (H1 : d.kind = 1 → ∀ W, PW W base p b vp xs pool → Calls Tryz.prog 50 #[.pointer (some ⟨p, 0, none⟩), rpV x, dedV d] W (DidC base p b vp xs pool x d W))
    (H2 : d.kind = 2 → ∀ W, PW W base p b vp xs pool → Calls Tryz.prog 51 #[.pointer (some ⟨p, 0, none⟩), rpV x, dedV d] W (DidC base p b vp xs pool x d W))
    (H3 : d.kind = 3 → ∀ W, PW W base p b vp xs pool → Calls Tryz.prog 52 #[.pointer (some ⟨p, 0, none⟩), rpV x, dedV d] W (DidC base p b vp xs pool x d W))
    (H4 : d.kind = 4 → ∀ W, PW W base p b vp xs pool → Calls Tryz.prog 53 #[.pointer (some ⟨p, 0, none⟩), rpV x, dedV d] W (DidC base p b vp xs pool x d W)) :
    Calls Tryz.prog 23 #[.pointer (some ⟨p, 0, none⟩), dedV d] w (StepC base p b vp xs pool d w) := by
  have hX := hP.rep x (List.mem_of_getElem? hx)
  have hb0 := (Below.refl w.heap.size w).alloc (Nat.le_refl _) (dedO d)
  have HR := Lib.hid (replica_any _ (hP.below hb0) k _ hx)
  have gd := alloc_new w (dedO d)
  have hkn := (List.getElem?_eq_some_iff.1 hx).1
  have n8 := hP.n8
  replace H1 := Lib.hid H1
  replace H2 := Lib.hid H2
  replace H3 := Lib.hid H3
  replace H4 := Lib.hid H4
  obtain ⟨kind, who, frm, at_, pa, ch, nm, rk⟩ := d
  simp only at hwho
  subst hwho
  obtain ⟨ab, kb, eb⟩ := hX.b.len
  obtain ⟨al, kl, el⟩ := hX.l.len
  obtain ⟨am, km, em⟩ := hX.m.len
  obtain ⟨⟨vb, vl, vm⟩, r⟩ := x
  simp only at eb el em
  subst eb el em
  unfold dedV at *
  unfold dedO at *
  unfold rpV repV at *
  replace hb0 := Lib.hid hb0
  replace gd := Lib.hid gd
  replace hX := Lib.hid hX
  replace hx := Lib.hid hx
  replace hP := Lib.hid hP
  go_enter Tryz.func23, Tryz.ntmps23
  go_wp2_with fail
  refine HR.out.mono ?_
  rintro e w1 ⟨rfl, b1⟩
  have hs1 := b1.size
  simp only [World.size_alloc] at hs1
  have gd1 := alloc_at (.cells #[.slice ab r.base.length kb, .int .i64 r.fl.c, .int .i64 r.fl.r, .slice al r.log.length kl, .slice am r.mks.length km] 34) (below_at b1 gd.out (by simp))
  have gx1 := alloc_new w1 (.cells #[.slice ab r.base.length kb, .int .i64 r.fl.c, .int .i64 r.fl.r, .slice al r.log.length kl, .slice am r.mks.length km] 34)
  have hb1 := (hb0.out.trans (b1.mono hb0.out.size)).alloc (by omega) (.cells #[.slice ab r.base.length kb, .int .i64 r.fl.c, .int .i64 r.fl.r, .slice al r.log.length kl, .slice am r.mks.length km] 34)
  have hsz : (w1.alloc (.cells #[.slice ab r.base.length kb, .int .i64 r.fl.c, .int .i64 r.fl.r, .slice al r.log.length kl, .slice am r.mks.length km] 34)).heap.size = w1.heap.size + 1 := by simp
  replace gd1 := Lib.hid gd1
  replace gx1 := Lib.hid gx1
  replace hb1 := Lib.hid hb1
  replace hsz := Lib.hid hsz
  replace b1 := Lib.hid b1
  go_wp2_with fail
  generalize w1.alloc (.cells #[.slice ab r.base.length kb, .int .i64 r.fl.c, .int .i64 r.fl.r, .slice al r.log.length kl, .slice am r.mks.length km] 34) = W1 at *
  have ones : Hid (∀ v ∈ [Value.slice ab r.base.length kb, .int .i64 r.fl.c, .int .i64 r.fl.r, .slice al r.log.length kl, .slice am r.mks.length km], v.oneCell' = true) := Lib.hid (by
    intro v hv
    simp only [List.mem_cons, List.not_mem_nil, or_false] at hv
    rcases hv with rfl | rfl | rfl | rfl | rfl <;> rfl)
  go_loopw [25] (fun i wr => ∃ j : Nat, i = .int .i64 j ∧ j ≤ 4 ∧ Hid (Below W1.heap.size W1 wr) ∧ Hid (∀ z : Nat, z < j → kind ≠ (z : Int) + 1)) (fun i _ => 4 - (intOf i).toNat)
  case atStart => exact ⟨0, rfl, by omega, Lib.hid (Below.refl _ _), Lib.hid (fun z hz => absurd hz (by omega))⟩
  case round =>
    obtain ⟨j, rfl, hj, hbr, hno⟩ := hrel
    have hsr := hbr.out.size
    have gd2 := below_at hbr.out gd1.out (by have := hsz.out; omega)
    have gx2 := below_at hbr.out gx1.out (by have := hsz.out; omega)
    have hb2 := hb1.out.trans (hbr.out.mono (by have := hsz.out; omega))
    rcases (show j = 0 ∨ j = 1 ∨ j = 2 ∨ j = 3 ∨ j = 4 by omega) with rfl | rfl | rfl | rfl | rfl
    · have gd3 := alloc_at (.cells #[.int .i64 1, .func (.func 50) #[] #[]] 108) gd2
      have gx3 := alloc_at (.cells #[.int .i64 1, .func (.func 50) #[] #[]] 108) gx2
      have gw3 := alloc_new wr (.cells #[.int .i64 1, .func (.func 50) #[] #[]] 108)
      have hb3 := hb2.alloc (by have := hsz.out; omega) (.cells #[.int .i64 1, .func (.func 50) #[] #[]] 108)
      have hbr3 := hbr.out.alloc hsr (.cells #[.int .i64 1, .func (.func 50) #[] #[]] 108)
      have f0 : (wr.alloc (.cells #[.int .i64 1, .func (.func 50) #[] #[]] 108)).cell? ⟨w.heap.size, 0, none⟩ = some (.int .i64 kind) := cell_at gd3 0
      replace gd3 := Lib.hid gd3
      replace gx3 := Lib.hid gx3
      replace gw3 := Lib.hid gw3
      replace hb3 := Lib.hid hb3
      replace hbr3 := Lib.hid hbr3
      clear gd2 gx2 hb2
      by_cases hk : kind = 1
      · subst hk
        have f1 : (wr.alloc (.cells #[.int .i64 1, .func (.func 50) #[] #[]] 108)).cell? ⟨w.heap.size, 1, none⟩ = some (.int .i64 ((k : Int) + 1)) := cell_at gd3.out 1
        have f2 : (wr.alloc (.cells #[.int .i64 1, .func (.func 50) #[] #[]] 108)).cell? ⟨w.heap.size, 2, none⟩ = some (.int .i64 frm) := cell_at gd3.out 2
        have f3 : (wr.alloc (.cells #[.int .i64 1, .func (.func 50) #[] #[]] 108)).cell? ⟨w.heap.size, 3, none⟩ = some (.int .i64 at_) := cell_at gd3.out 3
        have f4 : (wr.alloc (.cells #[.int .i64 1, .func (.func 50) #[] #[]] 108)).cell? ⟨w.heap.size, 4, none⟩ = some (.int .i64 pa) := cell_at gd3.out 4
        have f5 : (wr.alloc (.cells #[.int .i64 1, .func (.func 50) #[] #[]] 108)).cell? ⟨w.heap.size, 5, none⟩ = some (.int .i64 ch) := cell_at gd3.out 5
        have f6 : (wr.alloc (.cells #[.int .i64 1, .func (.func 50) #[] #[]] 108)).cell? ⟨w.heap.size, 6, none⟩ = some (.string nm) := cell_at gd3.out 6
        have f7 : (wr.alloc (.cells #[.int .i64 1, .func (.func 50) #[] #[]] 108)).cell? ⟨w.heap.size, 7, none⟩ = some (.float .f64 rk) := cell_at gd3.out 7
        have x0 : (wr.alloc (.cells #[.int .i64 1, .func (.func 50) #[] #[]] 108)).cell? ⟨w1.heap.size, 0, none⟩ = some (.slice ab r.base.length kb) := cell_at gx3.out 0
        have x1 : (wr.alloc (.cells #[.int .i64 1, .func (.func 50) #[] #[]] 108)).cell? ⟨w1.heap.size, 1, none⟩ = some (.int .i64 r.fl.c) := cell_at gx3.out 1
        have x2 : (wr.alloc (.cells #[.int .i64 1, .func (.func 50) #[] #[]] 108)).cell? ⟨w1.heap.size, 2, none⟩ = some (.int .i64 r.fl.r) := cell_at gx3.out 2
        have x3 : (wr.alloc (.cells #[.int .i64 1, .func (.func 50) #[] #[]] 108)).cell? ⟨w1.heap.size, 3, none⟩ = some (.slice al r.log.length kl) := cell_at gx3.out 3
        have x4 : (wr.alloc (.cells #[.int .i64 1, .func (.func 50) #[] #[]] 108)).cell? ⟨w1.heap.size, 4, none⟩ = some (.slice am r.mks.length km) := cell_at gx3.out 4
        have y0 : (wr.alloc (.cells #[.int .i64 1, .func (.func 50) #[] #[]] 108)).cell? ⟨wr.heap.size, 0, none⟩ = some (.int .i64 1) := cell_at gw3.out 0
        have y1 : (wr.alloc (.cells #[.int .i64 1, .func (.func 50) #[] #[]] 108)).cell? ⟨wr.heap.size, 1, none⟩ = some (.func (.func 50) #[] #[]) := cell_at gw3.out 1
        go_wp2_with fail
        refine (H1.out trivial _ (hP.out.below hb3.out)).mono ?_
        rintro e w8 ⟨y, vp', pool', c, rfl, hS, hD⟩
        obtain ⟨⟨yb, yl, ym⟩, yr⟩ := y
        obtain ⟨ab', kb', eb⟩ := hD.ry.b.len
        obtain ⟨al', kl', el⟩ := hD.ry.l.len
        obtain ⟨am', km', em⟩ := hD.ry.m.len
        simp only at eb el em
        subst eb el em
        rw [show rpV (⟨.slice ab' yr.base.length kb', .slice al' yr.log.length kl', .slice am' yr.mks.length km'⟩, yr) = .agg #[.slice ab' yr.base.length kb', .int .i64 yr.fl.c, .int .i64 yr.fl.r, .slice al' yr.log.length kl', .slice am' yr.mks.length km'] from rfl]
        have hlp := lt_of_block hP.out.hp
        have s8 := hD.kp.size
        simp only [World.size_alloc] at s8
        have g8 := (hD.kp.block w.heap.size (by have := hsz.out; simp; omega) (fun e => e.elim (fun e => by omega) (fun e => by have := (hP.out.own.lt _ e).2; omega))).trans gd3.out
        have g9 := alloc_at (.cells #[.slice ab' yr.base.length kb', .int .i64 yr.fl.c, .int .i64 yr.fl.r, .slice al' yr.log.length kl', .slice am' yr.mks.length km'] 34) g8
        have z9 := alloc_new w8 (.cells #[.slice ab' yr.base.length kb', .int .i64 yr.fl.c, .int .i64 yr.fl.r, .slice al' yr.log.length kl', .slice am' yr.mks.length km'] 34)
        have hP9 := hD.pw.below ((Below.refl w8.heap.size w8).alloc (Nat.le_refl _) (.cells #[.slice ab' yr.base.length kb', .int .i64 yr.fl.c, .int .i64 yr.fl.r, .slice al' yr.log.length kl', .slice am' yr.mks.length km'] 34))
        have hbb := hP.out.bp
        have hb9 : Below base w (w8.alloc (.cells #[.slice ab' yr.base.length kb', .int .i64 yr.fl.c, .int .i64 yr.fl.r, .slice al' yr.log.length kl', .slice am' yr.mks.length km'] 34)) := ((hb3.out.mono (by omega)).trans hD.be).alloc (by have := hsz.out; omega) (.cells #[.slice ab' yr.base.length kb', .int .i64 yr.fl.c, .int .i64 yr.fl.r, .slice al' yr.log.length kl', .slice am' yr.mks.length km'] 34)
        have hk9 := ((Kept.of_below (T := fun k => k = p ∨ vp.ownBlock = some k) hb3.out).trans hD.kp).trans (Kept.of_below ((Below.refl w8.heap.size w8).alloc (Nat.le_refl _) (.cells #[.slice ab' yr.base.length kb', .int .i64 yr.fl.c, .int .i64 yr.fl.r, .slice al' yr.log.length kl', .slice am' yr.mks.length km'] 34)))
        have hy9 : RepX (w8.alloc (.cells #[.slice ab' yr.base.length kb', .int .i64 yr.fl.c, .int .i64 yr.fl.r, .slice al' yr.log.length kl', .slice am' yr.mks.length km'] 34)) (⟨.slice ab' yr.base.length kb', .slice al' yr.log.length kl', .slice am' yr.mks.length km'⟩, yr) := RepW.below hD.ry ((Below.refl w8.heap.size w8).alloc (Nat.le_refl _) (.cells #[.slice ab' yr.base.length kb', .int .i64 yr.fl.c, .int .i64 yr.fl.r, .slice al' yr.log.length kl', .slice am' yr.mks.length km'] 34))
        have hnv := hD.nv
        simp only [World.size_alloc] at hnv
        have hsep : ∀ j, blocks (⟨.slice ab' yr.base.length kb', .slice al' yr.log.length kl', .slice am' yr.mks.length km'⟩, yr) j → j ≠ p ∧ j ≠ b ∧ vp'.ownBlock ≠ some j := fun j hj => by
          rcases hD.bl j hj with h | ⟨h, h'⟩
          · exact hD.pw.sep _ (List.mem_of_getElem? hx.out) j h
          · have := lt_of_block hP.out.hb
            have := hsz.out
            simp only [World.size_alloc] at h
            exact ⟨by omega, by omega, h'⟩
        by_cases hc : c = 0
        · subst hc
          have c1 : (w8.alloc (.cells #[.slice ab' yr.base.length kb', .int .i64 yr.fl.c, .int .i64 yr.fl.r, .slice al' yr.log.length kl', .slice am' yr.mks.length km'] 34)).cell? ⟨w.heap.size, 1, none⟩ = some (.int .i64 ((k : Int) + 1)) := cell_at g9 1
          have p0 : (w8.alloc (.cells #[.slice ab' yr.base.length kb', .int .i64 yr.fl.c, .int .i64 yr.fl.r, .slice al' yr.log.length kl', .slice am' yr.mks.length km'] 34)).cell? ⟨p, 0, none⟩ = some (.slice (some ⟨b, 0, none⟩) xs.length xs.length) := cell_at hP9.hp 0
          have q0 : (w8.alloc (.cells #[.slice ab' yr.base.length kb', .int .i64 yr.fl.c, .int .i64 yr.fl.r, .slice al' yr.log.length kl', .slice am' yr.mks.length km'] 34)).cell? ⟨w8.heap.size, 0, none⟩ = some (.slice ab' yr.base.length kb') := cell_at z9 0
          have q1 : (w8.alloc (.cells #[.slice ab' yr.base.length kb', .int .i64 yr.fl.c, .int .i64 yr.fl.r, .slice al' yr.log.length kl', .slice am' yr.mks.length km'] 34)).cell? ⟨w8.heap.size, 1, none⟩ = some (.int .i64 yr.fl.c) := cell_at z9 1
          have q2 : (w8.alloc (.cells #[.slice ab' yr.base.length kb', .int .i64 yr.fl.c, .int .i64 yr.fl.r, .slice al' yr.log.length kl', .slice am' yr.mks.length km'] 34)).cell? ⟨w8.heap.size, 2, none⟩ = some (.int .i64 yr.fl.r) := cell_at z9 2
          have q3 : (w8.alloc (.cells #[.slice ab' yr.base.length kb', .int .i64 yr.fl.c, .int .i64 yr.fl.r, .slice al' yr.log.length kl', .slice am' yr.mks.length km'] 34)).cell? ⟨w8.heap.size, 3, none⟩ = some (.slice al' yr.log.length kl') := cell_at z9 3
          have q4 : (w8.alloc (.cells #[.slice ab' yr.base.length kb', .int .i64 yr.fl.c, .int .i64 yr.fl.r, .slice al' yr.log.length kl', .slice am' yr.mks.length km'] 34)).cell? ⟨w8.heap.size, 4, none⟩ = some (.slice am' yr.mks.length km') := cell_at z9 4
          have hw1 : IntKind.i64.wrap ((k : Int) + 1 - 1) = (k : Int) := by rw [IntKind.wrap_i64]; omega
          have hw2 : IntKind.i64.wrap (k : Int) = (k : Int) := by rw [IntKind.wrap_i64]; omega
          have e0 : (0 : Int) ≤ (k : Int) ∧ (k : Int) < (xs.length : Nat) := by omega
          have hfit : k * 5 + 5 ≤ (xs.flatMap repC).length := by rw [flat_length repC_len]; omega
          replace hP9 := Lib.hid hP9
          replace hb9 := Lib.hid hb9
          replace hk9 := Lib.hid hk9
          replace hy9 := Lib.hid hy9
          have hbl := Lib.hid hD.bl
          clear hD
          replace g9 := Lib.hid g9
          replace z9 := Lib.hid z9
          replace hnv := Lib.hid hnv
          replace hsep := Lib.hid hsep
          replace hS := Lib.hid hS
          clear g8 f0 f1 f2 f3 f4 f5 f6 f7 x0 x1 x2 x3 x4 y0 y1
          go_wp2_with fail
          generalize w8.alloc (.cells #[.slice ab' yr.base.length kb', .int .i64 yr.fl.c, .int .i64 yr.fl.r, .slice al' yr.log.length kl', .slice am' yr.mks.length km'] 34) = W9 at *
          obtain ⟨b0, b1', b2, b3, b4⟩ := hP9.out.cells hx.out
          have z0 : W9.frozen? ⟨b, k * 5, none⟩ = false := free_at hP9.out.hb (k * 5)
          have z1 : W9.frozen? ⟨b, k * 5 + 1, none⟩ = false := free_at hP9.out.hb (k * 5 + 1)
          have z2 : W9.frozen? ⟨b, k * 5 + 2, none⟩ = false := free_at hP9.out.hb (k * 5 + 2)
          have z3 : W9.frozen? ⟨b, k * 5 + 3, none⟩ = false := free_at hP9.out.hb (k * 5 + 3)
          have z4 : W9.frozen? ⟨b, k * 5 + 4, none⟩ = false := free_at hP9.out.hb (k * 5 + 4)
          go_region
          all_goals
            go_wp2_with fail
            go_ret
            exact step_fin hP9.out hx.out rfl hy9.out hsep.out hS.out hb9.out hk9.out hnv.out (fun j hj => (hbl.out j hj).imp id (fun h => by have := h.1; simp only [World.size_alloc] at this; omega)) (by have := hsz.out; omega)
        · have tc : ((c : Int) == 0) = false := by rw [beq_eq_false_iff_ne]; exact hc
          replace hP9 := Lib.hid hP9
          replace hb9 := Lib.hid hb9
          replace hk9 := Lib.hid hk9
          replace hnv := Lib.hid hnv
          replace hS := Lib.hid hS
          clear hD g9 z9 hy9 hsep g8 f0 f1 f2 f3 f4 f5 f6 f7 x0 x1 x2 x3 x4 y0 y1
          go_wp2_with fail
          go_ret
          exact ⟨vp', xs, pool', c, rfl, .inr ⟨k, r, yr, by rw [List.getElem?_map, hx.out]; rfl, rfl, hS.out, by rw [if_neg hc]⟩, hP9.out, hb9.out, hk9.out.mono (fun _ _ e => e.imp id .inr), pb_vp hnv.out (by have := hsz.out; omega)⟩
      · have tk : ((1 : Int) == kind) = false := by rw [beq_eq_false_iff_ne]; exact fun e => hk e.symm
        replace hk := Lib.hid hk
        go_wp2_with fail
        go_roundw
        case rel => exact ⟨1, rfl, by omega, hbr3, Lib.hid (fun z hz => by exact (show z < 0 ∨ z = 0 by omega).elim (fun h => hno.out z h) (fun e => by subst e; exact hk.out))⟩
        case measure => simp [intOf]
    · have gd3 := alloc_at (.cells #[.int .i64 2, .func (.func 51) #[] #[]] 108) gd2
      have gx3 := alloc_at (.cells #[.int .i64 2, .func (.func 51) #[] #[]] 108) gx2
      have gw3 := alloc_new wr (.cells #[.int .i64 2, .func (.func 51) #[] #[]] 108)
      have hb3 := hb2.alloc (by have := hsz.out; omega) (.cells #[.int .i64 2, .func (.func 51) #[] #[]] 108)
      have hbr3 := hbr.out.alloc hsr (.cells #[.int .i64 2, .func (.func 51) #[] #[]] 108)
      have f0 : (wr.alloc (.cells #[.int .i64 2, .func (.func 51) #[] #[]] 108)).cell? ⟨w.heap.size, 0, none⟩ = some (.int .i64 kind) := cell_at gd3 0
      replace gd3 := Lib.hid gd3
      replace gx3 := Lib.hid gx3
      replace gw3 := Lib.hid gw3
      replace hb3 := Lib.hid hb3
      replace hbr3 := Lib.hid hbr3
      clear gd2 gx2 hb2
      by_cases hk : kind = 2
      · subst hk
        have f1 : (wr.alloc (.cells #[.int .i64 2, .func (.func 51) #[] #[]] 108)).cell? ⟨w.heap.size, 1, none⟩ = some (.int .i64 ((k : Int) + 1)) := cell_at gd3.out 1
        have f2 : (wr.alloc (.cells #[.int .i64 2, .func (.func 51) #[] #[]] 108)).cell? ⟨w.heap.size, 2, none⟩ = some (.int .i64 frm) := cell_at gd3.out 2
        have f3 : (wr.alloc (.cells #[.int .i64 2, .func (.func 51) #[] #[]] 108)).cell? ⟨w.heap.size, 3, none⟩ = some (.int .i64 at_) := cell_at gd3.out 3
        have f4 : (wr.alloc (.cells #[.int .i64 2, .func (.func 51) #[] #[]] 108)).cell? ⟨w.heap.size, 4, none⟩ = some (.int .i64 pa) := cell_at gd3.out 4
        have f5 : (wr.alloc (.cells #[.int .i64 2, .func (.func 51) #[] #[]] 108)).cell? ⟨w.heap.size, 5, none⟩ = some (.int .i64 ch) := cell_at gd3.out 5
        have f6 : (wr.alloc (.cells #[.int .i64 2, .func (.func 51) #[] #[]] 108)).cell? ⟨w.heap.size, 6, none⟩ = some (.string nm) := cell_at gd3.out 6
        have f7 : (wr.alloc (.cells #[.int .i64 2, .func (.func 51) #[] #[]] 108)).cell? ⟨w.heap.size, 7, none⟩ = some (.float .f64 rk) := cell_at gd3.out 7
        have x0 : (wr.alloc (.cells #[.int .i64 2, .func (.func 51) #[] #[]] 108)).cell? ⟨w1.heap.size, 0, none⟩ = some (.slice ab r.base.length kb) := cell_at gx3.out 0
        have x1 : (wr.alloc (.cells #[.int .i64 2, .func (.func 51) #[] #[]] 108)).cell? ⟨w1.heap.size, 1, none⟩ = some (.int .i64 r.fl.c) := cell_at gx3.out 1
        have x2 : (wr.alloc (.cells #[.int .i64 2, .func (.func 51) #[] #[]] 108)).cell? ⟨w1.heap.size, 2, none⟩ = some (.int .i64 r.fl.r) := cell_at gx3.out 2
        have x3 : (wr.alloc (.cells #[.int .i64 2, .func (.func 51) #[] #[]] 108)).cell? ⟨w1.heap.size, 3, none⟩ = some (.slice al r.log.length kl) := cell_at gx3.out 3
        have x4 : (wr.alloc (.cells #[.int .i64 2, .func (.func 51) #[] #[]] 108)).cell? ⟨w1.heap.size, 4, none⟩ = some (.slice am r.mks.length km) := cell_at gx3.out 4
        have y0 : (wr.alloc (.cells #[.int .i64 2, .func (.func 51) #[] #[]] 108)).cell? ⟨wr.heap.size, 0, none⟩ = some (.int .i64 2) := cell_at gw3.out 0
        have y1 : (wr.alloc (.cells #[.int .i64 2, .func (.func 51) #[] #[]] 108)).cell? ⟨wr.heap.size, 1, none⟩ = some (.func (.func 51) #[] #[]) := cell_at gw3.out 1
        go_wp2_with fail
        refine (H2.out trivial _ (hP.out.below hb3.out)).mono ?_
        rintro e w8 ⟨y, vp', pool', c, rfl, hS, hD⟩
        obtain ⟨⟨yb, yl, ym⟩, yr⟩ := y
        obtain ⟨ab', kb', eb⟩ := hD.ry.b.len
        obtain ⟨al', kl', el⟩ := hD.ry.l.len
        obtain ⟨am', km', em⟩ := hD.ry.m.len
        simp only at eb el em
        subst eb el em
        rw [show rpV (⟨.slice ab' yr.base.length kb', .slice al' yr.log.length kl', .slice am' yr.mks.length km'⟩, yr) = .agg #[.slice ab' yr.base.length kb', .int .i64 yr.fl.c, .int .i64 yr.fl.r, .slice al' yr.log.length kl', .slice am' yr.mks.length km'] from rfl]
        have hlp := lt_of_block hP.out.hp
        have s8 := hD.kp.size
        simp only [World.size_alloc] at s8
        have g8 := (hD.kp.block w.heap.size (by have := hsz.out; simp; omega) (fun e => e.elim (fun e => by omega) (fun e => by have := (hP.out.own.lt _ e).2; omega))).trans gd3.out
        have g9 := alloc_at (.cells #[.slice ab' yr.base.length kb', .int .i64 yr.fl.c, .int .i64 yr.fl.r, .slice al' yr.log.length kl', .slice am' yr.mks.length km'] 34) g8
        have z9 := alloc_new w8 (.cells #[.slice ab' yr.base.length kb', .int .i64 yr.fl.c, .int .i64 yr.fl.r, .slice al' yr.log.length kl', .slice am' yr.mks.length km'] 34)
        have hP9 := hD.pw.below ((Below.refl w8.heap.size w8).alloc (Nat.le_refl _) (.cells #[.slice ab' yr.base.length kb', .int .i64 yr.fl.c, .int .i64 yr.fl.r, .slice al' yr.log.length kl', .slice am' yr.mks.length km'] 34))
        have hbb := hP.out.bp
        have hb9 : Below base w (w8.alloc (.cells #[.slice ab' yr.base.length kb', .int .i64 yr.fl.c, .int .i64 yr.fl.r, .slice al' yr.log.length kl', .slice am' yr.mks.length km'] 34)) := ((hb3.out.mono (by omega)).trans hD.be).alloc (by have := hsz.out; omega) (.cells #[.slice ab' yr.base.length kb', .int .i64 yr.fl.c, .int .i64 yr.fl.r, .slice al' yr.log.length kl', .slice am' yr.mks.length km'] 34)
        have hk9 := ((Kept.of_below (T := fun k => k = p ∨ vp.ownBlock = some k) hb3.out).trans hD.kp).trans (Kept.of_below ((Below.refl w8.heap.size w8).alloc (Nat.le_refl _) (.cells #[.slice ab' yr.base.length kb', .int .i64 yr.fl.c, .int .i64 yr.fl.r, .slice al' yr.log.length kl', .slice am' yr.mks.length km'] 34)))
        have hy9 : RepX (w8.alloc (.cells #[.slice ab' yr.base.length kb', .int .i64 yr.fl.c, .int .i64 yr.fl.r, .slice al' yr.log.length kl', .slice am' yr.mks.length km'] 34)) (⟨.slice ab' yr.base.length kb', .slice al' yr.log.length kl', .slice am' yr.mks.length km'⟩, yr) := RepW.below hD.ry ((Below.refl w8.heap.size w8).alloc (Nat.le_refl _) (.cells #[.slice ab' yr.base.length kb', .int .i64 yr.fl.c, .int .i64 yr.fl.r, .slice al' yr.log.length kl', .slice am' yr.mks.length km'] 34))
        have hnv := hD.nv
        simp only [World.size_alloc] at hnv
        have hsep : ∀ j, blocks (⟨.slice ab' yr.base.length kb', .slice al' yr.log.length kl', .slice am' yr.mks.length km'⟩, yr) j → j ≠ p ∧ j ≠ b ∧ vp'.ownBlock ≠ some j := fun j hj => by
          rcases hD.bl j hj with h | ⟨h, h'⟩
          · exact hD.pw.sep _ (List.mem_of_getElem? hx.out) j h
          · have := lt_of_block hP.out.hb
            have := hsz.out
            simp only [World.size_alloc] at h
            exact ⟨by omega, by omega, h'⟩
        by_cases hc : c = 0
        · subst hc
          have c1 : (w8.alloc (.cells #[.slice ab' yr.base.length kb', .int .i64 yr.fl.c, .int .i64 yr.fl.r, .slice al' yr.log.length kl', .slice am' yr.mks.length km'] 34)).cell? ⟨w.heap.size, 1, none⟩ = some (.int .i64 ((k : Int) + 1)) := cell_at g9 1
          have p0 : (w8.alloc (.cells #[.slice ab' yr.base.length kb', .int .i64 yr.fl.c, .int .i64 yr.fl.r, .slice al' yr.log.length kl', .slice am' yr.mks.length km'] 34)).cell? ⟨p, 0, none⟩ = some (.slice (some ⟨b, 0, none⟩) xs.length xs.length) := cell_at hP9.hp 0
          have q0 : (w8.alloc (.cells #[.slice ab' yr.base.length kb', .int .i64 yr.fl.c, .int .i64 yr.fl.r, .slice al' yr.log.length kl', .slice am' yr.mks.length km'] 34)).cell? ⟨w8.heap.size, 0, none⟩ = some (.slice ab' yr.base.length kb') := cell_at z9 0
          have q1 : (w8.alloc (.cells #[.slice ab' yr.base.length kb', .int .i64 yr.fl.c, .int .i64 yr.fl.r, .slice al' yr.log.length kl', .slice am' yr.mks.length km'] 34)).cell? ⟨w8.heap.size, 1, none⟩ = some (.int .i64 yr.fl.c) := cell_at z9 1
          have q2 : (w8.alloc (.cells #[.slice ab' yr.base.length kb', .int .i64 yr.fl.c, .int .i64 yr.fl.r, .slice al' yr.log.length kl', .slice am' yr.mks.length km'] 34)).cell? ⟨w8.heap.size, 2, none⟩ = some (.int .i64 yr.fl.r) := cell_at z9 2
          have q3 : (w8.alloc (.cells #[.slice ab' yr.base.length kb', .int .i64 yr.fl.c, .int .i64 yr.fl.r, .slice al' yr.log.length kl', .slice am' yr.mks.length km'] 34)).cell? ⟨w8.heap.size, 3, none⟩ = some (.slice al' yr.log.length kl') := cell_at z9 3
          have q4 : (w8.alloc (.cells #[.slice ab' yr.base.length kb', .int .i64 yr.fl.c, .int .i64 yr.fl.r, .slice al' yr.log.length kl', .slice am' yr.mks.length km'] 34)).cell? ⟨w8.heap.size, 4, none⟩ = some (.slice am' yr.mks.length km') := cell_at z9 4
          have hw1 : IntKind.i64.wrap ((k : Int) + 1 - 1) = (k : Int) := by rw [IntKind.wrap_i64]; omega
          have hw2 : IntKind.i64.wrap (k : Int) = (k : Int) := by rw [IntKind.wrap_i64]; omega
          have e0 : (0 : Int) ≤ (k : Int) ∧ (k : Int) < (xs.length : Nat) := by omega
          have hfit : k * 5 + 5 ≤ (xs.flatMap repC).length := by rw [flat_length repC_len]; omega
          replace hP9 := Lib.hid hP9
          replace hb9 := Lib.hid hb9
          replace hk9 := Lib.hid hk9
          replace hy9 := Lib.hid hy9
          have hbl := Lib.hid hD.bl
          clear hD
          replace g9 := Lib.hid g9
          replace z9 := Lib.hid z9
          replace hnv := Lib.hid hnv
          replace hsep := Lib.hid hsep
          replace hS := Lib.hid hS
          clear g8 f0 f1 f2 f3 f4 f5 f6 f7 x0 x1 x2 x3 x4 y0 y1
          go_wp2_with fail
          generalize w8.alloc (.cells #[.slice ab' yr.base.length kb', .int .i64 yr.fl.c, .int .i64 yr.fl.r, .slice al' yr.log.length kl', .slice am' yr.mks.length km'] 34) = W9 at *
          obtain ⟨b0, b1', b2, b3, b4⟩ := hP9.out.cells hx.out
          have z0 : W9.frozen? ⟨b, k * 5, none⟩ = false := free_at hP9.out.hb (k * 5)
          have z1 : W9.frozen? ⟨b, k * 5 + 1, none⟩ = false := free_at hP9.out.hb (k * 5 + 1)
          have z2 : W9.frozen? ⟨b, k * 5 + 2, none⟩ = false := free_at hP9.out.hb (k * 5 + 2)
          have z3 : W9.frozen? ⟨b, k * 5 + 3, none⟩ = false := free_at hP9.out.hb (k * 5 + 3)
          have z4 : W9.frozen? ⟨b, k * 5 + 4, none⟩ = false := free_at hP9.out.hb (k * 5 + 4)
          go_region
          all_goals
            go_wp2_with fail
            go_ret
            exact step_fin hP9.out hx.out rfl hy9.out hsep.out hS.out hb9.out hk9.out hnv.out (fun j hj => (hbl.out j hj).imp id (fun h => by have := h.1; simp only [World.size_alloc] at this; omega)) (by have := hsz.out; omega)
        · have tc : ((c : Int) == 0) = false := by rw [beq_eq_false_iff_ne]; exact hc
          replace hP9 := Lib.hid hP9
          replace hb9 := Lib.hid hb9
          replace hk9 := Lib.hid hk9
          replace hnv := Lib.hid hnv
          replace hS := Lib.hid hS
          clear hD g9 z9 hy9 hsep g8 f0 f1 f2 f3 f4 f5 f6 f7 x0 x1 x2 x3 x4 y0 y1
          go_wp2_with fail
          go_ret
          exact ⟨vp', xs, pool', c, rfl, .inr ⟨k, r, yr, by rw [List.getElem?_map, hx.out]; rfl, rfl, hS.out, by rw [if_neg hc]⟩, hP9.out, hb9.out, hk9.out.mono (fun _ _ e => e.imp id .inr), pb_vp hnv.out (by have := hsz.out; omega)⟩
      · have tk : ((2 : Int) == kind) = false := by rw [beq_eq_false_iff_ne]; exact fun e => hk e.symm
        replace hk := Lib.hid hk
        go_wp2_with fail
        go_roundw
        case rel => exact ⟨2, rfl, by omega, hbr3, Lib.hid (fun z hz => by exact (show z < 1 ∨ z = 1 by omega).elim (fun h => hno.out z h) (fun e => by subst e; exact hk.out))⟩
        case measure => simp [intOf]
    · have gd3 := alloc_at (.cells #[.int .i64 3, .func (.func 52) #[] #[]] 108) gd2
      have gx3 := alloc_at (.cells #[.int .i64 3, .func (.func 52) #[] #[]] 108) gx2
      have gw3 := alloc_new wr (.cells #[.int .i64 3, .func (.func 52) #[] #[]] 108)
      have hb3 := hb2.alloc (by have := hsz.out; omega) (.cells #[.int .i64 3, .func (.func 52) #[] #[]] 108)
      have hbr3 := hbr.out.alloc hsr (.cells #[.int .i64 3, .func (.func 52) #[] #[]] 108)
      have f0 : (wr.alloc (.cells #[.int .i64 3, .func (.func 52) #[] #[]] 108)).cell? ⟨w.heap.size, 0, none⟩ = some (.int .i64 kind) := cell_at gd3 0
      replace gd3 := Lib.hid gd3
      replace gx3 := Lib.hid gx3
      replace gw3 := Lib.hid gw3
      replace hb3 := Lib.hid hb3
      replace hbr3 := Lib.hid hbr3
      clear gd2 gx2 hb2
      by_cases hk : kind = 3
      · subst hk
        have f1 : (wr.alloc (.cells #[.int .i64 3, .func (.func 52) #[] #[]] 108)).cell? ⟨w.heap.size, 1, none⟩ = some (.int .i64 ((k : Int) + 1)) := cell_at gd3.out 1
        have f2 : (wr.alloc (.cells #[.int .i64 3, .func (.func 52) #[] #[]] 108)).cell? ⟨w.heap.size, 2, none⟩ = some (.int .i64 frm) := cell_at gd3.out 2
        have f3 : (wr.alloc (.cells #[.int .i64 3, .func (.func 52) #[] #[]] 108)).cell? ⟨w.heap.size, 3, none⟩ = some (.int .i64 at_) := cell_at gd3.out 3
        have f4 : (wr.alloc (.cells #[.int .i64 3, .func (.func 52) #[] #[]] 108)).cell? ⟨w.heap.size, 4, none⟩ = some (.int .i64 pa) := cell_at gd3.out 4
        have f5 : (wr.alloc (.cells #[.int .i64 3, .func (.func 52) #[] #[]] 108)).cell? ⟨w.heap.size, 5, none⟩ = some (.int .i64 ch) := cell_at gd3.out 5
        have f6 : (wr.alloc (.cells #[.int .i64 3, .func (.func 52) #[] #[]] 108)).cell? ⟨w.heap.size, 6, none⟩ = some (.string nm) := cell_at gd3.out 6
        have f7 : (wr.alloc (.cells #[.int .i64 3, .func (.func 52) #[] #[]] 108)).cell? ⟨w.heap.size, 7, none⟩ = some (.float .f64 rk) := cell_at gd3.out 7
        have x0 : (wr.alloc (.cells #[.int .i64 3, .func (.func 52) #[] #[]] 108)).cell? ⟨w1.heap.size, 0, none⟩ = some (.slice ab r.base.length kb) := cell_at gx3.out 0
        have x1 : (wr.alloc (.cells #[.int .i64 3, .func (.func 52) #[] #[]] 108)).cell? ⟨w1.heap.size, 1, none⟩ = some (.int .i64 r.fl.c) := cell_at gx3.out 1
        have x2 : (wr.alloc (.cells #[.int .i64 3, .func (.func 52) #[] #[]] 108)).cell? ⟨w1.heap.size, 2, none⟩ = some (.int .i64 r.fl.r) := cell_at gx3.out 2
        have x3 : (wr.alloc (.cells #[.int .i64 3, .func (.func 52) #[] #[]] 108)).cell? ⟨w1.heap.size, 3, none⟩ = some (.slice al r.log.length kl) := cell_at gx3.out 3
        have x4 : (wr.alloc (.cells #[.int .i64 3, .func (.func 52) #[] #[]] 108)).cell? ⟨w1.heap.size, 4, none⟩ = some (.slice am r.mks.length km) := cell_at gx3.out 4
        have y0 : (wr.alloc (.cells #[.int .i64 3, .func (.func 52) #[] #[]] 108)).cell? ⟨wr.heap.size, 0, none⟩ = some (.int .i64 3) := cell_at gw3.out 0
        have y1 : (wr.alloc (.cells #[.int .i64 3, .func (.func 52) #[] #[]] 108)).cell? ⟨wr.heap.size, 1, none⟩ = some (.func (.func 52) #[] #[]) := cell_at gw3.out 1
        go_wp2_with fail
        refine (H3.out trivial _ (hP.out.below hb3.out)).mono ?_
        rintro e w8 ⟨y, vp', pool', c, rfl, hS, hD⟩
        obtain ⟨⟨yb, yl, ym⟩, yr⟩ := y
        obtain ⟨ab', kb', eb⟩ := hD.ry.b.len
        obtain ⟨al', kl', el⟩ := hD.ry.l.len
        obtain ⟨am', km', em⟩ := hD.ry.m.len
        simp only at eb el em
        subst eb el em
        rw [show rpV (⟨.slice ab' yr.base.length kb', .slice al' yr.log.length kl', .slice am' yr.mks.length km'⟩, yr) = .agg #[.slice ab' yr.base.length kb', .int .i64 yr.fl.c, .int .i64 yr.fl.r, .slice al' yr.log.length kl', .slice am' yr.mks.length km'] from rfl]
        have hlp := lt_of_block hP.out.hp
        have s8 := hD.kp.size
        simp only [World.size_alloc] at s8
        have g8 := (hD.kp.block w.heap.size (by have := hsz.out; simp; omega) (fun e => e.elim (fun e => by omega) (fun e => by have := (hP.out.own.lt _ e).2; omega))).trans gd3.out
        have g9 := alloc_at (.cells #[.slice ab' yr.base.length kb', .int .i64 yr.fl.c, .int .i64 yr.fl.r, .slice al' yr.log.length kl', .slice am' yr.mks.length km'] 34) g8
        have z9 := alloc_new w8 (.cells #[.slice ab' yr.base.length kb', .int .i64 yr.fl.c, .int .i64 yr.fl.r, .slice al' yr.log.length kl', .slice am' yr.mks.length km'] 34)
        have hP9 := hD.pw.below ((Below.refl w8.heap.size w8).alloc (Nat.le_refl _) (.cells #[.slice ab' yr.base.length kb', .int .i64 yr.fl.c, .int .i64 yr.fl.r, .slice al' yr.log.length kl', .slice am' yr.mks.length km'] 34))
        have hbb := hP.out.bp
        have hb9 : Below base w (w8.alloc (.cells #[.slice ab' yr.base.length kb', .int .i64 yr.fl.c, .int .i64 yr.fl.r, .slice al' yr.log.length kl', .slice am' yr.mks.length km'] 34)) := ((hb3.out.mono (by omega)).trans hD.be).alloc (by have := hsz.out; omega) (.cells #[.slice ab' yr.base.length kb', .int .i64 yr.fl.c, .int .i64 yr.fl.r, .slice al' yr.log.length kl', .slice am' yr.mks.length km'] 34)
        have hk9 := ((Kept.of_below (T := fun k => k = p ∨ vp.ownBlock = some k) hb3.out).trans hD.kp).trans (Kept.of_below ((Below.refl w8.heap.size w8).alloc (Nat.le_refl _) (.cells #[.slice ab' yr.base.length kb', .int .i64 yr.fl.c, .int .i64 yr.fl.r, .slice al' yr.log.length kl', .slice am' yr.mks.length km'] 34)))
        have hy9 : RepX (w8.alloc (.cells #[.slice ab' yr.base.length kb', .int .i64 yr.fl.c, .int .i64 yr.fl.r, .slice al' yr.log.length kl', .slice am' yr.mks.length km'] 34)) (⟨.slice ab' yr.base.length kb', .slice al' yr.log.length kl', .slice am' yr.mks.length km'⟩, yr) := RepW.below hD.ry ((Below.refl w8.heap.size w8).alloc (Nat.le_refl _) (.cells #[.slice ab' yr.base.length kb', .int .i64 yr.fl.c, .int .i64 yr.fl.r, .slice al' yr.log.length kl', .slice am' yr.mks.length km'] 34))
        have hnv := hD.nv
        simp only [World.size_alloc] at hnv
        have hsep : ∀ j, blocks (⟨.slice ab' yr.base.length kb', .slice al' yr.log.length kl', .slice am' yr.mks.length km'⟩, yr) j → j ≠ p ∧ j ≠ b ∧ vp'.ownBlock ≠ some j := fun j hj => by
          rcases hD.bl j hj with h | ⟨h, h'⟩
          · exact hD.pw.sep _ (List.mem_of_getElem? hx.out) j h
          · have := lt_of_block hP.out.hb
            have := hsz.out
            simp only [World.size_alloc] at h
            exact ⟨by omega, by omega, h'⟩
        by_cases hc : c = 0
        · subst hc
          have c1 : (w8.alloc (.cells #[.slice ab' yr.base.length kb', .int .i64 yr.fl.c, .int .i64 yr.fl.r, .slice al' yr.log.length kl', .slice am' yr.mks.length km'] 34)).cell? ⟨w.heap.size, 1, none⟩ = some (.int .i64 ((k : Int) + 1)) := cell_at g9 1
          have p0 : (w8.alloc (.cells #[.slice ab' yr.base.length kb', .int .i64 yr.fl.c, .int .i64 yr.fl.r, .slice al' yr.log.length kl', .slice am' yr.mks.length km'] 34)).cell? ⟨p, 0, none⟩ = some (.slice (some ⟨b, 0, none⟩) xs.length xs.length) := cell_at hP9.hp 0
          have q0 : (w8.alloc (.cells #[.slice ab' yr.base.length kb', .int .i64 yr.fl.c, .int .i64 yr.fl.r, .slice al' yr.log.length kl', .slice am' yr.mks.length km'] 34)).cell? ⟨w8.heap.size, 0, none⟩ = some (.slice ab' yr.base.length kb') := cell_at z9 0
          have q1 : (w8.alloc (.cells #[.slice ab' yr.base.length kb', .int .i64 yr.fl.c, .int .i64 yr.fl.r, .slice al' yr.log.length kl', .slice am' yr.mks.length km'] 34)).cell? ⟨w8.heap.size, 1, none⟩ = some (.int .i64 yr.fl.c) := cell_at z9 1
          have q2 : (w8.alloc (.cells #[.slice ab' yr.base.length kb', .int .i64 yr.fl.c, .int .i64 yr.fl.r, .slice al' yr.log.length kl', .slice am' yr.mks.length km'] 34)).cell? ⟨w8.heap.size, 2, none⟩ = some (.int .i64 yr.fl.r) := cell_at z9 2
          have q3 : (w8.alloc (.cells #[.slice ab' yr.base.length kb', .int .i64 yr.fl.c, .int .i64 yr.fl.r, .slice al' yr.log.length kl', .slice am' yr.mks.length km'] 34)).cell? ⟨w8.heap.size, 3, none⟩ = some (.slice al' yr.log.length kl') := cell_at z9 3
          have q4 : (w8.alloc (.cells #[.slice ab' yr.base.length kb', .int .i64 yr.fl.c, .int .i64 yr.fl.r, .slice al' yr.log.length kl', .slice am' yr.mks.length km'] 34)).cell? ⟨w8.heap.size, 4, none⟩ = some (.slice am' yr.mks.length km') := cell_at z9 4
          have hw1 : IntKind.i64.wrap ((k : Int) + 1 - 1) = (k : Int) := by rw [IntKind.wrap_i64]; omega
          have hw2 : IntKind.i64.wrap (k : Int) = (k : Int) := by rw [IntKind.wrap_i64]; omega
          have e0 : (0 : Int) ≤ (k : Int) ∧ (k : Int) < (xs.length : Nat) := by omega
          have hfit : k * 5 + 5 ≤ (xs.flatMap repC).length := by rw [flat_length repC_len]; omega
          replace hP9 := Lib.hid hP9
          replace hb9 := Lib.hid hb9
          replace hk9 := Lib.hid hk9
          replace hy9 := Lib.hid hy9
          have hbl := Lib.hid hD.bl
          clear hD
          replace g9 := Lib.hid g9
          replace z9 := Lib.hid z9
          replace hnv := Lib.hid hnv
          replace hsep := Lib.hid hsep
          replace hS := Lib.hid hS
          clear g8 f0 f1 f2 f3 f4 f5 f6 f7 x0 x1 x2 x3 x4 y0 y1
          go_wp2_with fail
          generalize w8.alloc (.cells #[.slice ab' yr.base.length kb', .int .i64 yr.fl.c, .int .i64 yr.fl.r, .slice al' yr.log.length kl', .slice am' yr.mks.length km'] 34) = W9 at *
          obtain ⟨b0, b1', b2, b3, b4⟩ := hP9.out.cells hx.out
          have z0 : W9.frozen? ⟨b, k * 5, none⟩ = false := free_at hP9.out.hb (k * 5)
          have z1 : W9.frozen? ⟨b, k * 5 + 1, none⟩ = false := free_at hP9.out.hb (k * 5 + 1)
          have z2 : W9.frozen? ⟨b, k * 5 + 2, none⟩ = false := free_at hP9.out.hb (k * 5 + 2)
          have z3 : W9.frozen? ⟨b, k * 5 + 3, none⟩ = false := free_at hP9.out.hb (k * 5 + 3)
          have z4 : W9.frozen? ⟨b, k * 5 + 4, none⟩ = false := free_at hP9.out.hb (k * 5 + 4)
          go_region
          all_goals
            go_wp2_with fail
            go_ret
            exact step_fin hP9.out hx.out rfl hy9.out hsep.out hS.out hb9.out hk9.out hnv.out (fun j hj => (hbl.out j hj).imp id (fun h => by have := h.1; simp only [World.size_alloc] at this; omega)) (by have := hsz.out; omega)
        · have tc : ((c : Int) == 0) = false := by rw [beq_eq_false_iff_ne]; exact hc
          replace hP9 := Lib.hid hP9
          replace hb9 := Lib.hid hb9
          replace hk9 := Lib.hid hk9
          replace hnv := Lib.hid hnv
          replace hS := Lib.hid hS
          clear hD g9 z9 hy9 hsep g8 f0 f1 f2 f3 f4 f5 f6 f7 x0 x1 x2 x3 x4 y0 y1
          go_wp2_with fail
          go_ret
          exact ⟨vp', xs, pool', c, rfl, .inr ⟨k, r, yr, by rw [List.getElem?_map, hx.out]; rfl, rfl, hS.out, by rw [if_neg hc]⟩, hP9.out, hb9.out, hk9.out.mono (fun _ _ e => e.imp id .inr), pb_vp hnv.out (by have := hsz.out; omega)⟩
      · have tk : ((3 : Int) == kind) = false := by rw [beq_eq_false_iff_ne]; exact fun e => hk e.symm
        replace hk := Lib.hid hk
        go_wp2_with fail
        go_roundw
        case rel => exact ⟨3, rfl, by omega, hbr3, Lib.hid (fun z hz => by exact (show z < 2 ∨ z = 2 by omega).elim (fun h => hno.out z h) (fun e => by subst e; exact hk.out))⟩
        case measure => simp [intOf]
    · have gd3 := alloc_at (.cells #[.int .i64 4, .func (.func 53) #[] #[]] 108) gd2
      have gx3 := alloc_at (.cells #[.int .i64 4, .func (.func 53) #[] #[]] 108) gx2
      have gw3 := alloc_new wr (.cells #[.int .i64 4, .func (.func 53) #[] #[]] 108)
      have hb3 := hb2.alloc (by have := hsz.out; omega) (.cells #[.int .i64 4, .func (.func 53) #[] #[]] 108)
      have hbr3 := hbr.out.alloc hsr (.cells #[.int .i64 4, .func (.func 53) #[] #[]] 108)
      have f0 : (wr.alloc (.cells #[.int .i64 4, .func (.func 53) #[] #[]] 108)).cell? ⟨w.heap.size, 0, none⟩ = some (.int .i64 kind) := cell_at gd3 0
      replace gd3 := Lib.hid gd3
      replace gx3 := Lib.hid gx3
      replace gw3 := Lib.hid gw3
      replace hb3 := Lib.hid hb3
      replace hbr3 := Lib.hid hbr3
      clear gd2 gx2 hb2
      by_cases hk : kind = 4
      · subst hk
        have f1 : (wr.alloc (.cells #[.int .i64 4, .func (.func 53) #[] #[]] 108)).cell? ⟨w.heap.size, 1, none⟩ = some (.int .i64 ((k : Int) + 1)) := cell_at gd3.out 1
        have f2 : (wr.alloc (.cells #[.int .i64 4, .func (.func 53) #[] #[]] 108)).cell? ⟨w.heap.size, 2, none⟩ = some (.int .i64 frm) := cell_at gd3.out 2
        have f3 : (wr.alloc (.cells #[.int .i64 4, .func (.func 53) #[] #[]] 108)).cell? ⟨w.heap.size, 3, none⟩ = some (.int .i64 at_) := cell_at gd3.out 3
        have f4 : (wr.alloc (.cells #[.int .i64 4, .func (.func 53) #[] #[]] 108)).cell? ⟨w.heap.size, 4, none⟩ = some (.int .i64 pa) := cell_at gd3.out 4
        have f5 : (wr.alloc (.cells #[.int .i64 4, .func (.func 53) #[] #[]] 108)).cell? ⟨w.heap.size, 5, none⟩ = some (.int .i64 ch) := cell_at gd3.out 5
        have f6 : (wr.alloc (.cells #[.int .i64 4, .func (.func 53) #[] #[]] 108)).cell? ⟨w.heap.size, 6, none⟩ = some (.string nm) := cell_at gd3.out 6
        have f7 : (wr.alloc (.cells #[.int .i64 4, .func (.func 53) #[] #[]] 108)).cell? ⟨w.heap.size, 7, none⟩ = some (.float .f64 rk) := cell_at gd3.out 7
        have x0 : (wr.alloc (.cells #[.int .i64 4, .func (.func 53) #[] #[]] 108)).cell? ⟨w1.heap.size, 0, none⟩ = some (.slice ab r.base.length kb) := cell_at gx3.out 0
        have x1 : (wr.alloc (.cells #[.int .i64 4, .func (.func 53) #[] #[]] 108)).cell? ⟨w1.heap.size, 1, none⟩ = some (.int .i64 r.fl.c) := cell_at gx3.out 1
        have x2 : (wr.alloc (.cells #[.int .i64 4, .func (.func 53) #[] #[]] 108)).cell? ⟨w1.heap.size, 2, none⟩ = some (.int .i64 r.fl.r) := cell_at gx3.out 2
        have x3 : (wr.alloc (.cells #[.int .i64 4, .func (.func 53) #[] #[]] 108)).cell? ⟨w1.heap.size, 3, none⟩ = some (.slice al r.log.length kl) := cell_at gx3.out 3
        have x4 : (wr.alloc (.cells #[.int .i64 4, .func (.func 53) #[] #[]] 108)).cell? ⟨w1.heap.size, 4, none⟩ = some (.slice am r.mks.length km) := cell_at gx3.out 4
        have y0 : (wr.alloc (.cells #[.int .i64 4, .func (.func 53) #[] #[]] 108)).cell? ⟨wr.heap.size, 0, none⟩ = some (.int .i64 4) := cell_at gw3.out 0
        have y1 : (wr.alloc (.cells #[.int .i64 4, .func (.func 53) #[] #[]] 108)).cell? ⟨wr.heap.size, 1, none⟩ = some (.func (.func 53) #[] #[]) := cell_at gw3.out 1
        go_wp2_with fail
        refine (H4.out trivial _ (hP.out.below hb3.out)).mono ?_
        rintro e w8 ⟨y, vp', pool', c, rfl, hS, hD⟩
        obtain ⟨⟨yb, yl, ym⟩, yr⟩ := y
        obtain ⟨ab', kb', eb⟩ := hD.ry.b.len
        obtain ⟨al', kl', el⟩ := hD.ry.l.len
        obtain ⟨am', km', em⟩ := hD.ry.m.len
        simp only at eb el em
        subst eb el em
        rw [show rpV (⟨.slice ab' yr.base.length kb', .slice al' yr.log.length kl', .slice am' yr.mks.length km'⟩, yr) = .agg #[.slice ab' yr.base.length kb', .int .i64 yr.fl.c, .int .i64 yr.fl.r, .slice al' yr.log.length kl', .slice am' yr.mks.length km'] from rfl]
        have hlp := lt_of_block hP.out.hp
        have s8 := hD.kp.size
        simp only [World.size_alloc] at s8
        have g8 := (hD.kp.block w.heap.size (by have := hsz.out; simp; omega) (fun e => e.elim (fun e => by omega) (fun e => by have := (hP.out.own.lt _ e).2; omega))).trans gd3.out
        have g9 := alloc_at (.cells #[.slice ab' yr.base.length kb', .int .i64 yr.fl.c, .int .i64 yr.fl.r, .slice al' yr.log.length kl', .slice am' yr.mks.length km'] 34) g8
        have z9 := alloc_new w8 (.cells #[.slice ab' yr.base.length kb', .int .i64 yr.fl.c, .int .i64 yr.fl.r, .slice al' yr.log.length kl', .slice am' yr.mks.length km'] 34)
        have hP9 := hD.pw.below ((Below.refl w8.heap.size w8).alloc (Nat.le_refl _) (.cells #[.slice ab' yr.base.length kb', .int .i64 yr.fl.c, .int .i64 yr.fl.r, .slice al' yr.log.length kl', .slice am' yr.mks.length km'] 34))
        have hbb := hP.out.bp
        have hb9 : Below base w (w8.alloc (.cells #[.slice ab' yr.base.length kb', .int .i64 yr.fl.c, .int .i64 yr.fl.r, .slice al' yr.log.length kl', .slice am' yr.mks.length km'] 34)) := ((hb3.out.mono (by omega)).trans hD.be).alloc (by have := hsz.out; omega) (.cells #[.slice ab' yr.base.length kb', .int .i64 yr.fl.c, .int .i64 yr.fl.r, .slice al' yr.log.length kl', .slice am' yr.mks.length km'] 34)
        have hk9 := ((Kept.of_below (T := fun k => k = p ∨ vp.ownBlock = some k) hb3.out).trans hD.kp).trans (Kept.of_below ((Below.refl w8.heap.size w8).alloc (Nat.le_refl _) (.cells #[.slice ab' yr.base.length kb', .int .i64 yr.fl.c, .int .i64 yr.fl.r, .slice al' yr.log.length kl', .slice am' yr.mks.length km'] 34)))
        have hy9 : RepX (w8.alloc (.cells #[.slice ab' yr.base.length kb', .int .i64 yr.fl.c, .int .i64 yr.fl.r, .slice al' yr.log.length kl', .slice am' yr.mks.length km'] 34)) (⟨.slice ab' yr.base.length kb', .slice al' yr.log.length kl', .slice am' yr.mks.length km'⟩, yr) := RepW.below hD.ry ((Below.refl w8.heap.size w8).alloc (Nat.le_refl _) (.cells #[.slice ab' yr.base.length kb', .int .i64 yr.fl.c, .int .i64 yr.fl.r, .slice al' yr.log.length kl', .slice am' yr.mks.length km'] 34))
        have hnv := hD.nv
        simp only [World.size_alloc] at hnv
        have hsep : ∀ j, blocks (⟨.slice ab' yr.base.length kb', .slice al' yr.log.length kl', .slice am' yr.mks.length km'⟩, yr) j → j ≠ p ∧ j ≠ b ∧ vp'.ownBlock ≠ some j := fun j hj => by
          rcases hD.bl j hj with h | ⟨h, h'⟩
          · exact hD.pw.sep _ (List.mem_of_getElem? hx.out) j h
          · have := lt_of_block hP.out.hb
            have := hsz.out
            simp only [World.size_alloc] at h
            exact ⟨by omega, by omega, h'⟩
        by_cases hc : c = 0
        · subst hc
          have c1 : (w8.alloc (.cells #[.slice ab' yr.base.length kb', .int .i64 yr.fl.c, .int .i64 yr.fl.r, .slice al' yr.log.length kl', .slice am' yr.mks.length km'] 34)).cell? ⟨w.heap.size, 1, none⟩ = some (.int .i64 ((k : Int) + 1)) := cell_at g9 1
          have p0 : (w8.alloc (.cells #[.slice ab' yr.base.length kb', .int .i64 yr.fl.c, .int .i64 yr.fl.r, .slice al' yr.log.length kl', .slice am' yr.mks.length km'] 34)).cell? ⟨p, 0, none⟩ = some (.slice (some ⟨b, 0, none⟩) xs.length xs.length) := cell_at hP9.hp 0
          have q0 : (w8.alloc (.cells #[.slice ab' yr.base.length kb', .int .i64 yr.fl.c, .int .i64 yr.fl.r, .slice al' yr.log.length kl', .slice am' yr.mks.length km'] 34)).cell? ⟨w8.heap.size, 0, none⟩ = some (.slice ab' yr.base.length kb') := cell_at z9 0
          have q1 : (w8.alloc (.cells #[.slice ab' yr.base.length kb', .int .i64 yr.fl.c, .int .i64 yr.fl.r, .slice al' yr.log.length kl', .slice am' yr.mks.length km'] 34)).cell? ⟨w8.heap.size, 1, none⟩ = some (.int .i64 yr.fl.c) := cell_at z9 1
          have q2 : (w8.alloc (.cells #[.slice ab' yr.base.length kb', .int .i64 yr.fl.c, .int .i64 yr.fl.r, .slice al' yr.log.length kl', .slice am' yr.mks.length km'] 34)).cell? ⟨w8.heap.size, 2, none⟩ = some (.int .i64 yr.fl.r) := cell_at z9 2
          have q3 : (w8.alloc (.cells #[.slice ab' yr.base.length kb', .int .i64 yr.fl.c, .int .i64 yr.fl.r, .slice al' yr.log.length kl', .slice am' yr.mks.length km'] 34)).cell? ⟨w8.heap.size, 3, none⟩ = some (.slice al' yr.log.length kl') := cell_at z9 3
          have q4 : (w8.alloc (.cells #[.slice ab' yr.base.length kb', .int .i64 yr.fl.c, .int .i64 yr.fl.r, .slice al' yr.log.length kl', .slice am' yr.mks.length km'] 34)).cell? ⟨w8.heap.size, 4, none⟩ = some (.slice am' yr.mks.length km') := cell_at z9 4
          have hw1 : IntKind.i64.wrap ((k : Int) + 1 - 1) = (k : Int) := by rw [IntKind.wrap_i64]; omega
          have hw2 : IntKind.i64.wrap (k : Int) = (k : Int) := by rw [IntKind.wrap_i64]; omega
          have e0 : (0 : Int) ≤ (k : Int) ∧ (k : Int) < (xs.length : Nat) := by omega
          have hfit : k * 5 + 5 ≤ (xs.flatMap repC).length := by rw [flat_length repC_len]; omega
          replace hP9 := Lib.hid hP9
          replace hb9 := Lib.hid hb9
          replace hk9 := Lib.hid hk9
          replace hy9 := Lib.hid hy9
          have hbl := Lib.hid hD.bl
          clear hD
          replace g9 := Lib.hid g9
          replace z9 := Lib.hid z9
          replace hnv := Lib.hid hnv
          replace hsep := Lib.hid hsep
          replace hS := Lib.hid hS
          clear g8 f0 f1 f2 f3 f4 f5 f6 f7 x0 x1 x2 x3 x4 y0 y1
          go_wp2_with fail
          generalize w8.alloc (.cells #[.slice ab' yr.base.length kb', .int .i64 yr.fl.c, .int .i64 yr.fl.r, .slice al' yr.log.length kl', .slice am' yr.mks.length km'] 34) = W9 at *
          obtain ⟨b0, b1', b2, b3, b4⟩ := hP9.out.cells hx.out
          have z0 : W9.frozen? ⟨b, k * 5, none⟩ = false := free_at hP9.out.hb (k * 5)
          have z1 : W9.frozen? ⟨b, k * 5 + 1, none⟩ = false := free_at hP9.out.hb (k * 5 + 1)
          have z2 : W9.frozen? ⟨b, k * 5 + 2, none⟩ = false := free_at hP9.out.hb (k * 5 + 2)
          have z3 : W9.frozen? ⟨b, k * 5 + 3, none⟩ = false := free_at hP9.out.hb (k * 5 + 3)
          have z4 : W9.frozen? ⟨b, k * 5 + 4, none⟩ = false := free_at hP9.out.hb (k * 5 + 4)
          go_region
          all_goals
            go_wp2_with fail
            go_ret
            exact step_fin hP9.out hx.out rfl hy9.out hsep.out hS.out hb9.out hk9.out hnv.out (fun j hj => (hbl.out j hj).imp id (fun h => by have := h.1; simp only [World.size_alloc] at this; omega)) (by have := hsz.out; omega)
        · have tc : ((c : Int) == 0) = false := by rw [beq_eq_false_iff_ne]; exact hc
          replace hP9 := Lib.hid hP9
          replace hb9 := Lib.hid hb9
          replace hk9 := Lib.hid hk9
          replace hnv := Lib.hid hnv
          replace hS := Lib.hid hS
          clear hD g9 z9 hy9 hsep g8 f0 f1 f2 f3 f4 f5 f6 f7 x0 x1 x2 x3 x4 y0 y1
          go_wp2_with fail
          go_ret
          exact ⟨vp', xs, pool', c, rfl, .inr ⟨k, r, yr, by rw [List.getElem?_map, hx.out]; rfl, rfl, hS.out, by rw [if_neg hc]⟩, hP9.out, hb9.out, hk9.out.mono (fun _ _ e => e.imp id .inr), pb_vp hnv.out (by have := hsz.out; omega)⟩
      · have tk : ((4 : Int) == kind) = false := by rw [beq_eq_false_iff_ne]; exact fun e => hk e.symm
        replace hk := Lib.hid hk
        go_wp2_with fail
        go_roundw
        case rel => exact ⟨4, rfl, by omega, hbr3, Lib.hid (fun z hz => by exact (show z < 3 ∨ z = 3 by omega).elim (fun h => hno.out z h) (fun e => by subst e; exact hk.out))⟩
        case measure => simp [intOf]
    · go_wp2_with fail
      go_ret
      refine ⟨vp, xs, pool, 1, rfl, .inl ⟨rfl, rfl, rfl, .inr ⟨hno.out 0 (by omega), hno.out 1 (by omega), hno.out 2 (by omega), hno.out 3 (by omega)⟩⟩, hP.out.below hb2, hb2.mono (Nat.le_trans hP.out.bp (Nat.le_of_lt (lt_of_block hP.out.hp))), Kept.of_below hb2, fun _ e => .inl e⟩
end Pl
end
section
open Go.RowKit Go.Shelf
namespace Iv
open Mem Tp Tr Mo Fo Sn Og St Pl
structure InvS (j : Nat) (rs : List Rp) (pool : List Mv) : Prop where
  r : ∀ x ∈ rs, InvR j x
  p : pool.length ≤ j
  one : ∀ m ∈ pool, oneM m = true ∧ m.rk < 2 * Fl.S
theorem InvS.mono {i j : Nat} {rs : List Rp} {pool : List Mv} (h : InvS i rs pool) (hij : i ≤ j) : InvS j rs pool := ⟨fun x hx => (h.r x hx).mono hij, Nat.le_trans h.p hij, h.one⟩
theorem inv_start (n : Nat) : InvS 0 (List.replicate n r0) [] := ⟨fun x hx => by rw [List.eq_of_mem_replicate hx]; exact inv_r0, Nat.le_refl _, fun m hm => by simp at hm⟩
theorem localR_cases {r : Rp} {d : Dd} {pool pool' : List Mv} {r' : Rp} {c : Int} (h : (r', pool', c) = localR r d pool) : (c = 10 ∧ r' = r ∧ pool' = pool) ∨ ∃ t, nextM r.mks r.fl d.who = some t ∧ r' = (addR r (mvOf t d)).1 ∧ c = (addR r (mvOf t d)).2.2 ∧ ((c = 0 ∧ pool' = pool ++ [mvOf t d]) ∨ (c ≠ 0 ∧ pool' = pool)) := by
  unfold localR at h
  cases hn : nextM r.mks r.fl d.who with
  | none =>
    rw [hn] at h
    simp only [Prod.mk.injEq] at h
    exact .inl ⟨h.2.2, h.1, h.2.1⟩
  | some t =>
    rw [hn] at h
    simp only at h
    refine .inr ⟨t, rfl, ?_⟩
    by_cases hc : (addR r (mvOf t d)).2.2 = 0
    · rw [if_pos hc] at h
      simp only [Prod.mk.injEq] at h
      exact ⟨h.1, by rw [h.2.2, hc], .inl ⟨h.2.2, h.2.1⟩⟩
    · rw [if_neg hc] at h
      simp only [Prod.mk.injEq] at h
      exact ⟨h.1, h.2.2, .inr ⟨by rw [h.2.2]; exact hc, h.2.1⟩⟩
theorem inv_deed {j : Nat} {r r' : Rp} {d : Dd} {pool pool' : List Mv} {c : Int} (hr : InvR j r) (hp : pool.length ≤ j) (ho : ∀ m ∈ pool, oneM m = true ∧ m.rk < 2 * Fl.S) (hk : d.rk < 2 * Fl.S) (h : StepR r d pool r' pool' c) :
    InvR (j + 1) r' ∧ pool'.length ≤ j + 1 ∧ ∀ m ∈ pool', oneM m = true ∧ m.rk < 2 * Fl.S := by
  rcases h with ⟨-, h⟩ | ⟨-, rfl, h⟩ | ⟨-, rfl, h⟩ | ⟨-, rfl, h, -⟩
  · rcases localR_cases h with ⟨-, rfl, rfl⟩ | ⟨t, -, rfl, hc, hp'⟩
    · exact ⟨hr.mono (Nat.le_succ j), by omega, ho⟩
    · refine ⟨inv_add hr hk, ?_⟩
      rcases hp' with ⟨h0, rfl⟩ | ⟨-, rfl⟩
      · refine ⟨by rw [List.length_append, List.length_singleton]; omega, fun m hm => ?_⟩
        rcases List.mem_append.1 hm with hm | hm
        · exact ho m hm
        · rw [List.mem_singleton.1 hm]
          exact ⟨(addR_one (hc.symm.trans h0)).1, hk⟩
      · exact ⟨by omega, ho⟩
  · refine ⟨?_, by omega, ho⟩
    rcases h with ⟨-, rfl, -⟩ | ⟨k, m, hm, -, rfl, -⟩
    · exact hr.mono (Nat.le_succ j)
    · exact inv_add hr (ho m (List.mem_of_getElem? hm)).2
  · refine ⟨?_, by omega, ho⟩
    have h1 : r' = (pruneR r ⟨d.at_, d.frm⟩).1 := congrArg Prod.fst h
    rw [h1]
    exact (inv_prune hr _).mono (Nat.le_succ j)
  · exact ⟨(inv_eq hr h).mono (Nat.le_succ j), by omega, ho⟩
theorem inv_step {j : Nat} {rs rs' : List Rp} {pool pool' : List Mv} {d : Dd} {c : Int} (h : InvS j rs pool) (hk : d.rk < 2 * Fl.S) (hs : StepS rs pool d rs' pool' c) : InvS (j + 1) rs' pool' := by
  rcases hs with ⟨-, rfl, rfl, -⟩ | ⟨k, r, r', hr, -, hs, rfl⟩
  · exact h.mono (Nat.le_succ j)
  · have hd := inv_deed (h.r r (List.mem_of_getElem? hr)) h.p h.one hk hs
    refine ⟨fun x hx => ?_, hd.2.1, hd.2.2⟩
    split at hx
    · rcases List.mem_or_eq_of_mem_set hx with hx | rfl
      · exact (h.r x hx).mono (Nat.le_succ j)
      · exact hd.1
    · exact (h.r x hx).mono (Nat.le_succ j)
theorem step_len {rs rs' : List Rp} {pool pool' : List Mv} {d : Dd} {c : Int} (hs : StepS rs pool d rs' pool' c) : rs'.length = rs.length := by
  rcases hs with ⟨-, rfl, rfl, -⟩ | ⟨k, r, r', hr, -, hs, rfl⟩
  · rfl
  · split
    · rw [List.length_set]
    · rfl
inductive RunS (n : Nat) : List Dd → List Rp → List Mv → List Int → Prop
  | nil : RunS n [] (List.replicate n r0) [] []
  | snoc {l : List Dd} {rs : List Rp} {pool : List Mv} {cs : List Int} {d : Dd} {rs' : List Rp} {pool' : List Mv} {c : Int} : RunS n l rs pool cs → StepS rs pool d rs' pool' c → RunS n (l ++ [d]) rs' pool' (cs ++ [c])
theorem RunS.len {n : Nat} {l : List Dd} {rs : List Rp} {pool : List Mv} {cs : List Int} (h : RunS n l rs pool cs) : rs.length = n ∧ cs.length = l.length := by
  induction h with
  | nil => exact ⟨List.length_replicate, rfl⟩
  | snoc _ hs ih => exact ⟨(step_len hs).trans ih.1, by rw [List.length_append, List.length_append, ih.2]; rfl⟩
theorem RunS.inv {n : Nat} {l : List Dd} {rs : List Rp} {pool : List Mv} {cs : List Int} (h : RunS n l rs pool cs) (hk : ∀ d ∈ l, d.rk < 2 * Fl.S) : InvS l.length rs pool := by
  induction h with
  | nil => exact inv_start n
  | snoc _ hs ih =>
    rw [List.length_append, List.length_singleton]
    exact inv_step (ih (fun d hd => hk d (List.mem_append_left _ hd))) (hk _ (List.mem_append_right _ (List.mem_singleton.2 rfl))) hs
theorem InvS.okR {j : Nat} {rs : List Rp} {pool : List Mv} (h : InvS j rs pool) (hj : j ≤ 45) : ∀ x ∈ rs, OkR x := fun x hx => (h.r x hx).ok hj
theorem InvS.nm {j : Nat} {rs : List Rp} {pool : List Mv} (h : InvS j rs pool) : ∀ m ∈ pool, m.nm.size ≤ 64 := fun m hm => by
  have := (oneR_in (oneM_in (h.one m hm).1).2).1
  unfold rowOf at this
  exact this.2.2.2.2
end Iv
namespace Pl
open Mem Tp Tr Mo Fo Sn Og St Iv
theorem step_any {base p b : Nat} {vp : Value} {xs : List X3} {pool : List Mv} (d : Dd) (w : World) (hP : PW w base p b vp xs pool) (hO : ∀ x ∈ xs, OkR x.2) (hz : d.nm.size ≤ 100000) (hpl : pool.length ≤ 1000) (hpz : ∀ m ∈ pool, m.nm.size ≤ 100000) :
    Calls Tryz.prog 23 #[.pointer (some ⟨p, 0, none⟩), dedV d] w (StepC base p b vp xs pool d w) := by
  by_cases hw : d.who < 1 ∨ (xs.length : Int) < d.who
  · exact step_not d w hP hw
  · obtain ⟨k, hk⟩ : ∃ k : Nat, d.who = (k : Int) + 1 := ⟨(d.who - 1).toNat, by omega⟩
    obtain ⟨x, hx⟩ := some_at (l := xs) (k := k) (by omega)
    have hm := List.mem_of_getElem? hx
    exact step_in x d k w hP hx hk (fun e W h => did_local x d W h hm (hO x hm) hz hpl e) (fun e W h => did_deliver x d W h hm (hO x hm) hpz e) (fun e W h => did_prune x d W h hm (hO x hm) e) (fun e W h => did_reload x d W h hm (hO x hm) e)
end Pl
end
section
open Go.RowKit Go.Shelf
namespace Iv
open Mem Tp Tr Mo Fo Sn Og St Pl
theorem RunS.last {n : Nat} {l : List Dd} {d : Dd} {rs : List Rp} {pool : List Mv} {cs : List Int} (h : RunS n (l ++ [d]) rs pool cs) : ∃ rs0 pool0 cs0 c, RunS n l rs0 pool0 cs0 ∧ StepS rs0 pool0 d rs pool c ∧ cs = cs0 ++ [c] := by
  generalize hL : l ++ [d] = L at h
  cases h with
  | nil => simp at hL
  | snoc h1 h2 =>
    obtain ⟨rfl, e⟩ := List.append_inj' hL rfl
    cases e
    exact ⟨_, _, _, _, h1, h2, rfl⟩
theorem RunS.first {n : Nat} {rs : List Rp} {pool : List Mv} {cs : List Int} (h : RunS n [] rs pool cs) : rs = List.replicate n r0 ∧ pool = [] ∧ cs = [] := by
  generalize hL : ([] : List Dd) = L at h
  cases h with
  | nil => exact ⟨rfl, rfl, rfl⟩
  | snoc h1 h2 => simp at hL
theorem step_of {rs rs' : List Rp} {pool pool' : List Mv} {d : Dd} {c : Int} {k : Nat} {r : Rp} (h : StepS rs pool d rs' pool' c) (hw : d.who = (k : Int) + 1) (hr : rs[k]? = some r) (hk : d.kind = 1 ∨ d.kind = 2 ∨ d.kind = 3 ∨ d.kind = 4) : ∃ r', StepR r d pool r' pool' c ∧ rs' = if c = 0 then rs.set k r' else rs := by
  have hkl := (List.getElem?_eq_some_iff.1 hr).1
  rcases h with ⟨-, -, -, h⟩ | ⟨k', r', r'', hr', hw', hs, e⟩
  · omega
  · obtain rfl : k' = k := by omega
    rw [hr] at hr'
    cases hr'
    exact ⟨r'', hs, e⟩
def nmA : ByteArray := ⟨#[97]⟩
def d1 : Dd := ⟨1, 1, 0, 0, 0, 1, nmA, 0⟩
def d2 : Dd := ⟨2, 2, 0, 0, 0, 0, ByteArray.empty, 0⟩
def d3 : Dd := ⟨4, 2, 0, 0, 0, 0, ByteArray.empty, 0⟩
def d4 : Dd := ⟨1, 2, 0, 0, 1, 2, ByteArray.empty, 0⟩
def m1 : Mv := ⟨⟨1, 1⟩, 0, 1, nmA, 0⟩
def m2 : Mv := ⟨⟨2, 2⟩, 1, 2, ByteArray.empty, 0⟩
def ra : Rp := ⟨[], ⟨0, 0⟩, [m1], [⟨1, 1⟩]⟩
theorem loc1 : localR r0 d1 [] = (ra, [m1], 0) := by kernel_rfl
theorem del2 : addR r0 m1 = (ra, true, 0) := by kernel_rfl
theorem one2 : oneM m2 = true := by kernel_rfl
theorem works_plain {rs : List Rp} {pool : List Mv} {cs : List Int} (h : RunS 2 [d1, d2, d3, d4] rs pool cs) : ∃ (r : Rp) (m : Mv), rs[1]? = some r ∧ cs.length = 4 ∧ cs[3]? = some 0 ∧ treeR r = [⟨1, 0, m.nm, m.rk⟩, ⟨2, 1, ByteArray.empty, 0⟩] := by
  obtain ⟨rs3, p3, c3, e4, h3, s4, rfl⟩ := RunS.last (l := [d1, d2, d3]) h
  obtain ⟨rs2, p2, c2, e3, h2, s3, rfl⟩ := RunS.last (l := [d1, d2]) h3
  obtain ⟨rs1, p1, c1, e2, h1, s2, rfl⟩ := RunS.last (l := [d1]) h2
  obtain ⟨rs0, p0, c0, e1, h0, s1, rfl⟩ := RunS.last (l := []) h1
  obtain ⟨rfl, rfl, rfl⟩ := h0.first
  obtain ⟨y1, q1, rfl⟩ := step_of s1 (k := 0) rfl rfl (.inl rfl)
  have q1' : (y1, p1, e1) = (ra, [m1], 0) := by
    rcases q1 with ⟨-, e⟩ | ⟨e, -⟩ | ⟨e, -⟩ | ⟨e, -⟩
    · exact e.trans loc1
    · exact absurd e (by decide)
    · exact absurd e (by decide)
    · exact absurd e (by decide)
  simp only [Prod.mk.injEq] at q1'
  obtain ⟨rfl, rfl, rfl⟩ := q1'
  obtain ⟨y2, q2, rfl⟩ := step_of s2 (k := 1) (r := r0) rfl rfl (.inr (.inl rfl))
  have q2' : y2 = ra ∧ p2 = [m1] ∧ e2 = 0 := by
    rcases q2 with ⟨e, -⟩ | ⟨-, e1, e⟩ | ⟨e, -⟩ | ⟨e, -⟩
    · exact absurd e (by decide)
    · rcases e with ⟨e, -, -⟩ | ⟨k, m, hm, ek, e3, e4⟩
      · exact absurd e (by decide)
      · have hk : k = 0 := by
          have : (0 : Int) = (k : Int) := ek
          omega
        subst hk
        cases hm
        rw [del2] at e3 e4
        exact ⟨e3, e1, e4⟩
    · exact absurd e (by decide)
    · exact absurd e (by decide)
  obtain ⟨rfl, rfl, rfl⟩ := q2'
  obtain ⟨y3, q3, rfl⟩ := step_of s3 (k := 1) (r := ra) rfl rfl (.inr (.inr (.inr rfl)))
  have q3' : EqP ra y3 ∧ p3 = [m1] ∧ e3 = 0 := by
    rcases q3 with ⟨e, -⟩ | ⟨e, -⟩ | ⟨e, -⟩ | ⟨-, e, e1, e2⟩
    · exact absurd e (by decide)
    · exact absurd e (by decide)
    · exact absurd e (by decide)
    · exact ⟨e1, e, e2⟩
  obtain ⟨hE, rfl, rfl⟩ := q3'
  obtain ⟨y4, q4, rfl⟩ := step_of s4 (k := 1) (r := y3) rfl rfl (.inl rfl)
  have hb : y3.base = [] := List.length_eq_zero_iff.1 (by rw [nrm_len hE.b.1]; rfl)
  have hf : y3.fl = ⟨0, 0⟩ := hE.f
  have hm : y3.mks = [⟨1, 1⟩] := hE.m
  obtain ⟨m, hl, hmt⟩ : ∃ m, y3.log = [m] ∧ nrmM m = nrmM m1 := by
    have h1 := hE.l.1
    have h2 : y3.log.length = 1 := len_eqM h1
    match hy : y3.log, h2 with
    | [m], _ =>
      rw [hy] at h1
      exact ⟨m, rfl, by simpa [ra] using h1⟩
  obtain ⟨t, pa, ch, nm, rk⟩ := m
  have ht : t = ⟨1, 1⟩ := congrArg Mv.t hmt
  have hpa : pa = 0 := congrArg Mv.pa hmt
  have hch : ch = 1 := congrArg Mv.ch hmt
  subst ht hpa hch
  obtain ⟨b3, f3, l3, k3⟩ := y3
  simp only at hb hf hm hl
  subst hb hf hm hl
  have ha : addR ⟨[], ⟨0, 0⟩, [⟨⟨1, 1⟩, 0, 1, nm, rk⟩], [⟨1, 1⟩]⟩ (mvOf ⟨2, 2⟩ d4) = (⟨[], ⟨0, 0⟩, [⟨⟨1, 1⟩, 0, 1, nm, rk⟩, m2], [⟨1, 1⟩, ⟨2, 2⟩]⟩, true, 0) := addR_yes one2 rfl rfl
  have hloc : localR ⟨[], ⟨0, 0⟩, [⟨⟨1, 1⟩, 0, 1, nm, rk⟩], [⟨1, 1⟩]⟩ d4 [m1] = (⟨[], ⟨0, 0⟩, [⟨⟨1, 1⟩, 0, 1, nm, rk⟩, m2], [⟨1, 1⟩, ⟨2, 2⟩]⟩, [m1, m2], 0) := by
    unfold localR
    rw [show nextM [⟨1, 1⟩] ⟨0, 0⟩ d4.who = some ⟨2, 2⟩ from rfl]
    simp only [ha]
    rfl
  have q4' : (y4, pool, e4) = ((⟨[], ⟨0, 0⟩, [⟨⟨1, 1⟩, 0, 1, nm, rk⟩, m2], [⟨1, 1⟩, ⟨2, 2⟩]⟩, [m1, m2], 0) : Rp × List Mv × Int) := by
    rcases q4 with ⟨-, e⟩ | ⟨e, -⟩ | ⟨e, -⟩ | ⟨e, -⟩
    · exact e.trans hloc
    · exact absurd e (by decide)
    · exact absurd e (by decide)
    · exact absurd e (by decide)
  simp only [Prod.mk.injEq] at q4'
  obtain ⟨rfl, rfl, rfl⟩ := q4'
  exact ⟨_, ⟨⟨1, 1⟩, 0, 1, nm, rk⟩, rfl, rfl, rfl, rfl⟩
end Iv
end
section
open Go.RowKit
namespace Tr
open Mem
theorem indexI_any (v : Value) (l : List Int) (x : Int) (w : World) (hS : Is w v l) (hl : l.length ≤ 5000) :
    Calls Tryz.prog 162 #[v, .int .i64 x] w fun e w' => e = .returned (.int .i64 (idxI l (fun y => x == y))) ∧ w = w' := by
  obtain ⟨a, c, rfl⟩ := hS.len
  have HS := Lib.hid hS
  clear hS
  go_enter Tryz.func162, Tryz.ntmps162
  go_wp2_with fail
  go_loop [8] (fun i => ∃ k : Nat, i = .int .i64 k ∧ k ≤ l.length ∧ Hid (∀ y ∈ l.take k, (x == y) = false)) (fun i => l.length - (intOf i).toNat)
  case atStart => exact ⟨0, rfl, by omega, Lib.hid (fun x h => by simp at h)⟩
  case round =>
    obtain ⟨k, rfl, hk, hno⟩ := hrel
    by_cases hlt : k < l.length
    · have hlt' : (k : Int) < (l.length : Nat) := by omega
      obtain ⟨y, hy⟩ := some_at hlt
      obtain ⟨b, off, rfl⟩ := HS.out.addr (by omega)
      have hc := sl_one HS.out rfl hy
      unfold i64C at hc
      have hy' := Lib.hid hy
      clear hy
      by_cases hp : x = y
      · have hr : Hid (idxI l (fun y => x == y) = (k : Int)) := Lib.hid (by have := idx_hit (p := fun y => x == y) hy'.out hno.out (by simpa using hp); unfold idxI; rw [this, if_pos hlt])
        subst hp
        clear hy'
        go_wp2_with fail
        go_ret
        exact ⟨by rw [hr.out]; rfl, rfl⟩
      · have hno2 : Hid (∀ y ∈ l.take (k + 1), (x == y) = false) := Lib.hid (fun z hz => by
          rw [take_snoc hy'.out, List.mem_append, List.mem_singleton] at hz
          rcases hz with hz | rfl
          · exact hno.out z hz
          · simpa using hp)
        go_wp2_with fail
        go_round
        case rel => exact ⟨k + 1, by go_num, by omega, hno2⟩
        case measure => simp [intOf]; omega
    · obtain rfl : k = l.length := by omega
      have hge : ¬ ((l.length : Int) < (l.length : Nat)) := by omega
      have hr : Hid (idxI l (fun y => x == y) = -1) := Lib.hid (by
        have h9 := hno.out
        rw [List.take_length] at h9
        unfold idxI
        rw [idx_none h9, if_neg (by omega)])
      go_wp2_with fail
      go_ret
      exact ⟨by rw [hr.out]; rfl, rfl⟩
theorem containsI_any (v : Value) (l : List Int) (x : Int) (w : World) (hS : Is w v l) (hl : l.length ≤ 5000) :
    Calls Tryz.prog 116 #[v, .int .i64 x] w fun e w' => e = .returned (.bool (l.any (fun y => x == y))) ∧ w = w' := by
  have H := Lib.hid (indexI_any v l x w hS hl)
  rw [← idxI_any]
  go_enter Tryz.func116, Tryz.ntmps116
  go_wp2_with fail
  refine H.out.mono ?_
  rintro e w2 ⟨rfl, rfl⟩
  go_wp2_with fail
  go_ret
  exact ⟨rfl, rfl⟩
end Tr
end
end Go.Proofs.YtnlijlknjhkoaaaGreat
