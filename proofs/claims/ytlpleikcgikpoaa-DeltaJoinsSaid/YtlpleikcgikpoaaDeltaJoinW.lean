/-
  WALKS: the law DeltaJoins. No condition.
-/
import Derived.Test.YtlpleikcgikpoaaDeltaLaws1
import Derived.Test.YtlpleikcgikpoaaDeltaJoinP
import Derived.Test.YtlpleikcgikpoaaDeltaMoveW
import Derived.Test.YtlpleikcgikpoaaHeld
import Derived.Deep.RegionHeld3
import Derived.Deep.QuietTactic
import Derived.BigQuiet
namespace Go.Proofs.Ytlpleikcgikpoaa
open Go.RowKit
namespace Dl
open Mem Pk

theorem ints_at {k : IntKind} {W : World} {b o n c : Nat} {L : List Int} (h : Opened.Ints k W (.slice (some ⟨b, o, none⟩) n c) L) {j : Nat} (hj : j < L.length) : b < W.heap.size ∧ W.cell? ⟨b, o + j, none⟩ = some (.int k (L.getD j 0)) := by
  obtain ⟨⟨a', c', e1, h1⟩, -⟩ := h
  cases e1
  obtain ⟨b', o', e2, e3, h2⟩ := h1 (by omega)
  cases e2
  exact ⟨e3, h2 j hj⟩
theorem ints_cells {W : World} {b o n c : Nat} {L : List Int} (h : Opened.Ints .i64 W (.slice (some ⟨b, o, none⟩) n c) L) (hp : 0 < L.length) : ∀ j u, (cellsI L)[j]? = some u → W.cell? ((⟨b, o, none⟩ : Addr).add j) = some u := by
  intro j u hu
  obtain ⟨⟨a', c', e1, h1⟩, -⟩ := h
  cases e1
  obtain ⟨b', o', e2, -, h2⟩ := h1 hp
  cases e2
  have hj : j < L.length := by
    have := List.getElem?_eq_some_iff.1 hu
    obtain ⟨h3, -⟩ := this
    rwa [cellsI_length] at h3
  have ea : (⟨b, o, none⟩ : Addr).add j = ⟨b, o + j, none⟩ := by unfold Addr.add; split <;> simp_all
  rw [ea, h2 j hj]
  unfold cellsI at hu
  rw [List.getElem?_map, List.getElem?_eq_getElem hj] at hu
  rw [← hu]
  simp [List.getD, hj]
theorem ones_int (L : List Int) : ∀ u ∈ cellsI L, u.oneCell' = true := by
  intro u hu
  unfold cellsI at hu
  rw [List.mem_map] at hu
  obtain ⟨n, _, rfl⟩ := hu
  rfl
theorem ints_alloc {W : World} {v : Value} {L : List Int} (h : Opened.Ints .i64 W v L) (o : Obj) : Opened.Ints .i64 (W.alloc o) v L :=
  ints_below h ((Below.refl _ W).alloc (Nat.le_refl _) o)
theorem own_made (w : World) (x : Int) : (w.alloc (.cells #[.int .i64 x] 3)).ownsRow w.heap.size 3 1 (.slice (some ⟨w.heap.size, 0, none⟩) 1 1) 1 [.int .i64 x] :=
  ⟨rfl, .inr ⟨w.heap.size, 1, #[.int .i64 x], rfl, Nat.le_refl _, alloc_new w _, Nat.le_refl _, by unfold maxLen; omega, rfl, rfl⟩⟩

theorem own_head {W : World} {B : Nat} {v : Value} {x : Int} {m : List Int} (h : OwnI W B v (x :: m)) (hx : I64 x) (hm : ∀ n ∈ m, I64 n) :
    ∃ g c, v = .slice (some ⟨g, 0, none⟩) (m.length + 1) c ∧ 1 ≤ c ∧ Opened.Ints .i64 W v (x :: m) ∧ Opened.Ints .i64 W (.slice (some ⟨g, 0, none⟩) 1 c) [x] := by
  have hI := h.ints (fun n hn => by rcases List.mem_cons.1 hn with rfl | hn; exact hx; exact hm n hn)
  rcases h.2 with ⟨-, h0⟩ | ⟨g, cap, cur, e, hg, hh, hn, hr⟩
  · cases h0
  · rw [List.length_cons] at hn
    subst e
    refine ⟨g, cap, rfl, by omega, hI, ⟨_, _, rfl, fun _ => ⟨g, 0, rfl, lt_of_block hh, fun j hj => ?_⟩⟩, fun n hn => ?_⟩
    · have e0 : j = 0 := by simp at hj; omega
      subst e0
      exact (ints_at hI (j := 0) (by simp)).2
    · have : n = x := by simpa using hn
      subst this
      exact hI.bound _ List.mem_cons_self

/-- what the last region's loads and calls need. -/
def JoinS (bl ol bm om : Nat) (x y : Int) (W0 W : World) : Prop := W.cell? ⟨bl, ol, none⟩ = some (.int .i64 x) ∧ W.cell? ⟨bm, om, none⟩ = some (.int .i64 y) ∧ Below W0.heap.size W0 W

set_option maxRecDepth 100000 in
set_option maxHeartbeats 8000000 in
theorem joins_main (bl ol cl bm om cm k j : Nat) (l m : List Int) (w : World) (hl : Opened.Ints .i64 w (.slice (some ⟨bl, ol, none⟩) (k + 1) cl) l) (hm : Opened.Ints .i64 w (.slice (some ⟨bm, om, none⟩) (j + 1) cm) m) (hk : Hid (l.length = k + 1)) (hj : Hid (m.length = j + 1)) (hk1 : k ≤ 99) (hj1 : j ≤ 99) :
    Calls Try.prog 7 #[.slice (some ⟨bl, ol, none⟩) (k + 1) cl, .slice (some ⟨bm, om, none⟩) (j + 1) cm] w fun e w' => e = .returned (.bool true) ∧ Below w.heap.size w w' := by
  obtain ⟨i0, hi, hz0, hz1, hz2⟩ := info_parts infoI
  have HL := Lib.hid hl
  have HM := Lib.hid hm
  have HI : Hid (∀ n ∈ l, I64 n) := Lib.hid (fun n hn => i64_bounds (hl.bound n hn))
  have HJ : Hid (∀ n ∈ m, I64 n) := Lib.hid (fun n hn => i64_bounds (hm.bound n hn))
  obtain ⟨t, x, hlt, -, hlx⟩ := last_split hk.out
  obtain ⟨hbl, hx⟩ : bl < w.heap.size ∧ w.cell? ⟨bl, ol + k, none⟩ = some (.int .i64 x) := by
    obtain ⟨e3, h2⟩ := ints_at hl (j := k) (by rw [hk.out]; omega)
    refine ⟨e3, h2.trans ?_⟩
    rw [List.getD, hlx]
    rfl
  obtain ⟨y, tm, hmy⟩ := head_tail (show 0 < m.length by rw [hj.out]; omega)
  obtain ⟨hbm, hy⟩ : bm < w.heap.size ∧ w.cell? ⟨bm, om, none⟩ = some (.int .i64 y) := by
    obtain ⟨e3, h2⟩ := ints_at hm (j := 0) (by rw [hj.out]; omega)
    refine ⟨e3, h2.trans ?_⟩
    rw [hmy]
    rfl
  have hxI : I64 x := HI.out x (by rw [hlt]; simp)
  replace hlt := Lib.hid hlt
  replace hmy := Lib.hid hmy
  replace hx := Lib.hid hx
  replace hy := Lib.hid hy
  clear hl hm hlx
  have hO0 := World.ownsRow_made (base := w.heap.size) (e := 3) (size := 1) w #[] 0 (Nat.le_refl _) (by unfold maxLen; omega) rfl
  have hgl : decide (100 < (k : Int) + 1) = false := decide_eq_false (by omega)
  have hgm : decide (100 < (j : Int) + 1) = false := decide_eq_false (by omega)
  have hel : ((k : Int) + 1 == 0) = false := by rw [beq_eq_false_iff_ne]; omega
  have hem : ((j : Int) + 1 == 0) = false := by rw [beq_eq_false_iff_ne]; omega
  have hcl := Lib.hid (ints_cells (ints_alloc HL.out (.cells #[] 3)) (by rw [hk.out]; omega))
  have hcL : (cellsI l).length = (k + 1) * 1 := by rw [cellsI_length, hk.out]; omega
  have hcM : (cellsI m).length = (j + 1) * 1 := by rw [cellsI_length, hj.out]; omega
  go_enter Try.func7, Try.ntmps7
  go_wp2_with (first | (at_builtin; refine wpList_append_own _ rfl (.tmp 30) (.tmp 31) 22 rfl w.heap.size 3 i0 (.int .i64 0) 1 8 Try.underlying22 hi hz0 hz1 hz2 rfl (by decide) (.slice (some ⟨w.heap.size, 0, none⟩) 0 0) 0 [] rfl hO0 ⟨bl, ol, none⟩ (k + 1) cl (cellsI l) rfl hcL hcl.out (ones_int l) (by unfold maxLen; omega) (by omega) (by simp) ?_; intro v1 w1 hown1 hgrow1 _; rw [Nat.zero_add, List.nil_append] at hown1; have hb1 : Below w.heap.size w w1 := ((Below.refl _ w).alloc (Nat.le_refl _) _).grown hgrow1 (by simp) (fun k e => by cases e; exact Nat.le_refl _); have hcm := Lib.hid (ints_cells (ints_below HM.out hb1) (by rw [hj.out]; omega)); clear hgrow1 hcl hO0) | (at_builtin; refine wpList_append_own _ rfl (.tmp 32) (.tmp 33) 22 rfl w.heap.size 3 i0 (.int .i64 0) 1 8 Try.underlying22 hi hz0 hz1 hz2 rfl (by decide) _ (k + 1) (cellsI l) rfl hown1 ⟨bm, om, none⟩ (j + 1) cm (cellsI m) rfl hcM hcm.out (ones_int m) (by unfold maxLen; omega) (by omega) hb1.size ?_; intro v2 w2 hown2 hgrow2 _; have hb2 : Below w.heap.size w w2 := hb1.grown hgrow2 hb1.size (fun k e => (hown1.lt k e).1); have hcx : w2.cell? ⟨bl, ol + k, none⟩ = some (.int .i64 x) := (hb2.cell (p := ⟨bl, ol + k, none⟩) hbl).trans hx.out; have hcm2 := Lib.hid (ints_cells (ints_alloc (ints_below HM.out hb2) (.cells #[.int .i64 x] 3)) (by rw [hj.out]; omega)); have hO3 := own_made w2 x; clear hb1 hgrow2 hown1 hcm) | (at_builtin; refine wpList_append_own _ rfl (.tmp 41) (.tmp 42) 22 rfl w2.heap.size 3 i0 (.int .i64 0) 1 8 Try.underlying22 hi hz0 hz1 hz2 rfl (by decide) (.slice (some ⟨w2.heap.size, 0, none⟩) 1 1) 1 [.int .i64 x] rfl hO3 ⟨bm, om, none⟩ (j + 1) cm (cellsI m) rfl hcM hcm2.out (ones_int m) (by unfold maxLen; omega) (by omega) (by simp) ?_; intro v3 w3 hown3 hgrow3 _; have hb3 : Below w2.heap.size w2 w3 := ((Below.refl _ w2).alloc (Nat.le_refl _) _).grown hgrow3 (by simp) (fun k e => by cases e; exact Nat.le_refl _); clear hgrow3 hcm2 hO3 hcx))
  have h2I : OwnI w2 w.heap.size v2 (l ++ m) := by
    unfold OwnI
    rw [cellsI_append, List.length_append, hk.out, hj.out]
    exact hown2
  have h3I : OwnI w3 w2.heap.size v3 (x :: m) := by
    unfold OwnI
    rw [List.length_cons, hj.out, Nat.add_comm (j + 1) 1]
    exact hown3
  have hall := Lib.hid (ints_below (h2I.ints (fun n hn => (List.mem_append.1 hn).elim (HI.out n) (HJ.out n))) hb3)
  have hb := Lib.hid (hb2.trans (hb3.mono hb2.size))
  obtain ⟨g, c3, rfl, hc3, hlast, hone⟩ := own_head h3I hxI HJ.out
  replace hlast := Lib.hid hlast
  replace hone := Lib.hid hone
  replace HL := Lib.hid (ints_below HL.out hb.out)
  replace HM := Lib.hid (ints_below HM.out hb.out)
  have hxW : w3.cell? ⟨bl, ol + k, none⟩ = some (.int .i64 x) := (hb.out.cell (p := ⟨bl, ol + k, none⟩) hbl).trans hx.out
  have hyW : w3.cell? ⟨bm, om, none⟩ = some (.int .i64 y) := (hb.out.cell (p := ⟨bm, om, none⟩) hbm).trans hy.out
  replace hbl := Nat.lt_of_lt_of_le hbl hb.out.size
  replace hbm := Nat.lt_of_lt_of_le hbm hb.out.size
  replace hxW := Lib.hid hxW
  replace hyW := Lib.hid hyW
  clear hb2 hb3 hown2 hown3 h2I h3I hx hy hcL hcM
  have hc3n : ¬ c3 = 0 := by omega
  have hlen : (l ++ m).length ≤ 1000 := by rw [List.length_append, hk.out, hj.out]; omega
  have HE1 := Lib.hid (fun W (h : Below w3.heap.size w3 W) => encode_any _ _ W (ints_below hall.out h) hlen)
  have HE2 := Lib.hid (fun W (h : Below w3.heap.size w3 W) => encode_any _ _ W (ints_below HL.out h) (by rw [hk.out]; omega))
  have HE3 := Lib.hid (fun W (h : Below w3.heap.size w3 W) => encode_any _ _ W (ints_below hlast.out h) (by rw [List.length_cons, hj.out]; omega))
  have HE4 := Lib.hid (fun W (h : Below w3.heap.size w3 W) => encode_any _ _ W (ints_below hone.out h) (by simp))
  have HP := Lib.hid (join_enc m hlt.out)
  rw [HP.out.1] at HE1
  rw [HP.out.2] at HE3
  have HA := Lib.hid (part_of (enc (subs 0 l)) (enc (subs x m)))
  have HB := Lib.hid (part_of (enc (subs 0 [x])) (enc (subs x m)))
  have heq := Lib.hid (HA.out.2.2.trans HB.out.2.2.symm)
  generalize str (enc (subs 0 l) ++ enc (subs x m)) = s at *
  generalize str (enc (subs 0 [x]) ++ enc (subs x m)) = u at *
  generalize str (enc (subs 0 l)) = hd at *
  generalize str (enc (subs 0 [x])) = on at *
  generalize w3 = W0 at *
  replace hb := hb
  go_wp2_with fail
  refine (HE1.out _ (Below.refl _ _)).mono ?_
  rintro e w4 ⟨rfl, hb4⟩
  have hb4 := Lib.hid hb4
  go_wp2_with fail
  refine (HE2.out _ hb4.out).mono ?_
  rintro e w5 ⟨rfl, hb5⟩
  replace hb4 := Lib.hid (hb4.out.trans (hb5.mono hb4.out.size))
  clear hb5
  go_wp2_with fail
  refine (HE3.out _ hb4.out).mono ?_
  rintro e w6 ⟨rfl, hb5⟩
  replace hb4 := Lib.hid (hb4.out.trans (hb5.mono hb4.out.size))
  clear hb5
  go_wp2_with fail
  refine (HE4.out _ hb4.out).mono ?_
  rintro e w7 ⟨rfl, hb5⟩
  replace hb4 := Lib.hid (hb4.out.trans (hb5.mono hb4.out.size))
  clear hb5
  go_wp2_with fail
  obtain ⟨hA1, hA2, -⟩ := HA.out
  obtain ⟨hB1, -, -⟩ := HB.out
  have heq2 := heq.out
  have hA1' : (hd.size : Int) ≤ (s.size : Nat) := by omega
  have hB1' : (on.size : Int) ≤ (u.size : Nat) := by omega
  have hA0 : (0 : Int) ≤ (hd.size : Nat) := by omega
  have hB0 : (0 : Int) ≤ (on.size : Nat) := by omega
  have hlA : decide (s.size < hd.size) = false := decide_eq_false (by omega)
  have hlB : decide (u.size < on.size) = false := decide_eq_false (by omega)
  go_quiet (fail)
  clear hA1 hA2 hB1 heq2 hA1' hB1' hA0 hB0 hlA hlB
  go_wp2_with fail
  replace hb4 := Lib.hid (below_drewN hb4.out nq)
  generalize w7.drewN nq = W1 at *
  have HS : Hid (∀ W, Below W0.heap.size W0 W → JoinS bl (ol + k) bm om x y W0 W) := Lib.hid (fun W h => ⟨(h.cell (p := ⟨bl, ol + k, none⟩) hbl).trans hxW.out, (h.cell (p := ⟨bm, om, none⟩) hbm).trans hyW.out, h⟩)
  have HR1 := Lib.hid (fun q : Held (JoinS bl (ol + k) bm om x y W0) => held_calls ((rising_any _ _ q.w (ints_below hall.out q.h.2.2) hlen).mono fun e w' (c : _ ∧ Below q.w.heap.size q.w w') => And.intro c.1 (HS.out _ (q.h.2.2.trans (c.2.mono q.h.2.2.size)))))
  have HR2 := Lib.hid (fun q : Held (JoinS bl (ol + k) bm om x y W0) => held_calls ((rising_any _ _ q.w (ints_below HL.out q.h.2.2) (by rw [hk.out]; omega)).mono fun e w' (c : _ ∧ Below q.w.heap.size q.w w') => And.intro c.1 (HS.out _ (q.h.2.2.trans (c.2.mono q.h.2.2.size)))))
  have HR3 := Lib.hid (fun q : Held (JoinS bl (ol + k) bm om x y W0) => held_calls ((rising_any _ _ q.w (ints_below HM.out q.h.2.2) (by rw [hj.out]; omega)).mono fun e w' (c : _ ∧ Below q.w.heap.size q.w w') => And.intro c.1 (HS.out _ (q.h.2.2.trans (c.2.mono q.h.2.2.size)))))
  have HV := Lib.hid (fun q : Held (JoinS bl (ol + k) bm om x y W0) => held_calls ((live_any q.w).mono fun e w' (c : _ ∧ Below q.w.heap.size q.w w') => And.intro c.1 (HS.out _ (q.h.2.2.trans (c.2.mono q.h.2.2.size)))))
  have HRI : Hid (rise (l ++ m) = (rise l && rise m && decide (x < y))) := Lib.hid (by rw [hlt.out, hmy.out]; exact rise_append _ _ _ _)
  have hS1 : JoinS bl (ol + k) bm om x y W0 W1.drew := HS.out _ hb4.out.drew
  have hk0 : (0 : Int) ≤ (k : Int) := by omega
  have hkl : (k : Int) < (k : Int) + 1 := by omega
  have hj0 : (0 : Int) < (j : Int) + 1 := by omega
  have hkw : IntKind.i64.wrap (k : Int) = (k : Int) := IntWalk.i64_in _ (by omega)
  have hkw2 : IntKind.i64.wrap ((k : Int) + 1 - 1) = (k : Int) := by rw [show (k : Int) + 1 - 1 = k by omega]; exact hkw
  have hcx : ∀ q : Held (JoinS bl (ol + k) bm om x y W0), q.w.cell? ⟨bl, ol + k, none⟩ = some (.int .i64 x) := fun q => q.h.1
  have hcy : ∀ q : Held (JoinS bl (ol + k) bm om x y W0), q.w.cell? ⟨bm, om, none⟩ = some (.int .i64 y) := fun q => q.h.2.1
  clear HE1 HE2 HE3 HE4 HP HA HB heq hall hlast hone HL HM HI HJ hlt hmy HS hxW hyW hlen hc3n
  generalize rise (l ++ m) = ra at *
  generalize rise l = rl at *
  generalize rise m = rm at *
  obtain ⟨d, hd⟩ : ∃ d, decide (x < y) = d := ⟨_, rfl⟩
  rw [hd] at HRI
  cases rl <;> cases rm <;> cases d
  all_goals
    have hra := HRI.out
    simp only [Bool.and_true, Bool.and_false, Bool.true_and, Bool.false_and] at hra
    subst hra
    clear HRI
    haveI hne : Nonempty (Held (JoinS bl (ol + k) bm om x y W0)) := ⟨⟨_, hS1⟩⟩
    refine wp_region_class (JoinS bl (ol + k) bm om x y W0) (by kernel_rfl) (by kernel_rfl) hS1 ?_
    repeat (go_big_quiet_step ((first | (go_at_call 16; (first | (with_reducible exact HR1.out _) | (with_reducible exact HR2.out _) | (with_reducible exact HR3.out _))) | (go_at_call 8; exact HV.out _))))
    refine wpQuiet_nil ?_
    intro _ hw'
    obtain ⟨⟨Wq, hq⟩, hw''⟩ := hw'
    subst hw''
    clear hcx hcy
    have hq2 := Lib.hid hq.2.2
    clear hq hS1
    go_wp2_with fail
    go_ret
    exact ⟨rfl, hb.out.trans (hq2.out.mono hb.out.size)⟩

theorem succ_of {n : Nat} (h : ¬ n = 0) : ∃ k, n = k + 1 := ⟨n - 1, by omega⟩
set_option maxRecDepth 100000 in
set_option maxHeartbeats 4000000 in
theorem joins_walk (v u : Value) (l m : List Int) (w : World) (hl : Opened.Ints .i64 w v l) (hm : Opened.Ints .i64 w u m) :
    Calls Try.prog 7 #[v, u] w fun e w' => e = .returned (.bool true) ∧ Below w.heap.size w w' := by
  obtain ⟨⟨a, cl, rfl, ha⟩, hab⟩ := id hl
  obtain ⟨⟨b, cm, rfl, hb⟩, hbb⟩ := id hm
  by_cases h1 : 100 < l.length
  · have g1 : decide ((100 : Int) < (l.length : Int)) = true := decide_eq_true (by omega)
    clear h1 ha hb hab hbb
    clear hl hm
    go_enter Try.func7, Try.ntmps7
    go_wp2_with fail
    refine (live_any _).mono ?_
    rintro e w1 ⟨rfl, h1⟩
    go_wp2_with fail
    go_ret
    exact ⟨rfl, h1⟩
  · have g1 : decide ((100 : Int) < (l.length : Int)) = false := decide_eq_false (by omega)
    by_cases h2 : 100 < m.length
    · have g2 : decide ((100 : Int) < (m.length : Int)) = true := decide_eq_true (by omega)
      clear h1 h2 ha hb hab hbb
      clear hl hm
      go_enter Try.func7, Try.ntmps7
      go_wp2_with fail
      refine (live_any _).mono ?_
      rintro e w1 ⟨rfl, h1⟩
      go_wp2_with fail
      go_ret
      exact ⟨rfl, h1⟩
    · have g2 : decide ((100 : Int) < (m.length : Int)) = false := decide_eq_false (by omega)
      by_cases h3 : l.length = 0
      · have g3 : ((l.length : Int) == 0) = true := by rw [beq_iff_eq]; omega
        clear h1 h2 h3 ha hb hab hbb
        clear hl hm
        go_enter Try.func7, Try.ntmps7
        go_wp2_with fail
        refine (live_any _).mono ?_
        rintro e w1 ⟨rfl, h1⟩
        go_wp2_with fail
        go_ret
        exact ⟨rfl, h1⟩
      · have g3 : ((l.length : Int) == 0) = false := by rw [beq_eq_false_iff_ne]; omega
        by_cases h4 : m.length = 0
        · have g4 : ((m.length : Int) == 0) = true := by rw [beq_iff_eq]; omega
          clear h1 h2 h3 h4 ha hb hab hbb
          clear hl hm
          go_enter Try.func7, Try.ntmps7
          go_wp2_with fail
          refine (live_any _).mono ?_
          rintro e w1 ⟨rfl, h1⟩
          go_wp2_with fail
          go_ret
          exact ⟨rfl, h1⟩
        · obtain ⟨bl, ol, rfl, -, -⟩ := ha (by omega)
          obtain ⟨bm, om, rfl, -, -⟩ := hb (by omega)
          clear ha hb hab hbb
          obtain ⟨k, hk⟩ := succ_of h3
          obtain ⟨j, hj⟩ := succ_of h4
          rw [hk] at hl ⊢
          rw [hj] at hm ⊢
          exact joins_main bl ol cl bm om cm k j l m w hl hm (Lib.hid hk) (Lib.hid hj) (by omega) (by omega)

theorem joins_ok {H : Type} {enc : TypeId × Value → H} {d0 d1 : DataW H} {p0 p1 : List MemPlace} (W : World) (b : Nat) (v0 v1 : Value) (o0 : Value.okWide Try.prog W .any b 22 v0) (h0 : DataW.Trod enc Try.prog W 0 (fun _ => true) true 22 v0 d0 p0) (o1 : Value.okWide Try.prog W .any b 22 v1) (h1 : DataW.Trod enc Try.prog W 0 (fun _ => true) true 22 v1 d1 p1) :
    Calls Try.prog 7 #[v0, v1] W fun e w' => e = .returned (.bool true) ∧ Below W.heap.size W w' := by
  obtain ⟨zs, hz⟩ := Opened.ints_of Try.underlying22 Try.underlying3 (by kernel_rfl) o0 h0
  obtain ⟨ys, hy⟩ := Opened.ints_of Try.underlying22 Try.underlying3 (by kernel_rfl) o1 h1
  exact joins_walk v0 v1 zs ys W hz hy

end Dl
end Go.Proofs.Ytlpleikcgikpoaa
