/-
  WALKS: the law RealsJoins. No condition.
-/
import Derived.Test.YtimgiokhhdkfaaaRealsBackP
import Derived.Test.YtimgiokhhdkfaaaSrc
namespace Go.Proofs.Ytimgiokhhdkfaaa
open Go.RowKit
namespace Rl
open Mem Pk Fl

theorem flts_alloc {W : World} {v : Value} {L : List Nat} (h : Flts W v L) (o : Obj) : Flts (W.alloc o) v L := flts_below h ((Below.refl _ W).alloc (Nat.le_refl _) o)
theorem own_made (w : World) (x : Nat) : (w.alloc (.cells #[.float .f64 x] 33)).ownsRow w.heap.size 33 1 (.slice (some ⟨w.heap.size, 0, none⟩) 1 1) 1 [.float .f64 x] :=
  ⟨rfl, .inr ⟨w.heap.size, 1, #[.float .f64 x], rfl, Nat.le_refl _, alloc_new w _, Nat.le_refl _, by unfold maxLen; omega, rfl, rfl⟩⟩
theorem own_head {W : World} {B : Nat} {v : Value} {x : Nat} {m : List Nat} (h : OwnF W B v (x :: m)) (hx : x < 2 * S) (hm : ∀ n ∈ m, n < 2 * S) :
    ∃ g c, v = .slice (some ⟨g, 0, none⟩) (m.length + 1) c ∧ 1 ≤ c ∧ Flts W v (x :: m) ∧ Flts W (.slice (some ⟨g, 0, none⟩) 1 c) [x] := by
  have hI := h.flts (fun n hn => by rcases List.mem_cons.1 hn with rfl | hn; exact hx; exact hm n hn)
  rcases h.2 with ⟨-, h0⟩ | ⟨g, cap, cur, e, hg, hh, hn, hr⟩
  · cases h0
  · rw [List.length_cons] at hn
    subst e
    refine ⟨g, cap, rfl, by omega, hI, ⟨_, _, rfl, (by omega : 1 ≤ cap), fun _ => ⟨g, 0, rfl, lt_of_block hh, fun j hj => ?_⟩⟩, fun n hn => ?_⟩
    · have e0 : j = 0 := by simp at hj; omega
      subst e0
      exact (flts_at hI (j := 0) (by simp)).2
    · have : n = x := by simpa using hn
      subst this
      exact hx
/-- a slice that came in, as a source of an append. -/
theorem src_of {W : World} {p : Option Addr} {n c : Nat} {L : List Nat} (h : Flts W (.slice p n c) L) (hn : p = none → c = 0) : Src W (.slice p n c) n (cellsF L) := by
  obtain ⟨⟨a', c', e1, h0, h1⟩, -⟩ := id h
  cases e1
  cases p with
  | none =>
    have := hn rfl
    subst this
    have hL : L = [] := List.length_eq_zero_iff.1 (by omega)
    subst hL
    exact .inl ⟨rfl, rfl, rfl⟩
  | some ad =>
    refine .inr ⟨ad, c, rfl, fun j u hu => ?_⟩
    have hj : j < L.length := by
      have := List.getElem?_eq_some_iff.1 hu
      obtain ⟨h3, -⟩ := this
      rwa [cellsF_length] at h3
    obtain ⟨b, o, e2, -, -⟩ := h1 (by omega)
    cases e2
    exact flts_cells h j u hu
theorem src_below {W W' : World} {p : Option Addr} {n c : Nat} {L : List Nat} (h : Flts W (.slice p n c) L) (hn : p = none → c = 0) (hb : Below W.heap.size W W') : Src W' (.slice p n c) n (cellsF L) := (src_of h hn).below hb

set_option maxRecDepth 100000 in
set_option maxHeartbeats 8000000 in
theorem joins_main (bl ol cl k j cm : Nat) (pm : Option Addr) (l m : List Nat) (w : World) (hl : Flts w (.slice (some ⟨bl, ol, none⟩) (k + 1) cl) l) (hm : Flts w (.slice pm j cm) m) (hpm : pm = none → cm = 0) (hk : Hid (l.length = k + 1)) (hj : Hid (m.length = j)) (hk1 : k ≤ 49) (hj1 : j ≤ 50) :
    Calls Try.prog 7 #[.slice (some ⟨bl, ol, none⟩) (k + 1) cl, .slice pm j cm] w fun e w' => e = .returned (.bool true) ∧ Below w.heap.size w w' := by
  obtain ⟨i0, hi, hz0, hz1, hz2⟩ := info_parts infoF
  have HL := Lib.hid hl
  have HM := Lib.hid hm
  have HI := Lib.hid hl.bound
  have HJ := Lib.hid hm.bound
  have HP := Lib.hid hpm
  obtain ⟨t, x, hlt, -, hlx⟩ := last_split hk.out
  obtain ⟨hbl, hx⟩ : bl < w.heap.size ∧ w.cell? ⟨bl, ol + k, none⟩ = some (.float .f64 x) := by
    obtain ⟨e3, h2⟩ := flts_at hl (j := k) (by rw [hk.out]; omega)
    refine ⟨e3, h2.trans ?_⟩
    rw [hlx]
    rfl
  have hxI : x < 2 * S := HI.out x (by rw [hlt]; simp)
  replace hlt := Lib.hid hlt
  replace hx := Lib.hid hx
  clear hl hm hlx hpm
  have hO0 := World.ownsRow_made (base := w.heap.size) (e := 33) (size := 1) w #[] 0 (Nat.le_refl _) (by unfold maxLen; omega) rfl
  have hgl : decide (50 < (k : Int) + 1) = false := decide_eq_false (by omega)
  have hgm : decide (50 < (j : Int)) = false := decide_eq_false (by omega)
  have hel : ((k : Int) + 1 == 0) = false := by rw [beq_eq_false_iff_ne]; omega
  have hcl := Lib.hid (src_below HL.out (fun h => by cases h) ((Below.refl _ w).alloc (Nat.le_refl _) (.cells #[] 33)))
  have hcL : (cellsF l).length = (k + 1) * 1 := by rw [cellsF_length, hk.out]; omega
  have hcM : (cellsF m).length = j * 1 := by rw [cellsF_length, hj.out]; omega
  go_enter Try.func7, Try.ntmps7
  go_wp2_with (first | (at_builtin; refine wpList_append_src rfl (.tmp 27) (.tmp 28) 22 rfl w.heap.size 33 i0 (.float .f64 0) 1 8 Try.underlying22 hi hz0 hz1 hz2 rfl (by decide) (.slice (some ⟨w.heap.size, 0, none⟩) 0 0) 0 [] rfl hO0 _ (k + 1) (cellsF l) rfl hcL hcl.out (ones_float l) (by unfold maxLen; omega) (by omega) (by simp) ?_; intro v1 w1 hown1 hgrow1; rw [Nat.zero_add, List.nil_append] at hown1; have hb1 : Below w.heap.size w w1 := ((Below.refl _ w).alloc (Nat.le_refl _) _).grown hgrow1 (by simp) (fun k e => by cases e; exact Nat.le_refl _); have hcm := Lib.hid (src_below HM.out HP.out hb1); clear hgrow1 hcl hO0) | (at_builtin; refine wpList_append_src rfl (.tmp 29) (.tmp 30) 22 rfl w.heap.size 33 i0 (.float .f64 0) 1 8 Try.underlying22 hi hz0 hz1 hz2 rfl (by decide) _ (k + 1) (cellsF l) rfl hown1 _ j (cellsF m) rfl hcM hcm.out (ones_float m) (by unfold maxLen; omega) (by omega) hb1.size ?_; intro v2 w2 hown2 hgrow2; have hb2 : Below w.heap.size w w2 := hb1.grown hgrow2 hb1.size (fun k e => (hown1.lt k e).1); have hcx : w2.cell? ⟨bl, ol + k, none⟩ = some (.float .f64 x) := (hb2.cell (p := ⟨bl, ol + k, none⟩) hbl).trans hx.out; have hcm2 := Lib.hid (src_below (flts_below HM.out hb2) HP.out ((Below.refl _ w2).alloc (Nat.le_refl _) (.cells #[.float .f64 x] 33))); have hO3 := own_made w2 x; clear hb1 hgrow2 hown1 hcm) | (at_builtin; refine wpList_append_src rfl (.tmp 38) (.tmp 39) 22 rfl w2.heap.size 33 i0 (.float .f64 0) 1 8 Try.underlying22 hi hz0 hz1 hz2 rfl (by decide) (.slice (some ⟨w2.heap.size, 0, none⟩) 1 1) 1 [.float .f64 x] rfl hO3 _ j (cellsF m) rfl hcM hcm2.out (ones_float m) (by unfold maxLen; omega) (by omega) (by simp) ?_; intro v3 w3 hown3 hgrow3; have hb3 : Below w2.heap.size w2 w3 := ((Below.refl _ w2).alloc (Nat.le_refl _) _).grown hgrow3 (by simp) (fun k e => by cases e; exact Nat.le_refl _); clear hgrow3 hcm2 hO3 hcx))
  have h2I : OwnF w2 w.heap.size v2 (l ++ m) := by
    unfold OwnF
    rw [cellsF_append, List.length_append, hk.out, hj.out]
    exact hown2
  have h3I : OwnF w3 w2.heap.size v3 (x :: m) := by
    unfold OwnF
    rw [List.length_cons, hj.out, Nat.add_comm j 1]
    exact hown3
  have hall := Lib.hid (flts_below (h2I.flts (fun n hn => (List.mem_append.1 hn).elim (HI.out n) (HJ.out n))) hb3)
  have hb := Lib.hid (hb2.trans (hb3.mono hb2.size))
  obtain ⟨g, c3, rfl, hc3, hlast, hone⟩ := own_head h3I hxI HJ.out
  replace hlast := Lib.hid hlast
  replace hone := Lib.hid hone
  replace HL := Lib.hid (flts_below HL.out hb.out)
  clear hb2 hb3 hown2 hown3 h2I h3I hx hcL hcM
  have hc3n : ¬ c3 = 0 := by omega
  have hlen : (l ++ m).length ≤ 1000 := by rw [List.length_append, hk.out, hj.out]; omega
  have HE1 := Lib.hid (fun W (h : Below w3.heap.size w3 W) => encode_any _ _ W (flts_below hall.out h) hlen)
  have HE2 := Lib.hid (fun W (h : Below w3.heap.size w3 W) => encode_any _ _ W (flts_below HL.out h) (by rw [hk.out]; omega))
  have HE3 := Lib.hid (fun W (h : Below w3.heap.size w3 W) => encode_any _ _ W (flts_below hlast.out h) (by rw [List.length_cons, hj.out]; omega))
  have HE4 := Lib.hid (fun W (h : Below w3.heap.size w3 W) => encode_any _ _ W (flts_below hone.out h) (by simp))
  have HJE := Lib.hid (join_encR m hlt.out)
  rw [HJE.out.1] at HE1
  rw [HJE.out.2] at HE3
  have HDE : Hid (decRE (str (encR 0 l)) ((k : Int) + 1) = 0 ∧ decRL (str (encR 0 l)) ((k : Int) + 1) = l.map canon) := Lib.hid (by
    have := dec_encR HI.out
    rw [hk.out] at this
    exact this)
  have hsz : (str (encR 0 l)).size ≤ 10000 := by have := encR_len l 0; rw [hk.out] at this; rw [str_size]; omega
  have HA := Lib.hid (part_of (encR 0 l) (encR (canon x) m))
  have HB := Lib.hid (part_of (encR 0 [x]) (encR (canon x) m))
  have heq := Lib.hid (HA.out.2.2.trans HB.out.2.2.symm)
  generalize str (encR 0 l ++ encR (canon x) m) = s at *
  generalize str (encR 0 [x] ++ encR (canon x) m) = u at *
  generalize str (encR 0 l) = hd at *
  generalize str (encR 0 [x]) = on at *
  generalize w3 = W0 at *
  go_wp2_with fail
  refine (HE1.out _ (Below.refl _ _)).mono ?_
  rintro e w4 ⟨rfl, hb4⟩
  have hb4 := Lib.hid hb4
  go_wp2_with fail
  refine (HE2.out _ hb4.out).mono ?_
  rintro e w5 ⟨rfl, hb5⟩
  replace hb4 := Lib.hid (hb4.out.trans (hb5.mono hb4.out.size))
  clear hb5
  go_wp2_with fail
  refine (HE3.out _ hb4.out).mono ?_
  rintro e w6 ⟨rfl, hb5⟩
  replace hb4 := Lib.hid (hb4.out.trans (hb5.mono hb4.out.size))
  clear hb5
  go_wp2_with fail
  refine (HE4.out _ hb4.out).mono ?_
  rintro e w7 ⟨rfl, hb5⟩
  replace hb4 := Lib.hid (hb4.out.trans (hb5.mono hb4.out.size))
  clear hb5 HE1 HE2 HE3 HE4
  go_wp2_with fail
  obtain ⟨hA1, hA2, -⟩ := HA.out
  obtain ⟨hB1, -, -⟩ := HB.out
  have heq2 := heq.out
  have hA1' : (hd.size : Int) ≤ (s.size : Nat) := by omega
  have hB1' : (on.size : Int) ≤ (u.size : Nat) := by omega
  have hA0 : (0 : Int) ≤ (hd.size : Nat) := by omega
  have hB0 : (0 : Int) ≤ (on.size : Nat) := by omega
  have hlA : decide (s.size < hd.size) = false := decide_eq_false (by omega)
  have hlB : decide (u.size < on.size) = false := decide_eq_false (by omega)
  go_quiet (fail)
  replace hb4 := Lib.hid (drew_below hb4.out nq)
  generalize w7.drewN nq = W1 at *
  clear hB1 heq2 hB1' hB0 hlA hlB heq HB HJE hall hlast hone
  go_wp2_with fail
  refine (decode_any hd ((k : Int) + 1) _ hsz).mono ?_
  rintro e w8 ⟨⟨r, L, rfl, hr, hL⟩, hb5⟩
  rw [HDE.out.1]
  have hL2 := hL.trans HDE.out.2
  have hLl : L.length ≤ 100000 := by rw [lens hL2, List.length_map, hk.out]; omega
  replace hL := Lib.hid (sameB_of hL2 rfl)
  replace HL := Lib.hid (flts_below HL.out (hb4.out.trans (hb5.mono hb4.out.size)))
  replace hb4 := Lib.hid (hb4.out.trans (hb5.mono hb4.out.size))
  replace hr := Lib.hid hr
  clear hL2 hb5 hA1 hA2 hA1' hA0 HA
  go_wp2_with fail
  refine (rlsame_any _ _ L l _ hr.out HL.out hLl).mono ?_
  rintro e w9 ⟨rfl, hb5⟩
  rw [hL.out]
  replace hb4 := Lib.hid (hb4.out.trans (hb5.mono hb4.out.size))
  clear hb5
  go_wp2_with fail
  refine (live_any _).mono ?_
  rintro e w10 ⟨rfl, hb5⟩
  replace hb4 := Lib.hid (hb4.out.trans (hb5.mono hb4.out.size))
  clear hb5
  go_wp2_with fail
  go_ret
  exact ⟨rfl, hb.out.trans (hb4.out.mono hb.out.size)⟩

theorem succ_of {n : Nat} (h : ¬ n = 0) : ∃ k, n = k + 1 := ⟨n - 1, by omega⟩
set_option maxRecDepth 100000 in
set_option maxHeartbeats 4000000 in
theorem joins_walk (pl pm : Option Addr) (cl cm : Nat) (l m : List Nat) (w : World) (hl : Flts w (.slice pl l.length cl) l) (hm : Flts w (.slice pm m.length cm) m) (hpm : pm = none → cm = 0) :
    Calls Try.prog 7 #[.slice pl l.length cl, .slice pm m.length cm] w fun e w' => e = .returned (.bool true) ∧ Below w.heap.size w w' := by
  have Hl := Lib.hid hl
  have Hm := Lib.hid hm
  have HP := Lib.hid hpm
  clear hl hm hpm
  by_cases h1 : 50 < l.length
  · have g1 : decide ((50 : Int) < (l.length : Int)) = true := decide_eq_true (by omega)
    clear h1 Hl Hm HP
    go_enter Try.func7, Try.ntmps7
    go_wp2_with fail
    refine (live_any _).mono ?_
    rintro e w1 ⟨rfl, h1⟩
    go_wp2_with fail
    go_ret
    exact ⟨rfl, h1⟩
  · have g1 : decide ((50 : Int) < (l.length : Int)) = false := decide_eq_false (by omega)
    by_cases h2 : 50 < m.length
    · have g2 : decide ((50 : Int) < (m.length : Int)) = true := decide_eq_true (by omega)
      clear h1 h2 Hl Hm HP
      go_enter Try.func7, Try.ntmps7
      go_wp2_with fail
      refine (live_any _).mono ?_
      rintro e w1 ⟨rfl, h1⟩
      go_wp2_with fail
      go_ret
      exact ⟨rfl, h1⟩
    · have g2 : decide ((50 : Int) < (m.length : Int)) = false := decide_eq_false (by omega)
      by_cases h3 : l.length = 0
      · have g3 : ((l.length : Int) == 0) = true := by rw [beq_iff_eq]; omega
        clear h1 h2 h3 Hl Hm HP
        go_enter Try.func7, Try.ntmps7
        go_wp2_with fail
        refine (live_any _).mono ?_
        rintro e w1 ⟨rfl, h1⟩
        go_wp2_with fail
        go_ret
        exact ⟨rfl, h1⟩
      · obtain ⟨k, hk⟩ := succ_of h3
        obtain ⟨bl, ol, rfl⟩ : ∃ b o, pl = some ⟨b, o, none⟩ := by
          obtain ⟨⟨a', c', e1, -, h⟩, -⟩ := Hl.out
          cases e1
          obtain ⟨b, o, e2, -⟩ := h (by omega)
          exact ⟨b, o, e2⟩
        have Hl2 := Hl.out
        rw [hk] at Hl2 ⊢
        exact joins_main bl ol cl k m.length cm pm l m w Hl2 Hm.out HP.out (Lib.hid hk) (Lib.hid rfl) (by omega) (by omega)

/-- a slice of numbers that came in: its words; if it is nil it has no room. -/
theorem arg_of {H : Type} {enc : TypeId × Value → H} {W : World} {b : Nat} {v : Value} {d : DataW H} {p : List MemPlace} (o0 : Value.okWide Try.prog W .any b 22 v) (h : DataW.Trod enc Try.prog W 0 (fun _ => true) true 22 v d p) :
    ∃ (a : Option Addr) (cap : Nat) (zs : List Nat), v = .slice a zs.length cap ∧ Flts W v zs ∧ (a = none → cap = 0) := by
  obtain ⟨zs, hz⟩ := flts_of Try.underlying22 Try.underlying33 (by kernel_rfl) (Opened.ok_slice Try.underlying22 o0) h
  obtain ⟨⟨a, cap, rfl, -, -⟩, -⟩ := id hz
  refine ⟨a, cap, zs, rfl, hz, fun ha => ?_⟩
  subst ha
  obtain ⟨fuel, hf⟩ := h
  rcases Go.Deep.open_slice1 Try.underlying22 (by kernel_rfl) hf with ⟨hcs, -⟩ | ⟨a', len', cap', m, n, V, D, Pl, hcs, -⟩
  · simp [Value.cells] at hcs
    exact hcs.2
  · simp [Value.cells] at hcs
theorem joins_ok {H : Type} {enc : TypeId × Value → H} {d0 d1 : DataW H} {p0 p1 : List MemPlace} (W : World) (b : Nat) (v0 v1 : Value) (o0 : Value.okWide Try.prog W .any b 22 v0) (h0 : DataW.Trod enc Try.prog W 0 (fun _ => true) true 22 v0 d0 p0) (o1 : Value.okWide Try.prog W .any b 22 v1) (h1 : DataW.Trod enc Try.prog W 0 (fun _ => true) true 22 v1 d1 p1) :
    Calls Try.prog 7 #[v0, v1] W fun e w' => e = .returned (.bool true) ∧ Below W.heap.size W w' := by
  obtain ⟨a, c, zs, rfl, hz, -⟩ := arg_of o0 h0
  obtain ⟨a', c', ys, rfl, hy, hn⟩ := arg_of o1 h1
  exact joins_walk a a' c c' zs ys W hz hy hn

end Rl
end Go.Proofs.Ytimgiokhhdkfaaa
