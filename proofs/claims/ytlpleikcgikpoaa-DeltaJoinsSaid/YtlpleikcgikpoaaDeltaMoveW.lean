/-
  WALKS: the law DeltaMoves. No condition.
-/
import Derived.Test.YtlpleikcgikpoaaDeltaLaws1
import Derived.Test.YtlpleikcgikpoaaDeltaMoveP
import Derived.Test.YtlpleikcgikpoaaDeltaSameQ
import Derived.Deep.RegionHeld3
import Derived.Deep.QuietTactic
import Derived.BigQuiet
namespace Go.Proofs.Ytlpleikcgikpoaa
open Go.RowKit
namespace Dl
open Mem Pk

theorem moved_next (d : Int) (l : List Int) (k : Nat) (h : k < l.length) : moved d (l.take (k + 1)) = moved d (l.take k) ++ [wrap64 (l[k]?.getD 0 + d)] := by
  rw [take_next l k h]
  unfold moved
  rw [List.map_append]
  rfl

theorem head_tail {l : List Int} (h : 0 < l.length) : ∃ n t, l = n :: t := by
  cases l with
  | nil => exact absurd h (by simp)
  | cons n t => exact ⟨n, t, rfl⟩
/-- a slice's first cell, and the slice without it. -/
theorem open_row {k : IntKind} {W : World} {v : Value} {L t : List Int} {z : Int} {K : Nat} (h : Opened.Ints k W v L) (room : Room v) (e : L = z :: t) (hL : L.length = K) :
    ∃ b o c, v = .slice (some ⟨b, o, none⟩) K c ∧ W.cell? ⟨b, o, none⟩ = some (.int k z) ∧ Opened.Ints k W (.slice (if c = 1 then some ⟨b, o, none⟩ else some ⟨b, o + 1, none⟩) (K - 1) (c - 1)) t := by
  obtain ⟨⟨a, cap, rfl, hc⟩, hbd⟩ := h
  subst e
  have hr := room _ _ _ rfl
  obtain ⟨b, off, rfl, hb, hcell⟩ := hc (by simp)
  have hKt : K - 1 = t.length := by rw [← hL]; simp
  rw [List.length_cons] at hL hr hcell
  refine ⟨b, off, cap, by rw [← hL]; rfl, hcell 0 (by omega), ⟨_, cap - 1, by rw [hKt], fun h0 => ?_⟩, fun n hn => hbd n (List.mem_cons_of_mem _ hn)⟩
  refine ⟨b, off + 1, by rw [if_neg (by omega)], hb, fun j hj => ?_⟩
  have := hcell (j + 1) (by omega)
  rw [show off + 1 + j = off + (j + 1) by omega]
  exact this

theorem ints_first {k : IntKind} {W : World} {b o K c : Nat} {L t : List Int} {z : Int} (h : Opened.Ints k W (.slice (some ⟨b, o, none⟩) K c) L) (e : L = z :: t) : W.cell? ⟨b, o, none⟩ = some (.int k z) := by
  obtain ⟨⟨a', c', e1, h1⟩, -⟩ := h
  cases e1
  obtain ⟨b', o', e2, -, h2⟩ := h1 (by rw [e]; simp)
  cases e2
  have := h2 0 (by rw [e]; simp)
  rw [e] at this
  exact this
theorem tail_list (p q : List UInt8) : p.length ≤ (str (p ++ q)).size ∧ (str (p ++ q)).extract p.length (str (p ++ q)).size = str q := by
  refine ⟨by rw [str_size]; simp, ?_⟩
  apply ext_list
  rw [Lib.extract_data, str_data, str_data, str_size, List.drop_left, List.take_of_length_le (by simp)]
theorem tail_enc {l t : List Int} {n : Int} (hn : I64 n) (h : l = n :: t) : (str (putL (zigN n))).size ≤ (str (enc (subs 0 l))).size ∧ (str (enc (subs 0 l))).extract (str (putL (zigN n))).size (str (enc (subs 0 l))).size = str (enc (subs n t)) := by
  rw [h, subs_head hn, enc_cons, str_size]
  exact tail_list _ _
theorem tail_enc_moved {l t : List Int} {n : Int} (d : Int) (h : l = n :: t) : (str (putL (zigN (wrap64 (n + d))))).size ≤ (str (enc (subs 0 (moved d l)))).size ∧ (str (enc (subs 0 (moved d l)))).extract (str (putL (zigN (wrap64 (n + d))))).size (str (enc (subs 0 (moved d l)))).size = str (enc (subs n t)) := by
  rw [h, subs_head_moved, enc_cons, str_size (putL _)]
  exact tail_list _ _
theorem q_same {W : World} {va vb : Value} {a : List Int} (ha : Opened.Ints .i64 W va a) (hb : Opened.Ints .i64 W vb a) (hl : a.length ≤ 100000) (n : Nat) :
    Calls Try.prog 9 #[va, vb] (W.drewN n) fun e w' => e = .returned (.bool true) ∧ ∃ m, w' = W.drewN m :=
  (same_q va vb a a (W.drewN n) (ints_below ha (below_drewN (Below.refl _ _) n)) (ints_below hb (below_drewN (Below.refl _ _) n)) hl).mono fun _ _ ⟨h1, m, h2⟩ => ⟨by rw [h1, show decide (a = a) = true from decide_eq_true rfl], n + m, by rw [h2, World.drewN_drewN]⟩

set_option maxRecDepth 100000 in
set_option maxHeartbeats 8000000 in
theorem moves_walk (v : Value) (l : List Int) (d : Int) (w : World) (hv : Opened.Ints .i64 w v l) :
    Calls Try.prog 6 #[v, .int .i64 d] w fun e w' => e = .returned (.bool true) ∧ Below w.heap.size w w' := by
  obtain ⟨i0, hi, hz0, hz1, hz2⟩ := info_parts infoI
  have hr := Lib.hid hv
  have HI : Hid (∀ m ∈ l, I64 m) := Lib.hid (fun m hm => i64_bounds (hv.bound m hm))
  obtain ⟨⟨a, cap, rfl, hcells⟩, -⟩ := hv
  have HC := Lib.hid hcells
  clear hcells
  by_cases hl : 200 < l.length
  · have hl' : (200 : Int) < (l.length : Int) := by omega
    clear hl HC
    go_enter Try.func6, Try.ntmps6
    go_wp2_with fail
    refine (live_any _).mono ?_
    rintro e w1 ⟨rfl, h1⟩
    go_wp2_with fail
    go_ret
    exact ⟨rfl, h1⟩
  · have hl' : (l.length : Int) ≤ 200 := by omega
    have h1k : l.length ≤ 1000 := by omega
    by_cases hz : l.length = 0
    · have hz' : ((l.length : Int) == 0) = true := by rw [beq_iff_eq]; omega
      have hl2 : decide (200 < l.length) = false := decide_eq_false hl
      clear hl hz HC
      go_enter Try.func6, Try.ntmps6
      go_wp2_with fail
      refine (live_any _).mono ?_
      rintro e w1 ⟨rfl, h1⟩
      go_wp2_with fail
      go_ret
      exact ⟨rfl, h1⟩
    · have hz' : ((l.length : Int) == 0) = false := by rw [beq_eq_false_iff_ne]; omega
      have hl2 : decide (200 < l.length) = false := decide_eq_false hl
      clear hl hz
      go_enter Try.func6, Try.ntmps6
      go_wp2_with fail
      go_loopw [5, 6] (fun r i wr => ∃ k : Nat, i = .int .i64 k ∧ k ≤ l.length ∧ Hid (OwnI wr w.heap.size r (moved d (l.take k))) ∧ Below w.heap.size w wr) (fun _ i _ => l.length - (intOf i).toNat)
      case atStart => exact ⟨0, rfl, by omega, Lib.hid (ownI_nil _ _), Below.refl _ _⟩
      case round =>
        obtain ⟨k, rfl, hk, hO, hb⟩ := hrel
        by_cases hlt : k < l.length
        · obtain ⟨cb, off, rfl, hcb, hcell⟩ := HC.out (by omega)
          have hck : wr.cell? ⟨cb, off + k, none⟩ = some (.int .i64 (l.getD k 0)) := (hb.cell (p := ⟨cb, off + k, none⟩) hcb).trans (hcell k hlt)
          have hlt' : (k : Int) < l.length := by omega
          have hgd : l.getD k 0 = l[k]?.getD 0 := rfl
          rw [hgd] at hck
          have hmv := Lib.hid (moved_next d l k hlt)
          have hlen : (moved d (l.take k)).length = k := by rw [moved_length, List.length_take]; omega
          have hO' := hO.out
          clear hcell hgd hlt hO
          generalize l[k]?.getD 0 = c at *
          generalize moved d (l.take k) = out at *
          unfold OwnI at hO'
          have hsz := hb.size
          go_wp2_with (at_builtin; refine wpList_append_own _ rfl _ _ 22 rfl w.heap.size 3 i0 (.int .i64 0) 1 8 Try.underlying22 hi hz0 hz1 hz2 rfl (by decide) _ _ _ rfl (hO'.alloc _) ⟨wr.heap.size, 0, none⟩ 1 1 [.int .i64 (wrap64 (c + d))] rfl rfl (cell_one_new _ _ _) (one_int _) (by unfold maxLen; omega) (by omega) (by simp; omega) ?_; intro v' w3 hown hgrow _)
          have hO2 : OwnI w3 w.heap.size v' (out ++ [wrap64 (c + d)]) := ownI_snoc hown
          rw [← hmv.out] at hO2
          have hB := hb.grownI hgrow hO'
          clear hown hgrow hO'
          go_wp2_with fail
          go_roundw
          case rel => exact ⟨k + 1, by go_num, by omega, Lib.hid hO2, hB⟩
          case measure => simp [intOf]; omega
        · obtain rfl : k = l.length := by omega
          have hge : decide (l.length < l.length) = false := decide_eq_false hlt
          have hm := hO.out
          rw [List.take_of_length_le (Nat.le_refl _)] at hm
          replace hm := Lib.hid (hm.ints (moved_bound d l))
          replace hr := Lib.hid (ints_below hr.out hb)
          clear hlt hO
          go_wp2_with fail
          refine (deltas_room _ l _ hr.out h1k).mono ?_
          rintro e w1 ⟨⟨r1, rfl, ha, ra⟩, hb2⟩
          replace ha := Lib.hid ha
          replace ra := Lib.hid ra
          replace hr := Lib.hid (ints_below hr.out hb2)
          replace hm := Lib.hid (ints_below hm.out hb2)
          replace hb := Lib.hid (hb.trans (hb2.mono hb.size))
          clear hb2
          go_wp2_with fail
          refine (deltas_room _ (moved d l) _ hm.out (by rw [moved_length]; omega)).mono ?_
          rintro e w2 ⟨⟨r2, rfl, hc, rc⟩, hb2⟩
          replace hc := Lib.hid hc
          replace rc := Lib.hid rc
          replace ha := Lib.hid (ints_below ha.out hb2)
          replace hr := Lib.hid (ints_below hr.out hb2)
          replace hm := Lib.hid (ints_below hm.out hb2)
          replace hb := Lib.hid (hb.out.trans (hb2.mono hb.out.size))
          clear hb2
          have hpos : 0 < l.length := by have := (beq_eq_false_iff_ne.1 hz'); omega
          obtain ⟨n, t, hnt⟩ := head_tail hpos
          have hnI : I64 n := HI.out n (by rw [hnt]; exact List.mem_cons_self)
          have HT := Lib.hid (subs_head hnI (l := t))
          have HT2 := Lib.hid (subs_head_moved d n t)
          have hK := Lib.hid (show (n :: t).length = l.length by rw [hnt])
          obtain ⟨br, orr, rfl, -, hcr⟩ := HC.out hpos
          have hcn : w2.cell? ⟨br, orr, none⟩ = some (.int .i64 n) := by
            obtain ⟨⟨a', c', e1, h1⟩, -⟩ := hr.out
            cases e1
            obtain ⟨b', o', e2, -, h2⟩ := h1 hpos
            cases e2
            have := h2 0 hpos
            rw [hnt] at this
            exact this
          obtain ⟨ba, oa, ca, rfl, hca, hla⟩ := open_row ha.out ra.out (z := n) (t := subs n t) (by rw [hnt]; exact HT.out) (subs_length l 0)
          obtain ⟨bc, oc, cc, rfl, hcc, hlc⟩ := open_row hc.out rc.out (z := wrap64 (n + d)) (t := subs n t) (by rw [hnt]; exact HT2.out) ((subs_length _ 0).trans (moved_length d l))
          replace hnt := Lib.hid hnt
          replace hla := Lib.hid hla
          replace hlc := Lib.hid hlc
          have hKp : 1 ≤ l.length := hpos
          have hw1 := IntWalk.i64_left (n + d)
          obtain ⟨m, hmw⟩ : ∃ m, wrap64 (n + d) = m := ⟨_, rfl⟩
          rw [hmw] at hw1 hcc
          clear HT HT2 ha ra hc rc hcr HC
          go_wp2_with fail
          have HQ := Lib.hid (fun x => q_same hla.out hlc.out (by rw [subs_length]; have h1 := hK.out; rw [List.length_cons] at h1; omega) x)
          go_quiet ((go_at_call 9; exact HQ.out _))
          clear HQ hla hlc hca hcc
          generalize (if ca = 1 then some (⟨ba, oa, none⟩ : Addr) else some ⟨ba, oa + 1, none⟩) = pa at *
          generalize (if cc = 1 then some (⟨bc, oc, none⟩ : Addr) else some ⟨bc, oc + 1, none⟩) = pc at *
          have hbq := below_drewN (Below.refl w2.heap.size w2) nq
          replace hr := Lib.hid (ints_below hr.out hbq)
          replace hm := Lib.hid (ints_below hm.out hbq)
          replace hb := Lib.hid (hb.out.trans (hbq.mono hb.out.size))
          clear hbq
          generalize w2.drewN nq = w3 at *
          have HX := Lib.hid (tail_enc hnI hnt.out)
          have HY := Lib.hid (tail_enc_moved d hnt.out)
          rw [hmw] at HY
          have hsz1 : (str (enc (subs 0 l))).size ≤ 10000 := by have := enc_len (subs 0 l); rw [subs_length] at this; rw [str_size]; omega
          have hsz2 : (str (enc (subs 0 (moved d l)))).size ≤ 10000 := by have := enc_len (subs 0 (moved d l)); rw [subs_length, moved_length] at this; rw [str_size]; omega
          have HE1 := Lib.hid (fun W (h : Opened.Ints .i64 W (.slice (some ⟨br, orr, none⟩) l.length cap) l) => encode_any _ l W h h1k)
          have HE2 := Lib.hid (fun W (h : Opened.Ints .i64 W u5 (moved d l)) => encode_any _ (moved d l) W h (by rw [moved_length]; omega))
          have hmI : I64 m := by rw [← hmw]; exact i64_wrap _
          generalize str (enc (subs 0 l)) = s at *
          generalize str (enc (subs 0 (moved d l))) = u at *
          go_wp2_with fail
          refine (HE1.out _ hr.out).mono ?_
          rintro e w4 ⟨rfl, hb2⟩
          replace hr := Lib.hid (ints_below hr.out hb2)
          replace hm := Lib.hid (ints_below hm.out hb2)
          replace hb := Lib.hid (hb.out.trans (hb2.mono hb.out.size))
          clear hb2 HE1
          go_wp2_with fail
          refine (HE2.out _ hm.out).mono ?_
          rintro e w5 ⟨rfl, hb2⟩
          replace hr := Lib.hid (ints_below hr.out hb2)
          replace hb := Lib.hid (hb.out.trans (hb2.mono hb.out.size))
          clear hb2 HE2 hm hcn
          have hcn := ints_first hr.out hnt.out
          go_wp2_with fail
          refine (rzig_any n _ hnI.1 hnI.2).mono ?_
          rintro e w6 ⟨rfl, rfl⟩
          go_wp2_with fail
          refine (rput_any (zigN n) _ (zig_lt hnI.1 hnI.2)).mono ?_
          rintro e w6 ⟨rfl, hb2⟩
          replace hr := Lib.hid (ints_below hr.out hb2)
          replace hb := Lib.hid (hb.out.trans (hb2.mono hb.out.size))
          clear hb2 hcn
          have hcn := ints_first hr.out hnt.out
          go_wp2_with fail
          refine (rzig_any m _ hmI.1 hmI.2).mono ?_
          rintro e w7 ⟨rfl, rfl⟩
          go_wp2_with fail
          refine (rput_any (zigN m) _ (zig_lt hmI.1 hmI.2)).mono ?_
          rintro e w7 ⟨rfl, hb2⟩
          replace hb := Lib.hid (hb.out.trans (hb2.mono hb.out.size))
          clear hb2 hcn hr
          go_wp2_with fail
          have hx := HX.out.1
          have hy := HY.out.1
          have hxy : s.extract (str (putL (zigN n))).size s.size = u.extract (str (putL (zigN m))).size u.size := HX.out.2.trans HY.out.2.symm
          clear HX HY
          generalize (str (putL (zigN n))).size = x at *
          generalize (str (putL (zigN m))).size = y at *
          have HL2 := Lib.hid (fun W (h : Below w.heap.size w W) => (live_any W).mono fun _ _ (h2 : _ ∧ _) => And.intro h2.1 (h.trans (h2.2.mono h.size)))
          have hx1 : (x : Int) ≤ (s.size : Nat) := by omega
          have hy1 : (y : Int) ≤ (u.size : Nat) := by omega
          have hx0 : (0 : Int) ≤ (x : Nat) := by omega
          have hy0 : (0 : Int) ≤ (y : Nat) := by omega
          have hbo := hb.out
          go_region_held3 (fun W => Below w.heap.size w W) (first | assumption | exact hbo.drew) ((go_at_call 8; (refine (HL2.out _ (by assumption)).mono ?_); rintro e' W' ⟨rfl, hS'⟩))
          all_goals
            go_wp2_with fail
            go_ret
            exact ⟨rfl, hS'⟩

end Dl
end Go.Proofs.Ytlpleikcgikpoaa
