/-
  WALKS: package reals' Decode, and the document's. Conditions: at most 10000 bytes.
-/
import Derived.Test.YtimgiokhhdkfaaaRealsSame
namespace Go.Proofs.Ytimgiokhhdkfaaa
open Go.RowKit
namespace Rl
open Mem Pk Fl

structure RAt (s : ByteArray) (N k : Nat) (t : ByteArray) (L : Nat) (out : List Nat) : Prop where
  eq : rdR N s 0 = ((rdR (N - k) t L).1, out.map canon ++ (rdR (N - k) t L).2)
  len : out.length = k
  size : t.size ≤ s.size
  bound : ∀ b ∈ out, b < 2 * S
  last : L < 2 * S
theorem RAt.start (s : ByteArray) (N : Nat) : RAt s N 0 s 0 [] := ⟨rfl, rfl, Nat.le_refl _, fun _ h => by simp at h, S_pos⟩
theorem RAt.next {s t : ByteArray} {N k L b : Nat} {out : List Nat} (h : RAt s N k t L out) (hk : k < N) (he : numE t 0 = 0) (hc : canonB (swapN (numN t 0) ^^^ L) = true) (hb : b < 2 * S) (hcb : canon b = canon (swapN (numN t 0) ^^^ L)) :
    RAt s N (k + 1) (rest t (numK t 0)) (swapN (numN t 0) ^^^ L) (out ++ [b]) := by
  have hN : N - k = (N - (k + 1)) + 1 := by omega
  have e1 : rdR (N - k) t L = ((rdR (N - (k + 1)) (rest t (numK t 0)) (swapN (numN t 0) ^^^ L)).1, (swapN (numN t 0) ^^^ L) :: (rdR (N - (k + 1)) (rest t (numK t 0)) (swapN (numN t 0) ^^^ L)).2) := by
    rw [hN, rdR, if_neg (by rw [he]; simp), if_neg (by rw [hc]; simp)]
  refine ⟨?_, by rw [List.length_append, h.len]; rfl, by rw [rest_size]; have := h.size; omega, fun n hn => ?_, xor_lt (swap_lt (numN_lt t 0)) h.last⟩
  · rw [h.eq, e1, List.map_append, List.append_assoc]
    show _ = (_, _ ++ ([canon b] ++ _))
    rw [hcb, canonB_true hc]
    rfl
  · rw [List.mem_append, List.mem_singleton] at hn
    rcases hn with hn | rfl
    · exact h.bound n hn
    · exact hb
theorem RAt.cut {s t : ByteArray} {N k L : Nat} {out : List Nat} (h : RAt s N k t L out) (hk : k < N) (he : numE t 0 ≠ 0) : (rdR N s 0).1 = numE t 0 := by
  have hN : N - k = (N - (k + 1)) + 1 := by omega
  rw [h.eq, hN, rdR, if_pos he]
theorem RAt.bad {s t : ByteArray} {N k L : Nat} {out : List Nat} (h : RAt s N k t L out) (hk : k < N) (he : numE t 0 = 0) (hc : canonB (swapN (numN t 0) ^^^ L) = false) : (rdR N s 0).1 = 5 := by
  have hN : N - k = (N - (k + 1)) + 1 := by omega
  rw [h.eq, hN, rdR, if_neg (by rw [he]; simp), if_pos hc]
theorem RAt.whole {s t : ByteArray} {N L : Nat} {out : List Nat} (h : RAt s N N t L out) : rdR N s 0 = (doneE t 0, out.map canon) := by
  rw [h.eq, Nat.sub_self, rdR, List.append_nil]
/-- what Decode's answer is. -/
def DecR (s : ByteArray) (n : Int) (w : World) (e : Ending) (w' : World) : Prop :=
  (∃ r L, e = .returned (.tuple #[r, .int .i64 (decRE s n)]) ∧ Flts w' r L ∧ L.map canon = decRL s n) ∧ Below w.heap.size w w'
theorem DecR.early {s : ByteArray} {n c : Int} {w w' : World} (h : decRE s n = c) (h0 : decRL s n = []) (hb : Below w.heap.size w w') : DecR s n w (.returned (.tuple #[.slice none 0 0, .int .i64 c])) w' :=
  ⟨⟨.slice none 0 0, [], by rw [h], flts_nil _, h0.symm⟩, hb⟩
theorem dec_parts {s : ByteArray} {N : Nat} (h : ¬ (s.size : Int) < (N : Int)) : decRE s N = (rdR N s 0).1 ∧ ((rdR N s 0).1 ≠ 0 → decRL s N = []) ∧ ((rdR N s 0).1 = 0 → decRL s N = (rdR N s 0).2) := by
  have h0 : ¬ (N : Int) < 0 := by omega
  unfold decRE decRL
  rw [if_neg h0, if_neg h, if_neg h0, if_neg h, Int.toNat_natCast]
  exact ⟨rfl, fun h => if_neg h, fun h => if_pos h⟩
theorem ownF_kept {T : Nat → Prop} {w w' : World} {B : Nat} {v : Value} {l : List Nat} (k : Kept T w w') (h : OwnF w B v l) (hT : ∀ k, B ≤ k → ¬ T k) : OwnF w' B v l := by
  refine ⟨h.1, ?_⟩
  rcases h.2 with h2 | ⟨g, cap, cur, ev, hg, hh, r⟩
  · exact .inl h2
  · exact .inr ⟨g, cap, cur, ev, hg, k.at hh (hT g hg), r⟩
theorem drew_below {B : Nat} {w W : World} (h : Below B w W) (n : Nat) : Below B w (W.drewN n) := ⟨h.os, h.tape, h.output, h.size, h.block⟩

set_option maxRecDepth 100000 in
set_option maxHeartbeats 4000000 in
theorem decode_any (s : ByteArray) (n : Int) (w : World) (hs : s.size ≤ 10000) :
    Calls Try.prog 15 #[.string s, .int .i64 n] w (DecR s n w) := by
  obtain ⟨i0, hi, hz0, hz1, hz2⟩ := info_parts infoF
  by_cases h0 : n < 0
  · have hE := Lib.hid (DecR.early (s := s) (n := n) (c := 1) (w := w) (w' := w) (by unfold decRE; rw [if_pos h0]) (by unfold decRL; rw [if_pos h0]) (Below.refl _ _))
    have hd : decide (n < 0) = true := decide_eq_true h0
    clear h0
    go_enter Try.func15, Try.ntmps15
    go_wp2_with fail
    go_ret2
    exact hE.out
  · have hd : decide (n < 0) = false := decide_eq_false h0
    by_cases h1 : (s.size : Int) < n
    · have hE := Lib.hid (DecR.early (s := s) (n := n) (c := 2) (w := w) (w' := w) (by unfold decRE; rw [if_neg h0, if_pos h1]) (by unfold decRL; rw [if_neg h0, if_pos h1]) (Below.refl _ _))
      have hd1 : decide ((s.size : Int) < n) = true := decide_eq_true h1
      have hd2 : decide (n > (s.size : Int)) = true := decide_eq_true h1
      clear h0 h1
      go_enter Try.func15, Try.ntmps15
      go_wp2_with fail
      go_ret2
      exact hE.out
    · have hd1 : decide ((s.size : Int) < n) = false := decide_eq_false h1
      have hd2 : decide (n > (s.size : Int)) = false := decide_eq_false h1
      obtain ⟨N, rfl⟩ : ∃ N : Nat, n = (N : Int) := ⟨n.toNat, by omega⟩
      have HD := Lib.hid (dec_parts h1)
      have hN : N ≤ s.size := by omega
      have hd3 : decide (s.size < N) = false := decide_eq_false (by omega)
      clear h0 h1
      go_enter Try.func15, Try.ntmps15
      go_wp2_with fail
      refine (chain_any _ _).mono ?_
      rintro e w1 ⟨rfl, h1, h2, h3, h4⟩
      replace h1 := Lib.hid h1
      replace h2 := Lib.hid h2
      replace h3 := Lib.hid h3
      replace h4 := Lib.hid h4
      go_wp2_with fail
      refine (new_any s _).mono ?_
      rintro e w' ⟨rfl, rfl⟩
      rw [h3.out]
      have hA : Hid ((w1.alloc (rd s 0)).heap[w.heap.size + 2]? = some (rd s 0)) := Lib.hid (by rw [← h3.out]; exact alloc_new w1 (rd s 0))
      have hK0 := Lib.hid (alloc_at (rd s 0) h1.out)
      have hL0 := Lib.hid (alloc_at (rd s 0) h2.out)
      have hb0 : Hid (Below w.heap.size w (w1.alloc (rd s 0))) := Lib.hid (h4.out.alloc h4.out.size _)
      have hz0' : w.heap.size + 3 ≤ (w1.alloc (rd s 0)).heap.size := by have := h3.out; simp; omega
      clear h1 h2 h4 h3
      go_wp2_with fail
      generalize w1.alloc (rd s 0) = w0 at *
      clear hd hd1 hd2 hd3
      go_loopw [8, 24] (fun v i wr => ∃ (k : Nat) (t : ByteArray) (L : Nat) (out : List Nat), i = .int .i64 k ∧ k ≤ N ∧ Hid (RAt s N k t L out) ∧ Hid (wr.heap[w.heap.size]? = some (keepO 28)) ∧ Hid (wr.heap[w.heap.size + 1]? = some (lastO L)) ∧ Hid (wr.heap[w.heap.size + 2]? = some (rd t 0)) ∧ Hid (OwnF wr (w.heap.size + 3) v out) ∧ Hid (Below w.heap.size w wr) ∧ w.heap.size + 3 ≤ wr.heap.size) (fun _ i _ => N - (intOf i).toNat)
      case atStart => exact ⟨0, s, 0, [], rfl, by omega, Lib.hid (RAt.start s N), hK0, hL0, hA, Lib.hid (ownF_nil _ _), hb0, hz0'⟩
      case round =>
        clear hK0 hL0 hA hb0 hz0'
        obtain ⟨k, t, L, out, rfl, hk, hR, hK, hL, hH, hO, hb, hz⟩ := hrel
        by_cases hlt : k < N
        · have hlt' : (k : Int) < (N : Int) := by omega
          have hlen := hR.out.len
          have hts := hR.out.size
          have hLb := hR.out.last
          have HI := Lib.hid (num_any (w.heap.size + 2) t 0 wr hH.out (by omega))
          have hnl : numN t 0 < 2 * S := numN_lt t 0
          have hul := xor_lt (swap_lt hnl) hLb
          go_wp2_with fail
          refine HI.out.mono ?_
          rintro e' w2 ⟨rfl, k1, k2⟩
          have hK2 := Lib.hid (k2.at hK.out (by omega))
          have hL2 := Lib.hid (k2.at hL.out (by omega))
          have hO2 := Lib.hid (ownF_kept k2 hO.out (fun k hk h => by subst h; omega))
          have hb2 := Lib.hid (hb.out.trans (k2.to_below (B := w.heap.size) hb.out.size (fun k hk h => by omega)))
          have hs2 := k2.size
          replace k1 := Lib.hid k1
          clear hK hL hH hO hb HI k2
          go_wp2_with fail
          refine (swap_any _ _ hnl).mono ?_
          rintro e' w3 ⟨rfl, rfl⟩
          go_wp2_with fail
          refine (next_dec _ _ _ _ _ hK2.out hL2.out (swap_lt hnl) hLb).mono ?_
          rintro e' w3 ⟨rfl, rfl⟩
          obtain ⟨U, hU⟩ : ∃ U, swapN (numN t 0) ^^^ L = U := ⟨_, rfl⟩
          rw [hU] at hul ⊢
          have hK3 := Lib.hid (set_other (p := ⟨w.heap.size + 1, 0, none⟩) hK2.out (show w.heap.size ≠ w.heap.size + 1 by omega) (.int .u64 ((U : Nat) : Int)))
          have hL3 := Lib.hid ((set_at hL2.out 0 (.int .u64 ((U : Nat) : Int))).trans (show some _ = some (lastO U) from rfl))
          have hH3 := Lib.hid (set_other (p := ⟨w.heap.size + 1, 0, none⟩) k1.out (show w.heap.size + 2 ≠ w.heap.size + 1 by omega) (.int .u64 ((U : Nat) : Int)))
          have k3 := (Kept.refl (fun i => i = w.heap.size + 1) w2).setCell (p := ⟨w.heap.size + 1, 0, none⟩) (fun _ => rfl) (.int .u64 ((U : Nat) : Int))
          have hO3 := Lib.hid (ownF_kept k3 hO2.out (fun k hk h => by subst h; omega))
          have hb3 := Lib.hid (hb2.out.trans (k3.to_below (B := w.heap.size) hb2.out.size (fun k hk h => by omega)))
          have hs3 := k3.size
          clear hK2 hL2 k1 k3 hO2 hb2
          generalize w2.setCell ⟨w.heap.size + 1, 0, none⟩ (.int .u64 ((U : Nat) : Int)) = w1' at *
          obtain ⟨w1, rfl⟩ : ∃ w1, w1 = w1' := ⟨_, rfl⟩
          replace hU := Lib.hid hU
          go_wp2_with fail
          refine (err_any _ _ _ _ hH3.out).mono ?_
          rintro e' w4 ⟨rfl, rfl⟩
          by_cases he : numE t 0 = 0
          · have hne : (numE t 0 != 0) = false := by rw [he]; rfl
            by_cases hc : canonB U = true
            · have hnx := Lib.hid (fun (b : Nat) (hb : b < 2 * S) (hcb : canon b = canon U) => hR.out.next hlt he (by rw [hU.out]; exact hc) hb (by rw [hU.out]; exact hcb))
              rw [hU.out] at hnx
              rw [he] at hne hH3 ⊢
              clear hR hlt he hU
              have HC := Lib.hid (canon_any U w1 hul)
              rw [hc] at HC
              clear hc
              generalize rest t (numK t 0) = t2 at *
              go_wp2_with fail
              refine HC.out.mono ?_
              rintro e' w4 ⟨rfl, rfl⟩
              go_wp2_with fail
              refine (float_any U _ hul).mono ?_
              rintro e' w4 ⟨⟨b, rfl, hbl, hcb, -, -⟩, hb4⟩
              have hnx2 := Lib.hid (hnx.out b hbl hcb)
              have hK4 := Lib.hid (below_at hb4 hK3.out (by omega))
              have hL4 := Lib.hid (below_at hb4 hL3.out (by omega))
              have hH4 := Lib.hid (below_at hb4 hH3.out (by omega))
              have hO1 : w4.ownsRow (w.heap.size + 3) 33 1 _ out.length (cellsF out) := ownF_kept (Kept.of_below (T := fun _ => False) hb4) hO3.out (fun _ _ h => h)
              have hb4' := Lib.hid (hb3.out.trans (hb4.mono hb3.out.size))
              have hs4 := hb4.size
              clear hnx hcb hb4 hK3 hL3 hH3 hO3 hb3 HC
              obtain ⟨w1, rfl⟩ : ∃ w1, w1 = w4 := ⟨_, rfl⟩
              go_wp2_with (at_builtin; refine wpList_append_own _ rfl _ _ 22 rfl (w.heap.size + 3) 33 i0 (.float .f64 0) 1 8 Try.underlying22 hi hz0 hz1 hz2 rfl (by decide) _ _ _ rfl (hO1.alloc _) ⟨w1.heap.size, 0, none⟩ 1 1 [.float .f64 b] rfl rfl (cell_one_new _ _ _) (one_float _) (by unfold maxLen; omega) (by omega) (by simp; omega) ?_; intro v' w3 hown hgrow _)
              have hO5 : OwnF w3 (w.heap.size + 3) v' (out ++ [b]) := ownF_snoc hown
              have hblk : ∀ j, j < w.heap.size + 3 → w3.heap[j]? = (w1.alloc (.cells #[.float .f64 b] 33)).heap[j]? := fun j hj => hgrow.block _ (by simp; omega) (fun e => by have := (hO1.lt _ e.symm).1; omega)
              have hK5 := Lib.hid ((hblk _ (by omega)).trans (alloc_at _ hK4.out))
              have hL5 := Lib.hid ((hblk _ (by omega)).trans (alloc_at _ hL4.out))
              have hH5 := Lib.hid ((hblk _ (by omega)).trans (alloc_at _ hH4.out))
              have hK6 : Kept (fun k => w.heap.size + 3 ≤ k) w1 w3 := ((Kept.refl _ w1).alloc _).grown hgrow (fun k er _ => (hO1.lt k er).1)
              have hB := Lib.hid (hb4'.out.trans (hK6.to_below (B := w.heap.size) hb4'.out.size (fun k hk h => by omega)))
              have hs5 := hK6.size
              clear hown hgrow hO1 hK6 hblk hK4 hL4 hH4
              go_wp2_with fail
              go_roundw
              case rel => exact ⟨k + 1, t2, U, _, by go_num, by omega, hnx2, hK5, hL5, hH5, Lib.hid hO5, hB, by omega⟩
              case measure => simp [intOf]; omega
            · have hcf : canonB U = false := by cases h : canonB U with | true => exact absurd h hc | false => rfl
              have hE := Lib.hid (hR.out.bad hlt he (by rw [hU.out]; exact hcf))
              have hP := Lib.hid (DecR.early (c := 5) (HD.out.1.trans hE.out) (HD.out.2.1 (by rw [hE.out]; decide)) hb3.out)
              rw [he]
              have HC := Lib.hid (canon_any U w1 hul)
              rw [hcf] at HC
              clear hR hE he hc hcf hne HD hU
              go_wp2_with fail
              refine HC.out.mono ?_
              rintro e' w4 ⟨rfl, rfl⟩
              go_wp2_with fail
              go_ret2
              exact hP.out
          · have hne : (numE t 0 != 0) = true := by rw [bne_iff_ne]; exact he
            have hE := Lib.hid (hR.out.cut hlt he)
            have hP := Lib.hid (DecR.early (HD.out.1.trans hE.out) (HD.out.2.1 (by rw [hE.out]; exact he)) hb3.out)
            clear hR hE he HD hU
            generalize numE t 0 = E at *
            go_wp2_with fail
            go_ret2
            exact hP.out
        · obtain rfl : k = N := by omega
          have hge : decide (k < k) = false := decide_eq_false hlt
          have hw := Lib.hid hR.out.whole
          have hI := Lib.hid (hO.out.flts hR.out.bound)
          have HDn := Lib.hid (done_any (w.heap.size + 2) t 0 wr hH.out)
          clear hlt hR hO
          by_cases hc : doneE t 0 = 0
          · have hP : Hid (decRE s k = 0 ∧ decRL s k = out.map canon) := Lib.hid (by
              have h1 : (rdR k s 0).1 = 0 := by rw [hw.out]; exact hc
              exact ⟨HD.out.1.trans h1, by rw [HD.out.2.2 h1, hw.out]⟩)
            rw [hc] at HDn
            clear hc HD hw
            go_wp2_with fail
            refine HDn.out.mono ?_
            rintro e' w2 ⟨rfl, rfl⟩
            go_wp2_with fail
            go_ret2
            exact ⟨⟨_, out, by rw [hP.out.1]; rfl, hI.out, hP.out.2.symm⟩, hb.out⟩
          · have hne : (doneE t 0 != 0) = true := by rw [bne_iff_ne]; exact hc
            have hP : Hid (DecR s k w (.returned (.tuple #[.slice none 0 0, .int .i64 (doneE t 0)])) wr) := Lib.hid (by
              have h1 : (rdR k s 0).1 = doneE t 0 := by rw [hw.out]
              exact DecR.early (HD.out.1.trans h1) (HD.out.2.1 (by rw [h1]; exact hc)) hb.out)
            clear hc HD hw
            generalize doneE t 0 = E at *
            go_wp2_with fail
            refine HDn.out.mono ?_
            rintro e' w2 ⟨rfl, rfl⟩
            go_wp2_with fail
            go_ret2
            exact hP.out

end Rl
end Go.Proofs.Ytimgiokhhdkfaaa
