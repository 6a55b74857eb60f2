/-
  WALKS: the document's Decode of reals. Conditions: at most 10000 bytes.
-/
import Derived.Test.YtimgiokhhdkfaaaRealsDec
namespace Go.Proofs.Ytimgiokhhdkfaaa
open Go.RowKit
namespace Rl
open Mem Pk Fl

theorem numK_le' (s : ByteArray) (e : Int) : numK s e ≤ s.size := by
  unfold numK
  split
  · cases h : numR s.data.toList with
    | mk c p =>
      obtain ⟨n, k⟩ := p
      by_cases hc : c = 0
      · subst hc
        have := (put_read h).2.2.1
        rw [size_list] at this
        exact this
      · have := numR_bad (l := s.data.toList) (by rw [h]; exact hc)
        rw [h] at this
        show k ≤ s.size
        have : k = 0 := this.2
        omega
  · omega

set_option maxRecDepth 100000 in
set_option maxHeartbeats 4000000 in
theorem rdecode_any (s : ByteArray) (n : Int) (w : World) (hs : s.size ≤ 10000) :
    Calls Try.prog 16 #[.string s, .int .i64 n] w (DecR s n w) := by
  obtain ⟨i0, hi, hz0, hz1, hz2⟩ := info_parts infoF
  by_cases h0 : n < 0
  · have hE := Lib.hid (DecR.early (s := s) (n := n) (c := 1) (w := w) (w' := w) (by unfold decRE; rw [if_pos h0]) (by unfold decRL; rw [if_pos h0]) (Below.refl _ _))
    have hd : decide (n < 0) = true := decide_eq_true h0
    clear h0
    go_enter Try.func16, Try.ntmps16
    go_wp2_with fail
    go_ret2
    exact hE.out
  · have hd : decide (n < 0) = false := decide_eq_false h0
    by_cases h1 : (s.size : Int) < n
    · have hE := Lib.hid (DecR.early (s := s) (n := n) (c := 2) (w := w) (w' := w) (by unfold decRE; rw [if_neg h0, if_pos h1]) (by unfold decRL; rw [if_neg h0, if_pos h1]) (Below.refl _ _))
      have hd1 : decide ((s.size : Int) < n) = true := decide_eq_true h1
      have hd2 : decide (n > (s.size : Int)) = true := decide_eq_true h1
      clear h0 h1
      go_enter Try.func16, Try.ntmps16
      go_wp2_with fail
      go_ret2
      exact hE.out
    · have hd1 : decide ((s.size : Int) < n) = false := decide_eq_false h1
      have hd2 : decide (n > (s.size : Int)) = false := decide_eq_false h1
      obtain ⟨N, rfl⟩ : ∃ N : Nat, n = (N : Int) := ⟨n.toNat, by omega⟩
      have HD := Lib.hid (dec_parts h1)
      have hN : N ≤ s.size := by omega
      have hd3 : decide (s.size < N) = false := decide_eq_false (by omega)
      clear h0 h1
      go_enter Try.func16, Try.ntmps16
      go_wp2_with fail
      have hA := Lib.hid (alloc_new w (rr s 0 0))
      have hb0 := Lib.hid ((Below.refl w.heap.size w).alloc (Nat.le_refl _) (rr s 0 0))
      have hz0' : w.heap.size + 1 ≤ (w.alloc (rr s 0 0)).heap.size := by simp
      change Code.wp _ _ _ _ (w.alloc (rr s 0 0))
      generalize w.alloc (rr s 0 0) = w0 at *
      clear hd hd1 hd2 hd3
      go_loopw [7, 8, 9] (fun v x i wr => ∃ (k j L : Nat) (out : List Nat), x = .int .u64 (L : Nat) ∧ i = .int .i64 k ∧ k ≤ N ∧ Hid (RAt s N k (rest s j) L out) ∧ Hid (j ≤ s.size) ∧ Hid (wr.heap[w.heap.size]? = some (rr s j 0)) ∧ Hid (OwnF wr (w.heap.size + 1) v out) ∧ Hid (Below w.heap.size w wr) ∧ w.heap.size + 1 ≤ wr.heap.size) (fun _ _ i _ => N - (intOf i).toNat)
      case atStart => exact ⟨0, 0, 0, [], rfl, rfl, by omega, Lib.hid (by rw [rest_zero]; exact RAt.start s N), Lib.hid (Nat.zero_le _), hA, Lib.hid (ownF_nil _ _), hb0, hz0'⟩
      case round =>
        clear hA hb0 hz0'
        obtain ⟨k, j, L, out, rfl, rfl, hk, hR, hj, hH, hO, hb, hz⟩ := hrel
        by_cases hlt : k < N
        · have hlt' : (k : Int) < (N : Int) := by omega
          have hlen := hR.out.len
          have hLb := hR.out.last
          have HI := Lib.hid (rnum_any w.heap.size j s 0 wr hH.out hj.out (by omega))
          have hnl : numN (rest s j) 0 < 2 * S := numN_lt (rest s j) 0
          have hul := xor_lt (swap_lt hnl) hLb
          have hsl : swapN (numN (rest s j) 0) < 2 * S := swap_lt hnl
          have hj2 : Hid (j + numK (rest s j) 0 ≤ s.size) := Lib.hid (by have h1 := numK_le' (rest s j) 0; rw [rest_size] at h1; have := hj.out; omega)
          have hrr := Lib.hid (rest_rest s j (numK (rest s j) 0))
          go_wp2_with fail
          refine HI.out.mono ?_
          rintro e' w2 ⟨rfl, k1, k2⟩
          have hO2 := Lib.hid (ownF_kept k2 hO.out (fun k hk h => by subst h; omega))
          have hb2 := Lib.hid (hb.out.trans (k2.to_below (B := w.heap.size) hb.out.size (fun k hk h => by omega)))
          have hs2 := k2.size
          have qe := rr_err k1
          replace k1 := Lib.hid k1
          clear hH hO hb HI k2
          go_wp2_with fail
          refine (rswap_any _ _ hnl).mono ?_
          rintro e' w3 ⟨rfl, rfl⟩
          have HX := Lib.hid (xor64 hsl hLb)
          obtain ⟨U, hU⟩ : ∃ U, swapN (numN (rest s j) 0) ^^^ L = U := ⟨_, rfl⟩
          rw [hU] at hul HX
          replace hU := Lib.hid hU
          by_cases he : numE (rest s j) 0 = 0
          · have hne : (numE (rest s j) 0 != 0) = false := by rw [he]; rfl
            by_cases hc : canonB U = true
            · have hnx := Lib.hid (fun (b : Nat) (hb : b < 2 * S) (hcb : canon b = canon U) => hR.out.next hlt he (by rw [hU.out]; exact hc) hb (by rw [hU.out]; exact hcb))
              rw [hU.out, hrr.out] at hnx
              rw [he] at hne k1 qe
              clear hR hlt he hU hrr
              have HC := Lib.hid (fun w => rcanon_any U w hul)
              rw [hc] at HC
              clear hc
              generalize swapN (numN (rest s j) 0) = Z at *
              generalize j + numK (rest s j) 0 = j2 at *
              go_wp2_with fail
              rw [HX.out]
              refine (HC.out _).mono ?_
              rintro e' w4 ⟨rfl, rfl⟩
              go_wp2_with fail
              refine (rfloat_any U _ hul).mono ?_
              rintro e' w4 ⟨⟨b, rfl, hbl, hcb, -, -⟩, hb4⟩
              have hnx2 := Lib.hid (hnx.out b hbl hcb)
              have hH4 := Lib.hid (below_at hb4 k1.out (by omega))
              have hO1 : w4.ownsRow (w.heap.size + 1) 33 1 _ out.length (cellsF out) := ownF_kept (Kept.of_below (T := fun _ => False) hb4) hO2.out (fun _ _ h => h)
              have hb4' := Lib.hid (hb2.out.trans (hb4.mono hb2.out.size))
              have hs4 := hb4.size
              clear hnx hcb hb4 k1 hO2 hb2 HC qe
              obtain ⟨w1, rfl⟩ : ∃ w1, w1 = w4 := ⟨_, rfl⟩
              go_wp2_with (at_builtin; refine wpList_append_own _ rfl _ _ 22 rfl (w.heap.size + 1) 33 i0 (.float .f64 0) 1 8 Try.underlying22 hi hz0 hz1 hz2 rfl (by decide) _ _ _ rfl (hO1.alloc _) ⟨w1.heap.size, 0, none⟩ 1 1 [.float .f64 b] rfl rfl (cell_one_new _ _ _) (one_float _) (by unfold maxLen; omega) (by omega) (by simp; omega) ?_; intro v' w3 hown hgrow _)
              have hO5 : OwnF w3 (w.heap.size + 1) v' (out ++ [b]) := ownF_snoc hown
              have hblk : ∀ j, j < w.heap.size + 1 → w3.heap[j]? = (w1.alloc (.cells #[.float .f64 b] 33)).heap[j]? := fun j hj => hgrow.block _ (by simp; omega) (fun e => by have := (hO1.lt _ e.symm).1; omega)
              have hH5 := Lib.hid ((hblk _ (by omega)).trans (alloc_at _ hH4.out))
              have hK6 : Kept (fun k => w.heap.size + 1 ≤ k) w1 w3 := ((Kept.refl _ w1).alloc _).grown hgrow (fun k er _ => (hO1.lt k er).1)
              have hB := Lib.hid (hb4'.out.trans (hK6.to_below (B := w.heap.size) hb4'.out.size (fun k hk h => by omega)))
              have hs5 := hK6.size
              clear hown hgrow hO1 hK6 hblk hH4
              go_wp2_with fail
              go_roundw
              case rel => exact ⟨k + 1, j2, U, _, rfl, by go_num, by omega, hnx2, hj2, hH5, Lib.hid hO5, hB, by omega⟩
              case measure => simp [intOf]; omega
            · have hcf : canonB U = false := by cases h : canonB U with | true => exact absurd h hc | false => rfl
              have hE := Lib.hid (hR.out.bad hlt he (by rw [hU.out]; exact hcf))
              have hP := Lib.hid (DecR.early (c := 5) (HD.out.1.trans hE.out) (HD.out.2.1 (by rw [hE.out]; decide)) hb2.out)
              rw [he] at hne k1 qe
              have HC := Lib.hid (fun w => rcanon_any U w hul)
              rw [hcf] at HC
              clear hR hE he hc hcf HD hU
              generalize swapN (numN (rest s j) 0) = Z at *
              go_wp2_with fail
              rw [HX.out]
              refine (HC.out _).mono ?_
              rintro e' w4 ⟨rfl, rfl⟩
              go_wp2_with fail
              go_ret2
              exact hP.out
          · have hne : (numE (rest s j) 0 != 0) = true := by rw [bne_iff_ne]; exact he
            have hE := Lib.hid (hR.out.cut hlt he)
            have hP := Lib.hid (fun n => DecR.early (HD.out.1.trans hE.out) (HD.out.2.1 (by rw [hE.out]; exact he)) (drew_below hb2.out n))
            clear hR hE he HD hU
            generalize numE (rest s j) 0 = E at *
            go_wp2_with fail
            go_quiet (fail)
            go_wp2_with fail
            go_ret2
            exact hP.out _
        · obtain rfl : k = N := by omega
          have hge : decide (k < k) = false := decide_eq_false hlt
          have hw := Lib.hid hR.out.whole
          have hI := Lib.hid (hO.out.flts hR.out.bound)
          have HDn := Lib.hid (fun W (h : W.heap[w.heap.size]? = some (rr s j 0)) => rdone_any w.heap.size j s 0 W h hj.out (by omega))
          clear hlt hR hO
          by_cases hc : doneE (rest s j) 0 = 0
          · have hP : Hid (decRE s k = 0 ∧ decRL s k = out.map canon) := Lib.hid (by
              have h1 : (rdR k s 0).1 = 0 := by rw [hw.out]; exact hc
              exact ⟨HD.out.1.trans h1, by rw [HD.out.2.2 h1, hw.out]⟩)
            rw [hc] at HDn
            clear hc HD hw
            go_wp2_with fail
            refine (HDn.out _ hH.out).mono ?_
            rintro e' w2 ⟨rfl, m, rfl⟩
            go_wp2_with fail
            go_ret2
            exact ⟨⟨_, out, by rw [hP.out.1]; rfl, flts_below hI.out (drew_below (Below.refl _ _) m), hP.out.2.symm⟩, drew_below hb.out m⟩
          · have hne : (doneE (rest s j) 0 != 0) = true := by rw [bne_iff_ne]; exact hc
            have hP : Hid (∀ n, DecR s k w (.returned (.tuple #[.slice none 0 0, .int .i64 (doneE (rest s j) 0)])) (wr.drewN n)) := Lib.hid (fun n => by
              have h1 : (rdR k s 0).1 = doneE (rest s j) 0 := by rw [hw.out]
              exact DecR.early (HD.out.1.trans h1) (HD.out.2.1 (by rw [h1]; exact hc)) (drew_below hb.out n))
            clear hc HD hw
            generalize doneE (rest s j) 0 = E at *
            go_wp2_with fail
            refine (HDn.out _ hH.out).mono ?_
            rintro e' w2 ⟨rfl, m, rfl⟩
            go_wp2_with fail
            refine (HDn.out (wr.drewN m) hH.out).mono ?_
            rintro e' w2 ⟨rfl, m2, rfl⟩
            go_wp2_with fail
            go_ret2
            exact hP.out (m + m2)

end Rl
end Go.Proofs.Ytimgiokhhdkfaaa
