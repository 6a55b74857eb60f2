/-
  WALKS: the document's Decode. Conditions: at most 10000 bytes.
-/
import Derived.Test.YtlpleikcgikpoaaDeltaDec
namespace Go.Proofs.Ytlpleikcgikpoaa
open Go.RowKit
namespace Dl
open Mem Pk

theorem below_drewN {B : Nat} {w W : World} (h : Below B w W) (n : Nat) : Below B w (W.drewN n) := ⟨h.os, h.tape, h.output, h.size, h.block⟩
theorem numK_le' (s : ByteArray) (e : Int) : numK s e ≤ s.size := by
  unfold numK
  split
  · cases h : numR s.data.toList with
    | mk c p =>
      obtain ⟨n, k⟩ := p
      by_cases hc : c = 0
      · subst hc
        have := (put_read h).2.2.1
        rw [size_list] at this
        exact this
      · have := numR_bad (l := s.data.toList) (by rw [h]; exact hc)
        rw [h] at this
        show k ≤ s.size
        have : k = 0 := this.2
        omega
  · omega

set_option maxRecDepth 100000 in
set_option maxHeartbeats 2000000 in
theorem rdecode_any (s : ByteArray) (n : Int) (w : World) (hs : s.size ≤ 10000) :
    Calls Try.prog 19 #[.string s, .int .i64 n] w fun e w' => (∃ r, e = .returned (.tuple #[r, .int .i64 (decE s n)]) ∧ Opened.Ints .i64 w' r (decL s n)) ∧ Below w.heap.size w w' := by
  obtain ⟨i0, hi, hz0, hz1, hz2⟩ := info_parts infoI
  by_cases h0 : n < 0
  · have hE : Hid (decE s n = 1 ∧ decL s n = []) := Lib.hid (by unfold decE decL; rw [if_pos h0, if_pos h0]; exact ⟨rfl, rfl⟩)
    have hd : decide (n < 0) = true := decide_eq_true h0
    clear h0
    go_enter Try.func19, Try.ntmps19
    go_wp2_with fail
    go_ret2
    exact ⟨⟨.slice none 0 0, by rw [hE.out.1]; rfl, by rw [hE.out.2]; exact ints_nil _ _⟩, Below.refl _ _⟩
  · have hd : decide (n < 0) = false := decide_eq_false h0
    by_cases h1 : (s.size : Int) < n
    · have hE : Hid (decE s n = 2 ∧ decL s n = []) := Lib.hid (by unfold decE decL; rw [if_neg h0, if_neg h0, if_pos h1, if_pos h1]; exact ⟨rfl, rfl⟩)
      have hd1 : decide ((s.size : Int) < n) = true := decide_eq_true h1
      have hd2 : decide (n > (s.size : Int)) = true := decide_eq_true h1
      clear h0 h1
      go_enter Try.func19, Try.ntmps19
      go_wp2_with fail
      go_ret2
      exact ⟨⟨.slice none 0 0, by rw [hE.out.1]; rfl, by rw [hE.out.2]; exact ints_nil _ _⟩, Below.refl _ _⟩
    · have hEL : Hid (decE s n = doneE (rdInts n.toNat s 0).2.1 (rdInts n.toNat s 0).2.2 ∧ decL s n = if doneE (rdInts n.toNat s 0).2.1 (rdInts n.toNat s 0).2.2 = 0 then sums 0 (rdInts n.toNat s 0).1 else []) := Lib.hid (by unfold decE decL; rw [if_neg h0, if_neg h0, if_neg h1, if_neg h1]; exact ⟨rfl, rfl⟩)
      have hd1 : decide ((s.size : Int) < n) = false := decide_eq_false h1
      have hd2 : decide (n > (s.size : Int)) = false := decide_eq_false h1
      obtain ⟨N, rfl⟩ : ∃ N : Nat, n = (N : Int) := ⟨n.toNat, by omega⟩
      have hN : N ≤ s.size := by omega
      have hd3 : decide (s.size < N) = false := decide_eq_false (by omega)
      rw [Int.toNat_natCast] at hEL
      clear h0 h1
      go_enter Try.func19, Try.ntmps19
      go_wp2_with fail
      have hA := alloc_new w (rr s 0 0)
      have hb0 : Below w.heap.size w (w.alloc (rr s 0 0)) := (Below.refl _ w).alloc (Nat.le_refl _) _
      have hz0' : (w.alloc (rr s 0 0)).heap.size = w.heap.size + 1 := by simp
      change Code.wp _ _ _ _ (w.alloc (rr s 0 0))
      generalize w.alloc (rr s 0 0) = w0 at *
      clear hd hd1 hd2 hd3
      go_loopw [7, 8] (fun v i wr => ∃ (k j : Nat) (e : Int) (out : List Int), i = .int .i64 k ∧ k ≤ N ∧ Hid (RdAt s N k (rest s j) e out) ∧ Hid (j ≤ s.size) ∧ Hid (wr.heap[w.heap.size]? = some (rr s j e)) ∧ Hid (OwnI wr (w.heap.size + 1) v out) ∧ Below w.heap.size w wr ∧ w.heap.size + 1 ≤ wr.heap.size) (fun _ i _ => N - (intOf i).toNat)
      case atStart => exact ⟨0, 0, 0, [], rfl, by omega, Lib.hid (by rw [rest_zero]; exact RdAt.start s N), Lib.hid (Nat.zero_le _), Lib.hid hA, Lib.hid (ownI_nil _ _), hb0, by omega⟩
      case round =>
        obtain ⟨k, j, e, out, rfl, hk, hR, hj, hH, hO, hb, hz⟩ := hrel
        by_cases hlt : k < N
        · have hlt' : (k : Int) < (N : Int) := by omega
          have hnx := Lib.hid (hR.out.next hlt)
          have hlen := hR.out.len
          clear hlt hR
          have HI := Lib.hid (rint_any w.heap.size j s e wr hH.out hj.out (by omega))
          have hj2 : Hid (j + numK (rest s j) e ≤ s.size) := Lib.hid (by have h1 := numK_le' (rest s j) e; rw [rest_size] at h1; have := hj.out; omega)
          rw [rest_rest] at hnx
          generalize zagI (numN (rest s j) e) = c at *
          generalize j + numK (rest s j) e = j2 at *
          generalize numE (rest s j) e = e2 at *
          go_wp2_with fail
          refine HI.out.mono ?_
          rintro e' w1 ⟨rfl, k1, k2⟩
          have hO1 : w1.ownsRow (w.heap.size + 1) 3 1 _ out.length (cellsI out) := ownI_kept k2 hO.out (fun k hk h => by subst h; omega)
          have hs1 := k2.size
          have hb1 := hb.trans (k2.to_below (B := w.heap.size) hb.size (fun k hk h => by omega))
          replace k1 := Lib.hid k1
          clear hO hH HI k2 hb
          go_wp2_with (at_builtin; refine wpList_append_own _ rfl _ _ 22 rfl (w.heap.size + 1) 3 i0 (.int .i64 0) 1 8 Try.underlying22 hi hz0 hz1 hz2 rfl (by decide) _ _ _ rfl (hO1.alloc _) ⟨w1.heap.size, 0, none⟩ 1 1 [.int .i64 c] rfl rfl (cell_one_new _ _ _) (one_int _) (by unfold maxLen; omega) (by omega) (by simp; omega) ?_; intro v' w3 hown hgrow _)
          have hO2 : OwnI w3 (w.heap.size + 1) v' (out ++ [c]) := ownI_snoc hown
          have hH3 : w3.heap[w.heap.size]? = some (rr s j2 e2) := (hgrow.block _ (by simp; omega) (fun e => by have := (hO1.lt _ e.symm).1; omega)).trans (alloc_at _ k1.out)
          have hK3 : Kept (fun k => w.heap.size + 1 ≤ k) w1 w3 := ((Kept.refl _ w1).alloc _).grown hgrow (fun k er _ => (hO1.lt k er).1)
          have hB := hb1.trans (hK3.to_below (B := w.heap.size) hb1.size (fun k hk h => by omega))
          have hs3 := hK3.size
          clear hown hgrow hO1 hK3 k1
          go_wp2_with fail
          go_roundw
          case rel => exact ⟨k + 1, j2, e2, _, by go_num, by omega, hnx, hj2, Lib.hid hH3, Lib.hid hO2, hB, by omega⟩
          case measure => simp [intOf]; omega
        · obtain rfl : k = N := by omega
          have hge : decide (k < k) = false := decide_eq_false hlt
          have hw := Lib.hid hR.out.whole
          have hlen := hR.out.len
          have hI := Lib.hid (hO.out.ints hR.out.bound)
          clear hlt hR hO
          have hEL2 : decE s k = doneE (rest s j) e ∧ decL s k = if doneE (rest s j) e = 0 then sums 0 out else [] := by
            have h := hEL.out
            rw [hw.out] at h
            exact h
          clear hEL
          by_cases hc : doneE (rest s j) e = 0
          · rw [hc, if_pos rfl] at hEL2
            have hE := Lib.hid hEL2
            have hne : (doneE (rest s j) e != 0) = false := by rw [hc]; rfl
            clear hEL2 hc
            have HD := Lib.hid (rdone_any w.heap.size j s e wr hH.out hj.out (by omega))
            generalize doneE (rest s j) e = c at *
            go_wp2_with fail
            refine HD.out.mono ?_
            rintro e' w1 ⟨rfl, m, rfl⟩
            have hm := below_drewN (Below.refl wr.heap.size wr) m
            have hI2 := Lib.hid (ints_below hI.out hm)
            have hb1 := below_drewN hb m
            go_wp2_with fail
            refine (rsums_any _ out _ hI2.out (by omega)).mono ?_
            rintro e' w1 ⟨⟨r, rfl, hr⟩, hb2⟩
            replace hb2 := hb1.trans (hb2.mono hb1.size)
            go_wp2_with fail
            go_ret2
            refine ⟨⟨r, ?_, ?_⟩, hb2⟩
            · rw [hE.out.1]; rfl
            · rw [hE.out.2]; exact hr
          · rw [if_neg hc] at hEL2
            have hE := Lib.hid hEL2
            have hne : (doneE (rest s j) e != 0) = true := by rw [bne_iff_ne]; exact hc
            clear hEL2 hc
            go_wp2_with fail
            refine (rdone_any w.heap.size j s e _ hH.out hj.out (by omega)).mono ?_
            rintro e' w1 ⟨rfl, m, rfl⟩
            go_wp2_with fail
            refine (rdone_any w.heap.size j s e (wr.drewN m) hH.out hj.out (by omega)).mono ?_
            rintro e' w1 ⟨rfl, m2, rfl⟩
            go_wp2_with fail
            go_ret2
            refine ⟨⟨.slice none 0 0, ?_, ?_⟩, below_drewN hb _⟩
            · rw [hE.out.1]; rfl
            · rw [hE.out.2]; exact ints_nil _ _

end Dl
end Go.Proofs.Ytlpleikcgikpoaa
