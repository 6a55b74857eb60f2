/-
  WALKS: package delta's Decode, and the document's. Conditions: at most 10000 bytes.
-/
import Derived.Test.YtlpleikcgikpoaaDeltaRef
namespace Go.Proofs.Ytlpleikcgikpoaa
open Go.RowKit
namespace Dl
open Mem Pk

/-- k numbers are read: the numbers, the bytes left, the error. -/
def rdInts : Nat → ByteArray → Int → List Int × ByteArray × Int
  | 0, s, e => ([], s, e)
  | k + 1, s, e => (zagI (numN s e) :: (rdInts k (rest s (numK s e)) (numE s e)).1, (rdInts k (rest s (numK s e)) (numE s e)).2)
/-- what Decode answers. -/
def decL (s : ByteArray) (n : Int) : List Int :=
  if n < 0 then [] else if (s.size : Int) < n then [] else if doneE (rdInts n.toNat s 0).2.1 (rdInts n.toNat s 0).2.2 = 0 then sums 0 (rdInts n.toNat s 0).1 else []
def decE (s : ByteArray) (n : Int) : Int :=
  if n < 0 then 1 else if (s.size : Int) < n then 2 else doneE (rdInts n.toNat s 0).2.1 (rdInts n.toNat s 0).2.2
structure RdAt (s : ByteArray) (N k : Nat) (t : ByteArray) (e : Int) (out : List Int) : Prop where
  eq : rdInts N s 0 = (out ++ (rdInts (N - k) t e).1, (rdInts (N - k) t e).2)
  len : out.length = k
  size : t.size ≤ s.size
  bound : ∀ n ∈ out, I64 n
theorem RdAt.start (s : ByteArray) (N : Nat) : RdAt s N 0 s 0 [] := ⟨rfl, rfl, Nat.le_refl _, fun _ h => by simp at h⟩
theorem RdAt.next {s t : ByteArray} {N k : Nat} {e : Int} {out : List Int} (h : RdAt s N k t e out) (hk : k < N) : RdAt s N (k + 1) (rest t (numK t e)) (numE t e) (out ++ [zagI (numN t e)]) := by
  have hN : N - k = (N - (k + 1)) + 1 := by omega
  refine ⟨?_, by rw [List.length_append, h.len]; rfl, ?_, fun n hn => ?_⟩
  · rw [h.eq, hN, rdInts, List.append_assoc]; rfl
  · rw [rest_size]; have := h.size; omega
  · rw [List.mem_append, List.mem_singleton] at hn
    rcases hn with hn | rfl
    · exact h.bound n hn
    · exact zag_bounds (numN_lt t e)
theorem RdAt.whole {s t : ByteArray} {N : Nat} {e : Int} {out : List Int} (h : RdAt s N N t e out) : rdInts N s 0 = (out, t, e) := by
  rw [h.eq, Nat.sub_self, rdInts, List.append_nil]
theorem ownI_kept {T : Nat → Prop} {w w' : World} {B : Nat} {v : Value} {l : List Int} (k : Kept T w w') (h : OwnI w B v l) (hT : ∀ k, B ≤ k → ¬ T k) : OwnI w' B v l := by
  refine ⟨h.1, ?_⟩
  rcases h.2 with h2 | ⟨g, cap, cur, ev, hg, hh, r⟩
  · exact .inl h2
  · exact .inr ⟨g, cap, cur, ev, hg, k.at hh (hT g hg), r⟩

set_option maxRecDepth 100000 in
set_option maxHeartbeats 2000000 in
theorem decode_any (s : ByteArray) (n : Int) (w : World) (hs : s.size ≤ 10000) :
    Calls Try.prog 18 #[.string s, .int .i64 n] w fun e w' => (∃ r, e = .returned (.tuple #[r, .int .i64 (decE s n)]) ∧ Opened.Ints .i64 w' r (decL s n)) ∧ Below w.heap.size w w' := by
  obtain ⟨i0, hi, hz0, hz1, hz2⟩ := info_parts infoI
  by_cases h0 : n < 0
  · have hE : Hid (decE s n = 1 ∧ decL s n = []) := Lib.hid (by unfold decE decL; rw [if_pos h0, if_pos h0]; exact ⟨rfl, rfl⟩)
    have hd : decide (n < 0) = true := decide_eq_true h0
    clear h0
    go_enter Try.func18, Try.ntmps18
    go_wp2_with fail
    go_ret2
    exact ⟨⟨.slice none 0 0, by rw [hE.out.1]; rfl, by rw [hE.out.2]; exact ints_nil _ _⟩, Below.refl _ _⟩
  · have hd : decide (n < 0) = false := decide_eq_false h0
    by_cases h1 : (s.size : Int) < n
    · have hE : Hid (decE s n = 2 ∧ decL s n = []) := Lib.hid (by unfold decE decL; rw [if_neg h0, if_neg h0, if_pos h1, if_pos h1]; exact ⟨rfl, rfl⟩)
      have hd1 : decide ((s.size : Int) < n) = true := decide_eq_true h1
      have hd2 : decide (n > (s.size : Int)) = true := decide_eq_true h1
      clear h0 h1
      go_enter Try.func18, Try.ntmps18
      go_wp2_with fail
      go_ret2
      exact ⟨⟨.slice none 0 0, by rw [hE.out.1]; rfl, by rw [hE.out.2]; exact ints_nil _ _⟩, Below.refl _ _⟩
    · have hEL : Hid (decE s n = doneE (rdInts n.toNat s 0).2.1 (rdInts n.toNat s 0).2.2 ∧ decL s n = if doneE (rdInts n.toNat s 0).2.1 (rdInts n.toNat s 0).2.2 = 0 then sums 0 (rdInts n.toNat s 0).1 else []) := Lib.hid (by unfold decE decL; rw [if_neg h0, if_neg h0, if_neg h1, if_neg h1]; exact ⟨rfl, rfl⟩)
      have hd1 : decide ((s.size : Int) < n) = false := decide_eq_false h1
      have hd2 : decide (n > (s.size : Int)) = false := decide_eq_false h1
      obtain ⟨N, rfl⟩ : ∃ N : Nat, n = (N : Int) := ⟨n.toNat, by omega⟩
      have hN : N ≤ s.size := by omega
      rw [Int.toNat_natCast] at hEL
      clear h0 h1
      go_enter Try.func18, Try.ntmps18
      go_wp2_with fail
      refine (new_any s _).mono ?_
      rintro e w' ⟨rfl, rfl⟩
      go_wp2_with fail
      have hA := alloc_new w (rd s 0)
      have hb0 : Below w.heap.size w (w.alloc (rd s 0)) := (Below.refl _ w).alloc (Nat.le_refl _) _
      have hz0' : (w.alloc (rd s 0)).heap.size = w.heap.size + 1 := by simp
      change Code.wp _ _ _ _ (w.alloc (rd s 0))
      generalize w.alloc (rd s 0) = w0 at *
      clear hd hd1 hd2
      go_loopw [7, 20] (fun v i wr => ∃ (k : Nat) (t : ByteArray) (e : Int) (out : List Int), i = .int .i64 k ∧ k ≤ N ∧ Hid (RdAt s N k t e out) ∧ Hid (wr.heap[w.heap.size]? = some (rd t e)) ∧ Hid (OwnI wr (w.heap.size + 1) v out) ∧ Below w.heap.size w wr ∧ w.heap.size + 1 ≤ wr.heap.size) (fun _ i _ => N - (intOf i).toNat)
      case atStart => exact ⟨0, s, 0, [], rfl, by omega, Lib.hid (RdAt.start s N), Lib.hid hA, Lib.hid (ownI_nil _ _), hb0, by omega⟩
      case round =>
        obtain ⟨k, t, e, out, rfl, hk, hR, hH, hO, hb, hz⟩ := hrel
        by_cases hlt : k < N
        · have hlt' : (k : Int) < (N : Int) := by omega
          have hnx := Lib.hid (hR.out.next hlt)
          have hlen := hR.out.len
          have hts := hR.out.size
          clear hlt hR
          have HI := Lib.hid (int_any w.heap.size t e wr hH.out (by omega))
          generalize zagI (numN t e) = c at *
          generalize rest t (numK t e) = t2 at *
          generalize numE t e = e2 at *
          go_wp2_with fail
          refine HI.out.mono ?_
          rintro e' w1 ⟨rfl, k1, k2⟩
          have hO1 : w1.ownsRow (w.heap.size + 1) 3 1 _ out.length (cellsI out) := ownI_kept k2 hO.out (fun k hk h => by subst h; omega)
          have hs1 := k2.size
          have hb1 := hb.trans (k2.to_below (B := w.heap.size) hb.size (fun k hk h => by omega))
          replace k1 := Lib.hid k1
          clear hO hH HI k2 hb
          go_wp2_with (at_builtin; refine wpList_append_own _ rfl _ _ 22 rfl (w.heap.size + 1) 3 i0 (.int .i64 0) 1 8 Try.underlying22 hi hz0 hz1 hz2 rfl (by decide) _ _ _ rfl (hO1.alloc _) ⟨w1.heap.size, 0, none⟩ 1 1 [.int .i64 c] rfl rfl (cell_one_new _ _ _) (one_int _) (by unfold maxLen; omega) (by omega) (by simp; omega) ?_; intro v' w3 hown hgrow _)
          have hO2 : OwnI w3 (w.heap.size + 1) v' (out ++ [c]) := ownI_snoc hown
          have hH3 : w3.heap[w.heap.size]? = some (rd t2 e2) := (hgrow.block _ (by simp; omega) (fun e => by have := (hO1.lt _ e.symm).1; omega)).trans (alloc_at _ k1.out)
          have hK3 : Kept (fun k => w.heap.size + 1 ≤ k) w1 w3 := ((Kept.refl _ w1).alloc _).grown hgrow (fun k er _ => (hO1.lt k er).1)
          have hB := hb1.trans (hK3.to_below (B := w.heap.size) hb1.size (fun k hk h => by omega))
          have hs3 := hK3.size
          clear hown hgrow hO1 hK3 k1
          go_wp2_with fail
          go_roundw
          case rel => exact ⟨k + 1, t2, e2, _, by go_num, by omega, hnx, Lib.hid hH3, Lib.hid hO2, hB, by omega⟩
          case measure => simp [intOf]; omega
        · obtain rfl : k = N := by omega
          have hge : decide (k < k) = false := decide_eq_false hlt
          have hw := Lib.hid hR.out.whole
          have hlen := hR.out.len
          have hI := Lib.hid (hO.out.ints hR.out.bound)
          clear hlt hR hO
          have hEL2 : decE s k = doneE t e ∧ decL s k = if doneE t e = 0 then sums 0 out else [] := by
            have h := hEL.out
            rw [hw.out] at h
            exact h
          clear hEL
          by_cases hc : doneE t e = 0
          · rw [hc, if_pos rfl] at hEL2
            have hE := Lib.hid hEL2
            have hne : (doneE t e != 0) = false := by rw [hc]; rfl
            clear hEL2 hc
            have HD := Lib.hid (done_any w.heap.size t e wr hH.out)
            generalize doneE t e = c at *
            go_wp2_with fail
            refine HD.out.mono ?_
            rintro e' w1 ⟨rfl, rfl⟩
            go_wp2_with fail
            refine (sums_any _ out _ hI.out (by omega)).mono ?_
            rintro e' w1 ⟨⟨r, rfl, hr⟩, hb2⟩
            replace hb2 := hb.trans (hb2.mono hb.size)
            go_wp2_with fail
            go_ret2
            refine ⟨⟨r, ?_, ?_⟩, hb2⟩
            · rw [hE.out.1]; rfl
            · rw [hE.out.2]; exact hr
          · rw [if_neg hc] at hEL2
            have hE := Lib.hid hEL2
            have hne : (doneE t e != 0) = true := by rw [bne_iff_ne]; exact hc
            clear hEL2 hc
            go_wp2_with fail
            refine (done_any w.heap.size t e _ hH.out).mono ?_
            rintro e' w1 ⟨rfl, rfl⟩
            go_wp2_with fail
            go_ret2
            refine ⟨⟨.slice none 0 0, ?_, ?_⟩, hb⟩
            · rw [hE.out.1]; rfl
            · rw [hE.out.2]; exact ints_nil _ _

end Dl
end Go.Proofs.Ytlpleikcgikpoaa
