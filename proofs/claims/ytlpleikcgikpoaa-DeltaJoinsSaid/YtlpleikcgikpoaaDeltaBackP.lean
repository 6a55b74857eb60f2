/-
  PLAIN: sums of distances are the list, distances of sums are the list; what is encoded is read. No program.
-/
import Derived.Test.YtlpleikcgikpoaaDeltaDec2
import Derived.Test.YtlpleikcgikpoaaDeltaEnc
namespace Go.Proofs.Ytlpleikcgikpoaa
open Go.RowKit
namespace Dl
open Mem Pk

theorem there_back {a n : Int} (h : I64 n) : wrap64 (a + wrap64 (n - a)) = n := by
  unfold I64 at h
  unfold wrap64
  omega
theorem back_there {a x : Int} (h : I64 x) : wrap64 (wrap64 (a + x) - a) = x := by
  unfold I64 at h
  unfold wrap64
  omega
theorem sums_subs (l : List Int) (h : ∀ n ∈ l, I64 n) : ∀ a, sums a (subs a l) = l := by
  induction l with
  | nil => intro a; rfl
  | cons n l ih =>
    intro a
    rw [subs, sums, there_back (h n List.mem_cons_self), ih (fun m hm => h m (List.mem_cons_of_mem _ hm))]
theorem subs_sums (d : List Int) (h : ∀ n ∈ d, I64 n) : ∀ a, subs a (sums a d) = d := by
  induction d with
  | nil => intro a; rfl
  | cons x d ih =>
    intro a
    rw [sums, subs, back_there (h x List.mem_cons_self), ih (fun m hm => h m (List.mem_cons_of_mem _ hm))]
theorem head_num {t : ByteArray} {n : Nat} {l : List UInt8} (hn : n < W64) (h : t.data.toList = putL n ++ l) : numN t 0 = n ∧ numE t 0 = 0 ∧ (rest t (numK t 0)).data.toList = l := by
  have e := read_put hn l
  rw [← h] at e
  have e1 : numN t 0 = (numR t.data.toList).2.1 := rfl
  have e2 : numE t 0 = (numR t.data.toList).1 := rfl
  have e3 : numK t 0 = (numR t.data.toList).2.2 := rfl
  rw [e1, e2, rest_list, e3, e, h]
  exact ⟨rfl, rfl, by simp⟩
theorem enc_cons (n : Int) (l : List Int) : enc (n :: l) = putL (zigN n) ++ enc l := by unfold enc; simp
/-- what is encoded is read. -/
theorem rd_enc (d : List Int) (h : ∀ n ∈ d, I64 n) (t : List UInt8) : ∀ s : ByteArray, s.data.toList = enc d ++ t → ∃ s' : ByteArray, rdInts d.length s 0 = (d, s', 0) ∧ s'.data.toList = t := by
  induction d with
  | nil => intro s hs; exact ⟨s, rfl, hs⟩
  | cons n d ih =>
    intro s hs
    rw [enc_cons, List.append_assoc] at hs
    have hb := h n List.mem_cons_self
    obtain ⟨e1, e2, e3⟩ := head_num (zig_lt hb.1 hb.2) hs
    obtain ⟨s', e4, e5⟩ := ih (fun m hm => h m (List.mem_cons_of_mem _ hm)) _ e3
    refine ⟨s', ?_, e5⟩
    rw [List.length_cons, rdInts, e1, e2, e4, zag_zig]
theorem putL_one (n : Nat) : 1 ≤ (putL n).length := putL_pos n
theorem enc_ge (d : List Int) : d.length ≤ (enc d).length := by
  induction d with
  | nil => exact Nat.le_refl _
  | cons n d ih =>
    rw [enc_cons, List.length_append, List.length_cons]
    have := putL_one (zigN n)
    omega
/-- what is encoded is decoded. -/
theorem dec_enc {l : List Int} (h : ∀ n ∈ l, I64 n) : decE (str (enc (subs 0 l))) l.length = 0 ∧ decL (str (enc (subs 0 l))) l.length = l := by
  obtain ⟨s', e1, e2⟩ := rd_enc (subs 0 l) (subs_bound l 0) [] (str (enc (subs 0 l))) (by rw [str_data, List.append_nil])
  rw [subs_length] at e1
  have hz : s'.size = 0 := by rw [← size_list, e2]; rfl
  have hd : doneE s' 0 = 0 := by unfold doneE; rw [if_neg (fun h => h.2 hz)]
  have hle : ¬ (((str (enc (subs 0 l))).size : Int) < (l.length : Int)) := by
    have := enc_ge (subs 0 l)
    rw [subs_length] at this
    rw [str_size]
    omega
  have h0 : ¬ ((l.length : Int) < 0) := by omega
  unfold decE decL
  rw [if_neg h0, if_neg h0, if_neg hle, if_neg hle, Int.toNat_natCast, e1, hd, if_pos rfl, sums_subs l h]
  exact ⟨rfl, rfl⟩

theorem rd_err {e : Int} (he : e ≠ 0) (k : Nat) : ∀ s : ByteArray, (rdInts k s e).2 = (s, e) := by
  induction k with
  | zero => intro s; rfl
  | succ k ih =>
    intro s
    have e1 : numK s e = 0 := by unfold numK; rw [if_neg he]
    have e2 : numE s e = e := by unfold numE; rw [if_neg he]
    rw [rdInts, e1, e2, rest_zero, ih]
theorem rd_add (a b : Nat) : ∀ (s : ByteArray) (e : Int), (rdInts (a + b) s e).2 = (rdInts b (rdInts a s e).2.1 (rdInts a s e).2.2).2 := by
  induction a with
  | zero => intro s e; rw [Nat.zero_add]; rfl
  | succ a ih =>
    intro s e
    rw [show a + 1 + b = (a + b) + 1 from by omega, rdInts, rdInts, ih]
theorem done_err {s : ByteArray} {e : Int} (he : e ≠ 0) : doneE s e ≠ 0 := by
  unfold doneE
  rw [if_neg (fun h => he h.1)]
  exact he
/-- no other number of numbers is decoded. -/
theorem dec_other {l : List Int} {n : Int} (hn : n ≠ l.length) : decE (str (enc (subs 0 l))) n ≠ 0 := by
  have hb := subs_bound l 0
  have hq := subs_length l 0
  unfold decE
  generalize subs 0 l = d at *
  by_cases h0 : n < 0
  · rw [if_pos h0]; decide
  · rw [if_neg h0]
    by_cases h1 : ((str (enc d)).size : Int) < n
    · rw [if_pos h1]; decide
    · rw [if_neg h1]
      by_cases h2 : n.toNat < d.length
      · have hsp : enc d = enc (d.take n.toNat) ++ enc (d.drop n.toNat) := by
          unfold enc
          rw [← List.flatMap_append, List.take_append_drop]
        obtain ⟨s', e1, e2⟩ := rd_enc (d.take n.toNat) (fun m hm => hb m (List.mem_of_mem_take hm)) (enc (d.drop n.toNat)) (str (enc d)) (by rw [str_data]; exact hsp)
        rw [List.length_take, Nat.min_eq_left (by omega)] at e1
        rw [e1]
        have h3 := enc_ge (d.drop n.toNat)
        rw [List.length_drop] at h3
        have hz : s'.size ≠ 0 := by rw [← size_list, e2]; omega
        have hd : doneE s' 0 = 5 := by unfold doneE; rw [if_pos ⟨rfl, hz⟩]
        show doneE s' 0 ≠ 0
        rw [hd]
        decide
      · obtain ⟨j, hj⟩ : ∃ j, n.toNat = d.length + (j + 1) := ⟨n.toNat - d.length - 1, by omega⟩
        obtain ⟨s', e1, e2⟩ := rd_enc d hb [] (str (enc d)) (by rw [str_data, List.append_nil])
        have e3 := rd_add d.length (j + 1) (str (enc d)) 0
        rw [e1] at e3
        rw [hj, e3]
        have e4 : numE s' 0 = 2 := by
          have : numE s' 0 = (numR s'.data.toList).1 := rfl
          rw [this, e2]
          rfl
        show doneE (rdInts (j + 1) s' 0).2.1 (rdInts (j + 1) s' 0).2.2 ≠ 0
        rw [rdInts, e4, rd_err (by decide)]
        exact done_err (show (2 : Int) ≠ 0 by decide)
theorem rdInts_length' (k : Nat) : ∀ (s : ByteArray) (e : Int), (rdInts k s e).1.length = k := by
  induction k with
  | zero => intro s e; rfl
  | succ k ih => intro s e; rw [rdInts, List.length_cons, ih]
theorem rdInts_bound (k : Nat) : ∀ (s : ByteArray) (e : Int), ∀ n ∈ (rdInts k s e).1, I64 n := by
  induction k with
  | zero => intro s e n h; simp [rdInts] at h
  | succ k ih =>
    intro s e n h
    rw [rdInts, List.mem_cons] at h
    rcases h with rfl | h
    · exact zag_bounds (numN_lt s e)
    · exact ih _ _ n h
/-- what is decoded is what was encoded. -/
theorem rd_good (k : Nat) : ∀ (s : ByteArray), (rdInts k s 0).2.2 = 0 → s.data.toList = enc (rdInts k s 0).1 ++ (rdInts k s 0).2.1.data.toList := by
  induction k with
  | zero => intro s _; rfl
  | succ k ih =>
    intro s h
    rw [rdInts] at h ⊢
    by_cases hc : numE s 0 = 0
    · rw [hc] at h ⊢
      have h1 := ih _ h
      obtain ⟨p1, p2, p3, _⟩ := put_read (l := s.data.toList) (m := numN s 0) (K := numK s 0) (Prod.ext hc rfl)
      show s.data.toList = enc (zagI (numN s 0) :: (rdInts k (rest s (numK s 0)) 0).1) ++ (rdInts k (rest s (numK s 0)) 0).2.1.data.toList
      rw [enc_cons, zig_zag, List.append_assoc, ← h1, rest_list, ← p1, List.take_append_drop]
    · have h2 := rd_err hc k (rest s (numK s 0))
      have h3 : (rdInts k (rest s (numK s 0)) (numE s 0)).2.2 = 0 := h
      rw [h2] at h3
      exact absurd h3 hc

/-- .. of the whole. -/
theorem dec_good {s : ByteArray} {n : Int} (h : decE s n = 0) : ((decL s n).length : Int) = n ∧ str (enc (subs 0 (decL s n))) = s := by
  unfold decE at h
  unfold decL
  by_cases h0 : n < 0
  · rw [if_pos h0] at h; exact absurd h (by decide)
  · rw [if_neg h0] at h ⊢
    by_cases h1 : (s.size : Int) < n
    · rw [if_pos h1] at h; exact absurd h (by decide)
    · rw [if_neg h1] at h ⊢
      rw [if_pos h]
      have he : (rdInts n.toNat s 0).2.2 = 0 := by
        by_cases hc : (rdInts n.toNat s 0).2.2 = 0
        · exact hc
        · exact absurd h (done_err hc)
      have hz : (rdInts n.toNat s 0).2.1.size = 0 := by
        rw [he] at h
        by_cases hc : (rdInts n.toNat s 0).2.1.size = 0
        · exact hc
        · unfold doneE at h; rw [if_pos ⟨rfl, hc⟩] at h; exact absurd h (by decide)
      have hg := rd_good n.toNat s he
      have hnil : (rdInts n.toNat s 0).2.1.data.toList = [] := by rw [← List.length_eq_zero_iff, size_list]; exact hz
      rw [hnil, List.append_nil] at hg
      rw [subs_sums _ (rdInts_bound n.toNat s 0), ← hg, str_of, sums_length, rdInts_length']
      exact ⟨by omega, rfl⟩

end Dl
end Go.Proofs.Ytlpleikcgikpoaa
