/-
  PLAIN: what is encoded is decoded, and the other way round; a number that stands again is one byte more. No program.
-/
import Derived.Test.YtimgiokhhdkfaaaRealsLaws1
namespace Go.Proofs.Ytimgiokhhdkfaaa
open Go.RowKit
namespace Rl
open Mem Pk Fl

theorem head_num {t : ByteArray} {n : Nat} {l : List UInt8} (hn : n < W64) (h : t.data.toList = putL n ++ l) : numN t 0 = n ∧ numE t 0 = 0 ∧ (rest t (numK t 0)).data.toList = l := by
  have e := read_put hn l
  rw [← h] at e
  have e1 : numN t 0 = (numR t.data.toList).2.1 := rfl
  have e2 : numE t 0 = (numR t.data.toList).1 := rfl
  have e3 : numK t 0 = (numR t.data.toList).2.2 := rfl
  rw [e1, e2, rest_list, e3, e, h]
  exact ⟨rfl, rfl, by simp⟩
theorem xor_back (a b : Nat) : a ^^^ b ^^^ b = a := by rw [Nat.xor_assoc, Nat.xor_self, Nat.xor_zero]
/-- the bytes of bits. -/
def encC : Nat → List Nat → List UInt8
  | _, [] => []
  | last, u :: l => putL (swapN (u ^^^ last)) ++ encC u l
theorem encR_canon (l : List Nat) : ∀ p, encR p l = encC p (l.map canon) := by
  induction l with
  | nil => intro p; rfl
  | cons b l ih => intro p; rw [encR, List.map_cons, encC, ih]
/-- what is encoded is read. -/
theorem rd_encR (l : List Nat) (h : ∀ b ∈ l, b < 2 * S) : ∀ (p : Nat) (s : ByteArray), p < 2 * S → s.data.toList = encR p l → rdR l.length s p = (0, l.map canon) := by
  induction l with
  | nil =>
    intro p s _ hs
    have hz : s.size = 0 := by rw [← size_list, hs]; rfl
    have hd : doneE s 0 = 0 := by unfold doneE; rw [if_neg (fun h => h.2 hz)]
    rw [List.length_nil, rdR, hd]
    rfl
  | cons b l ih =>
    intro p s hp hs
    have hb := canon_lt (h b List.mem_cons_self)
    rw [encR] at hs
    have hx := xor_lt hb hp
    obtain ⟨e1, e2, e3⟩ := head_num (swap_lt hx) hs
    have hu : swapN (numN s 0) ^^^ p = canon b := by rw [e1, swap_swap hx, xor_back]
    rw [List.length_cons, rdR, hu, if_neg (by rw [e2]; simp), if_neg (by rw [canonB_canon]; simp), ih (fun c hc => h c (List.mem_cons_of_mem _ hc)) _ _ hb e3]
    rfl
theorem dec_encR {l : List Nat} (h : ∀ b ∈ l, b < 2 * S) : decRE (str (encR 0 l)) l.length = 0 ∧ decRL (str (encR 0 l)) l.length = l.map canon := by
  have hle : ¬ (((str (encR 0 l)).size : Int) < (l.length : Int)) := by
    have := encR_ge l 0
    rw [str_size]
    omega
  have hr := rd_encR l h 0 (str (encR 0 l)) S_pos (by rw [str_data])
  obtain ⟨h1, -, h3⟩ := dec_parts hle
  rw [hr] at h1 h3
  exact ⟨h1, h3 rfl⟩
/-- what is read is what was encoded. -/
theorem rd_good (k : Nat) : ∀ (s : ByteArray) (p : Nat), p < 2 * S → (rdR k s p).1 = 0 → (rdR k s p).2.length = k ∧ encC p (rdR k s p).2 = s.data.toList := by
  induction k with
  | zero =>
    intro s p _ h
    rw [rdR] at h ⊢
    have hz : s.size = 0 := by
      by_cases hc : s.size = 0
      · exact hc
      · have h : doneE s 0 = 0 := h
        unfold doneE at h
        rw [if_pos ⟨rfl, hc⟩] at h
        exact absurd h (by decide)
    refine ⟨rfl, ?_⟩
    have : s.data.toList = [] := by rw [← List.length_eq_zero_iff, size_list]; exact hz
    rw [this]
    rfl
  | succ k ih =>
    intro s p hp h
    rw [rdR] at h ⊢
    by_cases hc : numE s 0 = 0
    · rw [if_neg (by rw [hc]; simp)] at h ⊢
      have hn := numN_lt s 0
      have hx : swapN (numN s 0) ^^^ p < 2 * S := xor_lt (swap_lt hn) hp
      by_cases hb : canonB (swapN (numN s 0) ^^^ p) = false
      · rw [if_pos hb] at h
        exact absurd (show (5 : Int) = 0 from h) (by decide)
      · rw [if_neg hb] at h ⊢
        obtain ⟨h1, h2⟩ := ih _ _ hx h
        obtain ⟨p1, p2, p3, _⟩ := put_read (l := s.data.toList) (m := numN s 0) (K := numK s 0) (Prod.ext hc rfl)
        refine ⟨by show _ + 1 = _; rw [h1], ?_⟩
        show putL (swapN (swapN (numN s 0) ^^^ p ^^^ p)) ++ encC (swapN (numN s 0) ^^^ p) _ = _
        rw [h2, xor_back, swap_swap hn, rest_list, ← p1, List.take_append_drop]
    · rw [if_pos hc] at h
      exact absurd h hc
theorem dec_goodR {s : ByteArray} {n : Int} (h : decRE s n = 0) {L : List Nat} (hL : L.map canon = decRL s n) : (L.length : Int) = n ∧ str (encR 0 L) = s := by
  unfold decRE at h
  unfold decRL at hL
  by_cases h0 : n < 0
  · rw [if_pos h0] at h; exact absurd h (by decide)
  · rw [if_neg h0] at h hL
    by_cases h1 : (s.size : Int) < n
    · rw [if_pos h1] at h; exact absurd h (by decide)
    · rw [if_neg h1] at h hL
      rw [if_pos h] at hL
      obtain ⟨g1, g2⟩ := rd_good n.toNat s 0 S_pos h
      rw [encR_canon, hL, g2, str_of]
      have : L.length = n.toNat := by rw [← g1, ← hL, List.length_map]
      exact ⟨by omega, rfl⟩
theorem decRL_bad {s : ByteArray} {n : Int} (h : decRE s n ≠ 0) : decRL s n = [] := by
  unfold decRE at h
  unfold decRL
  by_cases h0 : n < 0
  · rw [if_pos h0]
  · rw [if_neg h0] at h ⊢
    by_cases h1 : (s.size : Int) < n
    · rw [if_pos h1]
    · rw [if_neg h1] at h ⊢
      rw [if_neg h]

/-- two lists, one behind the other. -/
theorem join_encR {l t : List Nat} {x : Nat} (m : List Nat) (h : l = t ++ [x]) :
    encR 0 (l ++ m) = encR 0 l ++ encR (canon x) m ∧ encR 0 (x :: m) = encR 0 [x] ++ encR (canon x) m := by
  constructor
  · rw [h, encR_append, lastR_snoc]
  · show putL _ ++ encR (canon x) m = (putL _ ++ []) ++ encR (canon x) m
    rw [List.append_nil]
theorem put_zero : putL (swapN 0) = [0] := by decide
/-- a number that stands again. -/
theorem again_encR (t B : List Nat) (x : Nat) :
    encR 0 (t ++ [x] ++ [x] ++ B) = encR 0 (t ++ [x]) ++ ([0] ++ encR (canon x) B) ∧ encR 0 (t ++ [x] ++ B) = encR 0 (t ++ [x]) ++ encR (canon x) B := by
  constructor
  · rw [encR_append, lastR_snoc, encR_append (t ++ [x]) [x], lastR_snoc]
    show _ ++ (putL (swapN (canon x ^^^ canon x)) ++ []) ++ _ = _
    rw [Nat.xor_self, put_zero, List.append_nil, List.append_assoc]
  · rw [encR_append, lastR_snoc]
theorem last_split {l : List Nat} {k : Nat} (h : l.length = k + 1) : ∃ t x, l = t ++ [x] ∧ t.length = k ∧ l[k]? = some x := by
  have h1 : l ≠ [] := by intro e; subst e; cases h
  refine ⟨l.dropLast, l.getLast h1, (List.dropLast_concat_getLast h1).symm, by rw [List.length_dropLast]; omega, ?_⟩
  rw [List.getLast_eq_getElem, List.getElem?_eq_getElem (by omega)]
  congr 1
  congr 1
  omega
theorem part_of (p q : List UInt8) : (str p).size ≤ (str (p ++ q)).size ∧ (str (p ++ q)).extract 0 (str p).size = str p ∧ (str (p ++ q)).extract (str p).size (str (p ++ q)).size = str q := by
  refine ⟨by rw [str_size, str_size]; simp, ?_, ?_⟩
  · apply ext_list
    rw [Lib.extract_data, str_data, str_data, str_size]
    simp
  · apply ext_list
    rw [Lib.extract_data, str_data, str_data, str_size, str_size, List.drop_left, List.take_of_length_le (by simp)]

end Rl
end Go.Proofs.Ytimgiokhhdkfaaa
