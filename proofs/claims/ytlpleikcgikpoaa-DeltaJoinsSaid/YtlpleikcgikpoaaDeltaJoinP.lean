/-
  PLAIN: the distances, the bytes and the rise of two lists, one behind the other. No program.
-/
import Derived.Test.YtlpleikcgikpoaaDeltaBackP
import Derived.Test.YtlpleikcgikpoaaDeltaSame
namespace Go.Proofs.Ytlpleikcgikpoaa
open Go.RowKit
namespace Dl
open Mem Pk

theorem subs_append (l m : List Int) (x : Int) : ∀ p, subs p (l ++ [x] ++ m) = subs p (l ++ [x]) ++ subs x m := by
  induction l with
  | nil => intro p; rfl
  | cons n l ih => intro p; rw [List.cons_append, List.cons_append, subs, ih]; rfl
theorem enc_append (a b : List Int) : enc (a ++ b) = enc a ++ enc b := by unfold enc; rw [List.flatMap_append]
theorem rise_append (l : List Int) (x y : Int) (m : List Int) : rise (l ++ [x] ++ (y :: m)) = (rise (l ++ [x]) && rise (y :: m) && decide (x < y)) := by
  induction l with
  | nil =>
    show (decide (x < y) && rise (y :: m)) = ((true && true) && rise (y :: m) && decide (x < y))
    simp [Bool.and_comm]
  | cons n l ih =>
    have h1 : rise (n :: (l ++ [x] ++ (y :: m))) = ((match l ++ [x] ++ (y :: m) with | [] => true | b :: _ => decide (n < b)) && rise (l ++ [x] ++ (y :: m))) := rfl
    have h2 : rise (n :: (l ++ [x])) = ((match l ++ [x] with | [] => true | b :: _ => decide (n < b)) && rise (l ++ [x])) := rfl
    rw [List.cons_append, List.cons_append, h1, h2, ih]
    cases l with
    | nil => simp [Bool.and_assoc]
    | cons b l => simp [Bool.and_assoc]
theorem last_split {l : List Int} {k : Nat} (h : l.length = k + 1) : ∃ t x, l = t ++ [x] ∧ t.length = k ∧ l[k]? = some x := by
  have h1 : l ≠ [] := by intro e; subst e; cases h
  refine ⟨l.dropLast, l.getLast h1, (List.dropLast_concat_getLast h1).symm, by rw [List.length_dropLast]; omega, ?_⟩
  rw [List.getLast_eq_getElem, List.getElem?_eq_getElem (by omega)]
  congr 1
  congr 1
  omega
theorem part_of (p q : List UInt8) : (str p).size ≤ (str (p ++ q)).size ∧ (str (p ++ q)).extract 0 (str p).size = str p ∧ (str (p ++ q)).extract (str p).size (str (p ++ q)).size = str q := by
  refine ⟨by rw [str_size, str_size]; simp, ?_, ?_⟩
  · apply ext_list
    rw [Lib.extract_data, str_data, str_data, str_size]
    simp
  · apply ext_list
    rw [Lib.extract_data, str_data, str_data, str_size, str_size, List.drop_left, List.take_of_length_le (by simp)]
/-- what is joined. -/
theorem join_enc {l t : List Int} {x : Int} (m : List Int) (h : l = t ++ [x]) :
    enc (subs 0 (l ++ m)) = enc (subs 0 l) ++ enc (subs x m) ∧ enc (subs 0 (x :: m)) = enc (subs 0 [x]) ++ enc (subs x m) := by
  constructor
  · rw [h, subs_append, enc_append]
  · have h1 : subs 0 (x :: m) = subs 0 [x] ++ subs x m := rfl
    rw [h1, enc_append]

end Dl
end Go.Proofs.Ytlpleikcgikpoaa
