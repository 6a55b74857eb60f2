/-
  PLAIN: a text of which up to four bytes, one behind the other, are changed by masks: its sum is another one just if a mask is not 0. No condition.
-/
import Derived.Test.YtpccenaieeggmaaCrcPlain
namespace Go.Proofs.Ytpccenaieeggmaa
namespace Crc

/-- l, its first i bytes from p on changed by masks. -/
def spoil (l : List UInt8) (p : Nat) (ms : List UInt8) (i : Nat) : List UInt8 :=
  l.take p ++ List.zipWith (· ^^^ ·) ((l.drop p).take i) (ms.take i) ++ l.drop (p + i)
def changed (ms : List UInt8) (i : Nat) : Bool := (ms.take i).any (· != 0)

theorem spoil_zero (l : List UInt8) (p : Nat) (ms : List UInt8) : spoil l p ms 0 = l := by
  unfold spoil
  simp

theorem zip_length {l ms : List UInt8} {p i : Nat} (h : p + i ≤ l.length) (hm : i ≤ ms.length) : (List.zipWith (· ^^^ ·) ((l.drop p).take i) (ms.take i)).length = i := by
  rw [List.length_zipWith, List.length_take, List.length_take, List.length_drop]
  omega

theorem spoil_length {l ms : List UInt8} {p i : Nat} (h : p + i ≤ l.length) (hm : i ≤ ms.length) : (spoil l p ms i).length = l.length := by
  unfold spoil
  rw [List.length_append, List.length_append, zip_length h hm, List.length_take, List.length_drop]
  omega

theorem spoil_at {l ms : List UInt8} {p i : Nat} (h : p + i < l.length) (hm : i ≤ ms.length) : (spoil l p ms i).getD (p + i) 0 = l.getD (p + i) 0 := by
  unfold spoil
  have e : (l.take p ++ List.zipWith (· ^^^ ·) ((l.drop p).take i) (ms.take i)).length = p + i := by
    rw [List.length_append, zip_length (by omega) hm, List.length_take]
    omega
  rw [List.getD_eq_getElem?_getD, List.getElem?_append_right (by omega), e, Nat.sub_self, List.getElem?_drop, Nat.add_zero, ← List.getD_eq_getElem?_getD]

theorem spoil_set {l ms : List UInt8} {p i : Nat} (h : p + i < l.length) (hm : i < ms.length) : (spoil l p ms i).set (p + i) (l.getD (p + i) 0 ^^^ ms.getD i 0) = spoil l p ms (i + 1) := by
  unfold spoil
  have e : (l.take p ++ List.zipWith (· ^^^ ·) ((l.drop p).take i) (ms.take i)).length = p + i := by
    rw [List.length_append, zip_length (by omega) (by omega), List.length_take]
    omega
  rw [List.set_append_right _ _ (by omega), e, Nat.sub_self]
  have d : l.drop (p + i) = l[p + i] :: l.drop (p + (i + 1)) := by rw [List.drop_eq_getElem_cons h]; rfl
  rw [d, List.set_cons_zero]
  have t1 : (l.drop p).take (i + 1) = (l.drop p).take i ++ [l[p + i]] := by
    rw [List.take_succ_eq_append_getElem (by rw [List.length_drop]; omega), List.getElem_drop]
  have t2 : ms.take (i + 1) = ms.take i ++ [ms[i]] := List.take_succ_eq_append_getElem hm
  have g1 : l.getD (p + i) 0 = l[p + i] := by rw [List.getD_eq_getElem?_getD, List.getElem?_eq_getElem h]; rfl
  have g2 : ms.getD i 0 = ms[i] := by rw [List.getD_eq_getElem?_getD, List.getElem?_eq_getElem hm]; rfl
  rw [t1, t2, List.zipWith_append (by rw [List.length_take, List.length_take, List.length_drop]; omega), g1, g2]
  simp

theorem changed_succ {ms : List UInt8} {i : Nat} (hm : i < ms.length) : changed ms (i + 1) = (changed ms i || ms.getD i 0 != 0) := by
  unfold changed
  have g2 : ms.getD i 0 = ms[i] := by rw [List.getD_eq_getElem?_getD, List.getElem?_eq_getElem hm]; rfl
  rw [List.take_succ_eq_append_getElem hm, List.any_append, g2]
  simp

theorem zip_same : ∀ (a m : List UInt8), a.length = m.length → (List.zipWith (· ^^^ ·) a m = a ↔ m.any (· != 0) = false) := by
  intro a
  induction a with
  | nil => intro m h; cases m with
    | nil => simp
    | cons _ _ => cases h
  | cons x a ih =>
    intro m h
    cases m with
    | nil => cases h
    | cons y m =>
      have hx : x ^^^ y = x ↔ y = 0 := by
        constructor
        · intro e
          have : x ^^^ (x ^^^ y) = x ^^^ x := by rw [e]
          rwa [← UInt8.xor_assoc, UInt8.xor_self, UInt8.zero_xor] at this
        · intro e; rw [e, UInt8.xor_zero]
      have := ih m (Nat.succ.inj h)
      simp only [List.zipWith_cons_cons, List.cons.injEq, List.any_cons, Bool.or_eq_false_iff, hx, this]
      simp

/-- THE SUMS ARE UNLIKE JUST IF A MASK IS NOT 0. -/
theorem spoil_sum {l ms : List UInt8} {p i : Nat} (h : p + i ≤ l.length) (hm : i ≤ ms.length) (h4 : i ≤ 4) :
    more 0 l = more 0 (spoil l p ms i) ↔ changed ms i = false := by
  have hz := zip_same ((l.drop p).take i) (ms.take i) (by rw [List.length_take, List.length_take, List.length_drop]; omega)
  have hl : l = l.take p ++ (l.drop p).take i ++ l.drop (p + i) := by
    conv => lhs; rw [← List.take_append_drop p l, ← List.take_append_drop i (l.drop p), List.drop_drop]
    rw [List.append_assoc]
  unfold changed
  rw [← hz]
  constructor
  · intro e
    unfold more at e
    have e' : feed (0 ^^^ all) l = feed (0 ^^^ all) (spoil l p ms i) := by
      have := congrArg (· ^^^ all) e
      simpa only [Nat.xor_assoc, Nat.xor_self, Nat.xor_zero] using this
    have e2 : feed (0 ^^^ all) (l.take p ++ (l.drop p).take i ++ l.drop (p + i)) = feed (0 ^^^ all) (spoil l p ms i) := by rw [← hl]; exact e'
    unfold spoil at e2
    exact (spoils (0 ^^^ all) (by decide) _ _ _ _ (by rw [zip_length h hm, List.length_take, List.length_drop]; omega) (by rw [List.length_take]; omega) e2).symm
  · intro e
    unfold spoil
    rw [e, ← hl]

end Crc
end Go.Proofs.Ytpccenaieeggmaa
