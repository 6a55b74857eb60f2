/-
  PLAIN: what is put is read, whole; what is read is what is put. No program in sight.
-/
import Derived.Test.YtpccenaieeggmaaPackNum
namespace Go.Proofs.Ytpccenaieeggmaa
namespace Pk
open Mem

theorem pow7 (i : Nat) : 2 ^ (7 * (i + 1)) = 128 * 2 ^ (7 * i) := by rw [Nat.mul_add, Nat.pow_add]; omega
theorem byte_nat {m : Nat} (h : m < 256) : (UInt8.ofNat m).toNat = m := by simp [UInt8.toNat_ofNat', Nat.mod_eq_of_lt h]
theorem top_small {n : Nat} (h : n * 2 ^ (7 * 9) < 2 ^ 64) : n ≤ 1 := by
  have e : (2 : Nat) ^ 64 = 2 * 2 ^ (7 * 9) := by decide
  rw [e] at h
  have := Nat.lt_of_mul_lt_mul_right h
  omega

/-- what is put is read. -/
theorem go_put (f : Nat) : ∀ (i acc n : Nat) (t : List UInt8), f + i = 10 → 0 < f → n * 2 ^ (7 * i) < 2 ^ 64 → (i = 0 ∨ 0 < n) →
    numGo i acc (putF f n ++ t) = (0, acc + n * 2 ^ (7 * i), i + (putF f n).length) := by
  induction f with
  | zero => intro i acc n t _ h0; omega
  | succ f ih =>
    intro i acc n t hf _ hn hi
    have h9 : i = 9 → n ≤ 1 := fun h => top_small (by rw [← h]; exact hn)
    by_cases hl : n < 128
    · rw [putF_lt hl]
      show numGo i acc (UInt8.ofNat n :: t) = _
      rw [numGo, byte_nat (by omega), if_neg (by omega), if_pos hl]
      rfl
    · rw [putF_ge hl]
      show numGo i acc (UInt8.ofNat (n % 128 + 128) :: (putF f (n / 128) ++ t)) = _
      have hi9 : i < 9 := by
        rcases (show i = 9 ∨ i < 9 by omega) with h | h
        · have := h9 h; omega
        · exact h
      rw [numGo, byte_nat (by omega), if_neg (by omega), if_neg (by omega)]
      have hq : n / 128 * 2 ^ (7 * (i + 1)) < 2 ^ 64 := by
        rw [pow7, ← Nat.mul_assoc]
        exact Nat.lt_of_le_of_lt (Nat.mul_le_mul_right _ (Nat.div_mul_le_self n 128)) hn
      rw [ih (i + 1) _ (n / 128) t (by omega) (by omega) hq (.inr (by omega)), pow7]
      have e : n * 2 ^ (7 * i) = (n % 128 + 128) % 128 * 2 ^ (7 * i) + n / 128 * (128 * 2 ^ (7 * i)) := by
        rw [← Nat.mul_assoc, ← Nat.add_mul]
        congr 1
        omega
      rw [e, List.length_cons]
      congr 2
      · omega
      · omega
theorem read_put {n : Nat} (hn : n < W64) (t : List UInt8) : numR (putL n ++ t) = (0, n, (putL n).length) := by
  unfold numR putL
  rw [go_put 10 0 0 n t (by decide) (by decide) (by rw [W64_pow] at hn; simpa using hn) (.inl rfl)]
  simp

/-- what is read is what is put. -/
theorem go_read (l : List UInt8) : ∀ (i acc m K : Nat), i ≤ 9 → numGo i acc l = (0, m, K) →
    ∃ n, m = acc + n * 2 ^ (7 * i) ∧ (i = 0 ∨ 0 < n) ∧ i < K ∧ K ≤ i + l.length ∧ l.take (K - i) = putF (10 - i) n := by
  induction l with
  | nil => intro i acc m K _ h; cases h
  | cons b t ih =>
    intro i acc m K hi h
    have hb := UInt8.toNat_lt b
    rw [numGo] at h
    by_cases hbad : (i = 9 ∧ 1 < b.toNat) ∨ (0 < i ∧ b.toNat = 0)
    · rw [if_pos hbad] at h; cases h
    · rw [if_neg hbad] at h
      by_cases hl : b.toNat < 128
      · rw [if_pos hl] at h
        simp only [Prod.mk.injEq, true_and] at h
        obtain ⟨rfl, rfl⟩ := h
        refine ⟨b.toNat, rfl, by omega, by omega, by simp, ?_⟩
        rw [show i + 1 - i = 1 from by omega, show 10 - i = (9 - i) + 1 from by omega, putF_lt hl]
        simp
      · rw [if_neg hl] at h
        have hi9 : i < 9 := by omega
        obtain ⟨n', h1, h2, h3, h4, h5⟩ := ih (i + 1) _ m K (by omega) h
        have hn' : 0 < n' := by omega
        refine ⟨b.toNat % 128 + 128 * n', ?_, by omega, by omega, by simp; omega, ?_⟩
        · rw [h1, pow7, Nat.add_mul, Nat.add_assoc, ← Nat.mul_assoc n' 128, Nat.mul_comm n' 128]
        · have e1 : K - i = (K - (i + 1)) + 1 := by omega
          have e2 : (b.toNat % 128 + 128 * n') % 128 + 128 = b.toNat := by omega
          have e3 : (b.toNat % 128 + 128 * n') / 128 = n' := by omega
          rw [e1, List.take_succ_cons, h5, show 10 - i = (10 - (i + 1)) + 1 from by omega, putF_ge (by omega), e2, e3]
          simp
theorem put_read {l : List UInt8} {m K : Nat} (h : numR l = (0, m, K)) : l.take K = putL m ∧ 1 ≤ K ∧ K ≤ l.length ∧ K = (putL m).length := by
  obtain ⟨n, h1, _, h3, h4, h5⟩ := go_read l 0 0 m K (by decide) h
  have e : n = m := by rw [h1]; simp
  subst e
  rw [Nat.sub_zero] at h5
  have h6 : l.take K = putL n := h5
  refine ⟨h6, h3, by omega, ?_⟩
  rw [← h6, List.length_take]
  omega

/-- the bytes put: one, and one more for each time that the number is divided by 128. -/
def sizeF : Nat → Nat → Nat
  | 0, _ => 0
  | f + 1, n => if n < 128 then 1 else sizeF f (n / 128) + 1
theorem putF_size (f : Nat) : ∀ n, (putF f n).length = sizeF f n := by
  induction f with
  | zero => intro n; rfl
  | succ f ih =>
    intro n
    rw [putF, sizeF]
    split
    · rfl
    · rw [List.length_cons, ih]
theorem putF_bytes (f : Nat) : ∀ (n : Nat) (l : List UInt8) (i : Nat) (hi : i < l.length), l = putF f n → n < 128 ^ f → (l[i].toNat < 128 ↔ i + 1 = l.length) := by
  induction f with
  | zero => intro n l i hi e _; subst e; simp [putF] at hi
  | succ f ih =>
    intro n l i hi e hn
    by_cases hl : n < 128
    · rw [putF_lt hl] at e
      subst e
      have h0 : i = 0 := by simpa using hi
      subst h0
      show (UInt8.ofNat n).toNat < 128 ↔ 0 + 1 = 1
      rw [byte_nat (by omega)]
      exact ⟨fun _ => rfl, fun _ => hl⟩
    · rw [putF_ge hl] at e
      subst e
      have hq : n / 128 < 128 ^ f := by
        rw [Nat.pow_succ] at hn
        exact Nat.div_lt_of_lt_mul (by omega)
      have hpos : 0 < (putF f (n / 128)).length := by
        cases f with
        | zero => simp at hq; omega
        | succ g => rw [putF]; split <;> simp
      cases i with
      | zero =>
        simp only [List.getElem_cons_zero, List.length_cons, byte_nat (show n % 128 + 128 < 256 by omega)]
        omega
      | succ i =>
        have := ih (n / 128) _ i (by simpa using hi) rfl hq
        simp only [List.getElem_cons_succ, List.length_cons]
        omega
theorem putL_bytes {n i : Nat} (hn : n < W64) (hi : i < (putL n).length) : (putL n)[i].toNat < 128 ↔ i + 1 = (putL n).length :=
  putF_bytes 10 n _ i hi rfl (Nat.lt_of_lt_of_le hn (by decide))
theorem putL_pos (n : Nat) : 0 < (putL n).length := by unfold putL; rw [putF]; split <;> simp

/-- eight bytes put are read. -/
theorem fixN_fixF (f : Nat) : ∀ n, n < 256 ^ f → fixN (fixF f n) = n := by
  induction f with
  | zero => intro n hn; simp at hn; subst hn; rfl
  | succ f ih =>
    intro n hn
    rw [fixF, fixN, ih _ (by rw [Nat.pow_succ] at hn; exact Nat.div_lt_of_lt_mul (by omega)), byte_nat (by omega)]
    omega
theorem fixN_fixL {n : Nat} (hn : n < W64) : fixN (fixL n) = n := fixN_fixF 8 n (Nat.lt_of_lt_of_le hn (by decide))

end Pk
end Go.Proofs.Ytpccenaieeggmaa
