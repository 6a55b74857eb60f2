/-
  A FILE OF ONE CHUNK OF WHICH THE BODY OR THE SUM IS CHANGED is split no more: in plain words. No program.
-/
import Derived.Test.YtpccenaieeggmaaChunkRows
namespace Go.Proofs.Ytpccenaieeggmaa
open Go.RowKit Go.Shelf
namespace Ck
open Mem Pk Bd

theorem spoil_prefix (A B : List UInt8) (q : Nat) (ms : List UInt8) (i : Nat) : Crc.spoil (A ++ B) (A.length + q) ms i = A ++ Crc.spoil B q ms i := by
  unfold Crc.spoil
  rw [List.take_length_add_append, List.drop_length_add_append, Nat.add_assoc, List.drop_length_add_append]
  simp
theorem spoil_same {l ms : List UInt8} {p i : Nat} (h : p + i ≤ l.length) (hm : i ≤ ms.length) (hc : Crc.changed ms i = false) : Crc.spoil l p ms i = l := by
  have hz := (Crc.zip_same ((l.drop p).take i) (ms.take i) (by rw [List.length_take, List.length_take, List.length_drop]; omega)).2 hc
  unfold Crc.spoil
  rw [hz, List.append_assoc, ← List.drop_drop, List.take_append_drop, List.take_append_drop]
theorem fix_four (n : Nat) : (fixL n).take 4 = Crc.four n := by
  have e : ∀ m : Nat, UInt8.ofNat (m % 256) = UInt8.ofNat m := fun m => by
    apply UInt8.toNat_inj.1
    rw [UInt8.toNat_ofNat', UInt8.toNat_ofNat']
    omega
  show [UInt8.ofNat (n % 256), UInt8.ofNat (n / 256 % 256), UInt8.ofNat (n / 256 / 256 % 256), UInt8.ofNat (n / 256 / 256 / 256 % 256)] = _
  unfold Crc.four
  rw [e, e, e, e, Nat.div_div_eq_div_mul, Nat.div_div_eq_div_mul]
theorem sealL_sum (l : List UInt8) : Crc.more 0 (sealL l) = 558161692 := by
  unfold sealL
  rw [fix_four]
  exact Crc.sealed l
def headL : List UInt8 := [66, 78, 83, 73, 1]
theorem spoil_plain {c : Ch} {L ms : List UInt8} {p k : Nat} (hk : 1 ≤ c.1 ∧ c.1 ≤ 255) (hb : c.2.size ≤ 200) (hL : L = headL ++ oneL c) (hp : L.length ≤ p + 4 + c.2.size) (hpk : p + k ≤ L.length) (hm : k ≤ ms.length) (h4 : k ≤ 4) :
    splitE (str (Crc.spoil L p ms k)) = if Crc.changed ms k then 6 else 0 := by
  by_cases hc : Crc.changed ms k = true
  · rw [if_pos hc]
    obtain ⟨kk, b⟩ := c
    simp only at hk hb hp
    obtain ⟨Z, hZ⟩ : ∃ Z, (fixL (Crc.more 0 ([b8 kk] ++ putL b.size ++ b.data.toList))).take 4 = Z := ⟨_, rfl⟩
    have hZl : Z.length = 4 := by rw [← hZ, List.length_take, fix_len]; rfl
    obtain ⟨P0, hP0⟩ : ∃ P0, [b8 kk] ++ putL b.size = P0 := ⟨_, rfl⟩
    have hP0l : P0.length = 1 + (putL b.size).length := by rw [← hP0]; simp; omega
    have ho : oneL (kk, b) = P0 ++ (b.data.toList ++ Z) := by
      show sealL ([b8 kk] ++ putL b.size ++ b.data.toList) = _
      unfold sealL
      rw [hZ, hP0, List.append_assoc]
    have hLl : L.length = 5 + P0.length + b.size + 4 := by rw [hL, ho]; simp [headL, hZl]; omega
    obtain ⟨q, hq⟩ : ∃ q, p = 5 + (P0.length + q) := ⟨p - 5 - P0.length, by omega⟩
    obtain ⟨D, hD⟩ : ∃ D, Crc.spoil (b.data.toList ++ Z) q ms k = D := ⟨_, rfl⟩
    have hDl : D.length = b.size + 4 := by rw [← hD, Crc.spoil_length (by simp [hZl]; omega) hm]; simp [hZl]
    have hQ : Crc.spoil (oneL (kk, b)) (P0.length + q) ms k = P0 ++ D := by rw [ho, spoil_prefix, hD]
    have ht : Crc.spoil L p ms k = headL ++ (P0 ++ D) := by rw [hL, hq, show 5 + (P0.length + q) = headL.length + (P0.length + q) from rfl, spoil_prefix, hQ]
    rw [ht]
    have hd : (str (headL ++ (P0 ++ D))).data.toList = headL ++ (P0 ++ D) := str_data _
    have hz : ¬ (str (headL ++ (P0 ++ D))).size < 5 := by rw [str_size]; simp [headL]
    obtain ⟨g1, -⟩ := ver_good (s := str (headL ++ (P0 ++ D))) (by rw [hd]; rfl) hz
    refine splitE_of g1 ?_
    obtain ⟨u, hu⟩ : ∃ u, rest (str (headL ++ (P0 ++ D))) 5 = u := ⟨_, rfl⟩
    have hud : u.data.toList = P0 ++ D := by rw [← hu, rest_list, hd]; rfl
    have hus : u.size = P0.length + (b.size + 4) := by rw [← size_list, hud, List.length_append, hDl]
    have hud2 : u.data.toList = [b8 kk] ++ (putL b.size ++ D) := by rw [hud, ← hP0]; simp
    have hr : numR (rest u 1).data.toList = (0, b.size, (putL b.size).length) := by
      rw [rest_list, hud2]
      exact read_put (Nat.lt_of_le_of_lt hb (by decide)) _
    have hE : fE1 u = 0 := by unfold fE1 numE; rw [if_pos rfl, hr]
    have hN : fN u = b.size := by unfold fN numN; rw [if_pos rfl, hr]
    have hK : fK u = P0.length := by unfold fK numK; rw [if_pos rfl, hr, hP0l]
    have hU : fU u = u.size := by unfold fU; rw [hN, hK, hus]; omega
    have hF : firstE u = 6 := by
      rw [first_sum hE (by rw [hN]; omega) (by rw [hU]; omega)]
      refine if_neg (fun e => ?_)
      have t2 : u.data.toList.take (fU u) = P0 ++ D := by rw [hU, List.take_of_length_le (by rw [size_list]; exact Nat.le_refl _), hud]
      rw [t2] at e
      have e1 := sealL_sum (List.take (fK u + fN u) u.data.toList)
      rw [e] at e1
      have e2 := sealL_sum ([b8 kk] ++ putL b.size ++ b.data.toList)
      have e3 : Crc.more 0 (oneL (kk, b)) = Crc.more 0 (Crc.spoil (oneL (kk, b)) (P0.length + q) ms k) := by rw [hQ, e1]; exact e2
      have := (Crc.spoil_sum (l := oneL (kk, b)) (ms := ms) (p := P0.length + q) (i := k) (by rw [ho]; simp [hZl]; omega) hm h4).1 e3
      rw [hc] at this
      cases this
    unfold splitR
    rw [hu]
    obtain ⟨f, hf⟩ : ∃ f, (str (headL ++ (P0 ++ D))).size = f + 1 := ⟨(str (headL ++ (P0 ++ D))).size - 1, by omega⟩
    rw [hf, splitGo, if_neg (by omega), if_pos (by rw [hF]; decide), hF]
  · have hc2 : Crc.changed ms k = false := by simpa using hc
    rw [if_neg hc, spoil_same hpk hm hc2, hL]
    have hj : joinE 1 [c] = 0 := by
      refine joinE_of ⟨by decide, by decide⟩ ?_
      rw [joinGo, if_neg (by omega), if_neg (by omega), joinGo]
    have := (split_join hj).1
    have e : joinS 1 [c] = str (headL ++ oneL c) := by
      unfold joinS
      rw [if_pos hj]
      unfold joinL
      simp [headL]
      rfl
    rw [e] at this
    exact this

end Ck
end Go.Proofs.Ytpccenaieeggmaa
