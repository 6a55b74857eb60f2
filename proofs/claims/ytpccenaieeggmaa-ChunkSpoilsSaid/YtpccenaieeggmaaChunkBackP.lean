/-
  WHAT IS JOINED IS SPLIT, and the other way round; which chunk is found: in plain words. No program.
-/
import Derived.Test.YtpccenaieeggmaaChunkSplitP
import Derived.Test.YtpccenaieeggmaaChunkJoin
namespace Go.Proofs.Ytpccenaieeggmaa
open Go.RowKit Go.Shelf
namespace Ck
open Mem Pk Bd

theorem first_one {c : Ch} {u : ByteArray} {R : List UInt8} (hu : u.data.toList = oneL c ++ R) (hk : 0 ≤ c.1 ∧ c.1 ≤ 255) (hb : c.2.size ≤ 1048576) :
    firstE u = 0 ∧ firstC u = c ∧ fU u = (oneL c).length ∧ (rest u (fU u)).data.toList = R ∧ 0 < u.size := by
  obtain ⟨k, b⟩ := c
  simp only at hk hb
  obtain ⟨P, hP⟩ : ∃ P, [b8 k] ++ putL b.size ++ b.data.toList = P := ⟨_, rfl⟩
  obtain ⟨Z, hZ⟩ : ∃ Z, (fixL (Crc.more 0 P)).take 4 = Z := ⟨_, rfl⟩
  have hZl : Z.length = 4 := by rw [← hZ, List.length_take, fix_len]; rfl
  have ho : oneL (k, b) = P ++ Z := by show sealL ([b8 k] ++ putL b.size ++ b.data.toList) = _; rw [hP]; unfold sealL; rw [hZ]
  have hPl : P.length = 1 + (putL b.size).length + b.size := by rw [← hP]; simp; omega
  have hu2 : u.data.toList = [b8 k] ++ (putL b.size ++ (b.data.toList ++ (Z ++ R))) := by rw [hu, ho, ← hP]; simp
  have hr : numR (rest u 1).data.toList = (0, b.size, (putL b.size).length) := by
    rw [rest_list, hu2]
    exact read_put (Nat.lt_of_le_of_lt hb (by decide)) _
  have hE : fE1 u = 0 := by unfold fE1 numE; rw [if_pos rfl, hr]
  have hN : fN u = b.size := by unfold fN numN; rw [if_pos rfl, hr]
  have hK : fK u = 1 + (putL b.size).length := by unfold fK numK; rw [if_pos rfl, hr]
  have hU : fU u = P.length + 4 := by unfold fU; rw [hN, hK, hPl]
  have hus : u.size = P.length + 4 + R.length := by rw [← size_list, hu, ho, List.length_append, List.length_append, hZl]
  have t1 : u.data.toList.take (fK u + fN u) = P := by
    rw [hK, hN, ← hPl, hu, ho, List.append_assoc, List.take_left]
  have t2 : u.data.toList.take (fU u) = P ++ Z := by
    rw [hU, hu, ho, show P.length + 4 = (P ++ Z).length by rw [List.length_append, hZl], List.take_left]
  have hF : firstE u = 0 := by
    rw [first_sum hE (by rw [hN]; omega) (by rw [hU, hus]; omega), t1, t2]
    exact if_pos (by unfold sealL; rw [hZ])
  refine ⟨hF, ?_, by rw [hU, ho, List.length_append, hZl], ?_, by omega⟩
  · unfold firstC
    have h0 : u.data.toList[0]?.getD 0 = b8 k := by rw [hu2]; rfl
    have h1 : ((b8 k).toNat : Int) = k := by rw [← b8_val]; omega
    have h2 : fB u = b := by
      unfold fB
      refine ext_list ?_
      rw [head_list, rest_list, hN, hK, hu2]
      have e : [b8 k] ++ (putL b.size ++ (b.data.toList ++ (Z ++ R))) = ([b8 k] ++ putL b.size) ++ (b.data.toList ++ (Z ++ R)) := by simp
      rw [e, show 1 + (putL b.size).length = ([b8 k] ++ putL b.size).length by simp; omega, List.drop_left, ← size_list, List.take_left]
    rw [h0, h1, h2]
  · rw [rest_list, hU, hu, ho, show P.length + 4 = (P ++ Z).length by rw [List.length_append, hZl], List.drop_left]

theorem joinGo_zero {last : Int} {c : Ch} {l : List Ch} (h : joinGo last (c :: l) = 0) : ¬ c.1 ≤ last ∧ c.1 ≤ 255 ∧ c.2.size ≤ 1048576 ∧ joinGo c.1 l = 0 := by
  rw [joinGo] at h
  split at h
  · exact absurd h (by decide)
  · rename_i h1
    split at h
    · exact absurd h (by decide)
    · rename_i h2
      exact ⟨fun e => h1 (.inl e), by omega, by omega, h⟩
theorem oneL_pos (c : Ch) : 0 < (oneL c).length := by unfold oneL sealL; simp
theorem go_back (l : List Ch) : ∀ (f : Nat) (last : Int) (u : ByteArray), 0 ≤ last → joinGo last l = 0 → u.data.toList = l.flatMap oneL → u.size ≤ f → splitGo f last u = (0, l) := by
  induction l with
  | nil =>
    intro f last u _ _ hu _
    have h0 : u.size = 0 := by rw [← size_list, hu]; rfl
    cases f with
    | zero => rw [splitGo]
    | succ f => rw [splitGo, if_pos h0]
  | cons c l ih =>
    intro f last u h0 hj hu hf
    obtain ⟨h1, h2, h3, h4⟩ := joinGo_zero hj
    rw [List.flatMap_cons] at hu
    obtain ⟨e1, e2, e3, e4, e5⟩ := first_one hu ⟨by omega, h2⟩ h3
    have hp := oneL_pos c
    cases f with
    | zero => omega
    | succ f =>
      rw [splitGo, if_neg (by omega), if_neg (by simp [e1]), e2, if_neg h1, ih f c.1 (rest u (fU u)) (by omega) h4 e4 (by rw [rest_size, e3]; omega)]
theorem join_zero {v : Int} {l : List Ch} (h : joinE v l = 0) : 0 ≤ v ∧ v ≤ 255 ∧ joinGo 0 l = 0 := by
  unfold joinE at h
  split at h
  · exact absurd h (by decide)
  · exact ⟨by omega, by omega, h⟩
theorem split_join {v : Int} {l : List Ch} (h : joinE v l = 0) : splitE (joinS v l) = 0 ∧ splitL (joinS v l) = l ∧ splitV (joinS v l) = v := by
  obtain ⟨h0, h1, h2⟩ := join_zero h
  have hs : joinS v l = str (joinL v l) := if_pos h
  rw [hs]
  have hd : (str (joinL v l)).data.toList = [66, 78, 83, 73] ++ ([b8 v] ++ l.flatMap oneL) := by rw [str_data]; unfold joinL; simp
  have hz : ¬ (str (joinL v l)).size < 5 := by rw [← size_list, hd]; simp
  have hm : (str (joinL v l)).data.toList.take 4 = magic := by rw [hd]; rfl
  obtain ⟨g1, g2⟩ := ver_good hm hz
  have hg2 : verN (str (joinL v l)) = v := by
    rw [g2, hd]
    show ((b8 v).toNat : Int) = v
    rw [← b8_val]
    omega
  have hr : splitR (str (joinL v l)) = (0, l) := by
    unfold splitR
    exact go_back l _ 0 _ (by decide) h2 (by rw [rest_list, hd]; rfl) (by rw [rest_size]; omega)
  have hE : splitE (str (joinL v l)) = 0 := splitE_of g1 (by rw [hr])
  exact ⟨hE, by unfold splitL; rw [if_pos hE, hr], by unfold splitV; rw [if_pos hE, hg2]⟩

/-- what is found among chunks that rise. -/
theorem find_rise (l : List Ch) : ∀ (last : Int), joinGo last l = 0 → ∀ c ∈ l, last < c.1 ∧ findS l c.1 = some c.2 := by
  induction l with
  | nil => intro _ _ c hc; cases hc
  | cons a l ih =>
    intro last hj c hc
    obtain ⟨h1, h2, h3, h4⟩ := joinGo_zero hj
    rcases List.mem_cons.1 hc with rfl | hc
    · exact ⟨by omega, by rw [findS, if_pos rfl]⟩
    · obtain ⟨g1, g2⟩ := ih a.1 h4 c hc
      exact ⟨by omega, by rw [findS, if_neg (by omega), g2]⟩
theorem find_is (l : List Ch) (k : Int) : (findS l k).isSome = l.any (fun c => decide (c.1 = k)) := by
  induction l with
  | nil => rfl
  | cons a l ih =>
    rw [findS, List.any_cons, ← ih]
    by_cases h : a.1 = k
    · rw [if_pos h, decide_eq_true h]; rfl
    · rw [if_neg h, decide_eq_false h]; rfl

theorem take_head (l : List UInt8) (K : Nat) (h : 0 < l.length) : l.take (1 + K) = [l[0]?.getD 0] ++ (l.drop 1).take K := by
  cases l with
  | nil => simp at h
  | cons a t => rw [Nat.add_comm]; rfl
/-- the other way round. -/
theorem one_first {u : ByteArray} (h : firstE u = 0) (h0 : 0 < u.size) : oneL (firstC u) = u.data.toList.take (fU u) := by
  obtain ⟨h1, h2, h3, h4⟩ := firstE_ok h
  rw [← h4]
  show sealL ([b8 ((u.data.toList[0]?.getD 0).toNat : Int)] ++ putL (fB u).size ++ (fB u).data.toList) = _
  congr 1
  have hE : (numR (rest u 1).data.toList).1 = 0 := by have := h1; unfold fE1 numE at this; rw [if_pos rfl] at this; exact this
  obtain ⟨p1, p2, p3, p4⟩ := put_read (l := (rest u 1).data.toList) (m := (numR (rest u 1).data.toList).2.1) (K := (numR (rest u 1).data.toList).2.2) (by rw [← hE])
  have hN : (numR (rest u 1).data.toList).2.1 = fN u := by unfold fN numN; rw [if_pos rfl]
  have hK : 1 + (numR (rest u 1).data.toList).2.2 = fK u := by unfold fK numK; rw [if_pos rfl]
  have hbs : (fB u).size = fN u := by
    unfold fU at h3
    unfold fB
    rw [← size_list, head_list, List.length_take, size_list, rest_size]
    omega
  have hb8 : b8 ((u.data.toList[0]?.getD 0).toNat : Int) = u.data.toList[0]?.getD 0 := by
    generalize u.data.toList[0]?.getD 0 = x
    apply UInt8.toNat_inj.1
    have := b8_val (x.toNat : Int)
    have := x.toNat_lt
    omega
  rw [hbs, hb8, ← hN, ← p1, rest_list]
  have hbl : (fB u).data.toList = (u.data.toList.drop (fK u)).take (fN u) := by unfold fB; rw [head_list, rest_list]
  rw [hbl, ← hN, ← hK, List.take_add]
  rw [take_head u.data.toList _ (by rw [size_list]; exact h0)]
  simp only [rest_list]
theorem joinE_of {v : Int} {l : List Ch} (hv : 0 ≤ v ∧ v ≤ 255) (h : joinGo 0 l = 0) : joinE v l = 0 := by unfold joinE; rw [if_neg (by omega), h]
theorem back_go (f : Nat) : ∀ (last : Int) (u : ByteArray), u.size ≤ f → (splitGo f last u).1 = 0 → joinGo last (splitGo f last u).2 = 0 ∧ (splitGo f last u).2.flatMap oneL = u.data.toList := by
  induction f with
  | zero =>
    intro last u hf _
    have h0 : u.data.toList = [] := List.eq_nil_of_length_eq_zero (by rw [size_list]; omega)
    rw [splitGo, h0]
    exact ⟨rfl, rfl⟩
  | succ f ih =>
    intro last u hf h
    by_cases h0 : u.size = 0
    · have h1 : u.data.toList = [] := List.eq_nil_of_length_eq_zero (by rw [size_list]; exact h0)
      rw [splitGo, if_pos h0, h1]
      exact ⟨rfl, rfl⟩
    · by_cases h1 : firstE u = 0
      · by_cases h2 : (firstC u).1 ≤ last
        · rw [splitGo, if_neg h0, if_neg (by simp [h1]), if_pos h2] at h
          exact absurd h (by decide)
        · have e : splitGo (f + 1) last u = ((splitGo f (firstC u).1 (rest u (fU u))).1, firstC u :: (splitGo f (firstC u).1 (rest u (fU u))).2) := by rw [splitGo, if_neg h0, if_neg (by simp [h1]), if_neg h2]
          rw [e] at h ⊢
          have hp := fU_pos u
          obtain ⟨g1, g2⟩ := ih (firstC u).1 (rest u (fU u)) (by rw [rest_size]; omega) h
          obtain ⟨c1, c2, c3, c4⟩ := firstC_ok h1
          refine ⟨?_, ?_⟩
          · show joinGo last (firstC u :: _) = 0
            rw [joinGo, if_neg (by omega), if_neg (by omega)]
            exact g1
          · show (firstC u :: _).flatMap oneL = _
            rw [List.flatMap_cons, g2, one_first h1 (by omega), rest_list, List.take_append_drop]
      · rw [splitGo, if_neg h0, if_pos h1] at h
        exact absurd h h1
theorem join_split {s : ByteArray} (h : splitE s = 0) : joinE (splitV s) (splitL s) = 0 ∧ joinS (splitV s) (splitL s) = s := by
  have hv : verE s = 0 := by
    unfold splitE at h
    split at h
    · assumption
    · exact h
  have hR : (splitR s).1 = 0 := by
    unfold splitE at h
    rw [if_pos hv] at h
    exact h
  have h5 := ver_size hv
  have hm : s.data.toList.take 4 = magic := by
    unfold verE at hv
    split at hv
    · assumption
    · exact absurd hv (by decide)
  obtain ⟨-, g2⟩ := ver_good hm (by omega)
  obtain ⟨b1, b2⟩ := back_go s.size 0 (rest s 5) (by rw [rest_size]; omega) hR
  have hV : splitV s = ((s.data.toList[4]?.getD 0).toNat : Int) := by unfold splitV; rw [if_pos h, g2]
  have hL : splitL s = (splitGo s.size 0 (rest s 5)).2 := by unfold splitL; rw [if_pos h]; rfl
  have hb := (s.data.toList[4]?.getD 0).toNat_lt
  rw [hV, hL]
  have hJ := joinE_of (v := ((s.data.toList[4]?.getD 0).toNat : Int)) ⟨by omega, by omega⟩ b1
  refine ⟨hJ, ?_⟩
  unfold joinS
  rw [if_pos hJ]
  refine ext_list ?_
  rw [str_data]
  unfold joinL
  rw [b2, rest_list]
  have hb8 : b8 ((s.data.toList[4]?.getD 0).toNat : Int) = s.data.toList[4]?.getD 0 := by
    generalize s.data.toList[4]?.getD 0 = x at *
    apply UInt8.toNat_inj.1
    have := b8_val (x.toNat : Int)
    omega
  rw [hb8]
  have e : s.data.toList.drop 4 = (s.data.toList[4]?.getD 0) :: s.data.toList.drop 5 := by
    have h4 : 4 < s.data.toList.length := by rw [size_list]; omega
    rw [List.drop_eq_getElem_cons h4, List.getElem?_eq_getElem h4]
    rfl
  have e2 : s.data.toList = magic ++ s.data.toList.drop 4 := by rw [← hm, List.take_append_drop]
  rw [e] at e2
  unfold magic at e2
  conv => rhs; rw [e2]
  simp

end Ck
end Go.Proofs.Ytpccenaieeggmaa
