/-
  WALKS: the version of some bytes, by package chunk and by the document. Conditions: none.
-/
import Derived.Test.YtpccenaieeggmaaChunkFind
namespace Go.Proofs.Ytpccenaieeggmaa
open Go.RowKit Go.Shelf
namespace Ck
open Mem Pk Bd

def magic : List UInt8 := [66, 78, 83, 73]
theorem magic_size {s : ByteArray} (h : s.data.toList.take 4 = magic) : 4 ≤ s.size := by
  have := congrArg List.length h
  rw [List.length_take, size_list] at this
  unfold magic at this
  simp at this
  omega
theorem ver_short {s : ByteArray} (h : ¬ s.data.toList.take 4 = magic) : verE s = 7 ∧ verN s = 0 := by
  have e : verE s = 7 := by
    unfold verE
    exact if_neg h
  exact ⟨e, by unfold verN; rw [e]; rfl⟩
theorem ver_cut {s : ByteArray} (h : s.data.toList.take 4 = magic) (h5 : s.size < 5) : verE s = 2 ∧ verN s = 0 := by
  have e : verE s = 2 := by
    unfold verE
    rw [if_pos (show s.data.toList.take 4 = [66, 78, 83, 73] from h), if_pos h5]
  exact ⟨e, by unfold verN; rw [e]; rfl⟩
theorem ver_good {s : ByteArray} (h : s.data.toList.take 4 = magic) (h5 : ¬ s.size < 5) : verE s = 0 ∧ verN s = ((s.data.toList[4]?.getD 0).toNat : Int) := by
  have e : verE s = 0 := by
    unfold verE
    rw [if_pos (show s.data.toList.take 4 = [66, 78, 83, 73] from h), if_neg h5]
  exact ⟨e, by unfold verN; rw [if_pos e]⟩
theorem head4 {s : ByteArray} (h : s.data.toList.take 4 = magic) : s.extract 0 4 = ⟨#[66, 78, 83, 73]⟩ := ext_list (by rw [head_list]; exact h)
theorem nohead4 {s : ByteArray} (h : ¬ s.data.toList.take 4 = magic) : ((s.extract 0 4).toList == [66, 78, 83, 73]) = false := by
  rw [beq_eq_false_iff_ne]
  intro e
  rw [ByteArray.toList_eq, head_list] at e
  exact h e
theorem wrap_byte (b : UInt8) : wrap64 (b.toNat : Int) = (b.toNat : Int) := by
  have := b.toNat_lt
  unfold wrap64
  omega
theorem byte_at {s : ByteArray} {k : Nat} (h : k < s.size) : s[k] = s.data.toList[k]?.getD 0 := by
  have h2 : k < s.data.toList.length := h
  rw [List.getElem?_eq_getElem h2]
  rfl
def verV (s : ByteArray) : Value := .tuple #[.int .i64 (verN s), .int .i64 (verE s)]

set_option maxRecDepth 100000 in
set_option maxHeartbeats 1000000 in
theorem rver_any (s : ByteArray) (w : World) :
    Calls Try.prog 19 #[.string s] w fun e w' => e = .returned (verV s) ∧ Below w.heap.size w w' := by
  unfold verV
  by_cases hm : s.data.toList.take 4 = magic
  · have h4 := magic_size hm
    have hh := head4 hm
    have d1 : decide ((s.size : Int) < 4) = false := decide_eq_false (by omega)
    by_cases h5 : s.size < 5
    · obtain ⟨e1, e2⟩ := ver_cut hm h5
      rw [e1, e2]
      have d2 : decide ((s.size : Int) < 5) = true := decide_eq_true (by omega)
      clear hm h5 e1 e2
      go_enter Try.func19, Try.ntmps19
      go_wp2_with fail
      go_ret2
      exact ⟨rfl, Below.refl _ _⟩
    · obtain ⟨e1, e2⟩ := ver_good hm h5
      rw [e1, e2]
      have d2 : decide ((s.size : Int) < 5) = false := decide_eq_false (by omega)
      clear hm e1 e2
      go_enter Try.func19, Try.ntmps19
      go_wp2_with fail
      go_ret2
      exact ⟨by rw [wrap_byte, byte_at]; rfl, Below.refl _ _⟩
  · obtain ⟨e1, e2⟩ := ver_short hm
    rw [e1, e2]
    by_cases h4 : s.size < 4
    · have d1 : decide ((s.size : Int) < 4) = true := decide_eq_true (by omega)
      clear hm h4 e1 e2
      go_enter Try.func19, Try.ntmps19
      go_wp2_with fail
      go_ret2
      exact ⟨rfl, Below.refl _ _⟩
    · have hn := nohead4 hm
      have d1 : decide ((s.size : Int) < 4) = false := decide_eq_false (by omega)
      clear hm e1 e2
      go_enter Try.func19, Try.ntmps19
      go_wp2_with fail
      go_ret2
      exact ⟨rfl, Below.refl _ _⟩

theorem pre4 {s : ByteArray} : Lib.hasPrefix s.data.toList (⟨#[66, 78, 83, 73]⟩ : ByteArray).data.toList = decide (s.data.toList.take 4 = magic) := by
  unfold Lib.hasPrefix magic
  rcases hs : s.data.toList with _ | ⟨a, _ | ⟨b, _ | ⟨c, _ | ⟨d, l⟩⟩⟩⟩ <;> simp [List.isPrefixOf]
  rw [Bool.eq_iff_iff]
  simp only [Bool.and_eq_true, beq_iff_eq, decide_eq_true_eq]
  constructor
  · rintro ⟨h1, h2, h3, h4⟩
    exact ⟨h1.symm, h2.symm, h3.symm, h4.symm⟩
  · rintro ⟨h1, h2, h3, h4⟩
    exact ⟨h1.symm, h2.symm, h3.symm, h4.symm⟩
theorem cut4 {s : ByteArray} (h : s.data.toList.take 4 = magic) : (⟨(Lib.trimPrefix s.data.toList (⟨#[66, 78, 83, 73]⟩ : ByteArray).data.toList).toArray⟩ : ByteArray) = s.extract 4 s.size := by
  have e : Lib.trimPrefix s.data.toList (⟨#[66, 78, 83, 73]⟩ : ByteArray).data.toList = s.data.toList.drop 4 := by
    unfold Lib.trimPrefix
    rw [pre4, if_pos (decide_eq_true h)]
    rfl
  rw [e]
  refine ext_list ?_
  show _ = (rest s 4).data.toList
  rw [rest_list]

set_option maxRecDepth 100000 in
set_option maxHeartbeats 1000000 in
theorem ver_any (s : ByteArray) (w : World) :
    Calls Try.prog 18 #[.string s] w fun e w' => e = .returned (verV s) ∧ Below w.heap.size w w' := by
  have HC := Lib.hid (Try.strings_CutPrefix s ⟨#[66, 78, 83, 73]⟩ w)
  rw [pre4] at HC
  unfold verV
  by_cases hm : s.data.toList.take 4 = magic
  · have h4 := magic_size hm
    rw [cut4 hm, decide_eq_true hm] at HC
    obtain ⟨u, hu⟩ : ∃ u, s.extract 4 s.size = u := ⟨_, rfl⟩
    have hul : u.data.toList = s.data.toList.drop 4 := by rw [← hu]; exact rest_list s 4
    have hus : u.size = s.size - 4 := by rw [← size_list, hul, List.length_drop, size_list]
    rw [hu] at HC
    by_cases h5 : s.size < 5
    · obtain ⟨e1, e2⟩ := ver_cut hm h5
      rw [e1, e2]
      obtain rfl : u = ByteArray.empty := ext_list (by rw [hul, List.drop_eq_nil_of_le (by rw [size_list]; omega)]; rfl)
      clear hm h5 e1 e2 hul hu
      go_enter Try.func18, Try.ntmps18
      go_wp2_with fail
      refine HC.out.mono ?_
      rintro e w1 ⟨rfl, rfl⟩
      go_wp2_with fail
      go_ret2
      exact ⟨rfl, Below.refl _ _⟩
    · obtain ⟨e1, e2⟩ := ver_good hm h5
      rw [e1, e2]
      have h0 : u.data.toList[0]?.getD 0 = s.data.toList[4]?.getD 0 := by rw [hul, List.getElem?_drop]
      have hne : (u.toList == []) = false := by
        rw [beq_eq_false_iff_ne]
        intro e
        rw [ByteArray.toList_eq] at e
        have := congrArg List.length e
        rw [size_list] at this
        have hz : u.size = 0 := this
        omega
      have hu0 : 0 < u.size := by omega
      rw [← h0]
      clear hm e1 e2 hul hu h0 hus
      go_enter Try.func18, Try.ntmps18
      go_wp2_with fail
      refine HC.out.mono ?_
      rintro e w1 ⟨rfl, rfl⟩
      go_wp2_with fail
      go_ret2
      exact ⟨by rw [wrap_byte, byte_at]; rfl, Below.refl _ _⟩
  · obtain ⟨e1, e2⟩ := ver_short hm
    rw [e1, e2]
    rw [decide_eq_false hm] at HC
    clear hm e1 e2
    go_enter Try.func18, Try.ntmps18
    go_wp2_with fail
    refine HC.out.mono ?_
    rintro e w1 ⟨rfl, rfl⟩
    go_wp2_with fail
    go_ret2
    exact ⟨rfl, Below.refl _ _⟩

end Ck
end Go.Proofs.Ytpccenaieeggmaa
