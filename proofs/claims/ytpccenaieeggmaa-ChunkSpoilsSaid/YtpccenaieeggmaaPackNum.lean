/-
  WALKS: a Reader's methods: Num, Int, Take, Left, Err, Done: by what is left, and the error. Conditions: the reader is one, or nil.
-/
import Derived.Test.YtpccenaieeggmaaPackReader
import Derived.Lib.Strings
namespace Go.Proofs.Ytpccenaieeggmaa
open Go.RowKit
namespace Pk
open Mem

/-! ### what is read, by what is left and the error -/
def numE (s : ByteArray) (e : Int) : Int := if e = 0 then (numR s.data.toList).1 else e
def numN (s : ByteArray) (e : Int) : Nat := if e = 0 then (numR s.data.toList).2.1 else 0
def numK (s : ByteArray) (e : Int) : Nat := if e = 0 then (numR s.data.toList).2.2 else 0
def takeK (s : ByteArray) (e n : Int) : Nat := if e = 0 ∧ 0 ≤ n ∧ n ≤ s.size then n.toNat else 0
def takeE (s : ByteArray) (e n : Int) : Int := if e = 0 then (if 0 ≤ n ∧ n ≤ s.size then 0 else 2) else e
def takeS (s : ByteArray) (e n : Int) : ByteArray := s.extract 0 (takeK s e n)

theorem ext_list {s t : ByteArray} (h : s.data.toList = t.data.toList) : s = t := by rw [← str_of s, h, str_of]
theorem rest_list (s : ByteArray) (k : Nat) : (rest s k).data.toList = s.data.toList.drop k := by
  unfold rest
  rw [Lib.extract_data, List.take_of_length_le (by simp)]
theorem rest_zero (s : ByteArray) : rest s 0 = s := ext_list (by rw [rest_list]; rfl)
theorem rest_size (s : ByteArray) (k : Nat) : (rest s k).size = s.size - k := by rw [← size_list, rest_list, List.length_drop, size_list]
theorem rest_rest (s : ByteArray) (j k : Nat) : rest (rest s j) k = rest s (j + k) := ext_list (by rw [rest_list, rest_list, rest_list, List.drop_drop])
theorem head_list (s : ByteArray) (k : Nat) : (s.extract 0 k).data.toList = s.data.toList.take k := by rw [Lib.extract_data]; simp

theorem numGo_bad (l : List UInt8) : ∀ i acc, (numGo i acc l).1 ≠ 0 → (numGo i acc l).2 = (0, 0) := by
  induction l with
  | nil => intro i acc _; rfl
  | cons b t ih =>
    intro i acc h
    rw [numGo] at h ⊢
    split at h
    · rename_i hc; rw [if_pos hc]
    · rename_i hc
      rw [if_neg hc]
      split at h
      · exact absurd rfl h
      · rename_i hd; rw [if_neg hd]; exact ih _ _ h
theorem numGo_codes (l : List UInt8) : ∀ i acc, (numGo i acc l).1 = 0 ∨ (numGo i acc l).1 = 2 ∨ (numGo i acc l).1 = 3 := by
  induction l with
  | nil => intro i acc; exact .inr (.inl rfl)
  | cons b t ih =>
    intro i acc
    rw [numGo]
    split
    · exact .inr (.inr rfl)
    · split
      · exact .inl rfl
      · exact ih _ _
theorem numR_bad {l : List UInt8} (h : (numR l).1 ≠ 0) : (numR l).2.1 = 0 ∧ (numR l).2.2 = 0 := by
  have := numGo_bad l 0 0 h
  unfold numR
  rw [this]
  exact ⟨rfl, rfl⟩
theorem num_ok {s : ByteArray} (h : (numR s.data.toList).1 = 0) : numE s 0 = 0 ∧ numN s 0 = (numR s.data.toList).2.1 ∧ numK s 0 = (numR s.data.toList).2.2 := ⟨h, rfl, rfl⟩
theorem num_bad {s : ByteArray} (h : (numR s.data.toList).1 ≠ 0) : numE s 0 = (numR s.data.toList).1 ∧ numN s 0 = 0 ∧ numK s 0 = 0 := ⟨rfl, (numR_bad h).1, (numR_bad h).2⟩
theorem num_err {s : ByteArray} {e : Int} (h : e ≠ 0) : numE s e = e ∧ numN s e = 0 ∧ numK s e = 0 := by
  unfold numE numN numK
  rw [if_neg h, if_neg h, if_neg h]
  exact ⟨rfl, rfl, rfl⟩

/-! ### nothing is read behind an error, or of no reader -/
set_option maxRecDepth 100000 in
set_option maxHeartbeats 1000000 in
theorem read_skip (g : Value) (b : Nat) (s : ByteArray) (e : Int) (w : World) (hb : w.heap[b]? = some (rd s e)) (he : e ≠ 0) :
    Calls Try.prog 47 #[.pointer (some ⟨b, 0, none⟩), g] w fun e' w' => e' = .returned (.tuple #[]) ∧ Below w.heap.size w w' := by
  have h1 := rd_err (alloc_at (.cells #[.pointer (some ⟨b, 0, none⟩)] 71) hb)
  have hne : (e != 0) = true := by rw [bne_iff_ne]; exact he
  clear he
  go_enter_defers Try.func47, Try.ntmps47
  go_wp2_with fail
  exact ⟨_, results_none rfl _ _ _, rfl, (Below.refl _ _).alloc (Nat.le_refl _) _⟩
set_option maxRecDepth 100000 in
set_option maxHeartbeats 1000000 in
theorem read_nil (g : Value) (w : World) :
    Calls Try.prog 47 #[.pointer none, g] w fun e' w' => e' = .returned (.tuple #[]) ∧ Below w.heap.size w w' := by
  go_enter_defers Try.func47, Try.ntmps47
  go_wp2_with fail
  exact ⟨_, results_none rfl _ _ _, rfl, (Below.refl _ _).alloc (Nat.le_refl _) _⟩

/-! ### Num -/
theorem enterNum (args : Array Value) (w : World) : (callFunc 50 args).run Try.prog w = .ok (.enter 50 args) w := by simp [go_sem]

set_option maxRecDepth 100000 in
set_option maxHeartbeats 1000000 in
theorem num_any (b : Nat) (s : ByteArray) (e : Int) (w : World) (hb : w.heap[b]? = some (rd s e)) (hs : s.size ≤ 9223372036854775807) :
    Calls Try.prog 40 #[.pointer (some ⟨b, 0, none⟩)] w fun e' w' => e' = .returned (.int .u64 (numN s e : Nat)) ∧ w'.heap[b]? = some (rd (rest s (numK s e)) (numE s e)) ∧ Kept (· = b) w w' := by
  have hmf : ∀ (fn : Fn) (first cap : Array Value) (w : World), (Instr.makeFunc fn first cap).run Try.prog w = .ok (.func fn first cap) w := fun _ _ _ _ => rfl
  have hlt := lt_of_block hb
  have hb1 := alloc_at (.cells #[.int .u64 0] 56) hb
  by_cases he : e = 0
  · subst he
    by_cases hr : (numR s.data.toList).1 = 0
    · obtain ⟨e1, e2, e3⟩ := num_ok hr
      rw [e1, e2, e3]
      have HR := Lib.hid hr
      clear e1 e2 e3 hr
      go_enter Try.func40, Try.ntmps40
      go_wp2_with fail
      refine (read_ok 50 #[.pointer (some ⟨w.heap.size, 0, none⟩)] b s (rest s (numR s.data.toList).2.2) _ (fun w2 => w2.heap[b]? = some (rd s 0) ∧ w2.heap[w.heap.size]? = some (.cells #[.int .u64 (numR s.data.toList).2.1] 56 (0, 0)) ∧ Kept (· = b) w w2) hb1 (fun _ => enterNum _ _) ?_).mono ?_
      · intro w1 hbel
        have hq1 := below_at hbel (alloc_new w (.cells #[.int .u64 0] 56)) (by simp)
        refine (num1_any s w.heap.size 0 w1 hq1 hs).mono ?_
        rintro e' w' (⟨_, rfl, rfl⟩ | ⟨h, _, _⟩)
        · have hbb := below_at hbel hb1 (by simp; omega)
          have hb2 := set_other (p := ⟨w.heap.size, 0, none⟩) hbb (Nat.ne_of_lt hlt) (.int .u64 (numR s.data.toList).2.1)
          refine ⟨rfl, hb2, ?_, hb2, one_setCell hq1, (((Kept.refl (· = b) w).alloc _).below hbel).setCell (fun h => absurd h (Nat.lt_irrefl _)) _⟩
          rw [World.cell?_setCell_other]
          intro h
          simp at h
        · exact absurd HR.out h
      · rintro e' w' ⟨rfl, w2, ⟨k1, k2, k3⟩, rfl⟩
        have hc := cell_of_one (set_other (p := ⟨b, 0, none⟩) k2 (Nat.ne_of_gt hlt) (.string (rest s (numR s.data.toList).2.2)))
        have hfin := rd_set0 k1 (rest s (numR s.data.toList).2.2)
        have hK := k3.setCell (p := ⟨b, 0, none⟩) (fun _ => rfl) (.string (rest s (numR s.data.toList).2.2))
        generalize w2.setCell ⟨b, 0, none⟩ (.string (rest s (numR s.data.toList).2.2)) = w3 at *
        replace hfin := Lib.hid hfin
        go_wp2_with fail
        go_ret
        exact ⟨rfl, hfin, hK⟩
    · obtain ⟨e1, e2, e3⟩ := num_bad hr
      rw [e1, e2, e3, rest_zero]
      have HR := Lib.hid hr
      clear e1 e2 e3 hr
      go_enter Try.func40, Try.ntmps40
      go_wp2_with fail
      refine (read_bad 50 #[.pointer (some ⟨w.heap.size, 0, none⟩)] b s (numR s.data.toList).1 _ (fun w2 => w2.heap[b]? = some (rd s 0) ∧ w2.heap[w.heap.size]? = some (.cells #[.int .u64 0] 56 (0, 0)) ∧ Kept (· = b) w w2) hb1 (fun _ => enterNum _ _) ?_).mono ?_
      · intro w1 hbel
        have hq1 := below_at hbel (alloc_new w (.cells #[.int .u64 0] 56)) (by simp)
        refine (num1_any s w.heap.size 0 w1 hq1 hs).mono ?_
        rintro e' w' (⟨h, _, _⟩ | ⟨_, rfl, rfl⟩)
        · exact absurd h HR.out
        · have hbb := below_at hbel hb1 (by simp; omega)
          exact ⟨rfl, hbb, rfl, hbb, hq1, ((Kept.refl (· = b) w).alloc _).below hbel⟩
      · rintro e' w' ⟨rfl, w2, ⟨k1, k2, k3⟩, _, rfl⟩
        have hc : ((w2.setCell ⟨b, 1, none⟩ (.int .i64 (numR s.data.toList).1)).drew).cell? ⟨w.heap.size, 0, none⟩ = some (.int .u64 0) := cell_of_one (set_other (p := ⟨b, 1, none⟩) k2 (Nat.ne_of_gt hlt) (.int .i64 (numR s.data.toList).1))
        have hfin : ((w2.setCell ⟨b, 1, none⟩ (.int .i64 (numR s.data.toList).1)).drew).heap[b]? = _ := rd_set1 k1 (numR s.data.toList).1
        have hK := (k3.setCell (p := ⟨b, 1, none⟩) (fun _ => rfl) (.int .i64 (numR s.data.toList).1)).drew
        generalize (w2.setCell ⟨b, 1, none⟩ (.int .i64 (numR s.data.toList).1)).drew = w3 at *
        replace hfin := Lib.hid hfin
        go_wp2_with fail
        go_ret
        exact ⟨rfl, hfin, hK⟩
  · obtain ⟨e1, e2, e3⟩ := num_err (s := s) he
    rw [e1, e2, e3, rest_zero]
    have HE := Lib.hid he
    clear e1 e2 e3 he
    go_enter Try.func40, Try.ntmps40
    go_wp2_with fail
    refine (read_skip _ b s e _ hb1 HE.out).mono ?_
    rintro e' w' ⟨rfl, hbel⟩
    have hc := cell_of_one (below_at hbel (alloc_new w (.cells #[.int .u64 0] 56)) (by simp))
    have hfin := Lib.hid (below_at hbel hb1 (by simp; omega))
    have hK := ((Kept.refl (· = b) w).alloc (.cells #[.int .u64 0] 56)).below hbel
    go_wp2_with fail
    go_ret
    exact ⟨rfl, hfin, hK⟩

set_option maxRecDepth 100000 in
set_option maxHeartbeats 1000000 in
theorem num_nil (w : World) :
    Calls Try.prog 40 #[.pointer none] w fun e' w' => e' = .returned (.int .u64 0) ∧ Below w.heap.size w w' := by
  have hmf : ∀ (fn : Fn) (first cap : Array Value) (w : World), (Instr.makeFunc fn first cap).run Try.prog w = .ok (.func fn first cap) w := fun _ _ _ _ => rfl
  go_enter Try.func40, Try.ntmps40
  go_wp2_with fail
  refine (read_nil _ _).mono ?_
  rintro e' w' ⟨rfl, hbel⟩
  have hc := cell_of_one (below_at hbel (alloc_new w (.cells #[.int .u64 0] 56)) (by simp))
  have hB := ((Below.refl w.heap.size w).alloc (Nat.le_refl _) (.cells #[.int .u64 0] 56)).trans (hbel.mono (by simp))
  go_wp2_with fail
  go_ret
  exact ⟨rfl, hB⟩

/-! ### Take -/
theorem enterTake (args : Array Value) (w : World) : (callFunc 48 args).run Try.prog w = .ok (.enter 48 args) w := by simp [go_sem]

set_option maxRecDepth 100000 in
set_option maxHeartbeats 1000000 in
theorem take1_ok (s : ByteArray) (p q n : Nat) (x : ByteArray) (w : World) (hp : w.heap[p]? = some (.cells #[.int .i64 (n : Int)] 3 (0, 0))) (hq : w.heap[q]? = some (.cells #[.string x] 9 (0, 0))) (hpq : p ≠ q) (hn : n ≤ s.size) :
    Calls Try.prog 48 #[.string s, .pointer (some ⟨p, 0, none⟩), .pointer (some ⟨q, 0, none⟩)] w fun e w' => e = .returned (.string (rest s n)) ∧ w' = w.setCell ⟨q, 0, none⟩ (.string (s.extract 0 n)) := by
  have h1 := cell_of_one hp
  have h2 := cell_of_one hq
  have h3 := free_of_one hq
  have h4 := cell_of_one (set_other (p := ⟨q, 0, none⟩) hp hpq (.string (s.extract 0 n)))
  go_enter Try.func48, Try.ntmps48
  go_wp2_with fail
  refine (must_yes _ _).mono ?_
  rintro e w' ⟨rfl, rfl⟩
  go_wp2_with fail
  go_ret
  exact ⟨rfl, rfl⟩
set_option maxRecDepth 100000 in
set_option maxHeartbeats 1000000 in
theorem take1_bad (s : ByteArray) (p q : Nat) (n : Int) (w : World) (hp : w.heap[p]? = some (.cells #[.int .i64 n] 3 (0, 0))) (hn : ¬ (0 ≤ n ∧ n ≤ s.size)) :
    Calls Try.prog 48 #[.string s, .pointer (some ⟨p, 0, none⟩), .pointer (some ⟨q, 0, none⟩)] w fun e w' => e = .panicked (wrong 2) ∧ w' = w := by
  have h1 := cell_of_one hp
  by_cases h0 : 0 ≤ n
  · have h2 : decide (n ≤ (s.size : Int)) = false := by rw [decide_eq_false_iff_not]; omega
    clear hn
    go_enter Try.func48, Try.ntmps48
    go_wp2_with fail
    refine (must_no _ _).mono ?_
    rintro e w' ⟨rfl, rfl⟩
    go_wp2_with fail
    exact ⟨rfl, rfl, rfl⟩
  · have h2 : decide (0 ≤ n) = false := by rw [decide_eq_false_iff_not]; exact h0
    clear hn h0
    go_enter Try.func48, Try.ntmps48
    go_wp2_with fail
    refine (must_no _ _).mono ?_
    rintro e w' ⟨rfl, rfl⟩
    go_wp2_with fail
    exact ⟨rfl, rfl, rfl⟩

theorem take_ok {s : ByteArray} {n : Int} (h : 0 ≤ n ∧ n ≤ s.size) : takeE s 0 n = 0 ∧ takeK s 0 n = n.toNat := by
  unfold takeE takeK
  rw [if_pos rfl, if_pos h, if_pos ⟨rfl, h⟩]
  exact ⟨rfl, rfl⟩
theorem take_bad {s : ByteArray} {n : Int} (h : ¬ (0 ≤ n ∧ n ≤ s.size)) : takeE s 0 n = 2 ∧ takeK s 0 n = 0 := by
  unfold takeE takeK
  rw [if_pos rfl, if_neg h, if_neg (fun h' => h h'.2)]
  exact ⟨rfl, rfl⟩
theorem take_err {s : ByteArray} {e n : Int} (h : e ≠ 0) : takeE s e n = e ∧ takeK s e n = 0 := by
  unfold takeE takeK
  rw [if_neg h, if_neg (fun h' => h h'.1)]
  exact ⟨rfl, rfl⟩
theorem head_zero (s : ByteArray) : s.extract 0 0 = ByteArray.empty := ext_list (by rw [head_list]; rfl)

/-- the blocks that Take lays: the number, and what is to be handed back. -/
theorem laid2 (w : World) (n : Int) : (((w.alloc (.cells #[.int .i64 n] 3)).alloc (.cells #[.string ByteArray.empty] 9))).heap[w.heap.size]? = some (.cells #[.int .i64 n] 3 (0, 0)) ∧ (((w.alloc (.cells #[.int .i64 n] 3)).alloc (.cells #[.string ByteArray.empty] 9))).heap[w.heap.size + 1]? = some (.cells #[.string ByteArray.empty] 9 (0, 0)) := by
  constructor
  · exact alloc_at _ (alloc_new w _)
  · have := alloc_new (w.alloc (.cells #[.int .i64 n] 3)) (.cells #[.string ByteArray.empty] 9)
    simpa using this

set_option maxRecDepth 100000 in
set_option maxHeartbeats 1000000 in
theorem take_any (b : Nat) (s : ByteArray) (e n : Int) (w : World) (hb : w.heap[b]? = some (rd s e)) :
    Calls Try.prog 39 #[.pointer (some ⟨b, 0, none⟩), .int .i64 n] w fun e' w' => e' = .returned (.string (takeS s e n)) ∧ w'.heap[b]? = some (rd (rest s (takeK s e n)) (takeE s e n)) ∧ Kept (· = b) w w' := by
  have hmf : ∀ (fn : Fn) (first cap : Array Value) (w : World), (Instr.makeFunc fn first cap).run Try.prog w = .ok (.func fn first cap) w := fun _ _ _ _ => rfl
  have hlt := lt_of_block hb
  have hb1 := alloc_at (.cells #[.string ByteArray.empty] 9) (alloc_at (.cells #[.int .i64 n] 3) hb)
  obtain ⟨l1, l2⟩ := laid2 w n
  have hK0 := ((Kept.refl (· = b) w).alloc (.cells #[.int .i64 n] 3)).alloc (.cells #[.string ByteArray.empty] 9)
  have hz : (((w.alloc (.cells #[.int .i64 n] 3)).alloc (.cells #[.string ByteArray.empty] 9))).heap.size = w.heap.size + 2 := by simp
  unfold takeS
  by_cases he : e = 0
  · subst he
    by_cases hr : 0 ≤ n ∧ n ≤ s.size
    · obtain ⟨e1, e2⟩ := take_ok hr
      obtain ⟨h0, h1⟩ := hr
      rw [e1, e2]
      obtain ⟨m, rfl⟩ := Int.eq_ofNat_of_zero_le h0
      have hm : m ≤ s.size := by omega
      rw [Int.toNat_natCast]
      have L1 := Lib.hid l1
      have L2 := Lib.hid l2
      have HZ := Lib.hid hz
      clear e1 e2 l1 l2 h0 h1 hz
      go_enter Try.func39, Try.ntmps39
      go_wp2_with fail
      refine (read_ok 48 #[.pointer (some ⟨w.heap.size, 0, none⟩), .pointer (some ⟨w.heap.size + 1, 0, none⟩)] b s (rest s m) _ (fun w2 => w2.heap[b]? = some (rd s 0) ∧ w2.heap[w.heap.size + 1]? = some (.cells #[.string (s.extract 0 m)] 9 (0, 0)) ∧ Kept (· = b) w w2) hb1 (fun _ => enterTake _ _) ?_).mono ?_
      · intro w1 hbel
        have hq0 := below_at hbel L1.out (by rw [HZ.out]; omega)
        have hq1 := below_at hbel L2.out (by rw [HZ.out]; omega)
        refine (take1_ok s w.heap.size (w.heap.size + 1) m _ w1 hq0 hq1 (by omega) hm).mono ?_
        rintro e' w' ⟨rfl, rfl⟩
        have hbb := below_at hbel hb1 (by rw [HZ.out]; omega)
        have hb2 := set_other (p := ⟨w.heap.size + 1, 0, none⟩) hbb (show b ≠ w.heap.size + 1 by omega) (.string (s.extract 0 m))
        refine ⟨rfl, hb2, ?_, hb2, one_setCell hq1, (hK0.below hbel).setCell (fun h => absurd h (show ¬ w.heap.size + 1 < w.heap.size by omega)) _⟩
        rw [World.cell?_setCell_other]
        intro h
        simp at h
      · rintro e' w' ⟨rfl, w2, ⟨k1, k2, k3⟩, rfl⟩
        have hc := cell_of_one (set_other (p := ⟨b, 0, none⟩) k2 (show w.heap.size + 1 ≠ b by omega) (.string (rest s m)))
        have hfin := rd_set0 k1 (rest s m)
        have hK := k3.setCell (p := ⟨b, 0, none⟩) (fun _ => rfl) (.string (rest s m))
        generalize w2.setCell ⟨b, 0, none⟩ (.string (rest s m)) = w3 at *
        replace hfin := Lib.hid hfin
        go_wp2_with fail
        go_ret
        exact ⟨rfl, hfin, hK⟩
    · obtain ⟨e1, e2⟩ := take_bad hr
      rw [e1, e2, rest_zero, head_zero]
      have HR := Lib.hid hr
      have L1 := Lib.hid l1
      have L2 := Lib.hid l2
      have HZ := Lib.hid hz
      clear e1 e2 hr l1 l2 hz
      go_enter Try.func39, Try.ntmps39
      go_wp2_with fail
      refine (read_bad 48 #[.pointer (some ⟨w.heap.size, 0, none⟩), .pointer (some ⟨w.heap.size + 1, 0, none⟩)] b s 2 _ (fun w2 => w2.heap[b]? = some (rd s 0) ∧ w2.heap[w.heap.size + 1]? = some (.cells #[.string ByteArray.empty] 9 (0, 0)) ∧ Kept (· = b) w w2) hb1 (fun _ => enterTake _ _) ?_).mono ?_
      · intro w1 hbel
        have hq0 := below_at hbel L1.out (by rw [HZ.out]; omega)
        have hq1 := below_at hbel L2.out (by rw [HZ.out]; omega)
        have hbb := below_at hbel hb1 (by rw [HZ.out]; omega)
        refine (take1_bad s w.heap.size (w.heap.size + 1) n w1 hq0 HR.out).mono ?_
        rintro e' w' ⟨rfl, rfl⟩
        exact ⟨rfl, hbb, rfl, hbb, hq1, hK0.below hbel⟩
      · rintro e' w' ⟨rfl, w2, ⟨k1, k2, k3⟩, _, rfl⟩
        have hc : ((w2.setCell ⟨b, 1, none⟩ (.int .i64 2)).drew).cell? ⟨w.heap.size + 1, 0, none⟩ = some (.string ByteArray.empty) := cell_of_one (set_other (p := ⟨b, 1, none⟩) k2 (show w.heap.size + 1 ≠ b by omega) (.int .i64 2))
        have hfin : ((w2.setCell ⟨b, 1, none⟩ (.int .i64 2)).drew).heap[b]? = _ := rd_set1 k1 2
        have hK := (k3.setCell (p := ⟨b, 1, none⟩) (fun _ => rfl) (.int .i64 2)).drew
        generalize (w2.setCell ⟨b, 1, none⟩ (.int .i64 2)).drew = w3 at *
        replace hfin := Lib.hid hfin
        go_wp2_with fail
        go_ret
        exact ⟨rfl, hfin, hK⟩
  · obtain ⟨e1, e2⟩ := take_err (s := s) (n := n) he
    rw [e1, e2, rest_zero, head_zero]
    have HE := Lib.hid he
    have L1 := Lib.hid l1
    have L2 := Lib.hid l2
    have HZ := Lib.hid hz
    clear e1 e2 he l1 l2 hz
    go_enter Try.func39, Try.ntmps39
    go_wp2_with fail
    refine (read_skip _ b s e _ hb1 HE.out).mono ?_
    rintro e' w' ⟨rfl, hbel⟩
    have hc := cell_of_one (below_at hbel L2.out (by rw [HZ.out]; omega))
    have hfin := Lib.hid (below_at hbel hb1 (by rw [HZ.out]; omega))
    have hK := hK0.below hbel
    go_wp2_with fail
    go_ret
    exact ⟨rfl, hfin, hK⟩

set_option maxRecDepth 100000 in
set_option maxHeartbeats 1000000 in
theorem take_nil (n : Int) (w : World) :
    Calls Try.prog 39 #[.pointer none, .int .i64 n] w fun e' w' => e' = .returned (.string ByteArray.empty) ∧ Below w.heap.size w w' := by
  have hmf : ∀ (fn : Fn) (first cap : Array Value) (w : World), (Instr.makeFunc fn first cap).run Try.prog w = .ok (.func fn first cap) w := fun _ _ _ _ => rfl
  have L2 := Lib.hid (laid2 w n).2
  go_enter Try.func39, Try.ntmps39
  go_wp2_with fail
  refine (read_nil _ _).mono ?_
  rintro e' w' ⟨rfl, hbel⟩
  have hc := cell_of_one (below_at hbel L2.out (by simp))
  have hB := (((Below.refl w.heap.size w).alloc (Nat.le_refl _) (.cells #[.int .i64 n] 3)).alloc (by simp) (.cells #[.string ByteArray.empty] 9)).trans (hbel.mono (by simp; omega))
  go_wp2_with fail
  go_ret
  exact ⟨rfl, hB⟩

/-! ### Left, Err, Done, Int, New -/
set_option maxRecDepth 100000 in
theorem left_any (b : Nat) (s : ByteArray) (e : Int) (w : World) (hb : w.heap[b]? = some (rd s e)) :
    Calls Try.prog 42 #[.pointer (some ⟨b, 0, none⟩)] w fun e' w' => e' = .returned (.int .i64 s.size) ∧ w = w' := by
  have h1 := rd_str hb
  go_enter Try.func42, Try.ntmps42
  go_wp2_with fail
  go_ret
  exact ⟨rfl, rfl⟩
set_option maxRecDepth 100000 in
theorem left_nil (w : World) :
    Calls Try.prog 42 #[.pointer none] w fun e' w' => e' = .returned (.int .i64 0) ∧ w = w' := by
  go_enter Try.func42, Try.ntmps42
  go_wp2_with fail
  go_ret
  exact ⟨rfl, rfl⟩
set_option maxRecDepth 100000 in
theorem err_any (b : Nat) (s : ByteArray) (e : Int) (w : World) (hb : w.heap[b]? = some (rd s e)) :
    Calls Try.prog 41 #[.pointer (some ⟨b, 0, none⟩)] w fun e' w' => e' = .returned (.int .i64 e) ∧ w = w' := by
  have h1 := rd_err hb
  go_enter Try.func41, Try.ntmps41
  go_wp2_with fail
  go_ret
  exact ⟨rfl, rfl⟩
set_option maxRecDepth 100000 in
theorem err_nil (w : World) :
    Calls Try.prog 41 #[.pointer none] w fun e' w' => e' = .returned (.int .i64 2) ∧ w = w' := by
  go_enter Try.func41, Try.ntmps41
  go_wp2_with fail
  go_ret
  exact ⟨rfl, rfl⟩

/-- what Done answers. -/
def doneE (s : ByteArray) (e : Int) : Int := if e = 0 ∧ s.size ≠ 0 then 5 else e

theorem numGo_lt (l : List UInt8) : ∀ i acc, i ≤ 9 → acc < 2 ^ (7 * i) → (numGo i acc l).2.1 < W64 := by
  induction l with
  | nil => intro i acc _ _; exact (by decide : (0 : Nat) < W64)
  | cons b t ih =>
    intro i acc hi ha
    rw [numGo]
    split
    · exact (by decide : (0 : Nat) < W64)
    · rename_i hb
      have h128 : (2 : Nat) ^ (7 * (i + 1)) = 128 * 2 ^ (7 * i) := by rw [Nat.mul_add, Nat.pow_add]; omega
      split
      · rename_i hl
        show acc + b.toNat * 2 ^ (7 * i) < W64
        rw [W64_pow]
        rcases (show i = 9 ∨ i < 9 by omega) with h9 | h9
        · have := top_shift (x := b.toNat) h9 ha (by omega)
          rw [Nat.mod_eq_of_lt hl] at this
          exact this
        · have := (small_shift (x := b.toNat) h9 ha).2
          rw [Nat.mod_eq_of_lt hl] at this
          exact this
      · rename_i hl
        rcases (show i = 9 ∨ i < 9 by omega) with h9 | h9
        · omega
        · exact ih _ _ (by omega) (small_shift (x := b.toNat) h9 ha).1
theorem numN_lt (s : ByteArray) (e : Int) : numN s e < W64 := by
  unfold numN
  split
  · exact numGo_lt _ 0 0 (by decide) (by decide)
  · decide

set_option maxRecDepth 100000 in
theorem new_any (s : ByteArray) (w : World) :
    Calls Try.prog 38 #[.string s] w fun e' w' => e' = .returned (.pointer (some ⟨w.heap.size, 0, none⟩)) ∧ w' = w.alloc (rd s 0) := by
  go_enter Try.func38, Try.ntmps38
  go_wp2_with fail
  go_ret
  exact ⟨rfl, rfl⟩

end Pk
end Go.Proofs.Ytpccenaieeggmaa
