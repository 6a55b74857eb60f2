/-
  WALKS: the document's Sums; whether two lists are the same; whether a list rises. Conditions: lists of at most 1000 numbers.
-/
import Derived.Test.YtlpleikcgikpoaaDeltaSums
namespace Go.Proofs.Ytlpleikcgikpoaa
open Go.RowKit
namespace Dl
open Mem Pk

/-- does each stand above the one ahead? -/
def rise : List Int → Bool
  | [] => true
  | a :: l => (match l with | [] => true | b :: _ => decide (a < b)) && rise l
theorem rise_short {l : List Int} (h : l.length ≤ 1) : rise l = true := by
  match l, h with
  | [], _ => rfl
  | [a], _ => rfl
theorem rise_step {l : List Int} {k : Nat} (h : k + 1 < l.length) : rise (l.drop k) = (decide (l[k]?.getD 0 < l[k + 1]?.getD 0) && rise (l.drop (k + 1))) := by
  rw [drop_here l k (by omega), drop_here l (k + 1) h]
  rfl
theorem same_upto {a b : List Int} {k : Nat} (hl : a.length = b.length) (h : a.take k = b.take k) (hk : k < a.length) (he : a[k]?.getD 0 = b[k]?.getD 0) : a.take (k + 1) = b.take (k + 1) := by
  have hb : k < b.length := by omega
  rw [List.getElem?_eq_getElem hk, List.getElem?_eq_getElem hb] at he
  rw [List.take_succ_eq_append_getElem hk, List.take_succ_eq_append_getElem hb, h]
  have he' : a[k] = b[k] := he
  rw [he']
theorem row_cell {k : IntKind} {w w' : World} {v : Value} {l : List Int} (h : Opened.Ints k w v l) (hb : Below w.heap.size w w') : ∃ (a : Option Addr) (cap : Nat), v = .slice a l.length cap ∧ (0 < l.length → ∃ b off, a = some ⟨b, off, none⟩ ∧ b < w.heap.size ∧ ∀ j, j < l.length → w'.cell? ⟨b, off + j, none⟩ = some (.int k (l[j]?.getD 0))) := by
  obtain ⟨⟨a, cap, e, hc⟩, _⟩ := h
  refine ⟨a, cap, e, fun h0 => ?_⟩
  obtain ⟨b, off, e1, e2, e3⟩ := hc h0
  exact ⟨b, off, e1, e2, fun j hj => (hb.cell (p := ⟨b, off + j, none⟩) e2).trans (e3 j hj)⟩

set_option maxRecDepth 100000 in
set_option maxHeartbeats 2000000 in
theorem same_any (va vb : Value) (a b : List Int) (w : World) (ha : Opened.Ints .i64 w va a) (hb : Opened.Ints .i64 w vb b) (hl : a.length ≤ 100000) :
    Calls Try.prog 9 #[va, vb] w fun e w' => e = .returned (.bool (decide (a = b))) ∧ Below w.heap.size w w' := by
  obtain ⟨⟨pa, ca, rfl, hca⟩, -⟩ := ha
  obtain ⟨⟨pb, cb, rfl, hcb⟩, -⟩ := hb
  have HA := Lib.hid hca
  have HB := Lib.hid hcb
  clear hca hcb
  by_cases hn : a.length = b.length
  · have HN := Lib.hid hn
    rw [← hn]
    clear hn
    go_enter Try.func9, Try.ntmps9
    go_wp2_with fail
    go_loopw [5] (fun i wr => ∃ k : Nat, i = .int .i64 k ∧ k ≤ a.length ∧ Hid (a.take k = b.take k) ∧ Below w.heap.size w wr) (fun i _ => a.length - (intOf i).toNat)
    case atStart => exact ⟨0, rfl, by omega, Lib.hid rfl, Below.refl _ _⟩
    case round =>
      obtain ⟨k, rfl, hk, hT, hb⟩ := hrel
      by_cases hlt : k < a.length
      · obtain ⟨ba, oa, rfl, hba, hcella⟩ := HA.out (by omega)
        obtain ⟨bb, ob, rfl, hbb, hcellb⟩ := HB.out (by have := HN.out; omega)
        have hc1 : wr.cell? ⟨ba, oa + k, none⟩ = some (.int .i64 (a[k]?.getD 0)) := (hb.cell (p := ⟨ba, oa + k, none⟩) hba).trans (hcella k hlt)
        have hc2 : wr.cell? ⟨bb, ob + k, none⟩ = some (.int .i64 (b[k]?.getD 0)) := (hb.cell (p := ⟨bb, ob + k, none⟩) hbb).trans (hcellb k (by have := HN.out; omega))
        have hlt' : (k : Int) < a.length := by omega
        have HT := Lib.hid (same_upto HN.out hT.out hlt)
        have HF : Hid (a = b → a[k]?.getD 0 = b[k]?.getD 0) := Lib.hid (fun h => by rw [h])
        clear hcella hcellb hlt hT
        generalize a[k]?.getD 0 = x at *
        generalize b[k]?.getD 0 = y at *
        by_cases he : x = y
        · subst he
          have HT2 := Lib.hid (HT.out rfl)
          clear HT HF
          have hne : (x != x) = false := by simp
          go_wp2_with fail
          go_region
          go_wp2_with fail
          go_roundw
          case rel => exact ⟨k + 1, by go_num, by omega, HT2, hb.drew⟩
          case measure => simp [intOf]; omega
        · have hd : decide (a = b) = false := decide_eq_false (fun h => he (HF.out h))
          have hne : (x != y) = true := by rw [bne_iff_ne]; exact he
          replace hd := Lib.hid hd
          clear HF HT he
          go_wp2_with fail
          go_region
          go_wp2_with fail
          go_ret
          exact ⟨by rw [hd.out]; rfl, hb.drew⟩
      · obtain rfl : k = a.length := by omega
        have hge : decide (a.length < a.length) = false := decide_eq_false hlt
        have hd : decide (a = b) = true := decide_eq_true (by
          have h1 := hT.out
          have h2 := HN.out
          rw [List.take_of_length_le (Nat.le_refl _), h2, List.take_of_length_le (Nat.le_refl _)] at h1
          exact h1)
        replace hd := Lib.hid hd
        clear hlt hT HA HB
        go_wp2_with fail
        go_ret
        exact ⟨by rw [hd.out]; rfl, hb⟩
  · have hd : decide (a = b) = false := decide_eq_false (fun h => hn (by rw [h]))
    have hne : ((a.length : Int) != (b.length : Int)) = true := by rw [bne_iff_ne]; omega
    rw [hd]
    clear hd hn
    go_enter Try.func9, Try.ntmps9
    go_wp2_with fail
    go_ret
    exact ⟨rfl, Below.refl _ _⟩

set_option maxRecDepth 100000 in
set_option maxHeartbeats 2000000 in
theorem rising_any (v : Value) (a : List Int) (w : World) (ha : Opened.Ints .i64 w v a) (hl : a.length ≤ 1000) :
    Calls Try.prog 16 #[v] w fun e w' => e = .returned (.bool (rise a)) ∧ Below w.heap.size w w' := by
  obtain ⟨⟨pa, ca, rfl, hca⟩, -⟩ := ha
  have HA := Lib.hid hca
  clear hca
  go_enter Try.func16, Try.ntmps16
  go_wp2_with fail
  go_loopw [3] (fun i wr => ∃ k : Nat, i = .int .i64 ((k + 1 : Nat) : Int) ∧ k ≤ a.length ∧ Hid (rise a = rise (a.drop k)) ∧ Below w.heap.size w wr) (fun i _ => a.length + 1 - (intOf i).toNat)
  case atStart => exact ⟨0, rfl, by omega, Lib.hid rfl, Below.refl _ _⟩
  case round =>
    obtain ⟨k, rfl, hk, hT, hb⟩ := hrel
    by_cases hlt : k + 1 < a.length
    · obtain ⟨ba, oa, rfl, hba, hcella⟩ := HA.out (by omega)
      have hc1 : wr.cell? ⟨ba, oa + k, none⟩ = some (.int .i64 (a[k]?.getD 0)) := (hb.cell (p := ⟨ba, oa + k, none⟩) hba).trans (hcella k (by omega))
      have hc2 : wr.cell? ⟨ba, oa + (k + 1), none⟩ = some (.int .i64 (a[k + 1]?.getD 0)) := (hb.cell (p := ⟨ba, oa + (k + 1), none⟩) hba).trans (hcella (k + 1) hlt)
      have hlt' : ((k + 1 : Nat) : Int) < a.length := by omega
      have hlt2 : (k : Int) < a.length := by omega
      have HS := Lib.hid (hT.out.trans (rise_step hlt))
      clear hcella hlt hT
      generalize a[k]?.getD 0 = x at *
      generalize a[k + 1]?.getD 0 = y at *
      by_cases he : x < y
      · have hd : decide (x < y) = true := decide_eq_true he
        rw [hd, Bool.true_and] at HS
        have hn : decide (y ≤ x) = false := decide_eq_false (by omega)
        clear hd he
        go_wp2_with fail
        go_region
        go_wp2_with fail
        go_roundw
        case rel => exact ⟨k + 1, by go_num, by omega, HS, hb.drew⟩
        case measure => simp [intOf]; omega
      · have hd : decide (x < y) = false := decide_eq_false he
        rw [hd, Bool.false_and] at HS
        have hn : decide (y ≤ x) = true := decide_eq_true (by omega)
        clear hd he
        go_wp2_with fail
        go_region
        go_wp2_with fail
        go_ret
        exact ⟨by rw [HS.out]; rfl, hb.drew⟩
    · have hR := Lib.hid (hT.out.trans (rise_short (by rw [List.length_drop]; omega)))
      have hge : decide (k + 1 < a.length) = false := decide_eq_false hlt
      have hge' : decide ((k : Int) + 1 < (a.length : Int)) = false := decide_eq_false (by omega)
      clear hlt hT HA
      go_wp2_with fail
      go_ret
      exact ⟨by rw [hR.out]; rfl, hb⟩

set_option maxRecDepth 100000 in
set_option maxHeartbeats 2000000 in
theorem rrising_any (v : Value) (a : List Int) (w : World) (ha : Opened.Ints .i64 w v a) (hl : a.length ≤ 1000) :
    Calls Try.prog 17 #[v] w fun e w' => e = .returned (.bool (rise a)) ∧ Below w.heap.size w w' := by
  obtain ⟨⟨pa, ca, rfl, hca⟩, -⟩ := ha
  have HA := Lib.hid hca
  clear hca
  go_enter Try.func17, Try.ntmps17
  go_wp2_with fail
  go_loopw [3] (fun i wr => ∃ k : Nat, i = .int .i64 ((k + 1 : Nat) : Int) ∧ k ≤ a.length ∧ Hid (rise a = rise (a.drop k)) ∧ Below w.heap.size w wr) (fun i _ => a.length + 1 - (intOf i).toNat)
  case atStart => exact ⟨0, rfl, by omega, Lib.hid rfl, Below.refl _ _⟩
  case round =>
    obtain ⟨k, rfl, hk, hT, hb⟩ := hrel
    by_cases hlt : k + 1 < a.length
    · obtain ⟨ba, oa, rfl, hba, hcella⟩ := HA.out (by omega)
      have hc1 : wr.cell? ⟨ba, oa + k, none⟩ = some (.int .i64 (a[k]?.getD 0)) := (hb.cell (p := ⟨ba, oa + k, none⟩) hba).trans (hcella k (by omega))
      have hc2 : wr.cell? ⟨ba, oa + (k + 1), none⟩ = some (.int .i64 (a[k + 1]?.getD 0)) := (hb.cell (p := ⟨ba, oa + (k + 1), none⟩) hba).trans (hcella (k + 1) hlt)
      have hlt' : ((k + 1 : Nat) : Int) < a.length := by omega
      have hlt2 : (k : Int) < a.length := by omega
      have HS := Lib.hid (hT.out.trans (rise_step hlt))
      clear hcella hlt hT
      generalize a[k]?.getD 0 = x at *
      generalize a[k + 1]?.getD 0 = y at *
      by_cases he : x < y
      · have hd : decide (x < y) = true := decide_eq_true he
        rw [hd, Bool.true_and] at HS
        have hn : decide (x ≥ y) = false := decide_eq_false (by omega)
        clear hd he
        go_wp2_with fail
        go_region
        go_wp2_with fail
        go_roundw
        case rel => exact ⟨k + 1, by go_num, by omega, HS, hb.drew⟩
        case measure => simp [intOf]; omega
      · have hd : decide (x < y) = false := decide_eq_false he
        rw [hd, Bool.false_and] at HS
        have hn : decide (x ≥ y) = true := decide_eq_true (by omega)
        clear hd he
        go_wp2_with fail
        go_region
        go_wp2_with fail
        go_ret
        exact ⟨by rw [HS.out]; rfl, hb.drew⟩
    · have hR := Lib.hid (hT.out.trans (rise_short (by rw [List.length_drop]; omega)))
      have hge : decide (k + 1 < a.length) = false := decide_eq_false hlt
      have hge' : decide ((k : Int) + 1 < (a.length : Int)) = false := decide_eq_false (by omega)
      clear hlt hT HA
      go_wp2_with fail
      go_ret
      exact ⟨by rw [hR.out]; rfl, hb⟩

end Dl
end Go.Proofs.Ytlpleikcgikpoaa
