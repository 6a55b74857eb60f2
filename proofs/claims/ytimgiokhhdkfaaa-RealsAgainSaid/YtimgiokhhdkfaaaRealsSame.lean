/-
  WALKS: whether two lists are the same, by package reals and by the document. Conditions: none but that the numbers are of their kind.
-/
import Derived.Test.YtimgiokhhdkfaaaRealsEncode
namespace Go.Proofs.Ytimgiokhhdkfaaa
open Go.RowKit
namespace Rl
open Mem Pk Fl

/-- two lists are the same, by their bits. -/
def sameB (a b : List Nat) : Bool := decide (a.map canon = b.map canon)
theorem same_upto {a b : List Nat} {k : Nat} (hl : a.length = b.length) (h : (a.take k).map canon = (b.take k).map canon) (hk : k < a.length) (he : canon (a[k]?.getD 0) = canon (b[k]?.getD 0)) : (a.take (k + 1)).map canon = (b.take (k + 1)).map canon := by
  rw [take_next a k hk, take_next b k (by omega), List.map_append, List.map_append, h]
  show _ ++ [canon _] = _ ++ [canon _]
  rw [he]
theorem same_at {a b : List Nat} (h : a.map canon = b.map canon) {k : Nat} (hk : k < a.length) : canon (a[k]?.getD 0) = canon (b[k]?.getD 0) := by
  have hl : a.length = b.length := by have := congrArg List.length h; simpa using this
  have h1 : (a.map canon)[k]? = (b.map canon)[k]? := by rw [h]
  rw [List.getElem?_map, List.getElem?_map, List.getElem?_eq_getElem hk, List.getElem?_eq_getElem (by omega)] at h1
  rw [List.getElem?_eq_getElem hk, List.getElem?_eq_getElem (by omega)]
  simpa using h1
theorem same_len {a b : List Nat} (h : ¬ a.length = b.length) : sameB a b = false := decide_eq_false (fun e => h (by have := congrArg List.length e; simpa using this))

set_option maxRecDepth 100000 in
set_option maxHeartbeats 2000000 in
theorem eqf_any (va vb : Value) (a b : List Nat) (w : World) (ha : Flts w va a) (hb : Flts w vb b) (hl : a.length ≤ 100000) :
    Calls Try.prog 26 #[va, vb, .func (.func 17) #[] #[]] w fun e w' => e = .returned (.bool (sameB a b)) ∧ Below w.heap.size w w' := by
  have HBa := Lib.hid ha.bound
  have HBb := Lib.hid hb.bound
  obtain ⟨⟨pa, ca, rfl, -, hca⟩, -⟩ := ha
  obtain ⟨⟨pb, cb, rfl, -, hcb⟩, -⟩ := hb
  have HA := Lib.hid hca
  have HB := Lib.hid hcb
  clear hca hcb
  by_cases hn : a.length = b.length
  · have HN := Lib.hid hn
    rw [← hn]
    clear hn
    go_enter Try.func26, Try.ntmps26
    go_wp2_with fail
    go_loopw [17] (fun i wr => ∃ k : Nat, i = .int .i64 k ∧ k ≤ a.length ∧ Hid ((a.take k).map canon = (b.take k).map canon) ∧ Below w.heap.size w wr) (fun i _ => a.length - (intOf i).toNat)
    case atStart => exact ⟨0, rfl, by omega, Lib.hid rfl, Below.refl _ _⟩
    case round =>
      obtain ⟨k, rfl, hk, hT, hb⟩ := hrel
      by_cases hlt : k < a.length
      · obtain ⟨ba, oa, rfl, hba, hcella⟩ := HA.out (by omega)
        obtain ⟨bb, ob, rfl, hbb, hcellb⟩ := HB.out (by have := HN.out; omega)
        have hc1 : wr.cell? ⟨ba, oa + k, none⟩ = some (.float .f64 (a[k]?.getD 0)) := (hb.cell (p := ⟨ba, oa + k, none⟩) hba).trans (hcella k hlt)
        have hc2 : wr.cell? ⟨bb, ob + k, none⟩ = some (.float .f64 (b[k]?.getD 0)) := (hb.cell (p := ⟨bb, ob + k, none⟩) hbb).trans (hcellb k (by have := HN.out; omega))
        have hlt' : (k : Int) < a.length := by omega
        have hx := getD_lt HBa.out hlt
        have hy := getD_lt HBb.out (show k < b.length by have := HN.out; omega)
        have HT := Lib.hid (same_upto HN.out hT.out hlt)
        have HF : Hid (a.map canon = b.map canon → canon (a[k]?.getD 0) = canon (b[k]?.getD 0)) := Lib.hid (fun h => same_at h hlt)
        clear hcella hcellb hlt hT
        generalize a[k]?.getD 0 = x at *
        generalize b[k]?.getD 0 = y at *
        have HS := Lib.hid (fun w => same_any x y w hx hy)
        by_cases he : canon x = canon y
        · have hq : (canon x == canon y) = true := by rw [beq_iff_eq]; exact he
          rw [hq] at HS
          have HT2 := Lib.hid (HT.out he)
          clear HT HF hq he
          go_wp2_with fail
          refine (HS.out _).mono ?_
          rintro e w2 ⟨rfl, hb2⟩
          replace hb := hb.trans (hb2.mono hb.size)
          clear hb2
          go_wp2_with fail
          go_roundw
          case rel => exact ⟨k + 1, by go_num, by omega, HT2, hb⟩
          case measure => simp [intOf]; omega
        · have hq : (canon x == canon y) = false := by rw [beq_eq_false_iff_ne]; exact he
          rw [hq] at HS
          have hd : Hid (sameB a b = false) := Lib.hid (decide_eq_false (fun h => he (HF.out h)))
          clear HF HT he hq
          go_wp2_with fail
          refine (HS.out _).mono ?_
          rintro e w2 ⟨rfl, hb2⟩
          replace hb := hb.trans (hb2.mono hb.size)
          clear hb2
          go_wp2_with fail
          go_ret
          exact ⟨by rw [hd.out]; rfl, hb⟩
      · obtain rfl : k = a.length := by omega
        have hge : decide (a.length < a.length) = false := decide_eq_false hlt
        have hd : Hid (sameB a b = true) := Lib.hid (decide_eq_true (by
          have h1 := hT.out
          have h2 := HN.out
          rw [List.take_of_length_le (Nat.le_refl _), h2, List.take_of_length_le (Nat.le_refl _)] at h1
          exact h1))
        clear hlt hT HA HB
        go_wp2_with fail
        go_ret
        exact ⟨by rw [hd.out]; rfl, hb⟩
  · have hd := same_len hn
    have hne : ((a.length : Int) != (b.length : Int)) = true := by rw [bne_iff_ne]; omega
    rw [hd]
    clear hd hn
    go_enter Try.func26, Try.ntmps26
    go_wp2_with fail
    go_ret
    exact ⟨rfl, Below.refl _ _⟩

theorem rlsame_any (va vb : Value) (a b : List Nat) (w : World) (ha : Flts w va a) (hb : Flts w vb b) (hl : a.length ≤ 100000) :
    Calls Try.prog 13 #[va, vb] w fun e w' => e = .returned (.bool (sameB a b)) ∧ Below w.heap.size w w' := by
  have HE := Lib.hid (eqf_any va vb a b w ha hb hl)
  clear ha hb
  go_enter Try.func13, Try.ntmps13
  go_wp2_with fail
  refine HE.out.mono ?_
  rintro e w2 ⟨rfl, hb2⟩
  go_wp2_with fail
  go_ret
  exact ⟨rfl, hb2⟩

theorem q_rsame {x y : Nat} (W : World) (hx : x < 2 * S) (hy : y < 2 * S) (n : Nat) :
    Calls Try.prog 27 #[.float .f64 x, .float .f64 y] (W.drewN n) fun e w' => e = .returned (.bool (canon x == canon y)) ∧ ∃ m, w' = W.drewN m :=
  (rsame_any x y (W.drewN n) hx hy).mono fun _ _ ⟨h1, h2⟩ => ⟨h1, n, h2.symm⟩
theorem bel_drewN {B : Nat} {w W : World} (h : Below B w W) (n : Nat) : Below B w (W.drewN n) := ⟨h.os, h.tape, h.output, h.size, h.block⟩

set_option maxRecDepth 100000 in
set_option maxHeartbeats 2000000 in
theorem rrsame_any (va vb : Value) (a b : List Nat) (w : World) (ha : Flts w va a) (hb : Flts w vb b) (hl : a.length ≤ 100000) :
    Calls Try.prog 14 #[va, vb] w fun e w' => e = .returned (.bool (sameB a b)) ∧ Below w.heap.size w w' := by
  have HBa := Lib.hid ha.bound
  have HBb := Lib.hid hb.bound
  obtain ⟨⟨pa, ca, rfl, -, hca⟩, -⟩ := ha
  obtain ⟨⟨pb, cb, rfl, -, hcb⟩, -⟩ := hb
  have HA := Lib.hid hca
  have HB := Lib.hid hcb
  clear hca hcb
  by_cases hn : a.length = b.length
  · have HN := Lib.hid hn
    rw [← hn]
    clear hn
    go_enter Try.func14, Try.ntmps14
    go_wp2_with fail
    go_loopw [5] (fun i wr => ∃ k : Nat, i = .int .i64 k ∧ k ≤ a.length ∧ Hid ((a.take k).map canon = (b.take k).map canon) ∧ Below w.heap.size w wr) (fun i _ => a.length - (intOf i).toNat)
    case atStart => exact ⟨0, rfl, by omega, Lib.hid rfl, Below.refl _ _⟩
    case round =>
      obtain ⟨k, rfl, hk, hT, hb⟩ := hrel
      by_cases hlt : k < a.length
      · obtain ⟨ba, oa, rfl, hba, hcella⟩ := HA.out (by omega)
        obtain ⟨bb, ob, rfl, hbb, hcellb⟩ := HB.out (by have := HN.out; omega)
        have hc1 : wr.cell? ⟨ba, oa + k, none⟩ = some (.float .f64 (a[k]?.getD 0)) := (hb.cell (p := ⟨ba, oa + k, none⟩) hba).trans (hcella k hlt)
        have hc2 : wr.cell? ⟨bb, ob + k, none⟩ = some (.float .f64 (b[k]?.getD 0)) := (hb.cell (p := ⟨bb, ob + k, none⟩) hbb).trans (hcellb k (by have := HN.out; omega))
        have hlt' : (k : Int) < a.length := by omega
        have hk0 : (0 : Int) ≤ (k : Int) := by omega
        have hx := getD_lt HBa.out hlt
        have hy := getD_lt HBb.out (show k < b.length by have := HN.out; omega)
        have HT := Lib.hid (same_upto HN.out hT.out hlt)
        have HF : Hid (a.map canon = b.map canon → canon (a[k]?.getD 0) = canon (b[k]?.getD 0)) := Lib.hid (fun h => same_at h hlt)
        clear hcella hcellb hlt hT
        generalize a[k]?.getD 0 = x at *
        generalize b[k]?.getD 0 = y at *
        have HS := Lib.hid (fun n => q_rsame (x := x) (y := y) wr hx hy n)
        by_cases he : canon x = canon y
        · have hq : (canon x == canon y) = true := by rw [beq_iff_eq]; exact he
          rw [hq] at HS
          have HT2 := Lib.hid (HT.out he)
          clear HT HF hq he
          go_wp2_with fail
          go_quiet ((go_at_call 27; exact HS.out _))
          go_wp2_with fail
          go_roundw
          case rel => exact ⟨k + 1, by go_num, by omega, HT2, bel_drewN hb _⟩
          case measure => simp [intOf]; omega
        · have hq : (canon x == canon y) = false := by rw [beq_eq_false_iff_ne]; exact he
          rw [hq] at HS
          have hd : Hid (sameB a b = false) := Lib.hid (decide_eq_false (fun h => he (HF.out h)))
          clear HF HT he hq
          go_wp2_with fail
          go_quiet ((go_at_call 27; exact HS.out _))
          go_wp2_with fail
          go_ret
          exact ⟨by rw [hd.out]; rfl, bel_drewN hb _⟩
      · obtain rfl : k = a.length := by omega
        have hge : decide (a.length < a.length) = false := decide_eq_false hlt
        have hd : Hid (sameB a b = true) := Lib.hid (decide_eq_true (by
          have h1 := hT.out
          have h2 := HN.out
          rw [List.take_of_length_le (Nat.le_refl _), h2, List.take_of_length_le (Nat.le_refl _)] at h1
          exact h1))
        clear hlt hT HA HB
        go_wp2_with fail
        go_ret
        exact ⟨by rw [hd.out]; rfl, hb⟩
  · have hd := same_len hn
    have hne : ((a.length : Int) != (b.length : Int)) = true := by rw [bne_iff_ne]; omega
    rw [hd]
    clear hd hn
    go_enter Try.func14, Try.ntmps14
    go_wp2_with fail
    go_ret
    exact ⟨rfl, Below.refl _ _⟩

end Rl
end Go.Proofs.Ytimgiokhhdkfaaa
