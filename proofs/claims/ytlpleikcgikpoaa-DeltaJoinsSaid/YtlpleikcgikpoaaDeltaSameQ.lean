/-
  WALKS: whether two lists are the same, and that nothing is turned but the draws. Conditions: lists of at most 100000 numbers.
-/
import Derived.Test.YtlpleikcgikpoaaDeltaDec2
import Derived.Test.YtlpleikcgikpoaaDeltaSame
namespace Go.Proofs.Ytlpleikcgikpoaa
open Go.RowKit
namespace Dl
open Mem Pk

set_option maxRecDepth 100000 in
set_option maxHeartbeats 2000000 in
theorem same_q (va vb : Value) (a b : List Int) (w : World) (ha : Opened.Ints .i64 w va a) (hb : Opened.Ints .i64 w vb b) (hl : a.length ≤ 100000) :
    Calls Try.prog 9 #[va, vb] w fun e w' => e = .returned (.bool (decide (a = b))) ∧ ∃ n, w' = w.drewN n := by
  obtain ⟨⟨pa, ca, rfl, hca⟩, -⟩ := ha
  obtain ⟨⟨pb, cb, rfl, hcb⟩, -⟩ := hb
  have HA := Lib.hid hca
  have HB := Lib.hid hcb
  clear hca hcb
  by_cases hn : a.length = b.length
  · have HN := Lib.hid hn
    rw [← hn]
    clear hn
    go_enter Try.func9, Try.ntmps9
    go_wp2_with fail
    go_loopw [5] (fun i wr => ∃ k : Nat, i = .int .i64 k ∧ k ≤ a.length ∧ Hid (a.take k = b.take k) ∧ ∃ m, wr = w.drewN m) (fun i _ => a.length - (intOf i).toNat)
    case atStart => exact ⟨0, rfl, by omega, Lib.hid rfl, 0, rfl⟩
    case round =>
      obtain ⟨k, rfl, hk, hT, m, hwr⟩ := hrel
      have hb : Below w.heap.size w wr := by rw [hwr]; exact below_drewN (Below.refl w.heap.size w) m
      replace hwr := Lib.hid hwr
      by_cases hlt : k < a.length
      · obtain ⟨ba, oa, rfl, hba, hcella⟩ := HA.out (by omega)
        obtain ⟨bb, ob, rfl, hbb, hcellb⟩ := HB.out (by have := HN.out; omega)
        have hc1 : wr.cell? ⟨ba, oa + k, none⟩ = some (.int .i64 (a[k]?.getD 0)) := (hb.cell (p := ⟨ba, oa + k, none⟩) hba).trans (hcella k hlt)
        have hc2 : wr.cell? ⟨bb, ob + k, none⟩ = some (.int .i64 (b[k]?.getD 0)) := (hb.cell (p := ⟨bb, ob + k, none⟩) hbb).trans (hcellb k (by have := HN.out; omega))
        have hlt' : (k : Int) < a.length := by omega
        have HT := Lib.hid (same_upto HN.out hT.out hlt)
        have HF : Hid (a = b → a[k]?.getD 0 = b[k]?.getD 0) := Lib.hid (fun h => by rw [h])
        clear hcella hcellb hlt hT
        generalize a[k]?.getD 0 = x at *
        generalize b[k]?.getD 0 = y at *
        by_cases he : x = y
        · subst he
          have HT2 := Lib.hid (HT.out rfl)
          clear HT HF
          have hne : (x != x) = false := by simp
          go_wp2_with fail
          go_region
          go_wp2_with fail
          go_roundw
          case rel => exact ⟨k + 1, by go_num, by omega, HT2, m + 1, by rw [hwr.out]; rfl⟩
          case measure => simp [intOf]; omega
        · have hd : decide (a = b) = false := decide_eq_false (fun h => he (HF.out h))
          have hne : (x != y) = true := by rw [bne_iff_ne]; exact he
          replace hd := Lib.hid hd
          clear HF HT he
          go_wp2_with fail
          go_region
          go_wp2_with fail
          go_ret
          exact ⟨by rw [hd.out]; rfl, m + 1, by rw [hwr.out]; rfl⟩
      · obtain rfl : k = a.length := by omega
        have hge : decide (a.length < a.length) = false := decide_eq_false hlt
        have hd : decide (a = b) = true := decide_eq_true (by
          have h1 := hT.out
          have h2 := HN.out
          rw [List.take_of_length_le (Nat.le_refl _), h2, List.take_of_length_le (Nat.le_refl _)] at h1
          exact h1)
        replace hd := Lib.hid hd
        clear hlt hT HA HB
        go_wp2_with fail
        go_ret
        exact ⟨by rw [hd.out]; rfl, m, hwr.out⟩
  · have hd : decide (a = b) = false := decide_eq_false (fun h => hn (by rw [h]))
    have hne : ((a.length : Int) != (b.length : Int)) = true := by rw [bne_iff_ne]; omega
    rw [hd]
    clear hd hn
    go_enter Try.func9, Try.ntmps9
    go_wp2_with fail
    go_ret
    exact ⟨rfl, 0, rfl⟩

end Dl
end Go.Proofs.Ytlpleikcgikpoaa
