/-
  WALKS: the document's Reader: Take. Conditions: the reader is one.
-/
import Derived.Test.YtpccenaieeggmaaPackRef
namespace Go.Proofs.Ytpccenaieeggmaa
open Go.RowKit
namespace Pk
open Mem

theorem part_list (s : ByteArray) (j m : Nat) : s.extract j (j + m) = (rest s j).extract 0 m := ext_list (by
  rw [head_list, rest_list, Lib.extract_data, show j + m - j = m from by omega])

set_option maxRecDepth 100000 in
set_option maxHeartbeats 1000000 in
theorem rtake_any (b j : Nat) (s : ByteArray) (e n : Int) (w : World) (hb : w.heap[b]? = some (rr s j e)) (hj : j ≤ s.size) (hs : s.size ≤ 140737488351232) :
    Calls Try.prog 31 #[.pointer (some ⟨b, 0, none⟩), .int .i64 n] w fun e' w' => e' = .returned (.string (takeS (rest s j) e n)) ∧ w'.heap[b]? = some (rr s (j + takeK (rest s j) e n) (takeE (rest s j) e n)) ∧ Kept (· = b) w w' := by
  have h0 := rr_str hb
  have h1 := rr_pos hb
  have h2 := rr_err hb
  have h3 := rr_free hb 1
  have h4 := rr_free hb 2
  have ew : IntKind.i64.wrap ((s.size : Int) - j) = (s.size : Int) - j := IntWalk.i64_in _ (by omega)
  have HB := Lib.hid hb
  have hz := rest_size s j
  unfold takeS
  by_cases he : e = 0
  · subst he
    by_cases hn0 : n < 0
    · obtain ⟨e1, e2⟩ := take_bad (s := rest s j) (n := n) (by omega)
      rw [e1, e2, head_zero]
      clear e1 e2 hb hz
      go_enter Try.func31, Try.ntmps31
      go_wp2_with fail
      go_quiet (fail)
      go_wp2_with fail
      go_ret
      exact ⟨rfl, rr_set2 (w := w.drewN _) HB.out 2, (kept_drewN (Kept.refl (· = b) w) _).setCell (p := ⟨b, 2, none⟩) (fun _ => rfl) _⟩
    · by_cases hn1 : n ≤ (s.size : Int) - j
      · obtain ⟨m, rfl⟩ := Int.eq_ofNat_of_zero_le (show 0 ≤ n by omega)
        obtain ⟨e1, e2⟩ := take_ok (s := rest s j) (n := (m : Int)) (by omega)
        rw [e1, e2, Int.toNat_natCast, ← part_list]
        have hgt : decide ((s.size : Int) - j < m) = false := by rw [decide_eq_false_iff_not]; omega
        have hmz : decide ((m : Int) < 0) = false := by rw [decide_eq_false_iff_not]; omega
        have hm1 : j + m ≤ s.size := by omega
        have ea : IntKind.i64.wrap ((j : Int) + m) = (j : Int) + m := IntWalk.i64_in _ (by omega)
        have ea2 : IntKind.i64.wrap ((j : Int) + m - m) = (j : Int) := by
          rw [show (j : Int) + m - m = j from by omega]
          exact IntWalk.i64_in _ (by omega)
        have hR2 := Lib.hid (fun q => rr_set1 (w := w.drewN q) HB.out (j + m))
        have e5 : ((j + m : Nat) : Int) = (j : Int) + m := Int.natCast_add j m
        rw [e5] at hR2
        have hsl : ∀ w, (Instr.slice 9 (.string s) (some (.int .i64 (j : Int))) (some (.int .i64 ((j : Int) + m))) none).run Try.prog w = .ok (.string (s.extract j (j + m))) w := by
          intro w
          have q1 : (0 : Int) ≤ j := by omega
          have q2 : (j : Int) ≤ (j : Int) + m := by omega
          have q3 : (j : Int) + m ≤ s.size := by omega
          have q4 : ((j : Int) + m).toNat = j + m := by omega
          simp [go_sem, q1, q2, q3, q4]
        clear e1 e2 e5 hb hz hn0 hn1
        go_enter Try.func31, Try.ntmps31
        go_wp2_with fail
        go_quiet (fail)
        go_wp2_with fail
        have hR3 := hR2.out nq
        have hK3 := (kept_drewN (Kept.refl (· = b) w) nq).setCell (p := ⟨b, 1, none⟩) (fun _ => rfl) (.int .i64 ((j : Int) + m))
        generalize (w.drewN nq).setCell ⟨b, 1, none⟩ (.int .i64 ((j : Int) + m)) = W at *
        have g0 := rr_str hR3
        have g1 : W.cell? ⟨b, 1, none⟩ = some (.int .i64 ((j : Int) + m)) := rr_pos hR3
        replace hR3 := Lib.hid hR3
        clear h0 h1 h2 h3 h4 hR2
        go_quiet (fail)
        go_wp2_with fail
        go_ret
        exact ⟨rfl, hR3.out, kept_drewN hK3 _⟩
      · obtain ⟨e1, e2⟩ := take_bad (s := rest s j) (n := n) (by omega)
        rw [e1, e2, head_zero]
        have hgt : decide ((s.size : Int) - j < n) = true := by rw [decide_eq_true_iff]; omega
        have hmz : decide (n < 0) = false := by rw [decide_eq_false_iff_not]; omega
        clear e1 e2 hb hz hn0 hn1
        go_enter Try.func31, Try.ntmps31
        go_wp2_with fail
        go_quiet (fail)
        go_wp2_with fail
        go_ret
        exact ⟨rfl, rr_set2 (w := w.drewN _) HB.out 2, (kept_drewN (Kept.refl (· = b) w) _).setCell (p := ⟨b, 2, none⟩) (fun _ => rfl) _⟩
  · obtain ⟨e1, e2⟩ := take_err (s := rest s j) (n := n) he
    rw [e1, e2, head_zero]
    have hne : (e == 0) = false := by rw [beq_eq_false_iff_ne]; exact he
    have hne2 : (e != 0) = true := by rw [bne_iff_ne]; exact he
    clear e1 e2 hb hz he
    go_enter Try.func31, Try.ntmps31
    go_wp2_with fail
    go_quiet (fail)
    go_wp2_with fail
    go_ret
    exact ⟨rfl, HB.out, kept_drewN (Kept.refl (· = b) w) _⟩

end Pk
end Go.Proofs.Ytpccenaieeggmaa
