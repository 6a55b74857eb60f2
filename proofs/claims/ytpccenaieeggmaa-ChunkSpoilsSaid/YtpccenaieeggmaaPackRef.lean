/-
  WALKS: the document's Reader: Num. Conditions: the reader is one.
-/
import Derived.Test.YtpccenaieeggmaaPackNum
import Derived.Deep.QuietTactic
import Derived.BigQuiet
import Derived.IntWalk
namespace Go.Proofs.Ytpccenaieeggmaa
open Go.RowKit
namespace Pk
open Mem

/-- the document's Reader: the bytes, how many were read, and the error. -/
def rr (s : ByteArray) (j : Nat) (e : Int) : Obj := .cells #[.string s, .int .i64 j, .int .i64 e] 63 (0, 0)
theorem rr_str {w : World} {b j : Nat} {s : ByteArray} {e : Int} (h : w.heap[b]? = some (rr s j e)) : w.cell? ⟨b, 0, none⟩ = some (.string s) := cell_at h 0
theorem rr_pos {w : World} {b j : Nat} {s : ByteArray} {e : Int} (h : w.heap[b]? = some (rr s j e)) : w.cell? ⟨b, 1, none⟩ = some (.int .i64 j) := cell_at h 1
theorem rr_err {w : World} {b j : Nat} {s : ByteArray} {e : Int} (h : w.heap[b]? = some (rr s j e)) : w.cell? ⟨b, 2, none⟩ = some (.int .i64 e) := cell_at h 2
theorem rr_free {w : World} {b j : Nat} {s : ByteArray} {e : Int} (h : w.heap[b]? = some (rr s j e)) (i : Nat) : w.frozen? ⟨b, i, none⟩ = false := free_at h i
theorem rr_set1 {w : World} {b j : Nat} {s : ByteArray} {e : Int} (h : w.heap[b]? = some (rr s j e)) (k : Nat) : (w.setCell ⟨b, 1, none⟩ (.int .i64 (k : Int))).heap[b]? = some (rr s k e) := set_at h 1 (.int .i64 (k : Int))
theorem rr_set2 {w : World} {b j : Nat} {s : ByteArray} {e : Int} (h : w.heap[b]? = some (rr s j e)) (c : Int) : (w.setCell ⟨b, 2, none⟩ (.int .i64 c)).heap[b]? = some (rr s j c) := set_at h 2 (.int .i64 c)

theorem index_at (s : ByteArray) (n : Nat) (hn : n < s.size) (w : World) : (Instr.index 9 (.string s) (.int .i64 (n : Int))).run Try.prog w = .ok (.int .u8 (s[n].toNat : Int)) w := by
  have h0 : (0 : Int) ≤ n := by omega
  have h1 : (n : Int) < s.size := by omega
  simp [go_sem, hn]

theorem kept_drewN {T : Nat → Prop} {a w : World} (h : Kept T a w) (n : Nat) : Kept T a (w.drewN n) := ⟨h.os, h.tape, h.output, h.size, h.block⟩

/-- how the document's Num ends. -/
def RNum (s : ByteArray) (j b : Nat) (e : Int) (w : World) (e' : Ending) (w' : World) : Prop :=
  e' = .returned (.int .u64 (numN (rest s j) e : Nat)) ∧ w'.heap[b]? = some (rr s (j + numK (rest s j) e) (numE (rest s j) e)) ∧ Kept (· = b) w w'
theorem rnum_ok {s : ByteArray} {j b N K : Nat} {w wr : World} (h : numR (rest s j).data.toList = (0, N, K)) (hR : wr.heap[b]? = some (rr s j 0)) (hK : Kept (· = b) w wr) (x : Int) (hx : x = ((j + K : Nat) : Int)) :
    RNum s j b 0 w (.returned (.int .u64 (N : Nat))) (wr.setCell ⟨b, 1, none⟩ (.int .i64 x)) := by
  subst hx
  have h1 : (numR (rest s j).data.toList).1 = 0 := by rw [h]
  obtain ⟨e1, e2, e3⟩ := num_ok h1
  unfold RNum
  rw [e1, e2, e3, h]
  exact ⟨rfl, rr_set1 hR (j + K), hK.setCell (p := ⟨b, 1, none⟩) (fun _ => rfl) _⟩
theorem rnum_bad {s : ByteArray} {j b : Nat} {c : Int} {w wr : World} (h : numR (rest s j).data.toList = (c, 0, 0)) (hc : c ≠ 0) (hR : wr.heap[b]? = some (rr s j 0)) (hK : Kept (· = b) w wr) :
    RNum s j b 0 w (.returned (.int .u64 0)) (wr.setCell ⟨b, 2, none⟩ (.int .i64 c)) := by
  have h1 : (numR (rest s j).data.toList).1 ≠ 0 := by rw [h]; exact hc
  obtain ⟨e1, e2, e3⟩ := num_bad h1
  unfold RNum
  rw [e1, e2, e3, h]
  exact ⟨rfl, rr_set2 hR c, hK.setCell (p := ⟨b, 2, none⟩) (fun _ => rfl) _⟩
theorem acc_place {acc x pl k : Nat} (hpl : pl = 2 ^ (7 * k)) (hx : acc + x % 128 * 2 ^ (7 * k) < 2 ^ 64) :
    IntKind.u64.wrap ((acc : Int) + IntKind.u64.wrap ((x : Int) % 128 * pl)) = ((acc + x % 128 * 2 ^ (7 * k) : Nat) : Int) := by
  subst hpl
  have e : (x : Int) % 128 * ((2 ^ (7 * k) : Nat) : Int) = ((x % 128 * 2 ^ (7 * k) : Nat) : Int) := by
    rw [Int.natCast_mul, Int.natCast_emod]
    rfl
  generalize x % 128 * 2 ^ (7 * k) = z at *
  rw [e, IntKind.wrap_u64, IntKind.wrap_u64]
  omega
theorem next_place {pl k : Nat} (hpl : pl = 2 ^ (7 * k)) (hk : k < 9) : IntKind.u64.wrap ((pl : Int) * 128) = ((2 ^ (7 * (k + 1)) : Nat) : Int) := by
  subst hpl
  have e : 2 ^ (7 * (k + 1)) = 2 ^ (7 * k) * 128 := by rw [Nat.mul_add, Nat.pow_add]
  have h2 : (2 : Nat) ^ (7 * (k + 1)) ≤ 2 ^ 63 := Nat.pow_le_pow_right (by decide) (by omega)
  rw [e] at h2 ⊢
  generalize 2 ^ (7 * k) = z at *
  rw [IntKind.wrap_u64]
  omega

theorem go_cutAt {j k acc : Nat} {s : ByteArray} (h : ¬ j + k < s.size) : numGo k acc (s.data.toList.drop (j + k)) = (2, 0, 0) := by
  rw [List.drop_eq_nil_of_le (by rw [size_list]; omega)]
  rfl
theorem go_badAt {j k acc : Nat} {s : ByteArray} (h : j + k < s.size) (hb : (k = 9 ∧ 1 < s[j + k].toNat) ∨ (0 < k ∧ s[j + k].toNat = 0)) : numGo k acc (s.data.toList.drop (j + k)) = (3, 0, 0) := by
  rw [drop_at s _ h, numGo, if_pos hb]
theorem go_lastAt {j k acc : Nat} {s : ByteArray} (h : j + k < s.size) (hb : ¬ ((k = 9 ∧ 1 < s[j + k].toNat) ∨ (0 < k ∧ s[j + k].toNat = 0))) (hl : s[j + k].toNat < 128) : numGo k acc (s.data.toList.drop (j + k)) = (0, acc + s[j + k].toNat % 128 * 2 ^ (7 * k), k + 1) := by
  rw [drop_at s _ h, numGo, if_neg hb, if_pos hl, Nat.mod_eq_of_lt hl]
theorem go_moreAt {j k acc : Nat} {s : ByteArray} (h : j + k < s.size) (hb : ¬ ((k = 9 ∧ 1 < s[j + k].toNat) ∨ (0 < k ∧ s[j + k].toNat = 0))) (hl : ¬ s[j + k].toNat < 128) : numGo k acc (s.data.toList.drop (j + k)) = numGo (k + 1) (acc + s[j + k].toNat % 128 * 2 ^ (7 * k)) (s.data.toList.drop (j + (k + 1))) := by
  rw [drop_at s _ h, numGo, if_neg hb, if_neg hl, Nat.add_assoc]

set_option maxRecDepth 100000 in
set_option maxHeartbeats 2000000 in
theorem rnum_zero (b j : Nat) (s : ByteArray) (w : World) (hb : w.heap[b]? = some (rr s j 0)) (hj : j ≤ s.size) (hs : s.size ≤ 140737488351232) :
    Calls Try.prog 32 #[.pointer (some ⟨b, 0, none⟩)] w (RNum s j b 0 w) := by
  go_enter Try.func32, Try.ntmps32
  go_wp2_with fail
  go_loopw [3, 4, 5] (fun n p i wr => ∃ (k acc pl : Nat), n = .int .u64 acc ∧ p = .int .u64 pl ∧ i = .int .i64 k ∧ k ≤ 9 ∧ j + k ≤ s.size ∧ Hid (pl = 2 ^ (7 * k)) ∧ Hid (acc < 2 ^ (7 * k)) ∧ Hid (numGo k acc (s.data.toList.drop (j + k)) = numR (rest s j).data.toList) ∧ Hid (wr.heap[b]? = some (rr s j 0)) ∧ Hid (Kept (· = b) w wr)) (fun _ _ i _ => 10 - (intOf i).toNat)
  case atStart => exact ⟨0, 0, 1, rfl, rfl, rfl, by omega, by omega, Lib.hid rfl, Lib.hid (by decide), Lib.hid (by rw [rest_list]; rfl), Lib.hid hb, Lib.hid (Kept.refl _ _)⟩
  case round =>
    clear hb
    obtain ⟨k, acc, pl, rfl, rfl, rfl, hk9, hks, hpl, hacc, HG, hR, hK⟩ := hrel
    have h0 := rr_str hR.out
    have h1 := rr_pos hR.out
    have h2 := rr_err hR.out
    have h3 := rr_free hR.out 1
    have h4 := rr_free hR.out 2
    have hk' : (k : Int) < 10 := by omega
    have et : ((j : Int) + k).toNat = j + k := by omega
    have ej : IntKind.i64.wrap ((j : Int) + k) = (j : Int) + k := IntWalk.i64_in _ (by omega)
    by_cases hlt : j + k < s.size
    · have hge : decide ((s.size : Int) ≤ (j : Int) + k) = false := by rw [decide_eq_false_iff_not]; omega
      have hin0 : 0 ≤ (j : Int) + k := by omega
      have hin1 : (j : Int) + k < s.size := by omega
      have hix := index_at s (j + k) hlt
      rw [Int.natCast_add] at hix
      have HB := Lib.hid (fun h => go_badAt (k := k) (acc := acc) hlt h)
      have HL := Lib.hid (fun h h' => go_lastAt (k := k) (acc := acc) hlt h h')
      have HM := Lib.hid (fun h h' => go_moreAt (k := k) (acc := acc) hlt h h')
      have hx := UInt8.toNat_lt s[j + k]
      generalize s[j + k].toNat = x at *
      have ew : IntKind.u64.wrap (x : Int) = (x : Int) := (IntKind.wrap_u64 _).trans (by omega)
      have hx256 : (x : Int) < 256 := by omega
      have HX := Lib.hid (show (j : Int) + k + 1 = ((j + (k + 1) : Nat) : Int) by omega)
      by_cases h9 : k < 9
      · have c9 : ((k : Int) == 9) = false := by rw [beq_eq_false_iff_ne]; omega
        have hkk := h9
        by_cases h0' : k = 0
        · have c0 : ¬ 0 < k := by omega
          have hbad : ¬ ((k = 9 ∧ 1 < x) ∨ (0 < k ∧ x = 0)) := by omega
          clear h0'
          have hsm := small_shift (x := x) hkk hacc.out
          have hlt64 := hsm.2
          have e9 := acc_place (x := x) hpl.out hlt64
          by_cases hl : x < 128
          · have HE := Lib.hid (HG.out.symm.trans (HL.out hbad hl))
            have hl' : (x : Int) < 128 := by omega
            clear hl hbad hlt64 hsm
            generalize acc + x % 128 * 2 ^ (7 * k) = N at *
            go_wp2_with fail
            go_quiet (fail)
            go_wp2_with fail
            go_quiet (fail)
            go_wp2_with fail
            go_ret
            exact rnum_ok HE.out (wr := wr.drewN _) hR.out (kept_drewN hK.out _) ((j : Int) + k + 1) HX.out
          · have HA := Lib.hid hsm.1
            have HN := Lib.hid ((HM.out hbad hl).symm.trans HG.out)
            have hl' : 128 ≤ (x : Int) := by omega
            have e10 := next_place hpl.out hkk
            clear hl hbad hlt64 hsm
            generalize acc + x % 128 * 2 ^ (7 * k) = N at *
            obtain ⟨pl2, hpl2⟩ : ∃ p, 2 ^ (7 * (k + 1)) = p := ⟨_, rfl⟩
            rw [hpl2] at e10
            replace hpl2 := Lib.hid hpl2
            go_wp2_with fail
            go_quiet (fail)
            go_wp2_with fail
            go_quiet (fail)
            go_wp2_with fail
            go_roundw
            case rel => exact ⟨k + 1, N, pl2, rfl, rfl, by go_num, by omega, by omega, Lib.hid hpl2.out.symm, HA, HN, hR, Lib.hid (kept_drewN hK.out _)⟩
            case measure => simp [intOf]; omega
        · have c0 : 0 < k := by omega
          by_cases hz : x = 0
          · have hb : (k = 9 ∧ 1 < x) ∨ (0 < k ∧ x = 0) := .inr ⟨by omega, hz⟩
            have cz : ((x : Int) == 0) = true := by rw [beq_iff_eq]; omega
            clear hz
            have HE := Lib.hid (HG.out.symm.trans (HB.out hb))
            clear hb
            go_wp2_with fail
            go_quiet (fail)
            go_wp2_with fail
            go_quiet (fail)
            go_wp2_with fail
            go_ret
            exact rnum_bad HE.out (by decide) (wr := wr.drewN _) hR.out (kept_drewN hK.out _)
          · have hbad : ¬ ((k = 9 ∧ 1 < x) ∨ (0 < k ∧ x = 0)) := by omega
            have cz : ((x : Int) == 0) = false := by rw [beq_eq_false_iff_ne]; omega
            clear hz
            have hsm := small_shift (x := x) hkk hacc.out
            have hlt64 := hsm.2
            have e9 := acc_place (x := x) hpl.out hlt64
            by_cases hl : x < 128
            · have HE := Lib.hid (HG.out.symm.trans (HL.out hbad hl))
              have hl' : (x : Int) < 128 := by omega
              clear hl hbad hlt64 hsm
              generalize acc + x % 128 * 2 ^ (7 * k) = N at *
              go_wp2_with fail
              go_quiet (fail)
              go_wp2_with fail
              go_quiet (fail)
              go_wp2_with fail
              go_ret
              exact rnum_ok HE.out (wr := wr.drewN _) hR.out (kept_drewN hK.out _) ((j : Int) + k + 1) HX.out
            · have HA := Lib.hid hsm.1
              have HN := Lib.hid ((HM.out hbad hl).symm.trans HG.out)
              have hl' : 128 ≤ (x : Int) := by omega
              have e10 := next_place hpl.out hkk
              clear hl hbad hlt64 hsm
              generalize acc + x % 128 * 2 ^ (7 * k) = N at *
              obtain ⟨pl2, hpl2⟩ : ∃ p, 2 ^ (7 * (k + 1)) = p := ⟨_, rfl⟩
              rw [hpl2] at e10
              replace hpl2 := Lib.hid hpl2
              go_wp2_with fail
              go_quiet (fail)
              go_wp2_with fail
              go_quiet (fail)
              go_wp2_with fail
              go_roundw
              case rel => exact ⟨k + 1, N, pl2, rfl, rfl, by go_num, by omega, by omega, Lib.hid hpl2.out.symm, HA, HN, hR, Lib.hid (kept_drewN hK.out _)⟩
              case measure => simp [intOf]; omega
      · have c9 : ((k : Int) == 9) = true := by rw [beq_iff_eq]; omega
        have c0 : 0 < k := by omega
        have H9 := Lib.hid (show k = 9 by omega)
        by_cases hx1 : x ≤ 1
        · have c1 : decide ((1 : Int) < x) = false := by rw [decide_eq_false_iff_not]; omega
          by_cases hz : x = 0
          · have hb : (k = 9 ∧ 1 < x) ∨ (0 < k ∧ x = 0) := .inr ⟨by omega, hz⟩
            have cz : ((x : Int) == 0) = true := by rw [beq_iff_eq]; omega
            clear hz h9
            have HE := Lib.hid (HG.out.symm.trans (HB.out hb))
            clear hb
            go_wp2_with fail
            go_quiet (fail)
            go_wp2_with fail
            go_quiet (fail)
            go_wp2_with fail
            go_ret
            exact rnum_bad HE.out (by decide) (wr := wr.drewN _) hR.out (kept_drewN hK.out _)
          · have hbad : ¬ ((k = 9 ∧ 1 < x) ∨ (0 < k ∧ x = 0)) := by omega
            have cz : ((x : Int) == 0) = false := by rw [beq_eq_false_iff_ne]; omega
            clear hz h9
            have hlt64 := top_shift (x := x) H9.out hacc.out hx1
            have e9 := acc_place (x := x) hpl.out hlt64
            by_cases hl : x < 128
            · have HE := Lib.hid (HG.out.symm.trans (HL.out hbad hl))
              have hl' : (x : Int) < 128 := by omega
              clear hl hbad hlt64
              generalize acc + x % 128 * 2 ^ (7 * k) = N at *
              go_wp2_with fail
              go_quiet (fail)
              go_wp2_with fail
              go_quiet (fail)
              go_wp2_with fail
              go_ret
              exact rnum_ok HE.out (wr := wr.drewN _) hR.out (kept_drewN hK.out _) ((j : Int) + k + 1) HX.out
            · omega
        · have c1 : decide ((1 : Int) < x) = true := by rw [decide_eq_true_iff]; omega
          have hb : (k = 9 ∧ 1 < x) ∨ (0 < k ∧ x = 0) := .inl ⟨H9.out, by omega⟩
          clear h9
          have HE := Lib.hid (HG.out.symm.trans (HB.out hb))
          clear hb
          go_wp2_with fail
          go_quiet (fail)
          go_wp2_with fail
          go_quiet (fail)
          go_wp2_with fail
          go_ret
          exact rnum_bad HE.out (by decide) (wr := wr.drewN _) hR.out (kept_drewN hK.out _)
    · have hge : decide ((s.size : Int) ≤ (j : Int) + k) = true := by rw [decide_eq_true_iff]; omega
      have HE := Lib.hid (HG.out.symm.trans (go_cutAt hlt))
      clear hlt
      go_wp2_with fail
      go_quiet (fail)
      go_wp2_with fail
      go_ret
      exact rnum_bad HE.out (by decide) (wr := wr.drewN _) hR.out (kept_drewN hK.out _)

set_option maxRecDepth 100000 in
theorem rnum_err (b j : Nat) (s : ByteArray) (e : Int) (w : World) (hb : w.heap[b]? = some (rr s j e)) (he : e ≠ 0) :
    Calls Try.prog 32 #[.pointer (some ⟨b, 0, none⟩)] w (RNum s j b e w) := by
  have h2 := rr_err hb
  have hne : (e == 0) = false := by rw [beq_eq_false_iff_ne]; exact he
  have HE := Lib.hid (num_err (s := rest s j) he)
  have HB := Lib.hid hb
  clear he hb
  go_enter Try.func32, Try.ntmps32
  go_wp2_with fail
  refine wp_loop_rounds 1 ?_
  rw [rounds_succ]
  go_wp2_with fail
  go_ret
  obtain ⟨e1, e2, e3⟩ := HE.out
  unfold RNum
  rw [e1, e2, e3]
  exact ⟨rfl, HB.out, Kept.refl _ _⟩
theorem rnum_any (b j : Nat) (s : ByteArray) (e : Int) (w : World) (hb : w.heap[b]? = some (rr s j e)) (hj : j ≤ s.size) (hs : s.size ≤ 140737488351232) :
    Calls Try.prog 32 #[.pointer (some ⟨b, 0, none⟩)] w (RNum s j b e w) := by
  by_cases he : e = 0
  · subst he; exact rnum_zero b j s w hb hj hs
  · exact rnum_err b j s e w hb he

set_option maxRecDepth 100000 in
theorem rleft_any (b j : Nat) (s : ByteArray) (e : Int) (w : World) (hb : w.heap[b]? = some (rr s j e)) (hj : j ≤ s.size) (hs : s.size ≤ 140737488351232) :
    Calls Try.prog 30 #[.pointer (some ⟨b, 0, none⟩)] w fun e' w' => e' = .returned (.int .i64 ((rest s j).size : Nat)) ∧ ∃ n, w' = w.drewN n := by
  have h0 := rr_str hb
  have h1 := rr_pos hb
  have ez : ((rest s j).size : Int) = (s.size : Int) - j := by rw [rest_size]; omega
  have ew : IntKind.i64.wrap ((s.size : Int) - j) = (s.size : Int) - j := IntWalk.i64_in _ (by omega)
  rw [ez]
  replace ez := Lib.hid ez
  go_enter Try.func30, Try.ntmps30
  go_wp2_with fail
  go_quiet (fail)
  go_wp2_with fail
  go_ret
  exact ⟨rfl, _, rfl⟩

end Pk
end Go.Proofs.Ytpccenaieeggmaa
