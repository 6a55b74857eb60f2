/-
  WALKS: the law of pack PackReads. No condition.
-/
import Derived.Test.YtnfooblofkblcaaPackLaws1
import Derived.Test.YtnfooblofkblcaaSlices
import Derived.Deep.RegionWith
namespace Go.Proofs.Ytnfooblofkblcaa
open Go.RowKit
namespace Pk
open Mem

/-! ### what reads nothing, in a region that draws -/
theorem q_left {b : Nat} {s : ByteArray} {e : Int} {W : World} (h : W.heap[b]? = some (rd s e)) (n : Nat) :
    Calls Try.prog 27 #[.pointer (some ⟨b, 0, none⟩)] (W.drewN n) fun e' w' => e' = .returned (.int .i64 s.size) ∧ ∃ m, w' = W.drewN m :=
  (left_any b s e (W.drewN n) h).mono fun _ _ ⟨h1, h2⟩ => ⟨h1, n, h2.symm⟩
theorem q_err {b : Nat} {s : ByteArray} {e : Int} {W : World} (h : W.heap[b]? = some (rd s e)) (n : Nat) :
    Calls Try.prog 29 #[.pointer (some ⟨b, 0, none⟩)] (W.drewN n) fun e' w' => e' = .returned (.int .i64 e) ∧ ∃ m, w' = W.drewN m :=
  (err_any b s e (W.drewN n) h).mono fun _ _ ⟨h1, h2⟩ => ⟨h1, n, h2.symm⟩
theorem q_done {b : Nat} {s : ByteArray} {e : Int} {W : World} (h : W.heap[b]? = some (rd s e)) (n : Nat) :
    Calls Try.prog 30 #[.pointer (some ⟨b, 0, none⟩)] (W.drewN n) fun e' w' => e' = .returned (.int .i64 (doneE s e)) ∧ ∃ m, w' = W.drewN m :=
  (done_any b s e (W.drewN n) h).mono fun _ _ ⟨h1, h2⟩ => ⟨h1, n, h2.symm⟩
theorem q_rleft {b j : Nat} {s : ByteArray} {e : Int} {W : World} (h : W.heap[b]? = some (rr s j e)) (hj : j ≤ s.size) (hs : s.size ≤ 140737488351232) (n : Nat) :
    Calls Try.prog 28 #[.pointer (some ⟨b, 0, none⟩)] (W.drewN n) fun e' w' => e' = .returned (.int .i64 ((rest s j).size : Nat)) ∧ ∃ m, w' = W.drewN m :=
  (rleft_any b j s e (W.drewN n) h hj hs).mono fun _ _ ⟨h1, m, h2⟩ => ⟨h1, n + m, by rw [h2, World.drewN_drewN]⟩
theorem q_rdone {b j : Nat} {s : ByteArray} {e : Int} {W : World} (h : W.heap[b]? = some (rr s j e)) (hj : j ≤ s.size) (hs : s.size ≤ 140737488351232) (n : Nat) :
    Calls Try.prog 31 #[.pointer (some ⟨b, 0, none⟩)] (W.drewN n) fun e' w' => e' = .returned (.int .i64 (doneE (rest s j) e)) ∧ ∃ m, w' = W.drewN m :=
  (rdone_any b j s e (W.drewN n) h hj hs).mono fun _ _ ⟨h1, m, h2⟩ => ⟨h1, n + m, by rw [h2, World.drewN_drewN]⟩

theorem numK_le (s : ByteArray) (e : Int) : numK s e ≤ s.size := by
  unfold numK
  split
  · cases h : numR s.data.toList with
    | mk c p =>
      obtain ⟨n, k⟩ := p
      by_cases hc : c = 0
      · subst hc
        have := (put_read h).2.2.1
        rw [size_list] at this
        exact this
      · have := numR_bad (l := s.data.toList) (by rw [h]; exact hc)
        rw [h] at this
        show k ≤ s.size
        have : k = 0 := this.2
        omega
  · omega
theorem takeK_le (s : ByteArray) (e n : Int) : takeK s e n ≤ s.size := by
  unfold takeK
  split <;> omega

/-- where the two readers stand. -/
structure Both (w : World) (b : Nat) (s : ByteArray) (W : World) (j : Nat) (e : Int) : Prop where
  one : W.heap[b]? = some (rd (rest s j) e)
  two : W.heap[b + 1]? = some (rr s j e)
  le : j ≤ s.size
  bel : Below b w W
theorem Both.next {w W W1 W2 : World} {b j k : Nat} {s : ByteArray} {e e2 : Int} (h : Both w b s W j e) (hk : k ≤ (rest s j).size) (h1 : W1.heap[b]? = some (rd (rest (rest s j) k) e2)) (k1 : Kept (· = b) W W1) (h2 : W2.heap[b + 1]? = some (rr s (j + k) e2)) (k2 : Kept (· = b + 1) W1 W2) : Both w b s W2 (j + k) e2 := by
  have hz := rest_size s j
  have hl := h.le
  have hlt := lt_of_block h.one
  refine ⟨?_, h2, by omega, ?_⟩
  · rw [← rest_rest]
    exact k2.at h1 (by omega)
  · exact (h.bel.trans (k1.to_below (Nat.le_of_lt hlt) (fun k hk h => by omega))).trans (k2.to_below (Nat.le_trans (Nat.le_of_lt hlt) k1.size) (fun k hk h => by omega))

theorem bel_drewN {B : Nat} {w W : World} (h : Below B w W) (n : Nat) : Below B w (W.drewN n) := ⟨h.os, h.tape, h.output, h.size, h.block⟩

/-- where the two readers stand, while bytes are taken of the one and of the other, in whatever order. -/
structure Taking (w : World) (p : Nat) (s : ByteArray) (j : Nat) (e c : Int) (cb co : Nat) (x y : Bool) (W : World) : Prop where
  one : W.heap[p]? = some (if x then rd (rest s (j + takeK (rest s j) e c)) (takeE (rest s j) e c) else rd (rest s j) e)
  two : W.heap[p + 1]? = some (if y then rr s (j + takeK (rest s j) e c) (takeE (rest s j) e c) else rr s j e)
  bel : Below p w W
  cell : W.cell? ⟨cb, co, none⟩ = some (.int .i64 c)
theorem Taking.left {w W : World} {p j cb co : Nat} {s : ByteArray} {e c : Int} {y : Bool} (hcb : cb < p) (h : Taking w p s j e c cb co false y W) :
    Calls Try.prog 25 #[.pointer (some ⟨p, 0, none⟩), .int .i64 c] W fun e' W' => e' = .returned (.string (takeS (rest s j) e c)) ∧ Taking w p s j e c cb co true y W' :=
  (take_any p (rest s j) e c W h.one).mono fun _ W' ⟨h1, h2, h3⟩ => by
    have hlt := lt_of_block h.one
    refine ⟨h1, ?_, h3.at h.two (by omega), h.bel.trans (h3.to_below (Nat.le_of_lt hlt) (fun k hk h => by omega)), ?_⟩
    · rw [if_pos rfl, ← rest_rest]; exact h2
    · exact ((h3.to_below (B := p) (Nat.le_of_lt hlt) (fun k hk h => by omega)).cell (p := ⟨cb, co, none⟩) hcb).trans h.cell
theorem Taking.right {w W : World} {p j cb co : Nat} {s : ByteArray} {e c : Int} {x : Bool} (hcb : cb < p) (hj : j ≤ s.size) (hs : s.size ≤ 140737488351232) (h : Taking w p s j e c cb co x false W) :
    Calls Try.prog 26 #[.pointer (some ⟨p + 1, 0, none⟩), .int .i64 c] W fun e' W' => e' = .returned (.string (takeS (rest s j) e c)) ∧ Taking w p s j e c cb co x true W' :=
  (rtake_any (p + 1) j s e c W h.two hj hs).mono fun _ W' ⟨h1, h2, h3⟩ => by
    have hlt := lt_of_block h.two
    refine ⟨h1, h3.at h.one (by omega), by rw [if_pos rfl]; exact h2, h.bel.trans (h3.to_below (by omega) (fun k hk h => by omega)), ?_⟩
    exact ((h3.to_below (B := p) (by omega) (fun k hk h => by omega)).cell (p := ⟨cb, co, none⟩) hcb).trans h.cell

set_option maxRecDepth 100000 in
set_option maxHeartbeats 8000000 in
theorem reads_walk (s : ByteArray) (v : Value) (zs : List Int) (w : World) (hv : Opened.Ints .i64 w v zs) :
    Calls Try.prog 4 #[.string s, v] w fun e w' => e = .returned (.bool true) ∧ Below w.heap.size w w' := by
  obtain ⟨⟨a, cap, rfl, hcells⟩, hbound⟩ := hv
  replace hbound := Lib.hid hbound
  by_cases hs : 500 < s.size
  · have hs' : (500 : Int) < (s.size : Int) := by omega
    clear hs
    go_enter Try.func4, Try.ntmps4
    go_wp2_with fail
    refine (live_any _).mono ?_
    rintro e w1 ⟨rfl, h1⟩
    go_wp2_with fail
    go_ret
    exact ⟨rfl, h1⟩
  · have hs' : (s.size : Int) ≤ 500 := by omega
    by_cases hl : 60 < zs.length
    · have hl' : (60 : Int) < (zs.length : Int) := by omega
      clear hs hl
      go_enter Try.func4, Try.ntmps4
      go_wp2_with fail
      refine (live_any _).mono ?_
      rintro e w1 ⟨rfl, h1⟩
      go_wp2_with fail
      go_ret
      exact ⟨rfl, h1⟩
    · have hl' : (zs.length : Int) ≤ 60 := by omega
      have hs3 : s.size ≤ 140737488351232 := by omega
      have hs2 : s.size ≤ 9223372036854775807 := by omega
      have HC := Lib.hid hcells
      clear hs hl hcells
      go_enter Try.func4, Try.ntmps4
      go_wp2_with fail
      refine (new_any s _).mono ?_
      rintro e w' ⟨rfl, rfl⟩
      have H0 : Hid (Both w w.heap.size s ((w.alloc (rd s 0)).alloc (rr s 0 0)) 0 0) := Lib.hid (by
        have h2 := alloc_new (w.alloc (rd s 0)) (rr s 0 0)
        rw [World.size_alloc] at h2
        exact ⟨by rw [rest_zero]; exact alloc_at _ (alloc_new w (rd s 0)), h2, by omega, ((Below.refl _ _).alloc (Nat.le_refl _) _).alloc (by simp) _⟩)
      go_wp2_with fail
      change Code.wp _ _ _ _ ((w.alloc (rd s 0)).alloc (rr s 0 0))
      generalize (w.alloc (rd s 0)).alloc (rr s 0 0) = w1 at *
      obtain ⟨p, hp⟩ : ∃ p, w.heap.size = p := ⟨_, rfl⟩
      rw [hp] at H0 ⊢
      replace hp := Lib.hid hp
      go_loopw [7] (fun i wr => ∃ k j : Nat, ∃ e : Int, i = .int .i64 k ∧ k ≤ zs.length ∧ Hid (Both w p s wr j e)) (fun i _ => zs.length - (intOf i).toNat)
      case atStart => exact ⟨0, 0, 0, rfl, by omega, H0⟩
      case round =>
        obtain ⟨k, j, e, rfl, hk, HB⟩ := hrel
        by_cases hlt : k < zs.length
        · obtain ⟨cb, off, rfl, hcb, hcell⟩ := HC.out (by omega)
          have hck : wr.cell? ⟨cb, off + k, none⟩ = some (.int .i64 (zs.getD k 0)) := (HB.out.bel.cell (p := ⟨cb, off + k, none⟩) (by rw [← hp.out]; exact hcb)).trans (hcell k hlt)
          have hlt' : (k : Int) < zs.length := by omega
          have h60 : zs.length ≤ 60 := by omega
          clear hcell
          have hgd : zs.getD k 0 = zs[k]?.getD 0 := rfl
          rw [hgd] at hck
          clear hgd
          generalize zs[k]?.getD 0 = c at *
          obtain ⟨hR1, hR2, hjle, hbel⟩ := HB.out
          replace hR1 := Lib.hid hR1
          replace hR2 := Lib.hid hR2
          replace hjle := Lib.hid hjle
          replace hbel := Lib.hid hbel
          have hrs : (rest s j).size ≤ 9223372036854775807 := by rw [rest_size]; omega
          by_cases c1 : c = -1
          · have d1 : (c == -1) = true := by rw [beq_iff_eq]; exact c1
            clear c1
            go_wp2_with fail
            refine (num_any p (rest s j) e _ hR1.out hrs).mono ?_
            rintro e' w2 ⟨rfl, k1, k2⟩
            have hR3 := Lib.hid (k2.at hR2.out (by omega))
            replace k1 := Lib.hid k1
            go_wp2_with fail
            refine (rnum_any (p + 1) j s e _ hR3.out hjle.out hs3).mono ?_
            rintro e' w3 ⟨rfl, k3, k4⟩
            have HN : Hid (Both w p s w3 (j + numK (rest s j) e) (numE (rest s j) e)) := Lib.hid (HB.out.next (numK_le _ _) k1.out k2 k3 k4)
            clear k1 k2 k3 k4 hR1 hR2 hR3 hjle hbel HB hck
            obtain ⟨q1, q2, q3, q4⟩ := HN.out
            have HL := Lib.hid (fun n => q_left q1 n)
            have HE := Lib.hid (fun n => q_err q1 n)
            have HD := Lib.hid (fun n => q_done q1 n)
            have HRL := Lib.hid (fun n => q_rleft q2 q3 hs3 n)
            have HRD := Lib.hid (fun n => q_rdone q2 q3 hs3 n)
            have qe := rr_err q2
            clear q1 q2 q3 q4
            go_wp2_with fail
            go_quiet ((first | (go_at_call 27; exact HL.out _) | (go_at_call 29; exact HE.out _) | (go_at_call 30; exact HD.out _) | (go_at_call 28; exact HRL.out _) | (go_at_call 31; exact HRD.out _)))
            go_wp2_with fail
            go_roundw
            case rel => exact ⟨k + 1, _, _, by go_num, by omega, Lib.hid ⟨HN.out.one, HN.out.two, HN.out.le, bel_drewN HN.out.bel _⟩⟩
            case measure => simp [intOf]; omega
          · have d1 : (c == -1) = false := by rw [beq_eq_false_iff_ne]; exact c1
            by_cases c2 : c = -2
            · have d2 : (c == -2) = true := by rw [beq_iff_eq]; exact c2
              clear c1 c2
              go_wp2_with fail
              refine (int_any p (rest s j) e _ hR1.out hrs).mono ?_
              rintro e' w2 ⟨rfl, k1, k2⟩
              have hR3 := Lib.hid (k2.at hR2.out (by omega))
              replace k1 := Lib.hid k1
              go_wp2_with fail
              refine (rint_any (p + 1) j s e _ hR3.out hjle.out hs3).mono ?_
              rintro e' w3 ⟨rfl, k3, k4⟩
              have HN : Hid (Both w p s w3 (j + numK (rest s j) e) (numE (rest s j) e)) := Lib.hid (HB.out.next (numK_le _ _) k1.out k2 k3 k4)
              clear k1 k2 k3 k4 hR1 hR2 hR3 hjle hbel HB hck
              obtain ⟨q1, q2, q3, q4⟩ := HN.out
              have HL := Lib.hid (fun n => q_left q1 n)
              have HE := Lib.hid (fun n => q_err q1 n)
              have HD := Lib.hid (fun n => q_done q1 n)
              have HRL := Lib.hid (fun n => q_rleft q2 q3 hs3 n)
              have HRD := Lib.hid (fun n => q_rdone q2 q3 hs3 n)
              have qe := rr_err q2
              clear q1 q2 q3 q4
              go_wp2_with fail
              go_quiet ((first | (go_at_call 27; exact HL.out _) | (go_at_call 29; exact HE.out _) | (go_at_call 30; exact HD.out _) | (go_at_call 28; exact HRL.out _) | (go_at_call 31; exact HRD.out _)))
              go_wp2_with fail
              go_roundw
              case rel => exact ⟨k + 1, _, _, by go_num, by omega, Lib.hid ⟨HN.out.one, HN.out.two, HN.out.le, bel_drewN HN.out.bel _⟩⟩
              case measure => simp [intOf]; omega
            · have d2 : (c == -2) = false := by rw [beq_eq_false_iff_ne]; exact c2
              by_cases c3 : c = -3
              · have d3 : (c == -3) = true := by rw [beq_iff_eq]; exact c3
                clear c1 c2 c3
                go_wp2_with fail
                refine (fix_any p (rest s j) e _ hR1.out).mono ?_
                rintro e' w2 ⟨rfl, k1, k2⟩
                have hR3 := Lib.hid (k2.at hR2.out (by omega))
                replace k1 := Lib.hid k1
                go_wp2_with fail
                refine (rfix_any (p + 1) j s e _ hR3.out hjle.out hs3).mono ?_
                rintro e' w3 ⟨rfl, k3, k4⟩
                have HN : Hid (Both w p s w3 (j + takeK (rest s j) e 8) (takeE (rest s j) e 8)) := Lib.hid (HB.out.next (takeK_le _ _ _) k1.out k2 k3 k4)
                clear k1 k2 k3 k4 hR1 hR2 hR3 hjle hbel HB hck
                obtain ⟨q1, q2, q3, q4⟩ := HN.out
                have HL := Lib.hid (fun n => q_left q1 n)
                have HE := Lib.hid (fun n => q_err q1 n)
                have HD := Lib.hid (fun n => q_done q1 n)
                have HRL := Lib.hid (fun n => q_rleft q2 q3 hs3 n)
                have HRD := Lib.hid (fun n => q_rdone q2 q3 hs3 n)
                have qe := rr_err q2
                clear q1 q2 q3 q4
                go_wp2_with fail
                go_quiet ((first | (go_at_call 27; exact HL.out _) | (go_at_call 29; exact HE.out _) | (go_at_call 30; exact HD.out _) | (go_at_call 28; exact HRL.out _) | (go_at_call 31; exact HRD.out _)))
                go_wp2_with fail
                go_roundw
                case rel => exact ⟨k + 1, _, _, by go_num, by omega, Lib.hid ⟨HN.out.one, HN.out.two, HN.out.le, bel_drewN HN.out.bel _⟩⟩
                case measure => simp [intOf]; omega
              · have d3 : (c == -3) = false := by rw [beq_eq_false_iff_ne]; exact c3
                clear c1 c2 c3
                have hcp : cb < p := by rw [← hp.out]; exact hcb
                have HT := Lib.hid (fun (y : Bool) W (h : Taking w p s j e c cb (off + k) false y W) => h.left hcp)
                have HU := Lib.hid (fun (x : Bool) W (h : Taking w p s j e c cb (off + k) x false W) => h.right hcp hjle.out hs3)
                have hS : Taking w p s j e c cb (off + k) false false wr.drew := ⟨hR1.out, hR2.out, hbel.out.drew, hck⟩
                have hKle := Lib.hid (takeK_le (rest s j) e c)
                clear hR1 hR2 hbel HB
                generalize takeS (rest s j) e c = tk at *
                go_wp2_with fail
                go_region_with (first | (go_at_call 25; (refine (HT.out _ _ (by assumption)).mono ?_); rintro e' W' ⟨rfl, hS'⟩; have hc' := hS'.cell) | (go_at_call 26; (refine (HU.out _ _ (by assumption)).mono ?_); rintro e' W' ⟨rfl, hS'⟩; have hc' := hS'.cell))
                all_goals
                  have hSS : Taking w p s j e c cb (off + k) true true W' := by assumption
                  have HN : Hid (Both w p s W' (j + takeK (rest s j) e c) (takeE (rest s j) e c)) := Lib.hid ⟨hSS.one, hSS.two, by have h1 := hKle.out; rw [rest_size] at h1; have h2 := hjle.out; omega, hSS.bel⟩
                  clear hSS hS hS' hc' hck HT HU hKle hjle
                  obtain ⟨q1, q2, q3, q4⟩ := HN.out
                  have HL := Lib.hid (fun n => q_left q1 n)
                  have HE := Lib.hid (fun n => q_err q1 n)
                  have HD := Lib.hid (fun n => q_done q1 n)
                  have HRL := Lib.hid (fun n => q_rleft q2 q3 hs3 n)
                  have HRD := Lib.hid (fun n => q_rdone q2 q3 hs3 n)
                  have qe := rr_err q2
                  clear q1 q2 q3 q4
                  go_wp2_with fail
                  go_quiet ((first | (go_at_call 27; exact HL.out _) | (go_at_call 29; exact HE.out _) | (go_at_call 30; exact HD.out _) | (go_at_call 28; exact HRL.out _) | (go_at_call 31; exact HRD.out _)))
                  go_wp2_with fail
                  go_roundw
                  case rel => exact ⟨k + 1, _, _, by go_num, by omega, Lib.hid ⟨HN.out.one, HN.out.two, HN.out.le, bel_drewN HN.out.bel _⟩⟩
                  case measure => simp [intOf]; omega
        · obtain rfl : k = zs.length := by omega
          have hge : decide (zs.length < zs.length) = false := decide_eq_false hlt
          have hbel := HB.out.bel
          clear hlt HC
          go_wp2_with fail
          refine (live_any _).mono ?_
          rintro e' w2 ⟨rfl, hb2⟩
          go_wp2_with fail
          go_ret
          have hpw := lt_of_block HB.out.one
          exact ⟨rfl, by rw [hp.out]; exact hbel.trans (hb2.mono (Nat.le_of_lt hpw))⟩

end Pk
end Go.Proofs.Ytnfooblofkblcaa
