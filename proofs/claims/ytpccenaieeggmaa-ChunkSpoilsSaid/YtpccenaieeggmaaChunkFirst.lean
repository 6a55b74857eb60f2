/-
  ONE CHUNK OFF SOME BYTES: in plain words, and by package chunk. Conditions: at least one byte, at most 100000.
-/
import Derived.Test.YtpccenaieeggmaaChunkVer
namespace Go.Proofs.Ytpccenaieeggmaa
open Go.RowKit Go.Shelf
namespace Ck
open Mem Pk Bd

/-- where the body begins; its length; the number's error; the body; where the chunk ends. -/
def fK (u : ByteArray) : Nat := 1 + numK (rest u 1) 0
def fN (u : ByteArray) : Nat := numN (rest u 1) 0
def fE1 (u : ByteArray) : Int := numE (rest u 1) 0
def fB (u : ByteArray) : ByteArray := (rest u (fK u)).extract 0 (fN u)
def fU (u : ByteArray) : Nat := fK u + fN u + 4
def firstE (u : ByteArray) : Int := if fE1 u ≠ 0 then fE1 u else if 1048576 < fN u then 10 else if u.size < fU u then 2 else if sealL (u.data.toList.take (fK u + fN u)) = u.data.toList.take (fU u) then 0 else 6
def firstC (u : ByteArray) : Ch := (((u.data.toList[0]?.getD 0).toNat : Int), fB u)
def noCh : Ch := (0, ByteArray.empty)
def firstV (u : ByteArray) : Value := .tuple #[vCh (if firstE u = 0 then firstC u else noCh), .int .i64 (if firstE u = 0 then (fU u : Int) else 0), .int .i64 (firstE u)]

theorem take_one {u : ByteArray} (h : 0 < u.size) : takeE u 0 1 = 0 ∧ takeK u 0 1 = 1 := take_ok (n := 1) ⟨by decide, by omega⟩
/-- the body and the sum are there, or not. -/
theorem two_takes (u : ByteArray) (h1 : fK u ≤ u.size) : ∀ r, r = rest u (fK u) → ∀ e2 k2 e3 k3, e2 = takeE r 0 (fN u : Int) → k2 = takeK r 0 (fN u : Int) → e3 = takeE (rest r k2) e2 4 → k3 = takeK (rest r k2) e2 4 →
    (u.size < fU u ∧ e3 = 2) ∨ (¬ u.size < fU u ∧ e3 = 0 ∧ k2 = fN u ∧ k3 = 4 ∧ e2 = 0) := by
  rintro r rfl e2 k2 e3 k3 rfl rfl rfl rfl
  unfold fU
  by_cases hn : fK u + fN u ≤ u.size
  · obtain ⟨a1, a2⟩ := take_ok (s := rest u (fK u)) (n := (fN u : Int)) ⟨by omega, by rw [rest_size]; omega⟩
    rw [a1, a2, Int.toNat_natCast, rest_rest]
    by_cases h4 : fK u + fN u + 4 ≤ u.size
    · obtain ⟨b1, b2⟩ := take_ok (s := rest u (fK u + fN u)) (n := 4) ⟨by omega, by rw [rest_size]; omega⟩
      exact .inr ⟨by omega, b1, rfl, b2, rfl⟩
    · obtain ⟨b1, b2⟩ := take_bad (s := rest u (fK u + fN u)) (n := 4) (by rw [rest_size]; omega)
      exact .inl ⟨by omega, b1⟩
  · obtain ⟨a1, a2⟩ := take_bad (s := rest u (fK u)) (n := (fN u : Int)) (by rw [rest_size]; omega)
    rw [a1, a2]
    exact .inl ⟨by omega, (take_err (by decide)).1⟩
theorem fK_le {u : ByteArray} (h : 0 < u.size) (h1 : fE1 u = 0) : fK u ≤ u.size ∧ 2 ≤ fK u := by
  unfold fE1 numE at h1
  rw [if_pos rfl] at h1
  obtain ⟨-, h3, h4, -⟩ := put_read (l := (rest u 1).data.toList) (m := (numR (rest u 1).data.toList).2.1) (K := (numR (rest u 1).data.toList).2.2) (by rw [← h1])
  rw [size_list, rest_size] at h4
  unfold fK numK
  rw [if_pos rfl]
  omega
theorem first_num {u : ByteArray} (h : fE1 u ≠ 0) : firstE u = fE1 u := if_pos h
theorem first_big {u : ByteArray} (h : fE1 u = 0) (h2 : 1048576 < fN u) : firstE u = 10 := by unfold firstE; rw [if_neg (by simp [h]), if_pos h2]
theorem first_cut {u : ByteArray} (h : fE1 u = 0) (h2 : ¬ 1048576 < fN u) (h3 : u.size < fU u) : firstE u = 2 := by unfold firstE; rw [if_neg (by simp [h]), if_neg h2, if_pos h3]
theorem first_sum {u : ByteArray} (h : fE1 u = 0) (h2 : ¬ 1048576 < fN u) (h3 : ¬ u.size < fU u) : firstE u = if sealL (u.data.toList.take (fK u + fN u)) = u.data.toList.take (fU u) then 0 else 6 := by unfold firstE; rw [if_neg (by simp [h]), if_neg h2, if_neg h3]
theorem firstV_bad {u : ByteArray} (h : firstE u ≠ 0) : firstV u = .tuple #[.agg #[.int .i64 0, .string ByteArray.empty], .int .i64 0, .int .i64 (firstE u)] := by
  unfold firstV
  rw [if_neg h, if_neg h]
  rfl
theorem firstV_good {u : ByteArray} (h : firstE u = 0) : firstV u = .tuple #[.agg #[.int .i64 ((u.data.toList[0]?.getD 0).toNat : Int), .string (fB u)], .int .i64 (fU u : Int), .int .i64 0] := by
  unfold firstV
  rw [if_pos h, if_pos h, h]
  rfl

/-- the result's variable is as it was. -/
def FS (w W : World) : Prop := W.heap[w.heap.size]? = some (.cells #[.int .i64 0, .string ⟨#[]⟩] 32) ∧ Below w.heap.size w W ∧ w.heap.size + 2 ≤ W.heap.size
theorem FS.kept {w W W' : World} (h : FS w W) (k : Kept (· = w.heap.size + 1) W W') : FS w W' := ⟨k.at h.1 (by omega), h.2.1.trans (k.to_below h.2.1.size (fun _ _ _ => by omega)), Nat.le_trans h.2.2 k.size⟩
theorem FS.below {w W W' : World} (h : FS w W) (k : Below W.heap.size W W') : FS w W' := ⟨(k.block _ (lt_of_block h.1)).trans h.1, h.2.1.trans (k.mono h.2.1.size), Nat.le_trans h.2.2 k.size⟩
theorem FS.drew {w W : World} (h : FS w W) : FS w W.drew := ⟨h.1, h.2.1.drew, h.2.2⟩
theorem FS.set {w W : World} (h : FS w W) (a : Addr) (ha : a.block = w.heap.size) (x : Value) : Below w.heap.size w (W.setCell a x) := h.2.1.setCell (by omega) x

theorem first_results (tmps : Array Value) (w : World) (B : Nat) (k : Int) (s : ByteArray) (h : tmps.getD 2 undef = .pointer (some ⟨B, 0, none⟩)) (hw : w.heap[B]? = some (.cells #[.int .i64 k, .string s] 32)) :
    (results Try.f29 tmps).run Try.prog w = .ok (.tuple #[.agg #[.int .i64 k, .string s], tmps.getD 3 undef, tmps.getD 4 undef]) w := by
  have hr : Try.f29.results = #[.cell 2 32, .tmp 3, .tmp 4] := rfl
  have c0 : w.cell? ⟨B, 0, none⟩ = some (.int .i64 k) := cell_at hw 0
  have c1 : w.cell? ⟨B, 1, none⟩ = some (.string s) := cell_at hw 1
  simp only [results, hr]
  simp only [Array.getD_eq_getD_getElem?] at h
  simp [Sem.run_bind, Result.andThen, h, go_sem]
  simp [c0, c1]
theorem bytes_ne {x y : ByteArray} (h : ¬ x = y) : (x.toList == y.toList) = false := by
  rw [beq_eq_false_iff_ne, ByteArray.toList_eq, ByteArray.toList_eq]
  exact fun e => h (ext_list e)

set_option maxRecDepth 100000 in
set_option maxHeartbeats 2000000 in
theorem first_any (u : ByteArray) (w : World) (hu : 0 < u.size) (hs : u.size ≤ 100000) :
    Calls Try.prog 29 #[.string u] w fun e w' => e = .returned (firstV u) ∧ Below w.heap.size w w' := by
  have HU := Lib.hid hu
  obtain ⟨t1, t2⟩ := take_one hu
  obtain ⟨T, hT⟩ : ∃ T, takeS u 0 1 = T := ⟨_, rfl⟩
  have hTs : T.size = 1 := by rw [← hT]; unfold takeS; rw [t2, ← size_list, head_list, List.length_take, size_list]; omega
  have hT0 : T.data.toList[0]?.getD 0 = u.data.toList[0]?.getD 0 := by rw [← hT]; unfold takeS; rw [t2, head_list, List.getElem?_take_of_lt (by omega)]
  replace hT0 := Lib.hid hT0
  have HN := Lib.hid (numN_lt (rest u 1) 0)
  go_enter Try.func29, Try.ntmps29
  go_wp2_with fail
  refine (new_any u _).mono ?_
  rintro e w1 ⟨rfl, hw1⟩
  obtain ⟨w0, hw0⟩ : ∃ w0, w.alloc (.cells #[.int .i64 0, .string ⟨#[]⟩] 32) = w0 := ⟨_, rfl⟩
  rw [hw0] at hw1
  rw [hw0]
  have hz0 : w0.heap.size = w.heap.size + 1 := by rw [← hw0]; simp
  have k1 : w1.heap[w.heap.size + 1]? = some (rd u 0) := by rw [hw1, ← hz0]; exact alloc_new w0 _
  have hF : FS w w1 := ⟨by rw [hw1, ← hw0]; exact alloc_at _ (alloc_new w _), by rw [hw1, ← hw0]; exact ((Below.refl _ _).alloc (Nat.le_refl _) _).alloc (by simp) _, by rw [hw1]; simp [hz0]⟩
  rw [hz0]
  clear hw1 hw0 hz0
  replace k1 := Lib.hid k1
  replace hF := Lib.hid hF
  go_wp2_with fail
  refine (take_any _ u 0 1 _ k1.out).mono ?_
  rintro e w2 ⟨rfl, k2, q2⟩
  rw [t1, t2] at k2
  rw [hT]
  replace hF := Lib.hid (hF.out.kept q2)
  replace k2 := Lib.hid k2
  clear q2 k1
  go_wp2_with fail
  refine (num_any _ (rest u 1) 0 _ k2.out (by rw [rest_size]; omega)).mono ?_
  rintro e w3 ⟨rfl, k3, q3⟩
  replace hF := Lib.hid (hF.out.kept q3)
  replace k3 := Lib.hid k3
  clear q3 k2
  go_wp2_with fail
  refine (err_any _ _ _ _ k3.out).mono ?_
  rintro e w4 ⟨rfl, rfl⟩
  rw [rest_rest] at k3
  change Hid (w3.heap[w.heap.size + 1]? = some (rd (rest u (fK u)) (fE1 u))) at k3
  change Hid (fN u < W64) at HN
  obtain ⟨E, hE⟩ : ∃ E, numE (rest u 1) 0 = E := ⟨_, rfl⟩
  obtain ⟨N, hN⟩ : ∃ N, numN (rest u 1) 0 = N := ⟨_, rfl⟩
  have hE2 : fE1 u = E := hE
  have hN2 : fN u = N := hN
  rw [hE, hN]
  rw [hE2] at k3
  rw [hN2] at HN
  clear hE hN
  have hr := hF.out.1
  have c0 : w3.cell? ⟨w.heap.size, 0, none⟩ = some (.int .i64 0) := cell_at hr 0
  have c1 : w3.cell? ⟨w.heap.size, 1, none⟩ = some (.string ⟨#[]⟩) := cell_at hr 1
  have f0 : w3.frozen? ⟨w.heap.size, 0, none⟩ = false := free_at hr 0
  have f1 : w3.frozen? ⟨w.heap.size, 1, none⟩ = false := free_at hr 1
  by_cases h1 : E = 0
  · subst h1
    obtain ⟨hK, hK2⟩ := fK_le HU.out hE2
    have hNb := HN.out
    by_cases h2 : 1048576 < N
    · have hv := Lib.hid (firstV_bad (u := u) (by rw [first_big hE2 (by rw [hN2]; exact h2)]; decide))
      rw [first_big hE2 (by rw [hN2]; exact h2)] at hv
      have hd : decide ((1048576 : Int) < (N : Nat)) = true := decide_eq_true (by omega)
      clear h2
      go_wp2_with fail
      (try simp only [Exit.inBlock, Exit.then])
      refine bodyPost_ret (v := .tuple #[.agg #[.int .i64 0, .string ⟨#[]⟩], .int .i64 0, .int .i64 10]) ?_ ?_ ?_
      · exact first_results _ _ w.heap.size 0 ⟨#[]⟩ rfl (set_at (set_at hr 0 _) 1 _)
      · rfl
      exact ⟨by rw [hv.out]; rfl, (hF.out.2.1.setCell (Nat.le_refl _) _).setCell (Nat.le_refl _) _⟩
    · have hd : decide ((1048576 : Int) < (N : Nat)) = false := decide_eq_false (by omega)
      have hwN : IntKind.i64.wrap (N : Int) = (N : Int) := IntWalk.i64_in _ (by omega)
      clear c0 c1 f0 f1 hr
      have HH := Lib.hid (two_takes u hK)
      rw [hN2] at HH
      have hfU : fU u = fK u + N + 4 := by unfold fU; rw [hN2]
      have HB : Hid (fB u = (rest u (fK u)).extract 0 N) := Lib.hid (by unfold fB; rw [hN2])
      have HS1 := Lib.hid (fun h3 => first_sum hE2 (by rw [hN2]; exact h2) h3)
      have HS2 := Lib.hid (fun h3 => first_cut hE2 (by rw [hN2]; exact h2) h3)
      rw [hN2] at HS1
      have hfK : Hid (fK u = fK u) := Lib.hid rfl
      generalize hU0 : fU u = Un at *
      replace hU0 := Lib.hid hU0
      generalize fK u = K at *
      go_wp2_with fail
      refine (take_any _ (rest u K) 0 (N : Int) _ k3.out).mono ?_
      rintro e w5 ⟨rfl, k5, q5⟩
      replace hF := Lib.hid (hF.out.kept q5)
      replace k5 := Lib.hid k5
      have HH2 := Lib.hid (HH.out _ rfl _ _ _ _ rfl rfl rfl rfl)
      have HB2 : Hid (takeS (rest u K) 0 (N : Int) = (rest u K).extract 0 (takeK (rest u K) 0 (N : Int))) := Lib.hid rfl
      clear q5 k3 HH
      generalize takeS (rest u K) 0 (N : Int) = body at *
      generalize takeK (rest u K) 0 (N : Int) = k2 at *
      generalize takeE (rest u K) 0 (N : Int) = e2 at *
      go_wp2_with fail
      refine (take_any _ _ e2 4 _ k5.out).mono ?_
      rintro e w6 ⟨rfl, k6, q6⟩
      replace hF := Lib.hid (hF.out.kept q6)
      replace k6 := Lib.hid k6
      clear q6 k5
      rw [rest_rest, rest_rest] at k6
      generalize takeS (rest (rest u K) k2) e2 4 = sum at *
      generalize takeK (rest (rest u K) k2) e2 4 = k3 at *
      generalize takeE (rest (rest u K) k2) e2 4 = e3 at *
      go_wp2_with fail
      refine (err_any _ _ _ _ k6.out).mono ?_
      rintro e w7 ⟨rfl, rfl⟩
      rcases HH2.out with ⟨h3, rfl⟩ | ⟨h3, rfl, rfl, rfl, rfl⟩
      · have hv := Lib.hid (firstV_bad (u := u) (by rw [HS2.out h3]; decide))
        rw [HS2.out h3] at hv
        have hr := hF.out.1
        have c0 : w6.cell? ⟨w.heap.size, 0, none⟩ = some (.int .i64 0) := cell_at hr 0
        have c1 : w6.cell? ⟨w.heap.size, 1, none⟩ = some (.string ⟨#[]⟩) := cell_at hr 1
        have f0 : w6.frozen? ⟨w.heap.size, 0, none⟩ = false := free_at hr 0
        have f1 : w6.frozen? ⟨w.heap.size, 1, none⟩ = false := free_at hr 1
        clear HH2
        go_wp2_with fail
        (try simp only [Exit.inBlock, Exit.then])
        refine bodyPost_ret (v := .tuple #[.agg #[.int .i64 0, .string ⟨#[]⟩], .int .i64 0, .int .i64 2]) ?_ ?_ ?_
        · exact first_results _ _ w.heap.size 0 ⟨#[]⟩ rfl (set_at (set_at hr 0 _) 1 _)
        · rfl
        exact ⟨by rw [hv.out]; rfl, (hF.out.2.1.setCell (Nat.le_refl _) _).setCell (Nat.le_refl _) _⟩
      · go_wp2_with fail
        refine (left_any _ _ _ _ k6.out).mono ?_
        rintro e w8 ⟨rfl, rfl⟩
        rw [rest_size]
        obtain ⟨X, hX⟩ : ∃ X, K + k2 = X := ⟨_, rfl⟩
        have hUn : Un = X + 4 := by omega
        have hXs : X + 4 ≤ u.size := by omega
        have hl1 : ((u.size - Un : Nat) : Int) = (u.size : Int) - (Un : Nat) := by omega
        have hsub : (u.size : Int) - ((u.size : Int) - (Un : Int)) = (Un : Int) := by omega
        have hw1 : IntKind.i64.wrap (Un : Int) = (Un : Int) := IntWalk.i64_in _ (by omega)
        have hw2 : IntKind.i64.wrap ((Un : Int) - 4) = (X : Int) := by rw [show (Un : Int) - 4 = (X : Int) by omega]; exact IntWalk.i64_in _ (by omega)
        rw [show K + (k2 + 4) = Un by omega, hl1]
        have hv0 := HS1.out h3
        rw [hX] at hv0
        have HSe := Lib.hid (fun W => sealed_any (u.extract 0 X) W (by rw [← size_list, head_list, List.length_take, size_list]; omega))
        rw [head_list] at HSe
        have hP1 : u.extract 0 Un = str (u.data.toList.take Un) := ext_list (by rw [head_list, str_data])
        have HSF : Hid (∀ W, FS w W → Calls Try.prog 24 #[.string (u.extract 0 X)] W fun e W' => e = .returned (.string (str (sealL (u.data.toList.take X)))) ∧ FS w W') := Lib.hid (fun W h => (HSe.out W).mono fun e W' h2 => ⟨h2.1, h.below h2.2⟩)
        have hi0 : (0 : Int) ≤ (X : Nat) := by omega
        have hi1 : (X : Int) ≤ (u.size : Nat) := by omega
        have hi2 : (0 : Int) ≤ (Un : Int) := by omega
        have hi3 : (Un : Int) ≤ (u.size : Nat) := by omega
        have hj1 : X ≤ u.size := by omega
        have hj2 : Un ≤ u.size := by omega
        have hFo := hF.out
        clear HSe hl1 HH2 HS1 HS2 hfU hX hXs hUn h2 h3 hd hwN
        generalize sealL (u.data.toList.take X) = P at *
        by_cases hq : str P = u.extract 0 Un
        · have he : firstE u = 0 := by rw [hv0]; exact if_pos (by rw [hP1] at hq; exact str_inj hq)
          have hv := Lib.hid (firstV_good he)
          rw [hq] at HSF
          clear hv0 hP1 hq
          go_wp2_with fail
          go_region_held3 (fun W => FS w W) (first | assumption | exact FS.drew hFo) (first | (go_at_call 24; (refine (HSF.out _ (by assumption)).mono ?_); rintro e' W' ⟨rfl, hS'⟩))
          all_goals
            have hr := hS'.1
            have c0 : W'.cell? ⟨w.heap.size, 0, none⟩ = some (.int .i64 0) := cell_at hr 0
            have c1 : W'.cell? ⟨w.heap.size, 1, none⟩ = some (.string ⟨#[]⟩) := cell_at hr 1
            have f0 : W'.frozen? ⟨w.heap.size, 0, none⟩ = false := free_at hr 0
            have f1 : W'.frozen? ⟨w.heap.size, 1, none⟩ = false := free_at hr 1
            have hT1 : 0 < T.size := by omega
            go_wp2_with fail
            (try simp only [Exit.inBlock, Exit.then])
            refine bodyPost_ret (v := .tuple #[.agg #[.int .i64 (wrap64 (T[0].toNat : Int)), .string body], .int .i64 Un, .int .i64 0]) ?_ ?_ ?_
            · exact first_results _ _ w.heap.size _ _ rfl (set_at (set_at hr 0 _) 1 _)
            · rfl
            exact ⟨by rw [hv.out, wrap_byte, byte_at, hT0.out, HB.out, HB2.out, hU0.out], (hS'.2.1.setCell (Nat.le_refl _) _).setCell (Nat.le_refl _) _⟩
        · have he : firstE u = 6 := by rw [hv0]; exact if_neg (fun e => hq (by rw [hP1, e]))
          have hv := Lib.hid (firstV_bad (u := u) (by rw [he]; decide))
          rw [he] at hv
          have hq2 := bytes_ne hq
          clear hv0 hP1 hq
          go_wp2_with fail
          go_region_held3 (fun W => FS w W) (first | assumption | exact FS.drew hFo) (first | (go_at_call 24; (refine (HSF.out _ (by assumption)).mono ?_); rintro e' W' ⟨rfl, hS'⟩))
          all_goals
            have hr := hS'.1
            have c0 : W'.cell? ⟨w.heap.size, 0, none⟩ = some (.int .i64 0) := cell_at hr 0
            have c1 : W'.cell? ⟨w.heap.size, 1, none⟩ = some (.string ⟨#[]⟩) := cell_at hr 1
            have f0 : W'.frozen? ⟨w.heap.size, 0, none⟩ = false := free_at hr 0
            have f1 : W'.frozen? ⟨w.heap.size, 1, none⟩ = false := free_at hr 1
            go_wp2_with fail
            (try simp only [Exit.inBlock, Exit.then])
            refine bodyPost_ret (v := .tuple #[.agg #[.int .i64 0, .string ⟨#[]⟩], .int .i64 0, .int .i64 6]) ?_ ?_ ?_
            · exact first_results _ _ w.heap.size 0 ⟨#[]⟩ rfl (set_at (set_at hr 0 _) 1 _)
            · rfl
            exact ⟨by rw [hv.out]; rfl, (hS'.2.1.setCell (Nat.le_refl _) _).setCell (Nat.le_refl _) _⟩
  · have hv := Lib.hid (firstV_bad (u := u) (by rw [first_num (by rw [hE2]; exact h1), hE2]; exact h1))
    rw [first_num (by rw [hE2]; exact h1), hE2] at hv
    have hd : (E != 0) = true := by rw [bne_iff_ne]; exact h1
    clear h1
    go_wp2_with fail
    (try simp only [Exit.inBlock, Exit.then])
    refine bodyPost_ret (v := .tuple #[.agg #[.int .i64 0, .string ⟨#[]⟩], .int .i64 0, .int .i64 E]) ?_ ?_ ?_
    · exact first_results _ _ w.heap.size 0 ⟨#[]⟩ rfl (set_at (set_at hr 0 _) 1 _)
    · rfl
    exact ⟨by rw [hv.out]; rfl, (hF.out.2.1.setCell (Nat.le_refl _) _).setCell (Nat.le_refl _) _⟩

end Ck
end Go.Proofs.Ytpccenaieeggmaa
