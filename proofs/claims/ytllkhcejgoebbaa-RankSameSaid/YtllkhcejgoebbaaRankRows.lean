/-
  WALKS: how two times, and two rows, stand: package rank's Before and Less, by closures that are tried one behind the other; and the document's. Conditions: the numbers are of their kinds.
-/
import Derived.Test.YtllkhcejgoebbaaRankWalks
import Derived.Laws.EntriesVeiled
namespace Go.Proofs.Ytllkhcejgoebbaa
open Go.RowKit
namespace Fl

/-- how two whole numbers stand. -/
def cmpI (x y : Int) : Int := if x < y then -1 else if y < x then 1 else 0
theorem cmpI_lt {x y : Int} (h : x < y) : cmpI x y = -1 := by unfold cmpI; rw [if_pos h]
theorem cmpI_gt {x y : Int} (h : y < x) : cmpI x y = 1 := by unfold cmpI; rw [if_neg (by omega), if_pos h]
theorem cmpI_eq (x : Int) : cmpI x x = 0 := by unfold cmpI; rw [if_neg (by omega), if_neg (by omega)]
theorem cmpI_cases (x y : Int) : (cmpI x y = -1 ∧ x < y) ∨ (cmpI x y = 1 ∧ y < x) ∨ (cmpI x y = 0 ∧ x = y) := by
  rcases Int.lt_trichotomy x y with h | h | h
  · exact .inl ⟨cmpI_lt h, h⟩
  · exact .inr (.inr ⟨by rw [h]; exact cmpI_eq y, h⟩)
  · exact .inr (.inl ⟨cmpI_gt h, h⟩)
/-- the first of two that is not nought. -/
def either (a b : Int) : Int := if a = 0 then b else a

set_option maxHeartbeats 400000 in
theorem cmpI_any (x y : Int) (w : World) :
    Calls Try.prog 33 #[.int .i64 x, .int .i64 y] w fun e w' => e = .returned (.int .i64 (cmpI x y)) ∧ w = w' := by
  rcases cmpI_cases x y with ⟨h, h'⟩ | ⟨h, h'⟩ | ⟨h, rfl⟩
  · rw [h]
    clear h
    go_enter Try.func33, Try.ntmps33
    go_wp2
    go_ret
    exact ⟨rfl, rfl⟩
  · rw [h]
    clear h
    go_enter Try.func33, Try.ntmps33
    go_wp2
    go_ret
    exact ⟨rfl, rfl⟩
  · rw [h]
    clear h
    go_enter Try.func33, Try.ntmps33
    go_wp2
    go_ret
    exact ⟨rfl, rfl⟩

theorem bcell {W w1 : World} (hb : Below W.heap.size W w1) : (∀ b o, b < W.heap.size → w1.cell? ⟨b, o, none⟩ = W.cell? ⟨b, o, none⟩) ∧ (∀ b o, b < W.heap.size → w1.frozen? ⟨b, o, none⟩ = W.frozen? ⟨b, o, none⟩) :=
  ⟨fun b o h => hb.cell (p := ⟨b, o, none⟩) h, fun b o h => hb.frozen (p := ⟨b, o, none⟩) h⟩

set_option maxHeartbeats 1000000 in
theorem first_any (f1 f2 : Nat) (cap : Array Value) (c1 c2 : Int) (bs : Nat) (w : World) (hbs : bs < w.heap.size)
    (h0 : w.cell? ⟨bs, 0, none⟩ = some (.func (.func f1) #[] cap)) (h1 : w.cell? ⟨bs, 1, none⟩ = some (.func (.func f2) #[] cap))
    (E1 : ∀ w1, (callFunc f1 cap).run Try.prog w1 = .ok (.enter f1 cap) w1) (E2 : ∀ w1, (callFunc f2 cap).run Try.prog w1 = .ok (.enter f2 cap) w1)
    (F1 : ∀ w1, Below w.heap.size w w1 → Calls Try.prog f1 cap w1 fun e w' => e = .returned (.int .i64 c1) ∧ Below w1.heap.size w1 w')
    (F2 : ∀ w1, Below w.heap.size w w1 → Calls Try.prog f2 cap w1 fun e w' => e = .returned (.int .i64 c2) ∧ Below w1.heap.size w1 w') :
    Calls Try.prog 30 #[.slice (some ⟨bs, 0, none⟩) 2 2] w fun e w' => e = .returned (.int .i64 (either c1 c2)) ∧ Below w.heap.size w w' := by
  have HF1 := Lib.hid F1
  have HF2 := Lib.hid F2
  have H0 := Lib.hid h0
  have H1 := Lib.hid h1
  clear F1 F2 h0 h1
  obtain ⟨c, hc⟩ : ∃ c, either c1 c2 = c := ⟨_, rfl⟩
  rw [hc]
  have HC := Lib.hid hc
  clear hc
  go_enter Try.func30, Try.ntmps30
  go_wp2_with fail
  go_loopw [8] (fun i wr => ∃ k : Nat, k ≤ 2 ∧ i = .int .i64 k ∧ Hid (0 < k → c1 = 0) ∧ Hid (1 < k → c2 = 0) ∧ Below w.heap.size w wr) (fun i _ => 2 - (intOf i).toNat)
  case atStart => exact ⟨0, by omega, rfl, Lib.hid (fun h => by omega), Lib.hid (fun h => by omega), Below.refl _ _⟩
  case round =>
    obtain ⟨k, hk, rfl, z1, z2, hb⟩ := hrel
    rcases (show k = 0 ∨ k = 1 ∨ k = 2 by omega) with rfl | rfl | rfl
    · have hc := (hb.cell (p := ⟨bs, 0, none⟩) hbs).trans H0.out
      go_wp2_with fail
      refine (HF1.out _ hb).mono ?_
      rintro e w2 ⟨rfl, hb2⟩
      have hb3 := hb.trans (hb2.mono hb.size)
      by_cases hz : c1 = 0
      · have hz' : (c1 != 0) = false := by rw [hz]; rfl
        have HZ := Lib.hid hz
        clear hz
        go_wp2_with fail
        go_roundw
        case rel => exact ⟨1, by omega, rfl, Lib.hid (fun _ => HZ.out), Lib.hid (fun h => by omega), hb3⟩
        case measure => simp [intOf]
      · have hz' : (c1 != 0) = true := by rw [bne_iff_ne]; exact hz
        have E : Hid (either c1 c2 = c1) := Lib.hid (by unfold either; rw [if_neg hz])
        clear hz
        go_wp2_with fail
        go_ret
        exact ⟨by rw [← HC.out, E.out]; rfl, hb3⟩
    · have hc := (hb.cell (p := ⟨bs, 1, none⟩) hbs).trans H1.out
      have E : Hid (either c1 c2 = c2) := Lib.hid (by unfold either; rw [if_pos (z1.out (by omega))])
      go_wp2_with fail
      refine (HF2.out _ hb).mono ?_
      rintro e w2 ⟨rfl, hb2⟩
      have hb3 := hb.trans (hb2.mono hb.size)
      by_cases hz : c2 = 0
      · have hz' : (c2 != 0) = false := by rw [hz]; rfl
        have HZ := Lib.hid hz
        clear hz
        go_wp2_with fail
        go_roundw
        case rel => exact ⟨2, by omega, rfl, Lib.hid (fun _ => z1.out (by omega)), Lib.hid (fun _ => HZ.out), hb3⟩
        case measure => simp [intOf]
      · have hz' : (c2 != 0) = true := by rw [bne_iff_ne]; exact hz
        clear hz
        go_wp2_with fail
        go_ret
        exact ⟨by rw [← HC.out, E.out]; rfl, hb3⟩
    · have E : Hid (either c1 c2 = 0) := Lib.hid (by unfold either; rw [if_pos (z1.out (by omega)), z2.out (by omega)])
      go_wp2_with fail
      go_ret
      exact ⟨by rw [← HC.out, E.out]; rfl, hb⟩

/-! ### times -/
set_option maxHeartbeats 400000 in
theorem before1_any (p q : Nat) (x y : Int) (w : World) (hp : w.cell? ⟨p, 0, none⟩ = some (.int .i64 x)) (hq : w.cell? ⟨q, 0, none⟩ = some (.int .i64 y)) :
    Calls Try.prog 34 #[.pointer (some ⟨p, 0, none⟩), .pointer (some ⟨q, 0, none⟩)] w fun e w' => e = .returned (.int .i64 (cmpI x y)) ∧ w = w' := by
  go_enter Try.func34, Try.ntmps34
  go_wp2_with fail
  refine (cmpI_any _ _ _).mono ?_
  rintro e w' ⟨rfl, rfl⟩
  go_wp2_with fail
  go_ret
  exact ⟨rfl, rfl⟩
set_option maxHeartbeats 400000 in
theorem before2_any (p q : Nat) (x y : Int) (w : World) (hp : w.cell? ⟨p, 1, none⟩ = some (.int .i64 x)) (hq : w.cell? ⟨q, 1, none⟩ = some (.int .i64 y)) :
    Calls Try.prog 35 #[.pointer (some ⟨p, 0, none⟩), .pointer (some ⟨q, 0, none⟩)] w fun e w' => e = .returned (.int .i64 (cmpI x y)) ∧ w = w' := by
  go_enter Try.func35, Try.ntmps35
  go_wp2_with fail
  refine (cmpI_any _ _ _).mono ?_
  rintro e w' ⟨rfl, rfl⟩
  go_wp2_with fail
  go_ret
  exact ⟨rfl, rfl⟩

def ahead (a b c d : Int) : Bool := decide (either (cmpI a c) (cmpI b d) < 0)

theorem enterB1 (args : Array Value) (w : World) : (callFunc 34 args).run Try.prog w = .ok (.enter 34 args) w := by simp [go_sem]
theorem enterB2 (args : Array Value) (w : World) : (callFunc 35 args).run Try.prog w = .ok (.enter 35 args) w := by simp [go_sem]
theorem enterL1 (args : Array Value) (w : World) : (callFunc 31 args).run Try.prog w = .ok (.enter 31 args) w := by simp [go_sem]
theorem enterL2 (args : Array Value) (w : World) : (callFunc 32 args).run Try.prog w = .ok (.enter 32 args) w := by simp [go_sem]

set_option maxHeartbeats 1000000 in
theorem before_any (a b c d : Int) (w : World) :
    Calls Try.prog 22 #[.agg #[.int .i64 a, .int .i64 b], .agg #[.int .i64 c, .int .i64 d]] w fun e w' => e = .returned (.bool (ahead a b c d)) ∧ Below w.heap.size w w' := by
  have hmf : ∀ (fn : Fn) (first cap : Array Value) (w : World), (Instr.makeFunc fn first cap).run Try.prog w = .ok (.func fn first cap) w := fun _ _ _ _ => rfl
  unfold ahead
  generalize hx : either (cmpI a c) (cmpI b d) = x
  have HX := Lib.hid hx
  clear hx
  go_enter Try.func22, Try.ntmps22
  go_wp2_with fail
  refine (first_any 34 35 #[.pointer (some ⟨w.heap.size, 0, none⟩), .pointer (some ⟨w.heap.size + 1, 0, none⟩)] (cmpI a c) (cmpI b d) (w.heap.size + 1 + 1) _ (by simp) (by simp [go_sem]) (by simp [go_sem]) (fun _ => enterB1 _ _) (fun _ => enterB2 _ _) ?_ ?_).mono ?_
  · intro w1 hb
    obtain ⟨hc, _⟩ := bcell hb
    refine (before1_any w.heap.size (w.heap.size + 1) a c w1 ?_ ?_).mono ?_
    · rw [hc _ _ (by simp; omega)]; simp [go_sem]
    · rw [hc _ _ (by simp)]; simp [go_sem]
    · rintro e w' ⟨rfl, rfl⟩
      exact ⟨rfl, Below.refl _ _⟩
  · intro w1 hb
    obtain ⟨hc, _⟩ := bcell hb
    refine (before2_any w.heap.size (w.heap.size + 1) b d w1 ?_ ?_).mono ?_
    · rw [hc _ _ (by simp; omega)]; simp [go_sem]
    · rw [hc _ _ (by simp)]; simp [go_sem]
    · rintro e w' ⟨rfl, rfl⟩
      exact ⟨rfl, Below.refl _ _⟩
  rintro e w1 ⟨rfl, hb⟩
  rw [HX.out]
  go_wp2_with fail
  go_ret
  exact ⟨rfl, (((Below.refl _ _).alloc (Nat.le_refl _) _).alloc (by simp) _ |>.alloc (by simp; omega) _).trans (hb.mono (by simp; omega))⟩

set_option maxHeartbeats 400000 in
theorem less1_any (p q : Nat) (x y : Nat) (w : World) (hx : x < 2 * S) (hy : y < 2 * S) (hp : w.cell? ⟨p, 3, none⟩ = some (.float .f64 x)) (hq : w.cell? ⟨q, 3, none⟩ = some (.float .f64 y)) :
    Calls Try.prog 31 #[.pointer (some ⟨p, 0, none⟩), .pointer (some ⟨q, 0, none⟩)] w fun e w' => e = .returned (.int .i64 (cmpN (keyN x) (keyN y))) ∧ Below w.heap.size w w' := by
  go_enter Try.func31, Try.ntmps31
  go_wp2_with fail
  refine (compare_any _ _ _ hx hy).mono ?_
  rintro e w1 ⟨rfl, hb⟩
  go_wp2_with fail
  go_ret
  exact ⟨rfl, hb⟩
set_option maxHeartbeats 400000 in
theorem less2_any (p q : Nat) (x y : Int) (w : World) (hp : w.cell? ⟨p, 0, none⟩ = some (.int .i64 x)) (hq : w.cell? ⟨q, 0, none⟩ = some (.int .i64 y)) :
    Calls Try.prog 32 #[.pointer (some ⟨p, 0, none⟩), .pointer (some ⟨q, 0, none⟩)] w fun e w' => e = .returned (.int .i64 (cmpI x y)) ∧ w = w' := by
  go_enter Try.func32, Try.ntmps32
  go_wp2_with fail
  refine (cmpI_any _ _ _).mono ?_
  rintro e w' ⟨rfl, rfl⟩
  go_wp2_with fail
  go_ret
  exact ⟨rfl, rfl⟩

/-- whether a row stands ahead of another one: by the ranks' keys, and the nodes. -/
def lessB (x : Nat) (a : Int) (y : Nat) (b : Int) : Bool := decide (either (cmpN x y) (cmpI a b) < 0)

set_option maxHeartbeats 1000000 in
theorem less_any (a b c d : Int) (s t : ByteArray) (x y : Nat) (w : World) (hx : x < 2 * S) (hy : y < 2 * S) :
    Calls Try.prog 20 #[.agg #[.int .i64 a, .int .i64 b, .string s, .float .f64 x], .agg #[.int .i64 c, .int .i64 d, .string t, .float .f64 y]] w fun e w' => e = .returned (.bool (lessB (keyN x) a (keyN y) c)) ∧ Below w.heap.size w w' := by
  have hmf : ∀ (fn : Fn) (first cap : Array Value) (w : World), (Instr.makeFunc fn first cap).run Try.prog w = .ok (.func fn first cap) w := fun _ _ _ _ => rfl
  unfold lessB
  generalize hz : either (cmpN (keyN x) (keyN y)) (cmpI a c) = z
  have HX := Lib.hid hz
  clear hz
  go_enter Try.func20, Try.ntmps20
  go_wp2_with fail
  refine (first_any 31 32 #[.pointer (some ⟨w.heap.size, 0, none⟩), .pointer (some ⟨w.heap.size + 1, 0, none⟩)] (cmpN (keyN x) (keyN y)) (cmpI a c) (w.heap.size + 1 + 1) _ (by simp) (by simp [go_sem]) (by simp [go_sem]) (fun _ => enterL1 _ _) (fun _ => enterL2 _ _) ?_ ?_).mono ?_
  · intro w1 hb
    obtain ⟨hc, _⟩ := bcell hb
    refine (less1_any w.heap.size (w.heap.size + 1) x y w1 hx hy ?_ ?_).mono ?_
    · rw [hc _ _ (by simp; omega)]; simp [go_sem]
    · rw [hc _ _ (by simp)]; simp [go_sem]
    · rintro e w' ⟨rfl, hb⟩
      exact ⟨rfl, hb⟩
  · intro w1 hb
    obtain ⟨hc, _⟩ := bcell hb
    refine (less2_any w.heap.size (w.heap.size + 1) a c w1 ?_ ?_).mono ?_
    · rw [hc _ _ (by simp; omega)]; simp [go_sem]
    · rw [hc _ _ (by simp)]; simp [go_sem]
    · rintro e w' ⟨rfl, rfl⟩
      exact ⟨rfl, Below.refl _ _⟩
  rintro e w1 ⟨rfl, hb⟩
  rw [HX.out]
  go_wp2_with fail
  go_ret
  exact ⟨rfl, (((Below.refl _ _).alloc (Nat.le_refl _) _).alloc (by simp) _ |>.alloc (by simp; omega) _).trans (hb.mono (by simp; omega))⟩

/-! ### the document's -/
theorem ahead_lt {a b c d : Int} (h : a < c) : ahead a b c d = true := by unfold ahead either; rw [cmpI_lt h]; rfl
theorem ahead_gt {a b c d : Int} (h : c < a) : ahead a b c d = false := by unfold ahead either; rw [cmpI_gt h]; rfl
theorem ahead_eq {a b d : Int} : ahead a b a d = decide (b < d) := by
  unfold ahead either
  rw [cmpI_eq, if_pos rfl]
  rcases cmpI_cases b d with ⟨h, h'⟩ | ⟨h, h'⟩ | ⟨h, h'⟩ <;> rw [h, Bool.eq_iff_iff, decide_eq_true_iff, decide_eq_true_iff] <;> omega

set_option maxHeartbeats 1000000 in
theorem rbefore_any (a b c d : Int) (w : World) :
    Calls Try.prog 23 #[.agg #[.int .i64 a, .int .i64 b], .agg #[.int .i64 c, .int .i64 d]] w fun e w' => e = .returned (.bool (ahead a b c d)) ∧ Below w.heap.size w w' := by
  rcases Int.lt_trichotomy a c with h | rfl | h
  · rw [ahead_lt h]
    go_enter Try.func23, Try.ntmps23
    go_wp2_with fail
    go_ret
    exact ⟨rfl, ((Below.refl _ _).alloc (Nat.le_refl _) _).alloc (by simp) _⟩
  · rw [ahead_eq]
    have h0 : decide (a < a) = false := by rw [decide_eq_false_iff_not]; omega
    have h1 : (a == a) = true := beq_self_eq_true a
    go_enter Try.func23, Try.ntmps23
    go_wp2_with fail
    go_ret
    exact ⟨rfl, ((Below.refl _ _).alloc (Nat.le_refl _) _).alloc (by simp) _⟩
  · rw [ahead_gt h]
    have h0 : decide (a < c) = false := by rw [decide_eq_false_iff_not]; omega
    have h1 : (a == c) = false := by rw [beq_eq_false_iff_ne]; omega
    go_enter Try.func23, Try.ntmps23
    go_wp2_with fail
    go_ret
    exact ⟨rfl, ((Below.refl _ _).alloc (Nat.le_refl _) _).alloc (by simp) _⟩

/-! ### rows -/
theorem lessB_lt {x y : Nat} {a b : Int} (h : x < y) : lessB x a y b = true := by unfold lessB either; rw [cmpN_lt h]; rfl
theorem lessB_gt {x y : Nat} {a b : Int} (h : y < x) : lessB x a y b = false := by unfold lessB either; rw [cmpN_gt h]; rfl
theorem lessB_eq {x : Nat} {a b : Int} : lessB x a x b = decide (a < b) := by
  unfold lessB either
  rw [cmpN_eq, if_pos rfl]
  rcases cmpI_cases a b with ⟨h, h'⟩ | ⟨h, h'⟩ | ⟨h, h'⟩ <;> rw [h, Bool.eq_iff_iff, decide_eq_true_iff, decide_eq_true_iff] <;> omega

set_option maxHeartbeats 1000000 in
theorem rless_any (a b c d : Int) (s t : ByteArray) (x y : Nat) (w : World) (hx : x < 2 * S) (hy : y < 2 * S) :
    Calls Try.prog 21 #[.agg #[.int .i64 a, .int .i64 b, .string s, .float .f64 x], .agg #[.int .i64 c, .int .i64 d, .string t, .float .f64 y]] w fun e w' => e = .returned (.bool (lessB (keyN x) a (keyN y) c)) ∧ Below w.heap.size w w' := by
  have HC := Lib.hid (fun w => rcompare_any x y w hx hy)
  rcases Nat.lt_trichotomy (keyN x) (keyN y) with h | h | h
  · rw [lessB_lt h]
    rw [cmpN_lt h] at HC
    clear h
    go_enter Try.func21, Try.ntmps21
    go_wp2_with fail
    refine (HC.out _).mono ?_
    rintro e w' ⟨rfl, rfl⟩
    go_wp2_with fail
    go_ret
    exact ⟨rfl, ((Below.refl _ _).alloc (Nat.le_refl _) _).alloc (by simp) _⟩
  · rw [h, lessB_eq]
    rw [h, cmpN_eq] at HC
    clear h
    go_enter Try.func21, Try.ntmps21
    go_wp2_with fail
    refine (HC.out _).mono ?_
    rintro e w' ⟨rfl, rfl⟩
    go_wp2_with fail
    go_ret
    exact ⟨rfl, ((Below.refl _ _).alloc (Nat.le_refl _) _).alloc (by simp) _⟩
  · rw [lessB_gt h]
    rw [cmpN_gt h] at HC
    clear h
    go_enter Try.func21, Try.ntmps21
    go_wp2_with fail
    refine (HC.out _).mono ?_
    rintro e w' ⟨rfl, rfl⟩
    go_wp2_with fail
    go_ret
    exact ⟨rfl, ((Below.refl _ _).alloc (Nat.le_refl _) _).alloc (by simp) _⟩

end Fl
end Go.Proofs.Ytllkhcejgoebbaa
