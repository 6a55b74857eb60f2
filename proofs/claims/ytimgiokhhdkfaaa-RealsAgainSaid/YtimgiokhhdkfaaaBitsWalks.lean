/-
  WALKS: what package bits computes. Conditions: the numbers are of their kinds.
-/
import Derived.Test.YtimgiokhhdkfaaaRows
import Derived.Test.YtimgiokhhdkfaaaFloatPlain
import Derived.WalkKit
import Derived.WalkSpells
import Derived.WalkLawsBesides
import Derived.Lib.Hide
import Derived.KernelRfl
import Derived.Deep.WholeRow
import Derived.Deep.Cut
namespace Go.Proofs.Ytimgiokhhdkfaaa
open Go.RowKit
namespace Fl

/-! ### the operations, as the walk meets them -/
abbrev fo (a b : Nat) : Option Ordering := FloatKind.f64.format.order a b
theorem fo_num (s t : Bool) {r q : Nat} (hr : r ≤ I) (hq : q ≤ I) : FloatKind.f64.format.order (wd s r) (wd t q) = some (compare (sg s r) (sg t q)) := order_all s t hr hq
theorem run_mul {a b r : Nat} (h : Ieee.double.mul a b = some r) (w : World) : (binOp .mul 33 (.float .f64 a) (.float .f64 b)).run Try.prog w = .ok (.float .f64 r) w :=
  run_float_arith w .mul _ .f64 a b r h
theorem run_div {a b r : Nat} (h : Ieee.double.div a b = some r) (w : World) : (binOp .quo 33 (.float .f64 a) (.float .f64 b)).run Try.prog w = .ok (.float .f64 r) w :=
  run_float_arith w .quo _ .f64 a b r h
theorem run_sub {a b r : Nat} (h : Ieee.double.sub a b = some r) (w : World) : (binOp .sub 33 (.float .f64 a) (.float .f64 b)).run Try.prog w = .ok (.float .f64 r) w :=
  run_float_arith w .sub _ .f64 a b r h
theorem zero_wd : (0 : Nat) = wd false 0 := by decide

theorem sg_zero (s : Bool) : sg s 0 = 0 := by cases s <;> rfl
theorem fo_zero (s : Bool) : FloatKind.f64.format.order (wd s 0) 0 = some .eq := by
  have := fo_num s false (r := 0) (q := 0) (by decide) (by decide)
  rw [← zero_wd] at this
  rw [this, sg_zero, sg_zero]
  rfl
theorem fo_neg {r : Nat} (h0 : 0 < r) (hr : r ≤ I) : FloatKind.f64.format.order (wd true r) 0 = some .lt := by
  have := fo_num true false hr (q := 0) (by decide)
  rw [← zero_wd] at this
  rw [this, sg_zero, Int.compare_eq_lt.2 (by unfold sg; simp; omega)]
theorem fo_pos {r : Nat} (h0 : 0 < r) (hr : r ≤ I) : FloatKind.f64.format.order (wd false r) 0 = some .gt := by
  have := fo_num false false hr (q := 0) (by decide)
  rw [← zero_wd] at this
  rw [this, sg_zero, Int.compare_eq_gt.2 (by unfold sg; simp; omega)]

set_option maxHeartbeats 400000 in
theorem minus_num (s : Bool) (r : Nat) (w : World) (hr : r ≤ I) :
    Calls Try.prog 41 #[.float .f64 (wd s r)] w fun e w' => e = .returned (.bool s) ∧ w = w' := by
  rcases Nat.eq_zero_or_pos r with h0 | h0
  · subst h0
    have ho := fo_zero s
    cases s
    · have hd := run_div (a := 4607182418800017408) (b := wd false 0) (r := wd false I) (by decide +kernel)
      have hi := fo_pos (r := I) (by decide) (Nat.le_refl _)
      generalize wd false 0 = b at *
      generalize wd false I = c at *
      go_enter Try.func41, Try.ntmps41
      go_wp2_with fail
      go_ret
      exact ⟨rfl, rfl⟩
    · have hd := run_div (a := 4607182418800017408) (b := wd true 0) (r := wd true I) (by decide +kernel)
      have hi := fo_neg (r := I) (by decide) (Nat.le_refl _)
      generalize wd true 0 = b at *
      generalize wd true I = c at *
      go_enter Try.func41, Try.ntmps41
      go_wp2_with fail
      go_ret
      exact ⟨rfl, rfl⟩
  · cases s
    · have ho := fo_pos h0 hr
      generalize wd false r = b at *
      go_enter Try.func41, Try.ntmps41
      go_wp2_with fail
      go_ret
      exact ⟨rfl, rfl⟩
    · have ho := fo_neg h0 hr
      generalize wd true r = b at *
      go_enter Try.func41, Try.ntmps41
      go_wp2_with fail
      go_ret
      exact ⟨rfl, rfl⟩

set_option maxHeartbeats 400000 in
theorem minus_nan (b : Nat) (w : World) (hb : b < 2 * S) (h : isNan b = true) :
    Calls Try.prog 41 #[.float .f64 b] w fun e w' => e = .returned (.bool false) ∧ w = w' := by
  have ho : FloatKind.f64.format.order b 0 = none := order_nan_left b 0 hb h
  go_enter Try.func41, Try.ntmps41
  go_wp2_with fail
  go_ret
  exact ⟨rfl, rfl⟩

/-! ### the powers -/
def pn (k : Nat) : Nat := 2 ^ (9 - k)
def pup (k : Nat) : Nat := R 1 (1074 + pn k)
def plow (k : Nat) : Nat := R 1 (1074 - pn k)
def prow (k : Nat) : Array Value := #[.int .i64 (pn k), .float .f64 (pup k), .float .f64 (plow k)]
def pows : Array Value := prow 0 ++ prow 1 ++ prow 2 ++ prow 3 ++ prow 4 ++ prow 5 ++ prow 6 ++ prow 7 ++ prow 8 ++ prow 9

theorem index_pow0 (w : World) : (Instr.index 76 (.agg pows) (.int .i64 ((0 : Nat) : Int))).run Try.prog w = .ok (.agg (prow 0)) w := by kernel_rfl
theorem index_pow1 (w : World) : (Instr.index 76 (.agg pows) (.int .i64 ((1 : Nat) : Int))).run Try.prog w = .ok (.agg (prow 1)) w := by kernel_rfl
theorem index_pow2 (w : World) : (Instr.index 76 (.agg pows) (.int .i64 ((2 : Nat) : Int))).run Try.prog w = .ok (.agg (prow 2)) w := by kernel_rfl
theorem index_pow3 (w : World) : (Instr.index 76 (.agg pows) (.int .i64 ((3 : Nat) : Int))).run Try.prog w = .ok (.agg (prow 3)) w := by kernel_rfl
theorem index_pow4 (w : World) : (Instr.index 76 (.agg pows) (.int .i64 ((4 : Nat) : Int))).run Try.prog w = .ok (.agg (prow 4)) w := by kernel_rfl
theorem index_pow5 (w : World) : (Instr.index 76 (.agg pows) (.int .i64 ((5 : Nat) : Int))).run Try.prog w = .ok (.agg (prow 5)) w := by kernel_rfl
theorem index_pow6 (w : World) : (Instr.index 76 (.agg pows) (.int .i64 ((6 : Nat) : Int))).run Try.prog w = .ok (.agg (prow 6)) w := by kernel_rfl
theorem index_pow7 (w : World) : (Instr.index 76 (.agg pows) (.int .i64 ((7 : Nat) : Int))).run Try.prog w = .ok (.agg (prow 7)) w := by kernel_rfl
theorem index_pow8 (w : World) : (Instr.index 76 (.agg pows) (.int .i64 ((8 : Nat) : Int))).run Try.prog w = .ok (.agg (prow 8)) w := by kernel_rfl
theorem index_pow9 (w : World) : (Instr.index 76 (.agg pows) (.int .i64 ((9 : Nat) : Int))).run Try.prog w = .ok (.agg (prow 9)) w := by kernel_rfl
theorem index_pow (k : Nat) (h : k < 10) (w : World) : (Instr.index 76 (.agg pows) (.int .i64 (k : Int))).run Try.prog w = .ok (.agg (prow k)) w :=
  match k, h with
  | 0, _ => index_pow0 w
  | 1, _ => index_pow1 w
  | 2, _ => index_pow2 w
  | 3, _ => index_pow3 w
  | 4, _ => index_pow4 w
  | 5, _ => index_pow5 w
  | 6, _ => index_pow6 w
  | 7, _ => index_pow7 w
  | 8, _ => index_pow8 w
  | 9, _ => index_pow9 w

theorem size_pows : (Try.prog.info? 76).map (·.size) = some 30 := by kernel_rfl
theorem pows_size : pows.size = 30 := by decide +kernel
theorem pows_one : pows.all (·.oneCell') = true := by decide +kernel

section
variable {P : Program}
theorem wpList_build_as {ops : Array Oper} {rest : List Oper} {o : Oper} {a : Act} {w : World} {Q : Exit → Act → World → Prop} (hg : o.guard = none) (t : TypeId) (parts : Array (Nat × Operand)) (ho : o.op = .build t parts)
    (cs : Array Value) (ps : List (Nat × Value)) (hp : (parts.map fun (i, x) => (i, a.eval x)).toList = ps) (hf : P.built t ps = some cs)
    (h : wpList P ops Q rest (a.put o.dst (.agg cs)) w) : wpList P ops Q (o :: rest) a w := by
  subst hp
  refine wpList_build hg t parts ho (by rw [hf]; rfl) ?_
  rw [hf]
  exact h
end
theorem built0 : Try.prog.built 75 [(0, .int .i64 512), (1, .float .f64 6913025428013711360), (2, .float .f64 2301339409586323456)] = some (prow 0) := by kernel_rfl
theorem built1 : Try.prog.built 75 [(0, .int .i64 256), (1, .float .f64 5760103923406864384), (2, .float .f64 3454260914193170432)] = some (prow 1) := by kernel_rfl
theorem built2 : Try.prog.built 75 [(0, .int .i64 128), (1, .float .f64 5183643171103440896), (2, .float .f64 4030721666496593920)] = some (prow 2) := by kernel_rfl
theorem built3 : Try.prog.built 75 [(0, .int .i64 64), (1, .float .f64 4895412794951729152), (2, .float .f64 4318952042648305664)] = some (prow 3) := by kernel_rfl
theorem built4 : Try.prog.built 75 [(0, .int .i64 32), (1, .float .f64 4751297606875873280), (2, .float .f64 4463067230724161536)] = some (prow 4) := by kernel_rfl
theorem built5 : Try.prog.built 75 [(0, .int .i64 16), (1, .float .f64 4679240012837945344), (2, .float .f64 4535124824762089472)] = some (prow 5) := by kernel_rfl
theorem built6 : Try.prog.built 75 [(0, .int .i64 8), (1, .float .f64 4643211215818981376), (2, .float .f64 4571153621781053440)] = some (prow 6) := by kernel_rfl
theorem built7 : Try.prog.built 75 [(0, .int .i64 4), (1, .float .f64 4625196817309499392), (2, .float .f64 4589168020290535424)] = some (prow 7) := by kernel_rfl
theorem built8 : Try.prog.built 75 [(0, .int .i64 2), (1, .float .f64 4616189618054758400), (2, .float .f64 4598175219545276416)] = some (prow 8) := by kernel_rfl
theorem built9 : Try.prog.built 75 [(0, .int .i64 1), (1, .float .f64 4611686018427387904), (2, .float .f64 4602678819172646912)] = some (prow 9) := by kernel_rfl
theorem builtAll : Try.prog.built 76 [(0, .agg (prow 0)), (1, .agg (prow 1)), (2, .agg (prow 2)), (3, .agg (prow 3)), (4, .agg (prow 4)), (5, .agg (prow 5)), (6, .agg (prow 6)), (7, .agg (prow 7)), (8, .agg (prow 8)), (9, .agg (prow 9))] = some pows := by kernel_rfl

set_option maxHeartbeats 1000000 in
theorem powers_any (w : World) :
    Calls Try.prog 53 #[] w fun e w' => e = .returned (.agg pows) ∧ Below w.heap.size w w' := by
  go_enter Try.func53, Try.ntmps53
  go_upto_region 1 with (fail)
  refine wp_region_lit ?_
  refine wpList_build_as rfl 75 #[(0, Operand.const (.int .i64 512)), (1, Operand.const (.float .f64 6913025428013711360)), (2, Operand.const (.float .f64 2301339409586323456))] rfl (prow 0) [(0, .int .i64 512), (1, .float .f64 6913025428013711360), (2, .float .f64 2301339409586323456)] (by simp [Act.eval]) built0 ?_
  refine wpList_build_as rfl 75 #[(0, Operand.const (.int .i64 256)), (1, Operand.const (.float .f64 5760103923406864384)), (2, Operand.const (.float .f64 3454260914193170432))] rfl (prow 1) [(0, .int .i64 256), (1, .float .f64 5760103923406864384), (2, .float .f64 3454260914193170432)] (by simp [Act.eval]) built1 ?_
  refine wpList_build_as rfl 75 #[(0, Operand.const (.int .i64 128)), (1, Operand.const (.float .f64 5183643171103440896)), (2, Operand.const (.float .f64 4030721666496593920))] rfl (prow 2) [(0, .int .i64 128), (1, .float .f64 5183643171103440896), (2, .float .f64 4030721666496593920)] (by simp [Act.eval]) built2 ?_
  refine wpList_build_as rfl 75 #[(0, Operand.const (.int .i64 64)), (1, Operand.const (.float .f64 4895412794951729152)), (2, Operand.const (.float .f64 4318952042648305664))] rfl (prow 3) [(0, .int .i64 64), (1, .float .f64 4895412794951729152), (2, .float .f64 4318952042648305664)] (by simp [Act.eval]) built3 ?_
  refine wpList_build_as rfl 75 #[(0, Operand.const (.int .i64 32)), (1, Operand.const (.float .f64 4751297606875873280)), (2, Operand.const (.float .f64 4463067230724161536))] rfl (prow 4) [(0, .int .i64 32), (1, .float .f64 4751297606875873280), (2, .float .f64 4463067230724161536)] (by simp [Act.eval]) built4 ?_
  refine wpList_build_as rfl 75 #[(0, Operand.const (.int .i64 16)), (1, Operand.const (.float .f64 4679240012837945344)), (2, Operand.const (.float .f64 4535124824762089472))] rfl (prow 5) [(0, .int .i64 16), (1, .float .f64 4679240012837945344), (2, .float .f64 4535124824762089472)] (by simp [Act.eval]) built5 ?_
  refine wpList_build_as rfl 75 #[(0, Operand.const (.int .i64 8)), (1, Operand.const (.float .f64 4643211215818981376)), (2, Operand.const (.float .f64 4571153621781053440))] rfl (prow 6) [(0, .int .i64 8), (1, .float .f64 4643211215818981376), (2, .float .f64 4571153621781053440)] (by simp [Act.eval]) built6 ?_
  refine wpList_build_as rfl 75 #[(0, Operand.const (.int .i64 4)), (1, Operand.const (.float .f64 4625196817309499392)), (2, Operand.const (.float .f64 4589168020290535424))] rfl (prow 7) [(0, .int .i64 4), (1, .float .f64 4625196817309499392), (2, .float .f64 4589168020290535424)] (by simp [Act.eval]) built7 ?_
  refine wpList_build_as rfl 75 #[(0, Operand.const (.int .i64 2)), (1, Operand.const (.float .f64 4616189618054758400)), (2, Operand.const (.float .f64 4598175219545276416))] rfl (prow 8) [(0, .int .i64 2), (1, .float .f64 4616189618054758400), (2, .float .f64 4598175219545276416)] (by simp [Act.eval]) built8 ?_
  refine wpList_build_as rfl 75 #[(0, Operand.const (.int .i64 1)), (1, Operand.const (.float .f64 4611686018427387904)), (2, Operand.const (.float .f64 4602678819172646912))] rfl (prow 9) [(0, .int .i64 1), (1, .float .f64 4611686018427387904), (2, .float .f64 4602678819172646912)] (by simp [Act.eval]) built9 ?_
  simp only [Act.put, Array.setIfInBounds_def, List.size_toArray, List.length_cons, List.length_nil, Nat.reduceAdd, Nat.reduceLT, dite_true, List.set_toArray, List.set]
  refine wpList_build_as rfl 76 #[(0, Operand.tmp 1), (1, Operand.tmp 2), (2, Operand.tmp 3), (3, Operand.tmp 4), (4, Operand.tmp 5), (5, Operand.tmp 6), (6, Operand.tmp 7), (7, Operand.tmp 8), (8, Operand.tmp 9), (9, Operand.tmp 10)] rfl pows [(0, .agg (prow 0)), (1, .agg (prow 1)), (2, .agg (prow 2)), (3, .agg (prow 3)), (4, .agg (prow 4)), (5, .agg (prow 5)), (6, .agg (prow 6)), (7, .agg (prow 7)), (8, .agg (prow 8)), (9, .agg (prow 9))] ?_ builtAll ?_
  · simp [Act.eval]
  refine wpList_store_row rfl 76 (.tmp 0) (.tmp 11) rfl w.heap.size pows rfl rfl 76 _ (heap_alloc_last w _) (by rw [size_pows, pows_size]) (by rw [pows_size]; rfl) pows_one ?_
  rw [World.setRow_alloc_new]
  refine wpList_nil ?_
  go_wp2_with fail
  refine bodyPost_ret (v := .agg pows) (results_cell_row rfl _ _ w.heap.size 76 pows (0, 0) _ rfl (heap_alloc_last w _) Try.underlying76 rfl (by rw [size_pows, pows_size])) rfl ?_
  exact ⟨rfl, (Below.refl _ _).alloc (Nat.le_refl _) _⟩

theorem run_store_float {P : Program} {w : World} (a : Addr) (k : FloatKind) (b : Nat) (m : Mode) : (store a (.float k b) m).run P w = stored P w a (.float k b) m := run_store P w a _ m rfl
attribute [local go_sem] run_store_float

/-! ### scale -/
def bd : Nat → Nat
  | 0 => 2048
  | k + 1 => pn k
theorem pn_le (k : Nat) (h : k < 10) : 1 ≤ pn k ∧ pn k ≤ 512 := by
  unfold pn
  exact ⟨Nat.one_le_two_pow, by have := Nat.pow_le_pow_right (show 0 < 2 by decide) (show 9 - k ≤ 9 by omega); omega⟩
theorem bd_le (k : Nat) (h : k ≤ 10) : 1 ≤ bd k ∧ bd k ≤ 2048 := by
  cases k with
  | zero => exact ⟨by decide, Nat.le_refl _⟩
  | succ k => have := pn_le k (by omega); show 1 ≤ pn k ∧ pn k ≤ 2048; omega
theorem R_mono {m j i : Nat} (hm : m < 2 * B) (h : j ≤ i) : R m j ≤ R m i := (R_le hm hm).2 (Nat.mul_le_mul_left _ (Nat.pow_le_pow_right (by decide) h))
theorem R_one_fin {i : Nat} (h : i < 2098) : R 1 i < I := by
  have e : Nat.log2 1 = 0 := by decide
  exact R_fin (by decide) one_lt (by omega)

theorem mul_up {m j k : Nat} (hm : m < 2 * B) (hk : k < 10) (hf : R m (j + pn k) < I) : Ieee.double.mul (R m j) (pup k) = some (R m (j + pn k)) := by
  have := pn_le k hk
  have := mul_pow false (m := m) (j := j) (i := 1074 + pn k) hm (Nat.lt_of_le_of_lt (R_mono hm (by omega)) hf) (R_one_fin (by omega)) (by omega)
  rw [wd_false, show j + (1074 + pn k) - 1074 = j + pn k from by omega, Nat.min_eq_left (Nat.le_of_lt hf), wd_false] at this
  exact this
theorem mul_low {m j k : Nat} (hm : m < 2 * B) (hk : k < 10) (hf : R m j < I) (hj : pn k ≤ j) : Ieee.double.mul (R m j) (plow k) = some (R m (j - pn k)) := by
  have := pn_le k hk
  have := mul_pow false (m := m) (j := j) (i := 1074 - pn k) hm hf (R_one_fin (by omega)) (by omega)
  have hf' : R m (j - pn k) < I := Nat.lt_of_le_of_lt (R_mono hm (by omega)) hf
  rw [wd_false, show j + (1074 - pn k) - 1074 = j - pn k from by omega, Nat.min_eq_left (Nat.le_of_lt hf'), wd_false] at this
  exact this

set_option maxHeartbeats 1000000 in
theorem scale_any (m j0 J : Nat) (n0 : Int) (w : World) (hm : m < 2 * B) (hJ : (j0 : Int) + n0 = J) (f1 : R m j0 < I) (f2 : R m J < I) (hn : -2048 < n0 ∧ n0 < 2048) :
    Calls Try.prog 49 #[.float .f64 (R m j0), .int .i64 n0] w fun e w' => e = .returned (.float .f64 (R m J)) ∧ Below w.heap.size w w' := by
  go_enter Try.func49, Try.ntmps49
  go_wp2_with fail
  refine (powers_any _).mono ?_
  rintro e w1 ⟨rfl, hb1⟩
  have HI := Lib.hid index_pow
  generalize pows = P at *
  replace hJ := Lib.hid hJ
  go_wp2_with fail
  go_loopw [0, 1, 8] (fun f n i wr => ∃ (k j : Nat) (x : Int), k ≤ 10 ∧ i = .int .i64 k ∧ n = .int .i64 x ∧ f = .float .f64 (R m j) ∧ (j : Int) + x ≤ J ∧ (J : Int) ≤ j + x ∧ R m j < I ∧ -(bd k : Int) < x ∧ x < bd k ∧ Below w.heap.size w wr) (fun _ _ i _ => 10 - (intOf i).toNat)
  case atStart => exact ⟨0, j0, n0, by omega, rfl, rfl, rfl, by rw [hJ.out]; omega, by rw [hJ.out]; omega, f1, hn.1, hn.2, hb1⟩
  case round =>
    obtain ⟨k, j, x, hk, rfl, rfl, rfl, hs1, hs2, hf, hx1, hx2, hb⟩ := hrel
    have hbd := bd_le k hk
    by_cases hk10 : k < 10
    · have hix := HI.out k hk10
      have hpn := pn_le k hk10
      unfold prow at hix
      have HU := Lib.hid (fun j => @mul_up m j k hm hk10)
      have HL := Lib.hid (fun j => @mul_low m j k hm hk10)
      have HB := Lib.hid (show bd (k + 1) = pn k from rfl)
      generalize pn k = p at *
      generalize pup k = u at *
      generalize plow k = l at *
      go_wp2_with fail
      go_loop [0, 1] (fun f n => ∃ (j : Nat) (x : Int), n = .int .i64 x ∧ f = .float .f64 (R m j) ∧ (j : Int) + x ≤ J ∧ (J : Int) ≤ j + x ∧ R m j < I ∧ -(bd k : Int) < x ∧ x < 2048) (fun _ n => (intOf n).toNat)
      case atStart => exact ⟨j, x, rfl, rfl, hs1, hs2, hf, hx1, by omega⟩
      case round =>
        clear hs1 hs2 hf hx1 hx2
        obtain ⟨j, x, rfl, rfl, hs1, hs2, hf, hx1, hx2⟩ := hrel
        by_cases hp : (p : Int) ≤ x
        · have hf' : R m (j + p) < I := Nat.lt_of_le_of_lt (R_mono hm (by omega)) f2
          have hmul := run_mul (HU.out j hf')
          go_wp2_with fail
          go_round
          case rel => exact ⟨j + p, x - p, rfl, rfl, by omega, by omega, hf', by omega, by omega⟩
          case measure => simp [intOf]; omega
        · go_wp2_with fail
          go_loop [0, 1] (fun f n => ∃ (j : Nat) (x : Int), n = .int .i64 x ∧ f = .float .f64 (R m j) ∧ (j : Int) + x ≤ J ∧ (J : Int) ≤ j + x ∧ R m j < I ∧ -2048 < x ∧ x < p) (fun _ n => (-(intOf n)).toNat)
          case atStart => exact ⟨j, x, rfl, rfl, hs1, hs2, hf, by omega, by omega⟩
          case round =>
            clear hs1 hs2 hf hx1 hx2 hp
            obtain ⟨j, x, rfl, rfl, hs1, hs2, hf, hx1, hx2⟩ := hrel
            by_cases hp : x ≤ -(p : Int)
            · have hj : p ≤ j := by omega
              have hf' : R m (j - p) < I := Nat.lt_of_le_of_lt (R_mono hm (by omega)) hf
              have hmul := run_mul (HL.out j hf hj)
              go_wp2_with fail
              go_round
              case rel => exact ⟨j - p, x + p, rfl, rfl, by omega, by omega, hf', by omega, by omega⟩
              case measure => simp [intOf]; omega
            · go_wp2_with fail
              go_roundw
              case rel => exact ⟨k + 1, j, x, by omega, by go_num, rfl, rfl, hs1, hs2, hf, by rw [HB.out]; omega, by rw [HB.out]; omega, hb.alloc hb.size _⟩
              case measure => simp [intOf]; omega
    · have hk10 : k = 10 := by omega
      subst hk10
      have h1 : bd 10 = 1 := by decide
      rw [h1] at hx1 hx2
      have hx0 : x = 0 := by omega
      subst hx0
      obtain rfl : j = J := by omega
      clear hJ h1
      go_wp2_with fail
      go_ret
      exact ⟨rfl, hb⟩

/-! ### split -/
theorem ord_R {a b : Nat} (ha : a ≤ I) (hb : b ≤ I) : FloatKind.f64.format.order a b = some (compare (a : Int) (b : Int)) := by
  have := fo_num false false ha hb
  rw [wd_false, wd_false] at this
  rw [this]
  unfold sg
  simp
theorem ord_lt {a b : Nat} (hb : b ≤ I) (h : a < b) : FloatKind.f64.format.order a b = some .lt := by
  rw [ord_R (by omega) hb, Int.compare_eq_lt.2 (by omega)]
theorem ord_ge {a b : Nat} (ha : a ≤ I) (h : b ≤ a) : FloatKind.f64.format.order a b = some .gt ∨ FloatKind.f64.format.order a b = some .eq := by
  rw [ord_R ha (by omega)]
  rcases Nat.lt_or_ge b a with h' | h'
  · rw [Int.compare_eq_gt.2 (by omega)]; exact .inl rfl
  · rw [Int.compare_eq_eq.2 (by omega)]; exact .inr rfl
theorem pow_ge {m j i : Nat} (h0 : 0 < m) (hm : m < 2 * B) (hf : R m j < I) (h : i ≤ m.log2 + j) : FloatKind.f64.format.order (R m j) (R 1 i) = some .gt ∨ FloatKind.f64.format.order (R m j) (R 1 i) = some .eq :=
  ord_ge (Nat.le_of_lt hf) ((pow_le_R h0 hm).2 h)
theorem pow_lt {m j i : Nat} (h0 : 0 < m) (hm : m < 2 * B) (hi : i < 2098) (h : m.log2 + j < i) : FloatKind.f64.format.order (R m j) (R 1 i) = some .lt := by
  refine ord_lt (Nat.le_of_lt (R_one_fin hi)) ?_
  have := @pow_le_R m j i h0 hm
  omega

def ub : Nat → Nat
  | 0 => 1024
  | k + 1 => pn k
theorem ub_two (k : Nat) (h : k < 10) : ub k = 2 * pn k := by
  cases k with
  | zero => rfl
  | succ k =>
    show pn k = 2 * pn (k + 1)
    unfold pn
    rw [show 9 - k = (9 - (k + 1)) + 1 from by omega, Nat.pow_succ, Nat.mul_comm]

theorem fin_of {m j : Nat} (h0 : 0 < m) (hm : m < 2 * B) (h : m.log2 + j < 2098) : R m j < I := R_fin h0 hm h

set_option maxHeartbeats 4000000 in
theorem split_any (m j0 : Nat) (w : World) (h0 : 0 < m) (hm : m < 2 * B) (hf0 : m.log2 + j0 < 2098) :
    Calls Try.prog 42 #[.float .f64 (R m j0)] w fun e w' => e = .returned (.tuple #[.float .f64 (R m (1074 - m.log2)), .int .i64 ((m.log2 : Int) + j0 - 1074)]) ∧ Below w.heap.size w w' := by
  have hL : m.log2 ≤ 52 := (norm_range h0 hm).2.2
  go_enter Try.func42, Try.ntmps42
  go_wp2_with fail
  refine (powers_any _).mono ?_
  rintro e w1 ⟨rfl, hb1⟩
  have HI := Lib.hid index_pow
  generalize pows = P at *
  go_wp2_with fail
  go_loopw [0, 4, 8] (fun f n i wr => ∃ (k j : Nat), k ≤ 10 ∧ i = .int .i64 k ∧ n = .int .i64 ((j0 : Int) - j) ∧ f = .float .f64 (R m j) ∧ m.log2 + j < 1074 + ub k ∧ Below w.heap.size w wr) (fun _ _ i _ => 10 - (intOf i).toNat)
  case atStart => exact ⟨0, j0, by omega, rfl, by congr 1; omega, rfl, by show _ < 1074 + 1024; omega, hb1⟩
  case round =>
    obtain ⟨k, j, hk, rfl, rfl, rfl, ht, hb⟩ := hrel
    by_cases hk10 : k < 10
    · have hix := HI.out k hk10
      have hpn := pn_le k hk10
      have hub := ub_two k hk10
      rw [hub] at ht
      clear hub
      unfold prow at hix
      have HU := Lib.hid (fun j => @mul_up m j k hm hk10)
      have HL := Lib.hid (fun j => @mul_low m j k hm hk10)
      have HB := Lib.hid (show ub (k + 1) = pn k from rfl)
      have HA := Lib.hid (fun j hf h => @pow_ge m j (1074 + pn k) h0 hm hf h)
      have HC := Lib.hid (fun j h => @pow_lt m j (1074 + pn k) h0 hm (by omega) h)
      have HD := Lib.hid (fun j hf h => @pow_ge m j (1074 - pn k) h0 hm hf h)
      have HE := Lib.hid (fun j h => @pow_lt m j (1074 - pn k) h0 hm (by omega) h)
      have hf : R m j < I := fin_of h0 hm (by omega)
      change Hid (∀ j hf h, FloatKind.f64.format.order (R m j) (pup k) = some .gt ∨ FloatKind.f64.format.order (R m j) (pup k) = some .eq) at HA
      change Hid (∀ j h, FloatKind.f64.format.order (R m j) (pup k) = some .lt) at HC
      change Hid (∀ j hf h, FloatKind.f64.format.order (R m j) (plow k) = some .gt ∨ FloatKind.f64.format.order (R m j) (plow k) = some .eq) at HD
      change Hid (∀ j h, FloatKind.f64.format.order (R m j) (plow k) = some .lt) at HE
      generalize pn k = p at *
      generalize pup k = u at *
      generalize plow k = l at *
      by_cases hp : 1074 + p ≤ m.log2 + j
      · have hf2 : R m (j - p) < I := fin_of h0 hm (by omega)
        have hmul := run_mul (HL.out j hf (by omega))
        rcases HA.out j hf hp with ho | ho <;> rcases HD.out (j - p) hf2 (by omega) with ho2 | ho2
        all_goals
          go_wp2_with fail
          go_roundw
          case rel => exact ⟨k + 1, j - p, by omega, by go_num, by congr 1; omega, rfl, by rw [HB.out]; omega, hb.alloc hb.size _⟩
          case measure => simp [intOf]; omega
      · have ho := HC.out j (by omega)
        by_cases hq : m.log2 + j < 1074 - p
        · have ho2 := HE.out j hq
          have hmul := run_mul (HU.out j (fin_of h0 hm (by omega)))
          go_wp2_with fail
          go_roundw
          case rel => exact ⟨k + 1, j + p, by omega, by go_num, by congr 1; omega, rfl, by rw [HB.out]; omega, hb.alloc hb.size _⟩
          case measure => simp [intOf]; omega
        · rcases HD.out j hf (by omega) with ho2 | ho2
          all_goals
            go_wp2_with fail
            go_roundw
            case rel => exact ⟨k + 1, j, by omega, by go_num, rfl, rfl, by rw [HB.out]; omega, hb.alloc hb.size _⟩
            case measure => simp [intOf]; omega
    · have hk10 : k = 10 := by omega
      subst hk10
      have h1 : ub 10 = 1 := by decide
      rw [h1] at ht
      clear h1
      have hf : R m j < I := fin_of h0 hm (by omega)
      have ho : FloatKind.f64.format.order (R m j) 4611686018427387904 = some .lt := by
        have e : 4611686018427387904 = R 1 1075 := by decide +kernel
        rw [e]
        exact pow_lt h0 hm (by decide) (by omega)
      go_wp2_with fail
      go_loop [0, 4] (fun f n => f = .float .f64 (R m j) ∧ n = .int .i64 ((j0 : Int) - j)) (fun _ _ => 0)
      case atStart => exact ⟨rfl, rfl⟩
      case round =>
        obtain ⟨rfl, rfl⟩ := hrel
        go_wp2_with fail
        clear ho
        go_loop [0, 4] (fun f n => ∃ j : Nat, f = .float .f64 (R m j) ∧ n = .int .i64 ((j0 : Int) - j) ∧ m.log2 + j ≤ 1074) (fun _ n => (intOf n - (m.log2 : Int) - j0 + 1074).toNat)
        case atStart => exact ⟨j, rfl, rfl, by omega⟩
        case round =>
          clear hf ht
          obtain ⟨j, rfl, rfl, ht⟩ := hrel
          have hf : R m j < I := fin_of h0 hm (by omega)
          have e1 : 4607182418800017408 = R 1 1074 := by decide +kernel
          have e2 : 4611686018427387904 = R 1 1075 := by decide +kernel
          by_cases hlt : m.log2 + j < 1074
          · have ho : FloatKind.f64.format.order (R m j) 4607182418800017408 = some .lt := by rw [e1]; exact pow_lt h0 hm (by decide) hlt
            have hmul := run_mul (a := R m j) (b := 4611686018427387904) (r := R m (j + 1)) (by
              have := mul_pow false (m := m) (j := j) (i := 1075) hm hf (by decide +kernel) (by omega)
              rw [wd_false, wd_false, show j + 1075 - 1074 = j + 1 from by omega, Nat.min_eq_left (Nat.le_of_lt (fin_of h0 hm (by omega)))] at this
              rw [e2]; exact this)
            clear e1 e2
            go_wp2_with fail
            go_round
            case rel => exact ⟨j + 1, rfl, by congr 1; omega, by omega⟩
            case measure => simp [intOf]; omega
          · have hj : j = 1074 - m.log2 := by omega
            have hge : FloatKind.f64.format.order (R m j) 4607182418800017408 = some .gt ∨ FloatKind.f64.format.order (R m j) 4607182418800017408 = some .eq := by rw [e1]; exact pow_ge h0 hm hf (by omega)
            clear e1 e2
            have hx : (j0 : Int) - j = (m.log2 : Int) + j0 - 1074 := by omega
            rw [hx]
            subst hj
            clear hx
            rcases hge with ho | ho
            all_goals
              go_wp2_with fail
              go_ret2
              exact ⟨rfl, hb⟩

end Fl
end Go.Proofs.Ytimgiokhhdkfaaa
