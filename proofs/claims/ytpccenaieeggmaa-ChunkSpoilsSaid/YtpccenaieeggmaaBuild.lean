/-
  WALKS: (*strings.Builder).WriteString: what is written stands behind what stood. Conditions: at most 100000 bytes.
-/
import Derived.Test.YtpccenaieeggmaaPackPut
import Derived.Lib.Builder
import Derived.RangeFuncOwn
import Derived.Lib.AppendStr
import Derived.Shelf.Abstract
namespace Go.Proofs.Ytpccenaieeggmaa
open Go.RowKit Go.Shelf
namespace Bd
open Mem Pk

theorem own_cells {w : World} {base : Nat} {e : TypeId} {v : Value} {n : Nat} {xs : List Value} (h : w.ownsRow base e 1 v n xs) : ∀ (j : Nat) (o : Obj), v.ownBlock = some j → w.heap[j]? = some o → o.isCells = true := by
  intro j o hj ho
  rcases h.2 with ⟨rfl, _⟩ | ⟨g, cap, cur, rfl, _, hh, _⟩
  · cases hj
  · have e : g = j := by simpa [Value.ownBlock] using hj
    subst e
    rw [hh] at ho
    cases ho
    rfl
theorem own_setCell {w : World} {base : Nat} {e : TypeId} {v : Value} {n : Nat} {xs : List Value} (h : w.ownsRow base e 1 v n xs) {p : Addr} (hp : p.block < base) (u : Value) : (w.setCell p u).ownsRow base e 1 v n xs := by
  refine ⟨h.1, ?_⟩
  rcases h.2 with h2 | ⟨g, cap, cur, ev, hg, hh, r⟩
  · exact .inl h2
  · exact .inr ⟨g, cap, cur, ev, hg, set_other hh (by omega) _, r⟩

theorem own_slice {w : World} {base : Nat} {e : TypeId} {v : Value} {n : Nat} {xs : List Value} (h : w.ownsRow base e 1 v n xs) : ∃ b cap, v = .slice b n cap := by
  rcases h.2 with ⟨rfl, rfl⟩ | ⟨g, cap, cur, rfl, _⟩
  · exact ⟨none, 0, rfl⟩
  · exact ⟨_, cap, rfl⟩
theorem own8_kept {T : Nat → Prop} {w w' : World} {B : Nat} {v : Value} {n : Nat} {xs : List Value} (k : Kept T w w') (h : w.ownsRow B 5 1 v n xs) (hT : ∀ k, B ≤ k → ¬ T k) : w'.ownsRow B 5 1 v n xs := by
  refine ⟨h.1, ?_⟩
  rcases h.2 with h2 | ⟨g, cap, cur, ev, hg, hh, r⟩
  · exact .inl h2
  · exact .inr ⟨g, cap, cur, ev, hg, k.at hh (hT g hg), r⟩
theorem infoB : (Try.prog.info? 47).map (·.size) = some 2 := by kernel_rfl
theorem liesB : liesAt Try.prog Try.prog.depth 47 (2 / Try.prog.cellsOf 47) 0 47 1 = true := by kernel_rfl
/-- a Builder. -/
def bd (p v : Value) : Obj := .cells #[p, v] 47

set_option maxRecDepth 100000 in
set_option maxHeartbeats 1000000 in
theorem check_used (b : Nat) (v : Value) (w : World) (hb : w.heap[b]? = some (bd (.pointer (some ⟨b, 0, none⟩)) v)) :
    Calls Try.prog 34 #[.pointer (some ⟨b, 0, none⟩)] w fun e w' => e = .returned (.tuple #[]) ∧ w' = w := by
  have h0 : w.cell? ⟨b, 0, none⟩ = some (.pointer (some ⟨b, 0, none⟩)) := (cell_at hb 0).trans rfl
  have hne := fun (w : World) => Lib.run_neq_ptr_same (P := Try.prog) w (tp := 45) (te := 47) ⟨b, 0, none⟩ Try.underlying45 (Option.map_eq_some_iff.1 infoB).choose_spec.1
  go_enter Try.func34, Try.ntmps34
  go_wp2_with fail
  go_end0
  exact ⟨rfl, rfl⟩

set_option maxRecDepth 100000 in
set_option maxHeartbeats 1000000 in
theorem check_fresh (b : Nat) (v : Value) (w : World) (hb : w.heap[b]? = some (bd (.pointer none) v)) :
    Calls Try.prog 34 #[.pointer (some ⟨b, 0, none⟩)] w fun e w' => e = .returned (.tuple #[]) ∧ w' = w.setCell ⟨b, 0, none⟩ (.pointer (some ⟨b, 0, none⟩)) := by
  have h0 : w.cell? ⟨b, 0, none⟩ = some (.pointer none) := (cell_at hb 0).trans rfl
  have hf : w.frozen? ⟨b, 0, none⟩ = false := free_at hb 0
  have hsh : w.shape? b = some (47, 2) := by simp [World.shape?, hb, bd]
  obtain ⟨j, hj, hjs⟩ := Option.map_eq_some_iff.1 infoB
  have r1 := Lib.run_to_unsafe (P := Try.prog) w ⟨b, 0, none⟩ Try.underlying45 Try.underlying74 hj (by rw [hjs]; decide) hsh (Nat.zero_lt_succ 1)
  have r2 := run_callFunc_extern (P := Try.prog) Try.func44 (by kernel_rfl) (by kernel_rfl) (by kernel_rfl) (e := Extern.AbiNoEscape.same) (by kernel_rfl)
  have r3 := Lib.run_from_unsafe (P := Try.prog) w ⟨b, 0, none⟩ Try.underlying74 Try.underlying45 hj hsh liesB
  go_enter Try.func34, Try.ntmps34
  go_wp2
  rw [Lib.run_noEscape]
  simp only [Result.andThen]
  rw [Oper.upon_value]
  go_wp2
  go_end0
  exact ⟨rfl, rfl⟩

/-- the copy check of a builder that nobody else has. -/
theorem check_any (b : Nat) (p v : Value) (hp : p = .pointer none ∨ p = .pointer (some ⟨b, 0, none⟩)) (w : World) (hb : w.heap[b]? = some (bd p v)) :
    Calls Try.prog 34 #[.pointer (some ⟨b, 0, none⟩)] w fun e w' => e = .returned (.tuple #[]) ∧ w'.heap[b]? = some (bd (.pointer (some ⟨b, 0, none⟩)) v) ∧ Kept (· = b) w w' ∧ KeepsOthers w w' := by
  rcases hp with rfl | rfl
  · refine (check_fresh b v w hb).mono ?_
    rintro e w' ⟨rfl, rfl⟩
    exact ⟨rfl, (set_at hb 0 _).trans rfl, (Kept.refl (· = b) w).setCell (p := ⟨b, 0, none⟩) (fun _ => rfl) _, KeepsOthers.setCell _ _ _⟩
  · refine (check_used b v w hb).mono ?_
    rintro e w' ⟨rfl, rfl⟩
    exact ⟨rfl, hb, Kept.refl _ _, KeepsOthers.refl _⟩

set_option maxRecDepth 100000 in
set_option maxHeartbeats 1000000 in
theorem wstr_any (b B : Nat) (p v : Value) (hp : p = .pointer none ∨ p = .pointer (some ⟨b, 0, none⟩)) (l : List UInt8) (s : ByteArray) (w : World) (hb : w.heap[b]? = some (bd p v)) (hO : Own8 w B v l) (hbB : b < B) (hBw : B ≤ w.heap.size) (hl : l.length ≤ 100000) (hs : s.size ≤ 100000) :
    Calls Try.prog 21 #[.pointer (some ⟨b, 0, none⟩), .string s] w fun e w' => e = .returned (.tuple #[.int .i64 s.size, .nilIface]) ∧ (∃ v', w'.heap[b]? = some (bd (.pointer (some ⟨b, 0, none⟩)) v') ∧ Own8 w' B v' (l ++ s.data.toList)) ∧ Kept (fun k => k = b ∨ B ≤ k) w w' ∧ KeepsOthers w w' := by
  obtain ⟨i0, hi, hz0, hz1, hz2⟩ := info_parts info8
  have HC := Lib.hid (check_any b p v hp w hb)
  have HB := Lib.hid hb
  clear hb hp
  go_enter Try.func21, Try.ntmps21
  go_wp2_with fail
  refine HC.out.mono ?_
  rintro e w1 ⟨rfl, hb1, k1, o1⟩
  have hO1 : w1.ownsRow B 5 1 v l.length (cells8 l) := own8_kept k1 hO (fun k hk h => by subst h; omega)
  have c0 : w1.cell? ⟨b, 0, none⟩ = some (.pointer (some ⟨b, 0, none⟩)) := (cell_at hb1 0).trans rfl
  have c1 : w1.cell? ⟨b, 1, none⟩ = some v := (cell_at hb1 1).trans rfl
  have hs1 := k1.size
  go_wp2_with (at_builtin; refine Lib.wpList_append_own_string _ rfl _ _ 42 9 rfl B 5 i0 Try.underlying42 Try.underlying9 hi hz0 hz1 hz2 _ _ _ rfl hO1 s rfl (by unfold maxLen; omega) (by omega) (by omega) ?_; intro v2 w2 hown hgrow _; obtain ⟨bx, cx, rfl⟩ := own_slice hown; have hb2 : w2.heap[b]? = some (bd (.pointer (some ⟨b, 0, none⟩)) v) := (hgrow.block b (lt_of_block hb1) (fun e => by have := (hO1.lt _ e.symm).1; omega)).trans hb1; have d0 : w2.cell? ⟨b, 0, none⟩ = some (.pointer (some ⟨b, 0, none⟩)) := (cell_at hb2 0).trans rfl; have d1 : w2.cell? ⟨b, 1, none⟩ = some v := (cell_at hb2 1).trans rfl; have f1 : w2.frozen? ⟨b, 1, none⟩ = false := free_at hb2 1)
  go_ret2
  have hKa : Kept (fun k => k = b ∨ B ≤ k) w w1 := k1.mono (fun i hi h => .inl h)
  refine ⟨rfl, ⟨_, (set_at hb2 1 _).trans rfl, ?_⟩, (hKa.grown hgrow (fun k er _ => .inr (hO1.lt k er).1)).setCell (p := ⟨b, 1, none⟩) (fun _ => .inl rfl) _, o1.trans ((KeepsOthers.of_grownBy hgrow (fun j o e h => own_cells hO1 j o e h)).trans (KeepsOthers.setCell _ _ _))⟩
  unfold Own8
  rw [cells8_append, List.length_append, size_list]
  exact own_setCell hown hbB _
theorem own8_less {w : World} {B C : Nat} {v : Value} {l : List UInt8} (h : Own8 w B v l) (hC : C ≤ B) : Own8 w C v l := by
  refine ⟨h.1, ?_⟩
  rcases h.2 with h2 | ⟨g, cap, cur, ev, hg, hh, r⟩
  · exact .inl h2
  · exact .inr ⟨g, cap, cur, ev, Nat.le_trans hC hg, hh, r⟩
theorem builder_of {w : World} {b B : Nat} {p v : Value} {l : List UInt8} (hp : p = .pointer none ∨ p = .pointer (some ⟨b, 0, none⟩)) (hb : w.heap[b]? = some (bd p v)) (hO : Own8 w B v l) (hbB : b < B) : Lib.IsBuilder 47 5 b b (Lib.byteCells l) w := by
  have hO2 : w.ownsRow b 5 1 v (Lib.byteCells l).length (Lib.byteCells l) := by
    have h1 := own8_less hO (Nat.le_of_lt hbB)
    have e : (Lib.byteCells l).length = l.length := by unfold Lib.byteCells; simp
    rw [e]
    exact h1
  have hne : v.ownBlock ≠ some b := by
    rcases hO.2 with ⟨rfl, _⟩ | ⟨g, cap, cur, rfl, hg, _⟩
    · simp [Value.ownBlock]
    · simp [Value.ownBlock]; omega
  rcases hp with rfl | rfl
  · exact .inl ⟨Nat.le_refl _, v, hb, hO2, hne⟩
  · exact .inr ⟨Nat.le_refl _, v, hb, hO2, hne⟩

end Bd
end Go.Proofs.Ytpccenaieeggmaa
