/-
  WALKS: eight bytes of a nil Reader. No condition.
-/
import Derived.Test.YtnfooblofkblcaaPackFix
namespace Go.Proofs.Ytnfooblofkblcaa
open Go.RowKit Go.Shelf
namespace Pk
open Mem
attribute [local go_sem] Oper.semAt_some

/-- what holds at the head of each round. -/
def FixJ (w : World) (q : Nat) (pre : List (Nat × UInt8)) (W : World) : Prop :=
  W.heap[q]? = some (.cells #[.int .u64 (vals pre)] 22 (0, 0)) ∧ Below w.heap.size w W
theorem fixJ_own {w : World} {q B : Nat} (hB : w.heap.size ≤ B) : OwnFrom B (FixJ w q) := fun pre A C row hs hg hr => by
  obtain ⟨h1, h3⟩ := hs
  have key : ∀ (k : Nat) (cs : Array Value) (t : TypeId) (f : Nat × Nat), A.heap[k]? = some (.cells cs t f) → C.heap[k]? = some (.cells cs t f) := fun k cs t f hk =>
    (hg.block k (lt_of_block hk) (fun er => by
      obtain ⟨_, o, ho, hc⟩ := hr k er.symm
      rw [hk] at ho
      cases ho
      cases hc)).trans hk
  exact ⟨key _ _ _ _ h1, h3.grown hg h3.size (fun k er => Nat.le_trans hB (hr k er).1)⟩

set_option maxRecDepth 100000 in
set_option maxHeartbeats 2000000 in
theorem fixnil_in (w : World) :
    CallsIn Fence.wide 3 Try.prog 23 #[.pointer none] w fun e' w' => e' = .returned (.int .u64 0) ∧ Below w.heap.size w w' := by
  have HT := Lib.hid (fun w => take_nil 8 w)
  have h8 : ByteArray.empty.size ≤ 8 := by decide
  have F0 : fixN ByteArray.empty.data.toList = 0 := rfl
  generalize ByteArray.empty = t at *
  replace F0 := Lib.hid F0
  have hconv := fun (w : World) => run_bytes_of_string (P := Try.prog) w 9 44 5 t Try.underlying9 Try.underlying44 Try.underlying5
  refine callsIn_of_wp_marks Try.func23 rfl trivial ?_ rfl
  simp only [Try.ntmps23, List.size_toArray, List.length_cons, List.length_nil, Nat.reduceAdd, Nat.reduceSub, Array.replicate_succ, Array.replicate_zero, List.push_toArray, List.append_toArray, List.nil_append, List.cons_append]
  gi_wp2_with fail
  refine ⟨trivial, ?_⟩
  refine CallsIn.mono (callsIn_wide.2 (HT.out _)) ?_
  rintro e' w1 ⟨rfl, k2⟩
  gi_wp2_with fail
  refine ⟨trivial, ?_⟩
  refine CallsIn.mono (callsIn_wide.2 (backward_any _ _ _ _)) ?_
  rintro e' w' ⟨rfl, rfl⟩
  have hq1 := below_at k2 (alloc_new w (.cells #[.int .u64 0] 22)) (by simp)
  have hz1 : w.heap.size + 1 ≤ w1.heap.size := by have := k2.size; simpa using this
  gi_wp2_with fail
  obtain ⟨cap, hcap⟩ : ∃ cap, grownCap w1 t.size 0 5 = cap := ⟨_, rfl⟩
  rw [hcap]
  clear hcap
  have hK1 : Below w.heap.size w w1 := ((Below.refl w.heap.size w).alloc (Nat.le_refl _) (.cells #[.int .u64 0] 22)).trans (k2.mono (by simp))
  obtain ⟨W2, hW⟩ : ∃ W2, ((w1.alloc (.cells (bytesRow t cap) 5 ((bytesRow t cap).size, (bytesRow t cap).size + 1))).alloc (.cells #[.slice (some ⟨w1.heap.size, 0, none⟩) t.size cap] 44)).drew = W2 := ⟨_, rfl⟩
  have hz2 : W2.heap.size = w1.heap.size + 2 := by rw [← hW]; simp
  have hrow : W2.heap[w1.heap.size]? = some (.cells (bytesRow t cap) 5 ((bytesRow t cap).size, (bytesRow t cap).size + 1)) := by
    rw [← hW]; exact alloc_at _ (alloc_new w1 _)
  have hbox : W2.heap[w1.heap.size + 1]? = some (.cells #[.slice (some ⟨w1.heap.size, 0, none⟩) t.size cap] 44 (0, 0)) := by
    rw [← hW]
    have := alloc_new (w1.alloc (.cells (bytesRow t cap) 5 ((bytesRow t cap).size, (bytesRow t cap).size + 1))) (.cells #[.slice (some ⟨w1.heap.size, 0, none⟩) t.size cap] 44)
    rw [World.size_alloc] at this
    exact this
  have hI0 : FixJ w w.heap.size [] W2 := by
    rw [← hW]
    exact ⟨alloc_at _ (alloc_at _ hq1), ((hK1.alloc hK1.size _).alloc (by have := hK1.size; simp; omega) _).drew⟩
  rw [hW]
  clear hW hK1 k2 hq1 hconv
  refine wpIn_rangeFunc_ownF rfl (by decide) (gf := 38) (lb := #[.pointer (some ⟨w1.heap.size + 1, 0, none⟩)]) rfl trivial (enters_of Try.func38 (by kernel_rfl) rfl)
    (back_stops Fence.wide 2 trivial rfl (by decide) (w1.heap.size + 1) w1.heap.size cap _ t (fun k => k = w.heap.size ∨ w1.heap.size + 2 ≤ k) (by omega) (by omega) (by omega) W2 hbox hrow)
    (fun h k => h.trans k) (fun W l o o' hl h _ _ => kept_put (by rw [hz2] at hl; exact .inr hl) h) (Below.refl _ _) (fun _ => rfl)
    (FixJ w w.heap.size) (fun _ _ _ => False) (fixJ_own (by omega)) (fun _ _ _ _ _ hs _ _ => hs) hI0
    (fun x => { tmps := #[.pointer none, undef, .int .u64 0, .pointer (some ⟨w.heap.size, 0, none⟩), undef, .int .u8 (x.2.toNat : Int), .pointer none, .string t, .slice (some ⟨w1.heap.size, 0, none⟩) t.size cap, .func (.func 38) #[] #[.pointer (some ⟨w1.heap.size + 1, 0, none⟩)], .int .i64 (x.1 : Int), .int .u8 (x.2.toNat : Int), undef, undef, undef, undef, undef, undef], defers := [] }) ?assign ?body ?done ?stop
  case assign =>
    intro l x W K hK
    gi_wp2
    exact hK
  case body =>
    rintro l pre x W ⟨hq, hK⟩ hlen
    have hc := cell_of_one hq
    have hf := free_of_one hq
    have hlt2 : vals pre * 256 + x.2.toNat < 18446744073709551616 := by
      rw [← vals_snoc]
      refine Nat.lt_of_lt_of_le (vals_lt _) ?_
      rw [List.length_append, List.length_singleton]
      have : (256 : Nat) ^ (pre.length + 1) ≤ 256 ^ 8 := Nat.pow_le_pow_right (by decide) (by omega)
      exact this
    have hx := UInt8.toNat_lt x.2
    have hor := or_byte (u := vals pre) (x := x.2.toNat) hx hlt2
    have hv := vals_snoc pre x
    have HV := Lib.hid hv
    rw [← hv] at hor
    clear hv hlt2
    generalize x.2.toNat = y at *
    gi_wp2
    exact ⟨KeepsOthers.setCell _ _ _, (Kept.refl _ W).setCell (p := ⟨w.heap.size, 0, none⟩) (fun _ => .inl rfl) _, one_setCell hq, hK.setCell (p := ⟨w.heap.size, 0, none⟩) (Nat.le_refl _) _⟩
  case done =>
    rintro D ys W hD rfl ⟨hq, hK⟩ hDD
    have hc := cell_of_one hq
    rw [fixN_vals, F0.out] at hc
    have hK' : Below w.heap.size w (W.putObj D (.deferred none)) := hK.grown (grownBy_putObj' W D _) hK.size (fun k e => by cases e; omega)
    clear hq hI0 hrow hbox
    gi_wp2
    refine ⟨by simp, .inl ⟨_, _, rfl, run_takeDeferred hDD, ?_⟩⟩
    exact ⟨_, results_tmp rfl _ _ _, rfl, hK'⟩
  case stop =>
    rintro D c pre W _ _ h _
    exact h.elim

theorem fix_nil (w : World) :
    Calls Try.prog 23 #[.pointer none] w fun e' w' => e' = .returned (.int .u64 0) ∧ Below w.heap.size w w' :=
  callsIn_wide.1 (fixnil_in w)

end Pk
end Go.Proofs.Ytnfooblofkblcaa
