/-
  WALKS: what a Reader reads by a closure, and its error where that panics. Conditions: the reader is one.
-/
import Derived.Test.YtpccenaieeggmaaPackRead
import Derived.Deep.RegionHeld3
import Derived.Laws.EntriesVeiled
namespace Go.Proofs.Ytpccenaieeggmaa
open Go.RowKit
namespace Pk
open Mem

/-- a Reader's block: what it has not read, and its error. -/
def rd (s : ByteArray) (e : Int) : Obj := .cells #[.string s, .int .i64 e] 78 (0, 0)
theorem rd_str {w : World} {b : Nat} {s : ByteArray} {e : Int} (h : w.heap[b]? = some (rd s e)) : w.cell? ⟨b, 0, none⟩ = some (.string s) := cell_at h 0
theorem rd_err {w : World} {b : Nat} {s : ByteArray} {e : Int} (h : w.heap[b]? = some (rd s e)) : w.cell? ⟨b, 1, none⟩ = some (.int .i64 e) := cell_at h 1
theorem rd_free0 {w : World} {b : Nat} {s : ByteArray} {e : Int} (h : w.heap[b]? = some (rd s e)) : w.frozen? ⟨b, 0, none⟩ = false := free_at h 0
theorem rd_free1 {w : World} {b : Nat} {s : ByteArray} {e : Int} (h : w.heap[b]? = some (rd s e)) : w.frozen? ⟨b, 1, none⟩ = false := free_at h 1
theorem rd_set0 {w : World} {b : Nat} {s : ByteArray} {e : Int} (h : w.heap[b]? = some (rd s e)) (t : ByteArray) : (w.setCell ⟨b, 0, none⟩ (.string t)).heap[b]? = some (rd t e) := set_at h 0 (.string t)
theorem rd_set1 {w : World} {b : Nat} {s : ByteArray} {e : Int} (h : w.heap[b]? = some (rd s e)) (c : Int) : (w.setCell ⟨b, 1, none⟩ (.int .i64 c)).heap[b]? = some (rd s c) := set_at h 1 (.int .i64 c)

/-- the deferred closure, where nothing panics. -/
theorem caught_idle (p : Addr) (w : World) :
    CallsD Try.prog 52 #[.pointer (some p)] .returning w fun e u' w' => e = .returned (.tuple #[]) ∧ u' = .returning ∧ w' = w := by
  refine callsD_of_wpS Try.func52 rfl fun c₀ cs hu => ?_
  apply wpS_seq
  apply wpS_region
  simp [wpOpsS, go_sem, recoverD, hu, Try.ntmps52, Exit.thenS]
  apply wpS_seq
  apply wpS_region
  simp [wpOpsS, go_sem, recoverD, hu, Exit.thenS]
  refine wpS_cond (t := false) (by simp [Act.eval, Array.replicate]) ?_
  simp only [Bool.false_eq_true, if_false]
  refine wpS_of_wp (wp_skip ?_)
  cases c₀
  simp_all [bodyPostS, results, Try.results52]

theorem assert_wrong (c : Int) (w : World) : (Instr.typeAssert (.iface 82 (.int .i64 c)) 20 82 false).run Try.prog w = .ok (.int .i64 c) w := by kernel_rfl
/-- the deferred closure, where a reading panicked: the error stays. -/
theorem caught (p : Addr) (b : Nat) (s : ByteArray) (x c : Int) (older : List PanicEntry) (w : World) (hp : w.cell? p = some (.pointer (some ⟨b, 0, none⟩))) (hb : w.heap[b]? = some (rd s x)) :
    CallsD Try.prog 52 #[.pointer (some p)] (.panicking ({ v := .iface 82 (.int .i64 c), recovered := false } :: older)) w fun e u' w' =>
      e = .returned (.tuple #[]) ∧ u' = .panicking ({ v := .iface 82 (.int .i64 c), recovered := true } :: older) ∧ w' = (w.setCell ⟨b, 1, none⟩ (.int .i64 c)).drew := by
  have h1 := rd_err hb
  have h2 := rd_free1 hb
  refine callsD_of_wpS Try.func52 rfl fun c₀ cs hu => ?_
  apply wpS_seq
  apply wpS_region
  simp [wpOpsS, go_sem, recoverD, hu, Exit.thenS]
  apply wpS_seq
  apply wpS_region
  simp [wpOpsS, go_sem, Exit.thenS]
  refine wpS_cond (t := true) (by simp [Act.eval, Array.replicate]) ?_
  simp only [if_true]
  refine wpS_of_wp ?_
  have hta := assert_wrong c
  simp only [Array.replicate_succ, Array.replicate_zero, List.push_toArray, List.append_toArray, List.nil_append, List.cons_append, List.setIfInBounds_toArray, List.set_cons_zero, List.set_cons_succ]
  go_region
  all_goals exact ⟨rfl, _, rfl, _, results_none rfl _ _ _, rfl, rfl, rfl⟩

set_option maxRecDepth 100000 in
set_option maxHeartbeats 1000000 in
theorem read_ok (f : Nat) (cap : Array Value) (b : Nat) (s t : ByteArray) (w : World) (P : World → Prop) (hb : w.heap[b]? = some (rd s 0))
    (hE : ∀ w1, (callFunc f (#[.string s] ++ cap)).run Try.prog w1 = .ok (.enter f (#[.string s] ++ cap)) w1)
    (hF : ∀ w1, Below w.heap.size w w1 → Calls Try.prog f (#[.string s] ++ cap) w1 fun e w' => e = .returned (.string t) ∧ w'.heap[b]? = some (rd s 0) ∧ w'.cell? ⟨w.heap.size, 0, none⟩ = w1.cell? ⟨w.heap.size, 0, none⟩ ∧ P w') :
    Calls Try.prog 47 #[.pointer (some ⟨b, 0, none⟩), .func (.func f) #[] cap] w fun e w' => e = .returned (.tuple #[]) ∧ ∃ w2, P w2 ∧ w' = w2.setCell ⟨b, 0, none⟩ (.string t) := by
  have hmf : ∀ (fn : Fn) (first cap : Array Value) (w : World), (Instr.makeFunc fn first cap).run Try.prog w = .ok (.func fn first cap) w := fun _ _ _ _ => rfl
  have hlt := lt_of_block hb
  have HE := Lib.hid hE
  have HF := Lib.hid hF
  clear hE hF
  have h0 := rd_str (alloc_at (.cells #[.pointer (some ⟨b, 0, none⟩)] 71) hb)
  have h1 := rd_err (alloc_at (.cells #[.pointer (some ⟨b, 0, none⟩)] 71) hb)
  have hb' := alloc_at (.cells #[.pointer (some ⟨b, 0, none⟩)] 71) hb
  go_enter_defers Try.func47, Try.ntmps47
  go_wp2_with fail
  have he := HE.out
  refine wp_region_noPanic ?_
  go_region_with ((refine (HF.out _ (((Below.refl _ _).alloc (Nat.le_refl _) _).drew)).mono ?_); rintro e w2 ⟨rfl, k0, k1, k2⟩; have k3 := rd_str k0; have k4 := rd_free0 k0; have k5 : w2.cell? ⟨w.heap.size, 0, none⟩ = some (.pointer (some ⟨b, 0, none⟩)) := k1.trans (by simp [go_sem]); clear k0 k1)
  all_goals
    refine leaves_cons (f := 52) (args := #[.pointer (some ⟨w.heap.size, 0, none⟩)]) (by simp) (by simp [go_sem]) ?_
    refine (caught_idle _ _).mono ?_
    rintro e u' w'' ⟨rfl, rfl, rfl⟩
    exact ⟨_, results_none rfl _ _ _, rfl, w2, k2, rfl⟩

/-- a region that ends by a panic alone. -/
def PanicOnly (D : List Deferred) (R : List PanicEntry → World → Prop) : Exit → Act → World → Prop
  | .panic ch, a, w => a.defers = D ∧ R ch w
  | _, _, _ => False

set_option maxRecDepth 100000 in
set_option maxHeartbeats 1000000 in
theorem read_bad (f : Nat) (cap : Array Value) (b : Nat) (s : ByteArray) (c : Int) (w : World) (P : World → Prop) (hb : w.heap[b]? = some (rd s 0))
    (hE : ∀ w1, (callFunc f (#[.string s] ++ cap)).run Try.prog w1 = .ok (.enter f (#[.string s] ++ cap)) w1)
    (hF : ∀ w1, Below w.heap.size w w1 → Calls Try.prog f (#[.string s] ++ cap) w1 fun e w' => e = .panicked (wrong c) ∧ w'.heap[b]? = some (rd s 0) ∧ w'.cell? ⟨w.heap.size, 0, none⟩ = w1.cell? ⟨w.heap.size, 0, none⟩ ∧ P w') :
    Calls Try.prog 47 #[.pointer (some ⟨b, 0, none⟩), .func (.func f) #[] cap] w fun e w' => e = .returned (.tuple #[]) ∧ ∃ w2, P w2 ∧ w2.heap[b]? = some (rd s 0) ∧ w' = (w2.setCell ⟨b, 1, none⟩ (.int .i64 c)).drew := by
  have hmf : ∀ (fn : Fn) (first cap : Array Value) (w : World), (Instr.makeFunc fn first cap).run Try.prog w = .ok (.func fn first cap) w := fun _ _ _ _ => rfl
  have hlt := lt_of_block hb
  have HE := Lib.hid hE
  have HF := Lib.hid hF
  clear hE hF
  have h0 := rd_str (alloc_at (.cells #[.pointer (some ⟨b, 0, none⟩)] 71) hb)
  have h1 := rd_err (alloc_at (.cells #[.pointer (some ⟨b, 0, none⟩)] 71) hb)
  have hb' := alloc_at (.cells #[.pointer (some ⟨b, 0, none⟩)] 71) hb
  go_enter_defers Try.func47, Try.ntmps47
  go_wp2_with fail
  have he := HE.out
  refine Code.wp_mono (Q := PanicOnly [{ target := Target.fn (Fn.func 52) #[.pointer (some ⟨w.heap.size, 0, none⟩)], args := #[] }] (fun ch w2 => ch = wrong c ∧ w2.heap[b]? = some (rd s 0) ∧ w2.cell? ⟨w.heap.size, 0, none⟩ = some (.pointer (some ⟨b, 0, none⟩)) ∧ P w2)) ?imp ?reg
  case imp =>
    intro e a w2 h
    cases e with
    | panic ch =>
      obtain ⟨hd, rfl, k0, k5, k2⟩ := h
      show Leaves _ _ a.tmps _ a.defers _ _
      rw [hd]
      refine leaves_cons (f := 52) (args := #[.pointer (some ⟨w.heap.size, 0, none⟩)]) (by simp) (by simp [go_sem]) ?_
      refine (caught _ b s 0 c [] _ k5 k0).mono ?_
      rintro e u' w'' ⟨rfl, rfl, rfl⟩
      exact ⟨_, results_none rfl _ _ _, rfl, w2, k2, k0, rfl⟩
    | _ => exact (h : False).elim
  case reg =>
    have HF2 : Hid (∀ w1, Below w.heap.size w w1 → Calls Try.prog f (#[.string s] ++ cap) w1 fun e w' => (e = .panicked (wrong c) ∧ w'.heap[b]? = some (rd s 0) ∧ w'.cell? ⟨w.heap.size, 0, none⟩ = w1.cell? ⟨w.heap.size, 0, none⟩ ∧ P w') ∨ (e = .returned (.string s) ∧ Hid False)) := Lib.hid (fun w1 h => (HF.out w1 h).mono fun e w' h => .inl h)
    go_region_with ((refine (HF2.out _ (((Below.refl _ _).alloc (Nat.le_refl _) _).drew)).mono ?_); rintro e w2 (⟨rfl, k0, k1, k2⟩ | ⟨rfl, hno⟩); (exact ⟨rfl, rfl, k0, k1.trans (by simp [go_sem]), k2⟩); have k3 : w2.cell? ⟨b, 0, none⟩ = some (.string s) := (hno.out : False).elim; have k4 : w2.frozen? ⟨b, 0, none⟩ = false := (hno.out : False).elim; have k5 : w2.cell? ⟨w.heap.size, 0, none⟩ = some (.pointer (some ⟨b, 0, none⟩)) := (hno.out : False).elim)
    all_goals exact (hno.out : False).elim

end Pk
end Go.Proofs.Ytpccenaieeggmaa
