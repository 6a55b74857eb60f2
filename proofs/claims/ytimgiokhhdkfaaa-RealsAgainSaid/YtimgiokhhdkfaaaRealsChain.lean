/-
  WALKS: package reals' chain, and the closures that it makes. Conditions: the numbers are of their kinds.
-/
import Derived.Test.YtimgiokhhdkfaaaRealsWalks
namespace Go.Proofs.Ytimgiokhhdkfaaa
open Go.RowKit
namespace Rl
open Mem Pk Fl

/-- the block that keeps the last number's bits. -/
def lastO (p : Nat) : Obj := .cells #[.int .u64 (p : Int)] 23
/-- the block that keeps what is kept. -/
def keepO (f : Nat) : Obj := .cells #[.func (.func f) #[] #[]] 39

theorem keep_enc (a b : Int) (w : World) : Calls Try.prog 19 #[.int .u64 a, .int .u64 b] w fun e w' => e = .returned (.int .u64 a) ∧ w = w' := by
  go_enter Try.func19, Try.ntmps19
  go_wp2_with fail
  go_ret
  exact ⟨rfl, rfl⟩
theorem keep_dec (a b : Int) (w : World) : Calls Try.prog 28 #[.int .u64 a, .int .u64 b] w fun e w' => e = .returned (.int .u64 b) ∧ w = w' := by
  go_enter Try.func28, Try.ntmps28
  go_wp2_with fail
  go_ret
  exact ⟨rfl, rfl⟩

set_option maxRecDepth 100000 in
theorem chain_any (f : Nat) (w : World) : Calls Try.prog 18 #[.func (.func f) #[] #[]] w fun e w' =>
    e = .returned (.func (.func 39) #[] #[.pointer (some ⟨w.heap.size + 1, 0, none⟩), .pointer (some ⟨w.heap.size, 0, none⟩)]) ∧ w'.heap[w.heap.size]? = some (keepO f) ∧ w'.heap[w.heap.size + 1]? = some (lastO 0) ∧ w'.heap.size = w.heap.size + 2 ∧ Below w.heap.size w w' := by
  go_enter Try.func18, Try.ntmps18
  go_wp2_with fail
  go_ret
  have h1 := alloc_new (w.alloc (keepO f)) (lastO 0)
  rw [World.size_alloc] at h1
  exact ⟨rfl, alloc_at (lastO 0) (alloc_new w (keepO f)), h1, by simp, ((Below.refl _ w).alloc (Nat.le_refl _) (keepO f)).alloc (by simp) (lastO 0)⟩

set_option maxRecDepth 100000 in
theorem next_enc (K L a p : Nat) (w : World) (hK : w.heap[K]? = some (keepO 19)) (hL : w.heap[L]? = some (lastO p)) (ha : a < 2 * S) (hp : p < 2 * S) :
    Calls Try.prog 39 #[.int .u64 a, .pointer (some ⟨L, 0, none⟩), .pointer (some ⟨K, 0, none⟩)] w fun e w' => e = .returned (.int .u64 ((a ^^^ p : Nat) : Int)) ∧ w' = w.setCell ⟨L, 0, none⟩ (.int .u64 (a : Int)) := by
  have c1 : w.cell? ⟨K, 0, none⟩ = some (.func (.func 19) #[] #[]) := (cell_at hK 0).trans rfl
  have c2 : w.cell? ⟨L, 0, none⟩ = some (.int .u64 (p : Int)) := (cell_at hL 0).trans rfl
  have f1 : w.frozen? ⟨L, 0, none⟩ = false := free_at hL 0
  have hx := Lib.hid (xor64 ha hp)
  clear hK hL
  go_enter Try.func39, Try.ntmps39
  go_wp2_with (go_at_call 19; refine (keep_enc _ _ _).mono ?_; rintro e w' ⟨rfl, rfl⟩)
  go_ret
  exact ⟨ret_u64 hx.out, rfl⟩

set_option maxRecDepth 100000 in
theorem next_dec (K L a p : Nat) (w : World) (hK : w.heap[K]? = some (keepO 28)) (hL : w.heap[L]? = some (lastO p)) (ha : a < 2 * S) (hp : p < 2 * S) :
    Calls Try.prog 39 #[.int .u64 a, .pointer (some ⟨L, 0, none⟩), .pointer (some ⟨K, 0, none⟩)] w fun e w' => e = .returned (.int .u64 ((a ^^^ p : Nat) : Int)) ∧ w' = w.setCell ⟨L, 0, none⟩ (.int .u64 ((a ^^^ p : Nat) : Int)) := by
  have c1 : w.cell? ⟨K, 0, none⟩ = some (.func (.func 28) #[] #[]) := (cell_at hK 0).trans rfl
  have c2 : w.cell? ⟨L, 0, none⟩ = some (.int .u64 (p : Int)) := (cell_at hL 0).trans rfl
  have f1 : w.frozen? ⟨L, 0, none⟩ = false := free_at hL 0
  have hx := Lib.hid (xor64 ha hp)
  clear hK hL
  go_enter Try.func39, Try.ntmps39
  go_wp2_with (go_at_call 28; refine (keep_dec _ _ _).mono ?_; rintro e w' ⟨rfl, rfl⟩)
  go_ret
  exact ⟨ret_u64 hx.out, by rw [hx.out]⟩

end Rl
end Go.Proofs.Ytimgiokhhdkfaaa
