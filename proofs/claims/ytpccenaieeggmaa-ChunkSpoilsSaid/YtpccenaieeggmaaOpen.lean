/-
  What a parameter's value is, by its type: a string, a number, a bool, a float, an array or a struct of such. No condition.
-/
import Derived.Test.YtpccenaieeggmaaRows
import Derived.WalkKit
import Derived.ProofKit
import Derived.KernelRfl
namespace Go.Proofs.Ytpccenaieeggmaa
namespace Opened
variable {P : Program} {W : World} {r : Reach} {b : Nat} {t : TypeId} {v : Value}

theorem cell_string (ht : P.underlying t = some .string) (h : Cell.okWide P W r b t v) : ∃ s, v = .string s ∧ s.size ≤ maxLen := by
  simp only [Cell.okWide, ht] at h
  cases v <;> simp_all [Cell.ok, maxLen, IntKind.max, IntKind.signed, IntKind.bits]
  omega
theorem cell_int {k : IntKind} (ht : P.underlying t = some (.int k)) (h : Cell.okWide P W r b t v) : ∃ n, v = .int k n ∧ k.min ≤ n ∧ n ≤ k.max := by
  simp only [Cell.okWide, ht] at h
  cases v <;> simp_all [Cell.ok, IntKind.has]
theorem cell_float (ht : P.underlying t = some (.float .f64)) (h : Cell.okWide P W r b t v) : ∃ x : Nat, v = .float .f64 x ∧ x < 2 ^ 64 := by
  simp only [Cell.okWide, ht] at h
  cases v <;> simp_all [Cell.ok]
  obtain ⟨h1, h2⟩ := h
  subst h1
  simp only [FloatKind.has] at h2
  first | exact h2 | exact ⟨rfl, h2⟩
theorem cell_bool (ht : P.underlying t = some .bool) (h : Cell.okWide P W r b t v) : ∃ x : Bool, v = .bool x := by
  simp only [Cell.okWide, ht] at h
  cases v <;> simp_all [Cell.ok]
theorem cell_slice {e : TypeId} (ht : P.underlying t = some (.slice e)) (h : Cell.okWide P W r b t v) : ∃ a len cap, v = .slice a len cap := by
  simp only [Cell.okWide, ht] at h
  cases v <;> simp_all [Cell.ok]

theorem ok_string (ht : P.underlying t = some .string) (h : Value.okWide P W r b t v) : ∃ s, v = .string s ∧ s.size ≤ maxLen :=
  cell_string ht (by simpa only [Value.okWide, ht] using h)
theorem ok_int {k : IntKind} (ht : P.underlying t = some (.int k)) (h : Value.okWide P W r b t v) : ∃ n, v = .int k n ∧ k.min ≤ n ∧ n ≤ k.max :=
  cell_int ht (by simpa only [Value.okWide, ht] using h)
theorem ok_float (ht : P.underlying t = some (.float .f64)) (h : Value.okWide P W r b t v) : ∃ x : Nat, v = .float .f64 x ∧ x < 2 ^ 64 :=
  cell_float ht (by simpa only [Value.okWide, ht] using h)
theorem ok_bool (ht : P.underlying t = some .bool) (h : Value.okWide P W r b t v) : ∃ x : Bool, v = .bool x :=
  cell_bool ht (by simpa only [Value.okWide, ht] using h)
theorem ok_slice {e : TypeId} (ht : P.underlying t = some (.slice e)) (h : Value.okWide P W r b t v) : ∃ a len cap, v = .slice a len cap :=
  cell_slice ht (by simpa only [Value.okWide, ht] using h)

/-- an array's or a struct's cells, each by its type. -/
theorem ok_cells (ts : List TypeId) (n : Nat) (hs : (match P.underlying t with | some (.struct _) | some (.array _ _) => true | _ => false) = true) (hn : P.cellsOf t = n) (hts : P.cellTypes P.depth t = some ts) (h : Value.okWide P W r b t v) :
    ∃ cs : Array Value, v = .agg cs ∧ cs.size = n ∧ ∀ i x, cs[i]? = some x → ∃ u, ts[i % ts.length]? = some u ∧ Cell.okWide P W r b u x := by
  unfold Value.okWide at h
  split at h
  · obtain ⟨cs, rfl, h1, ts', h2, _, h3⟩ := h
    rw [hts] at h2
    cases h2
    exact ⟨cs, rfl, h1.trans hn, h3⟩
  · obtain ⟨cs, rfl, h1, ts', h2, _, h3⟩ := h
    rw [hts] at h2
    cases h2
    exact ⟨cs, rfl, h1.trans hn, h3⟩
  · rename_i e1 e2
    exfalso
    split at hs
    · rename_i fs e; exact e1 fs e
    · rename_i k e e'; exact e2 k e e'
    · cases hs

theorem arr2 {cs : Array Value} (h : cs.size = 2) : ∃ x y, cs = #[x, y] := by
  obtain ⟨l⟩ := cs
  match l, h with
  | [x, y], _ => exact ⟨x, y, rfl⟩
theorem arr4 {cs : Array Value} (h : cs.size = 4) : ∃ x y z u, cs = #[x, y, z, u] := by
  obtain ⟨l⟩ := cs
  match l, h with
  | [x, y, z, u], _ => exact ⟨x, y, z, u, rfl⟩

theorem int_u32 {n : Int} (h0 : IntKind.u32.min ≤ n) (h1 : n ≤ IntKind.u32.max) : ∃ m : Nat, n = (m : Int) ∧ m < 4294967296 := by
  have e0 : IntKind.u32.min = 0 := rfl
  have e1 : IntKind.u32.max = 4294967295 := rfl
  exact ⟨n.toNat, by omega, by omega⟩
theorem int_u8 {n : Int} (h0 : IntKind.u8.min ≤ n) (h1 : n ≤ IntKind.u8.max) : ∃ m : Nat, n = (m : Int) ∧ m < 256 := by
  have e0 : IntKind.u8.min = 0 := rfl
  have e1 : IntKind.u8.max = 255 := rfl
  exact ⟨n.toNat, by omega, by omega⟩
theorem int_u64 {n : Int} (h0 : IntKind.u64.min ≤ n) (h1 : n ≤ IntKind.u64.max) : ∃ m : Nat, n = (m : Int) ∧ m < 18446744073709551616 := by
  have e0 : IntKind.u64.min = 0 := rfl
  have e1 : IntKind.u64.max = 18446744073709551615 := rfl
  exact ⟨n.toNat, by omega, by omega⟩
theorem int_i64 {n : Int} (h0 : IntKind.i64.min ≤ n) (h1 : n ≤ IntKind.i64.max) : -9223372036854775808 ≤ n ∧ n ≤ 9223372036854775807 := by
  have e0 : IntKind.i64.min = -9223372036854775808 := rfl
  have e1 : IntKind.i64.max = 9223372036854775807 := rfl
  exact ⟨by omega, by omega⟩

end Opened
end Go.Proofs.Ytpccenaieeggmaa
