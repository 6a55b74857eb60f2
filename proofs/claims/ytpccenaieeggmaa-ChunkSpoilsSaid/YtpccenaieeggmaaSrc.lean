/-
  append of a slice that may be nil, onto a row that the call owns: one law. No program.
-/
import Derived.Test.YtpccenaieeggmaaMem
import Derived.Laws.AppendOwnNone
namespace Go.Proofs.Ytpccenaieeggmaa
open Go.RowKit
namespace Mem

/-- the value y is nil, or a slice whose m elements are the cells news. -/
def Src (w : World) (y : Value) (m : Nat) (news : List Value) : Prop :=
  (y = .slice none 0 0 ∧ m = 0 ∧ news = []) ∨ ∃ ad c, y = .slice (some ad) m c ∧ ∀ j u, news[j]? = some u → w.cell? (ad.add j) = some u
theorem block_of_add (a : Addr) (n : Nat) : (a.add n).block = a.block := by unfold Addr.add; split <;> rfl
theorem Src.below {w w' : World} {y : Value} {m : Nat} {news : List Value} (h : Src w y m news) (hb : Below w.heap.size w w') : Src w' y m news := by
  rcases h with h | ⟨ad, c, e, hc⟩
  · exact .inl h
  · refine .inr ⟨ad, c, e, fun j u hu => ?_⟩
    have h1 := hc j u hu
    have h2 := World.block_lt_of_cell? _ _ h1
    exact (hb.cell h2).trans h1

theorem wpList_append_src {P : Program} {w : World} {ops : Array Oper} {rest : List Oper} {o : Oper} {a : Act} {Q : Exit → Act → World → Prop} (hgd : o.guard = none) (s x : Operand) (t : TypeId)
    (ho : o.op = .call { callee := .builtin .append, args := #[s, x], argTypes := #[t, t] })
    (base : Nat) (e : TypeId) (i : TypeInfo) (z : Value) (size bytes : Nat) (ht : P.underlying t = some (.slice e)) (hi : P.info? e = some i) (hz : i.zero = some z)
    (hsize : i.size = size) (hby : i.bytes = bytes) (hzs : z.cells.size = size) (hsz : 0 < size)
    (v : Value) (n : Nat) (xs : List Value) (hs : a.eval s = v) (hown : w.ownsRow base e size v n xs)
    (y : Value) (m : Nat) (news : List Value) (hx : a.eval x = y) (hl : news.length = m * size) (hsrc : Src w y m news) (h1 : ∀ u ∈ news, u.oneCell' = true)
    (h63 : n + m ≤ maxLen) (hbytes : (n + m) * bytes ≤ 140737488355328) (hbase : base ≤ w.heap.size)
    (h : ∀ v' w', w'.ownsRow base e size v' (n + m) (xs ++ news) → w.grownBy w' v.ownBlock → wpList P ops Q rest (a.put o.dst v') w') : wpList P ops Q (o :: rest) a w := by
  rcases hsrc with ⟨e1, rfl, rfl⟩ | ⟨ad, c, e1, hc⟩
  · refine wpList_append_own_none hgd s x t ho base e i size ht hi v n xs hs hown (hx.trans e1) ?_
    refine h v w ?_ ⟨rfl, rfl, rfl, Nat.le_refl _, fun _ _ _ => rfl⟩
    rw [Nat.add_zero, List.append_nil]
    exact hown
  · exact wpList_append_own w hgd s x t ho base e i z size bytes ht hi hz hsize hby hzs hsz v n xs hs hown ad m c news (hx.trans e1) hl hc h1 h63 hbytes hbase fun v' w' h2 h3 _ => h v' w' h2 h3

end Mem
end Go.Proofs.Ytpccenaieeggmaa
