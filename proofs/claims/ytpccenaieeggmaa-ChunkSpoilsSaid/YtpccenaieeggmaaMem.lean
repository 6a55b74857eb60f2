/-
  MEMORY: of what kept is when only some blocks are written ('Kept T'); blocks of cells known whole; bytes that a call owns. No program.
-/
import Derived.Test.YtpccenaieeggmaaRows
import Derived.WalkKit
import Derived.WalkSpells
import Derived.WalkLawsBesides
import Derived.Lib.Hide
import Derived.KernelRfl
import Derived.OneCell
import Derived.Laws.BytesArg
import Derived.Laws.IdiomStrings
namespace Go.Proofs.Ytpccenaieeggmaa
open Go.RowKit
namespace Mem

/-- Whatever lay there lies as it lay, but for the blocks of which T speaks. -/
structure Kept (T : Nat → Prop) (w w' : World) : Prop where
  os : w'.os = w.os
  tape : w'.tape = w.tape
  output : w'.output = w.output
  size : w.heap.size ≤ w'.heap.size
  block : ∀ k, k < w.heap.size → ¬ T k → w'.heap[k]? = w.heap[k]?

theorem Kept.refl (T : Nat → Prop) (w : World) : Kept T w w := ⟨rfl, rfl, rfl, Nat.le_refl _, fun _ _ _ => rfl⟩
theorem Kept.trans {T : Nat → Prop} {a b c : World} (h : Kept T a b) (k : Kept T b c) : Kept T a c :=
  ⟨k.os.trans h.os, k.tape.trans h.tape, k.output.trans h.output, Nat.le_trans h.size k.size, fun i hi ht => (k.block i (Nat.lt_of_lt_of_le hi h.size) ht).trans (h.block i hi ht)⟩
/-- less may be kept; and what the second step writes may be new. -/
theorem Kept.then {T T' : Nat → Prop} {a b c : World} (h : Kept T a b) (k : Kept T' b c) (hT : ∀ i, i < a.heap.size → T' i → T i) : Kept T a c :=
  ⟨k.os.trans h.os, k.tape.trans h.tape, k.output.trans h.output, Nat.le_trans h.size k.size, fun i hi ht => (k.block i (Nat.lt_of_lt_of_le hi h.size) (fun h' => ht (hT i hi h'))).trans (h.block i hi ht)⟩
theorem Kept.mono {T T' : Nat → Prop} {a b : World} (h : Kept T a b) (hT : ∀ i, i < a.heap.size → T i → T' i) : Kept T' a b :=
  ⟨h.os, h.tape, h.output, h.size, fun i hi ht => h.block i hi (fun h' => ht (hT i hi h'))⟩
theorem Kept.drew {T : Nat → Prop} {a w : World} (h : Kept T a w) : Kept T a w.drew := ⟨h.os, h.tape, h.output, h.size, h.block⟩
theorem Kept.alloc {T : Nat → Prop} {a w : World} (h : Kept T a w) (o : Obj) : Kept T a (w.alloc o) :=
  h.trans ⟨rfl, rfl, rfl, by simp, fun k hk _ => Below.heap_alloc _ _ _ hk⟩
theorem Kept.setCell {T : Nat → Prop} {a w : World} (h : Kept T a w) {p : Addr} (hp : p.block < a.heap.size → T p.block) (u : Value) : Kept T a (w.setCell p u) :=
  ⟨h.os, h.tape, h.output, by simpa [World.setCell] using h.size, fun k hk ht => by
    rw [Below.heap_setCell _ _ _ _ (fun e => ht (by subst e; exact hp hk))]
    exact h.block k hk ht⟩
theorem Kept.below {T : Nat → Prop} {a w w' : World} (h : Kept T a w) (hb : Below w.heap.size w w') : Kept T a w' :=
  ⟨hb.os.trans h.os, hb.tape.trans h.tape, hb.output.trans h.output, Nat.le_trans h.size hb.size, fun k hk ht => (hb.block k (Nat.lt_of_lt_of_le hk h.size)).trans (h.block k hk ht)⟩
theorem Kept.of_below {T : Nat → Prop} {w w' : World} (hb : Below w.heap.size w w') : Kept T w w' := (Kept.refl T w).below hb
theorem Kept.to_below {T : Nat → Prop} {w w' : World} {B : Nat} (h : Kept T w w') (hB : B ≤ w.heap.size) (hT : ∀ k, k < B → ¬ T k) : Below B w w' :=
  ⟨h.os, h.tape, h.output, h.size, fun k hk => h.block k (by omega) (hT k hk)⟩
theorem Kept.grown {T : Nat → Prop} {a w w' : World} {row : Option Nat} (h : Kept T a w) (hg : w.grownBy w' row) (hr : ∀ k, row = some k → k < a.heap.size → T k) : Kept T a w' :=
  ⟨hg.os.trans h.os, hg.tape.trans h.tape, hg.output.trans h.output, Nat.le_trans h.size hg.size, fun k hk ht => (hg.block k (Nat.lt_of_lt_of_le hk h.size) (fun e => ht (hr k e.symm hk))).trans (h.block k hk ht)⟩
theorem Kept.at {T : Nat → Prop} {w w' : World} {b : Nat} {o : Obj} (h : Kept T w w') (hb : w.heap[b]? = some o) (hT : ¬ T b) : w'.heap[b]? = some o :=
  (h.block b (lt_of_block hb) hT).trans hb
theorem below_at {w w' : World} {b B : Nat} {o : Obj} (h : Below B w w') (hb : w.heap[b]? = some o) (hB : b < B) : w'.heap[b]? = some o := (h.block b hB).trans hb
theorem alloc_at {w : World} {b : Nat} {o : Obj} (x : Obj) (hb : w.heap[b]? = some o) : (w.alloc x).heap[b]? = some o := (Below.heap_alloc w x b (lt_of_block hb)).trans hb
theorem alloc_new (w : World) (x : Obj) : (w.alloc x).heap[w.heap.size]? = some x := heap_alloc_new w x

/-! ### a block of cells, known whole -/
theorem cell_at {w : World} {b : Nat} {cs : Array Value} {t : TypeId} {f : Nat × Nat} (h : w.heap[b]? = some (.cells cs t f)) (i : Nat) : w.cell? ⟨b, i, none⟩ = cs[i]? := by simp [World.cell?, h]
theorem free_at {w : World} {b : Nat} {cs : Array Value} {t : TypeId} (h : w.heap[b]? = some (.cells cs t (0, 0))) (i : Nat) : w.frozen? ⟨b, i, none⟩ = false := by simp [World.frozen?, h]
theorem set_at {w : World} {b : Nat} {cs : Array Value} {t : TypeId} {f : Nat × Nat} (h : w.heap[b]? = some (.cells cs t f)) (i : Nat) (v : Value) : (w.setCell ⟨b, i, none⟩ v).heap[b]? = some (.cells (cs.setIfInBounds i v) t f) := by
  have hlt := lt_of_block h
  have h' : w.heap[b] = .cells cs t f := by simpa [Array.getElem?_eq_getElem hlt] using h
  show (w.heap.modify b _)[b]? = _
  rw [Array.getElem?_eq_getElem (by simpa using hlt), Array.getElem_modify_self, h']
  rfl
theorem set_other {w : World} {b : Nat} {o : Obj} (h : w.heap[b]? = some o) {p : Addr} (hp : b ≠ p.block) (v : Value) : (w.setCell p v).heap[b]? = some o := (Below.heap_setCell _ _ _ _ hp).trans h

/-! ### bytes -/
def cells8 (l : List UInt8) : List Value := l.map fun b => Value.int .u8 (b.toNat : Int)
theorem cells8_length (l : List UInt8) : (cells8 l).length = l.length := by unfold cells8; simp
theorem cells8_append (l m : List UInt8) : cells8 (l ++ m) = cells8 l ++ cells8 m := by unfold cells8; simp
/-- the bytes l are a slice's that the call itself made. -/
def Own8 (w : World) (base : Nat) (v : Value) (l : List UInt8) : Prop := w.ownsRow base 5 1 v l.length (cells8 l)

theorem own8_nil (w : World) (base : Nat) : Own8 w base (.slice none 0 0) [] := World.ownsRow_nil w base _ 1

/-- a string of bytes. -/
def str (l : List UInt8) : ByteArray := ⟨l.toArray⟩
theorem str_data (l : List UInt8) : (str l).data.toList = l := by unfold str; simp
theorem size_list (s : ByteArray) : s.data.toList.length = s.size := Array.length_toList
theorem str_size (l : List UInt8) : (str l).size = l.length := by rw [← size_list, str_data]
theorem str_of (s : ByteArray) : str s.data.toList = s := by unfold str; rw [Array.toArray_toList]
theorem str_inj {l m : List UInt8} (h : str l = str m) : l = m := by rw [← str_data l, h, str_data]

theorem own8_string {w : World} {base : Nat} {v : Value} {l : List UInt8} (h : Own8 w base v l) :
    (convert 42 9 v).run Try.prog w = .ok (.string (str l)) w := by
  obtain ⟨h1, h2⟩ := h
  rcases h2 with ⟨rfl, h0⟩ | ⟨g, cap, cur, rfl, hg, hh, hn, hm, hs, ht⟩
  · have e : l = [] := by cases l with | nil => rfl | cons a t => simp at h0
    subst e
    rw [run_convert_bytes_nil w 42 5 Try.underlying42 Try.underlying5 0 0 9 Try.underlying9]
    rfl
  · refine run_convert_bytes_back w 42 9 5 ⟨g, 0, none⟩ cap l Try.underlying42 Try.underlying5 Try.underlying9 (fun j hj => ?_)
    have e : (⟨g, 0, none⟩ : Addr).add j = ⟨g, j, none⟩ := by unfold Addr.add; split <;> simp_all
    rw [e, cell_at hh]
    have e2 : (cells8 l)[j]? = some (.int .u8 (l[j].toNat : Int)) := by unfold cells8; simp [hj]
    rw [← ht, List.getElem?_take_of_lt (by omega)] at e2
    rw [← e2]
    simp

end Mem
end Go.Proofs.Ytpccenaieeggmaa
