/-
  A ROW OF BYTES THAT A CALL MADE, and an array of masks in a box: the lines of XCrcSpoils that name no law. No program.
-/
import Derived.Test.YtpccenaieeggmaaCrcSpoilsPlain
import Derived.Test.YtpccenaieeggmaaOpen
import Derived.Test.YtpccenaieeggmaaChunkBackP
import Derived.BigRegion
import Derived.Deep.RegionHeld3
import Derived.Deep.DrawnRows
namespace Go.Proofs.Ytpccenaieeggmaa
open Go.RowKit
namespace Crc
attribute [local go_sem ↓] Go.wp_at_zero Go.wp_at_succ

/-! ### a row of bytes, in a block that bears a mark behind it -/
def cells8 (l : List UInt8) : Array Value := (l.map fun b => Value.int .u8 (b.toNat : Int)).toArray
/-- block b: the bytes l, and what lies behind them. -/
def Row8 (b : Nat) (l : List UInt8) (w : World) : Prop := ∃ (r : Array Value) (lo hi : Nat), w.heap[b]? = some (.cells (cells8 l ++ r) 5 (lo, hi)) ∧ l.length ≤ lo

theorem cells8_size (l : List UInt8) : (cells8 l).size = l.length := by simp [cells8]
theorem Row8.cell {b : Nat} {l : List UInt8} {w : World} (h : Row8 b l w) (j : Nat) (hj : j < l.length) : w.cell? ⟨b, j, none⟩ = some (.int .u8 ((l.getD j 0).toNat : Int)) := by
  obtain ⟨r, lo, hi, h, _⟩ := h
  rw [cell_of_row w b j _ _ _ h, Array.getElem?_append_left (by rw [cells8_size]; exact hj)]
  simp [cells8, hj]
theorem Row8.frozen {b : Nat} {l : List UInt8} {w : World} (h : Row8 b l w) (j : Nat) (hj : j < l.length) : w.frozen? ⟨b, j, none⟩ = false := by
  obtain ⟨r, lo, hi, h, hlo⟩ := h
  simp [World.frozen?, h]
  intro h'
  omega
theorem Row8.set {b : Nat} {l : List UInt8} {w : World} (h : Row8 b l w) (j : Nat) (hj : j < l.length) (x : UInt8) : Row8 b (l.set j x) (w.setCell ⟨b, j, none⟩ (.int .u8 (x.toNat : Int))) := by
  obtain ⟨r, lo, hi, h, hlo⟩ := h
  refine ⟨r, lo, hi, ?_, by rw [List.length_set]; exact hlo⟩
  have e : (cells8 l ++ r).setIfInBounds j (.int .u8 (x.toNat : Int)) = cells8 (l.set j x) ++ r := by
    rw [Array.setIfInBounds_append_left (by rw [cells8_size]; exact hj)]
    congr 1
    simp only [cells8, List.setIfInBounds_toArray]
    congr 1
    rw [List.map_set]
  rw [← e]
  unfold World.setCell
  rw [Array.getElem?_modify, if_pos rfl, h]
  rfl
theorem Row8.drew {b : Nat} {l : List UInt8} {w : World} (h : Row8 b l w) : Row8 b l w.drew := h
theorem Row8.lt {b : Nat} {l : List UInt8} {w : World} (h : Row8 b l w) : b < w.heap.size := by
  obtain ⟨r, lo, hi, h, _⟩ := h
  exact lt_of_block h
theorem Row8.below {b B : Nat} {l : List UInt8} {w w' : World} (h : Row8 b l w) (hb : Below B w w') (hlt : b < B) : Row8 b l w' := by
  obtain ⟨r, lo, hi, h, h'⟩ := h
  exact ⟨r, lo, hi, (hb.block b hlt).trans h, h'⟩

/-- '[]byte(s)': a new row of its bytes. -/
theorem bytes_row (w : World) (s : ByteArray) : ∃ (C : Array Value) (cap : Nat) (fz : Nat × Nat), (convert 9 42 (.string s)).run Try.prog w = .ok (.slice (some ⟨w.heap.size, 0, none⟩) s.size cap) (w.drew.alloc (.cells C 5 fz)) ∧
    Row8 w.heap.size s.data.toList (w.alloc (.cells C 5 fz)).drew ∧ s.size ≤ cap := by
  have h := run_bytes_of_string w 9 42 5 s Try.underlying9 Try.underlying42 Try.underlying5
  have hg := grownCap_ge w s.size 0 5
  generalize grownCap w s.size 0 5 = cap at *
  have e : bytesRow s cap = cells8 s.data.toList ++ Array.replicate (cap - s.size) (.int .u8 0) := by
    unfold bytesRow cells8
    congr 1
    obtain ⟨⟨l⟩⟩ := s
    simp
  rw [e] at h
  refine ⟨_, _, _, h, ⟨_, _, _, heap_alloc_last w _, ?_⟩, hg⟩
  rw [Array.size_append, cells8_size]
  omega

theorem xor8 (a b : UInt8) : bits .xor .u8 (a.toNat : Int) (b.toNat : Int) = ((a ^^^ b).toNat : Int) := by
  rw [u8_xor_nat a.toNat b.toNat a.toNat_lt b.toNat_lt, UInt8.toNat_xor]

theorem ne_u8 (x : UInt8) : ((x.toNat : Int) != 0) = (x != 0) := by
  rw [Bool.eq_iff_iff]
  simp only [bne_iff_ne, ne_eq]
  constructor
  · intro h e; rw [e] at h; exact h rfl
  · intro h e; exact h (UInt8.toNat_inj.1 (by have : x.toNat = 0 := by omega
                                              exact this))

/-- the masks' box. -/
def Masks (b : Nat) (ms : List UInt8) (w : World) : Prop := w.heap[b]? = some (.cells (cells8 ms) 41 (0, 0))
theorem Masks.cell {b : Nat} {ms : List UInt8} {w : World} (h : Masks b ms w) (j : Nat) (hj : j < ms.length) : w.cell? ⟨b, j, none⟩ = some (.int .u8 ((ms.getD j 0).toNat : Int)) := by
  rw [cell_of_row w b j _ _ _ h]
  simp [cells8, hj]
theorem Masks.other {b c : Nat} {ms : List UInt8} {w : World} (h : Masks b ms w) (j : Nat) (v : Value) (hne : b ≠ c) : Masks b ms (w.setCell ⟨c, j, none⟩ v) :=
  (heap_setCell_other w ⟨c, j, none⟩ b v hne).trans h

/-- 'string(b)' of such a row. -/
theorem conv_row {b : Nat} {l : List UInt8} {w : World} (h : Row8 b l w) (n cap : Nat) (hn : l.length = n) : (convert 42 9 (.slice (some ⟨b, 0, none⟩) n cap)).run Try.prog w = .ok (.string ⟨l.toArray⟩) w := by
  subst hn
  refine run_convert_bytes_back (P := Try.prog) w 42 9 5 ⟨b, 0, none⟩ cap l Try.underlying42 Try.underlying5 Try.underlying9 ?_
  intro j hj
  rw [Addr.add_lit, Nat.zero_add, h.cell j hj, List.getD_eq_getElem?_getD, List.getElem?_eq_getElem hj]
  rfl

theorem open_byte {b : Nat} {W : World} {x : Value} (h : Cell.okWide Try.prog W .any b 5 x) : ∃ m : UInt8, x = .int .u8 (m.toNat : Int) := by
  obtain ⟨n, rfl, h0, h1⟩ := Opened.cell_int Try.underlying5 h
  obtain ⟨m, rfl, l⟩ := Opened.int_u8 h0 h1
  exact ⟨UInt8.ofNat m, by rw [UInt8.toNat_ofNat_of_lt' l]⟩

theorem open_masks {b : Nat} {W : World} {v : Value} (h : Value.okWide Try.prog W .any b 41 v) : ∃ ms : List UInt8, v = .agg (cells8 ms) ∧ ms.length = 4 := by
  obtain ⟨cs, rfl, hs, hc⟩ := Opened.ok_cells [5, 5, 5, 5] 4 (by kernel_rfl) (by kernel_rfl) (by kernel_rfl) h
  obtain ⟨x, y, z, u, rfl⟩ := Opened.arr4 hs
  obtain ⟨k, hk, hx⟩ := hc 0 x rfl
  cases hk
  obtain ⟨m0, rfl⟩ := open_byte hx
  obtain ⟨k, hk, hx⟩ := hc 1 y rfl
  cases hk
  obtain ⟨m1, rfl⟩ := open_byte hx
  obtain ⟨k, hk, hx⟩ := hc 2 z rfl
  cases hk
  obtain ⟨m2, rfl⟩ := open_byte hx
  obtain ⟨k, hk, hx⟩ := hc 3 u rfl
  cases hk
  obtain ⟨m3, rfl⟩ := open_byte hx
  exact ⟨[m0, m1, m2, m3], rfl, rfl⟩

end Crc
end Go.Proofs.Ytpccenaieeggmaa
