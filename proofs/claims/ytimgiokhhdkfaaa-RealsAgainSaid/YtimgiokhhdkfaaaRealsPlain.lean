/-
  NUMBERS WITH A POINT IN A SLICE: lists of words that a call owns or that came in; and what package reals computes, in plain words. No condition.
-/
import Derived.Test.YtimgiokhhdkfaaaPackRef
import Derived.Test.YtimgiokhhdkfaaaPackBack
import Derived.Test.YtimgiokhhdkfaaaBitsRefC
import Derived.Test.YtimgiokhhdkfaaaBitsRefN
import Derived.Test.YtimgiokhhdkfaaaBitsRefF
import Derived.Test.YtimgiokhhdkfaaaRealsSwap
import Derived.Test.YtimgiokhhdkfaaaHeld
import Derived.Deep.Slices
import Derived.OpenShut
import Derived.Outline
namespace Go.Proofs.Ytimgiokhhdkfaaa
open Go.RowKit Go.ChangeShapes Go.WideShapes Go.ChangeAt
namespace Rl
open Mem Pk Fl

/-! ### numbers in a slice -/
def cellsF (l : List Nat) : List Value := l.map (Value.float .f64)
theorem cellsF_length (l : List Nat) : (cellsF l).length = l.length := by unfold cellsF; simp
theorem cellsF_append (l m : List Nat) : cellsF (l ++ m) = cellsF l ++ cellsF m := by unfold cellsF; simp
theorem ones_float (L : List Nat) : ∀ u ∈ cellsF L, u.oneCell' = true := by
  intro u hu
  unfold cellsF at hu
  rw [List.mem_map] at hu
  obtain ⟨n, _, rfl⟩ := hu
  rfl
def OwnF (w : World) (base : Nat) (v : Value) (l : List Nat) : Prop := w.ownsRow base 33 1 v l.length (cellsF l)
theorem ownF_nil (w : World) (base : Nat) : OwnF w base (.slice none 0 0) [] := World.ownsRow_nil w base _ 1
theorem ownF_snoc {w : World} {base : Nat} {v : Value} {acc : List Nat} {m : Nat} (h : w.ownsRow base 33 1 v (acc.length + 1) (cellsF acc ++ [.float .f64 m])) : OwnF w base v (acc ++ [m]) := by
  unfold OwnF
  rw [cellsF_append, List.length_append, List.length_singleton]
  exact h
theorem one_float (m : Nat) : ∀ x ∈ [Value.float .f64 m], x.oneCell' = true := fun x hx => by simp at hx; subst hx; rfl
theorem infoF : (Try.prog.info? 33).map (fun i => (i.zero, i.size, i.bytes)) = some (some (.float .f64 0), 1, 8) := by kernel_rfl

/-- the slice's elements are the words zs. -/
structure Flts (W : World) (v : Value) (zs : List Nat) : Prop where
  val : ∃ (a : Option Addr) (cap : Nat), v = .slice a zs.length cap ∧ zs.length ≤ cap ∧ (0 < zs.length → ∃ b off, a = some ⟨b, off, none⟩ ∧ b < W.heap.size ∧ ∀ j, j < zs.length → W.cell? ⟨b, off + j, none⟩ = some (.float .f64 (zs[j]?.getD 0)))
  bound : ∀ n ∈ zs, n < 2 * S

theorem OwnF.flts {w : World} {base : Nat} {v : Value} {l : List Nat} (h : OwnF w base v l) (hb : ∀ n ∈ l, n < 2 * S) : Flts w v l := by
  obtain ⟨h1, h2⟩ := h
  refine ⟨?_, hb⟩
  rcases h2 with ⟨rfl, h0⟩ | ⟨g, cap, cur, rfl, hg, hh, hn, hm, hs, ht⟩
  · exact ⟨none, 0, by rw [h0], by omega, fun h => by omega⟩
  · refine ⟨_, cap, rfl, hn, fun _ => ⟨g, 0, rfl, lt_of_block hh, fun j hj => ?_⟩⟩
    rw [cell_at hh]
    have e2 : (cellsF l)[j]? = some (.float .f64 (l[j]?.getD 0)) := by unfold cellsF; simp [hj]
    rw [← ht, List.getElem?_take_of_lt (by omega)] at e2
    rw [← e2]
    simp
theorem flts_below {w w' : World} {v : Value} {l : List Nat} (h : Flts w v l) (hb : Below w.heap.size w w') : Flts w' v l := by
  obtain ⟨⟨a, cap, rfl, hr, hc⟩, h2⟩ := h
  refine ⟨⟨a, cap, rfl, hr, fun h0 => ?_⟩, h2⟩
  obtain ⟨b, off, e1, e2, e3⟩ := hc h0
  exact ⟨b, off, e1, Nat.lt_of_lt_of_le e2 hb.size, fun j hj => (hb.cell (p := ⟨b, off + j, none⟩) e2).trans (e3 j hj)⟩
theorem flts_nil (w : World) : Flts w (.slice none 0 0) [] := ⟨⟨none, 0, rfl, Nat.le_refl _, fun h => by simp at h⟩, fun n hn => by simp at hn⟩
theorem flts_at {W : World} {b o n c : Nat} {L : List Nat} (h : Flts W (.slice (some ⟨b, o, none⟩) n c) L) {j : Nat} (hj : j < L.length) : b < W.heap.size ∧ W.cell? ⟨b, o + j, none⟩ = some (.float .f64 (L[j]?.getD 0)) := by
  obtain ⟨⟨a', c', e1, -, h1⟩, -⟩ := h
  cases e1
  obtain ⟨b', o', e2, e3, h2⟩ := h1 (by omega)
  cases e2
  exact ⟨e3, h2 j hj⟩
theorem flts_cells {W : World} {b o n c : Nat} {L : List Nat} (h : Flts W (.slice (some ⟨b, o, none⟩) n c) L) : ∀ j u, (cellsF L)[j]? = some u → W.cell? ((⟨b, o, none⟩ : Addr).add j) = some u := by
  intro j u hu
  have hj : j < L.length := by
    have := List.getElem?_eq_some_iff.1 hu
    obtain ⟨h3, -⟩ := this
    rwa [cellsF_length] at h3
  have ea : (⟨b, o, none⟩ : Addr).add j = ⟨b, o + j, none⟩ := by unfold Addr.add; split <;> simp_all
  rw [ea, (flts_at h hj).2]
  unfold cellsF at hu
  rw [List.getElem?_map, List.getElem?_eq_getElem hj] at hu
  rw [← hu]
  simp [hj]

theorem trod_float {H : Type} {enc : TypeId × Value → H} {P : Program} {w : World} {base : Nat} {spare : Nat → Bool} {held : Bool} {fuel : Nat} {t : TypeId} {cs : List Value} {x : DataW H × List MemPlace} (ht : P.underlying t = some (.float .f64)) (h : DataW.trod enc P w base spare held fuel t cs = some x) : ∃ b : Nat, cs = [.float .f64 b] ∧ (Lit.float .f64 b).wf = true := by
  cases fuel with
  | zero => simp [DataW.trod] at h
  | succ n =>
    unfold DataW.trod at h
    rw [ht] at h
    split at h <;> simp_all
theorem flts_of {H : Type} {enc : TypeId × Value → H} {P : Program} {W : World} {t e : TypeId} {v : Value} {d : DataW H} {p : List MemPlace} (ht : P.underlying t = some (.slice e)) (he : P.underlying e = some (.float .f64)) (hc : P.cellsOf e = 1)
    (hv : ∃ a len cap, v = .slice a len cap) (h : DataW.Trod enc P W 0 (fun _ => true) true t v d p) : ∃ zs, Flts W v zs := by
  obtain ⟨a, len, cap, rfl⟩ := hv
  obtain ⟨fuel, hf⟩ := h
  rcases Go.Deep.open_slice1 ht hc hf with ⟨hcs, -⟩ | ⟨a', len', cap', m, n, V, D, Pl, hcs, hb, hl, hm, hmm, hx, hcell⟩
  · simp [Value.cells] at hcs
    obtain ⟨rfl, rfl, rfl⟩ := hcs
    exact ⟨[], flts_nil W⟩
  · simp [Value.cells] at hcs
    obtain ⟨rfl, rfl, rfl⟩ := hcs
    simp only [if_true] at hmm
    have hV : ∀ i, i < len → ∃ b : Nat, V i = .float .f64 b ∧ b < 2 * S := fun i hi => by
      obtain ⟨h1, h2⟩ := hcell i (by omega)
      obtain ⟨b, e1, e2⟩ := trod_float he h2
      have e3 : V i = .float .f64 b := by simpa using e1
      refine ⟨b, e3, ?_⟩
      have e4 : b < 18446744073709551616 := by simpa [Lit.wf, FloatKind.has] using e2
      exact e4
    obtain ⟨Z, hZ⟩ := Go.Deep.choose_lt (α := Nat) hV
    have hlen : ((List.range len).map Z).length = len := by simp
    refine ⟨(List.range len).map Z, ⟨some a', cap, by rw [hlen], by rw [hlen]; exact hl, fun hp => ?_⟩, fun n hn => ?_⟩
    · rw [hlen] at hp ⊢
      have h0 := (hcell 0 (by omega)).1
      obtain ⟨b', off, rfl⟩ : ∃ b off, a' = ⟨b, off, none⟩ := by
        obtain ⟨b, off, spot⟩ := a'
        have hspot : spot = none := by simpa [Addr.add] using World.cell?_spot h0
        subst hspot
        exact ⟨b, off, rfl⟩
      refine ⟨b', off, rfl, World.block_lt_of_cell? _ _ (by simpa [Addr.add] using h0), fun j hj => ?_⟩
      have hj1 := (hcell j (by omega)).1
      have ea : (⟨b', off, none⟩ : Addr).add j = ⟨b', off + j, none⟩ := by unfold Addr.add; split <;> simp_all
      rw [ea, (hZ j hj).1] at hj1
      rw [hj1]
      simp [hj]
    · simp only [List.mem_map, List.mem_range] at hn
      obtain ⟨i, hi, rfl⟩ := hn
      exact (hZ i hi).2

/-! ### what is computed -/
/-- the bytes of numbers. -/
def encR : Nat → List Nat → List UInt8
  | _, [] => []
  | last, b :: l => putL (swapN (canon b ^^^ last)) ++ encR (canon b) l
/-- the last number's bits. -/
def lastR : Nat → List Nat → Nat
  | last, [] => last
  | _, b :: l => lastR (canon b) l
theorem encR_append (l m : List Nat) : ∀ p, encR p (l ++ m) = encR p l ++ encR (lastR p l) m := by
  induction l with
  | nil => intro p; rfl
  | cons b l ih => intro p; rw [List.cons_append, encR, ih, encR, lastR, List.append_assoc]
theorem lastR_append (l m : List Nat) : ∀ p, lastR p (l ++ m) = lastR (lastR p l) m := by
  induction l with
  | nil => intro p; rfl
  | cons b l ih => intro p; rw [List.cons_append, lastR, ih, lastR]
theorem encR_snoc (l : List Nat) (b p : Nat) : encR p (l ++ [b]) = encR p l ++ putL (swapN (canon b ^^^ lastR p l)) := by
  rw [encR_append]
  show encR p l ++ (_ ++ []) = _
  rw [List.append_nil]
theorem lastR_snoc (l : List Nat) (b p : Nat) : lastR p (l ++ [b]) = canon b := by rw [lastR_append]; rfl
theorem xor_lt {a b : Nat} (ha : a < 2 * S) (hb : b < 2 * S) : a ^^^ b < 2 * S := by
  have e : 2 * S = 2 ^ 64 := by decide
  rw [e] at *
  exact Nat.xor_lt_two_pow ha hb
theorem lastR_lt (l : List Nat) : ∀ p, p < 2 * S → (∀ b ∈ l, b < 2 * S) → lastR p l < 2 * S := by
  induction l with
  | nil => intro p hp _; exact hp
  | cons b l ih => intro p _ h; exact ih _ (canon_lt (h b List.mem_cons_self)) (fun c hc => h c (List.mem_cons_of_mem _ hc))
theorem encR_len (l : List Nat) : ∀ p, (encR p l).length ≤ 10 * l.length := by
  induction l with
  | nil => intro p; exact Nat.le_refl _
  | cons b l ih =>
    intro p
    rw [encR, List.length_append, List.length_cons]
    have := putL_length (swapN (canon b ^^^ p))
    have := ih (canon b)
    omega
theorem encR_ge (l : List Nat) : ∀ p, l.length ≤ (encR p l).length := by
  induction l with
  | nil => intro p; exact Nat.le_refl _
  | cons b l ih =>
    intro p
    rw [encR, List.length_append, List.length_cons]
    have := putL_pos (swapN (canon b ^^^ p))
    have := ih (canon b)
    omega
/-- k numbers are read behind a number's bits: the code, and the bits of each. -/
def rdR : Nat → ByteArray → Nat → Int × List Nat
  | 0, s, _ => (doneE s 0, [])
  | k + 1, s, last =>
    if numE s 0 ≠ 0 then (numE s 0, [])
    else if canonB (swapN (numN s 0) ^^^ last) = false then (5, [])
    else ((rdR k (rest s (numK s 0)) (swapN (numN s 0) ^^^ last)).1, (swapN (numN s 0) ^^^ last) :: (rdR k (rest s (numK s 0)) (swapN (numN s 0) ^^^ last)).2)
def decRE (s : ByteArray) (n : Int) : Int := if n < 0 then 1 else if (s.size : Int) < n then 2 else (rdR n.toNat s 0).1
def decRL (s : ByteArray) (n : Int) : List Nat := if n < 0 then [] else if (s.size : Int) < n then [] else if (rdR n.toNat s 0).1 = 0 then (rdR n.toNat s 0).2 else []

end Rl
end Go.Proofs.Ytimgiokhhdkfaaa
