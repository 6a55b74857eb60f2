/-
  Of two texts of one length that are unlike in up to four bytes, one behind the other, alone, the sums are unlike: the walk of the law. No condition.
-/
import Derived.Test.YtmhlnfijghfngaaCrcSpoilsPlain
import Derived.Test.YtmhlnfijghfngaaCrcJoins
import Derived.BigRegion
import Derived.Deep.RegionHeld3
import Derived.Deep.DrawnRows
namespace Go.Proofs.Ytmhlnfijghfngaa
open Go.RowKit
namespace Crc
attribute [local go_sem ↓] Go.wp_at_zero Go.wp_at_succ

/-! ### a row of bytes, in a block that bears a mark behind it -/
def cells8 (l : List UInt8) : Array Value := (l.map fun b => Value.int .u8 (b.toNat : Int)).toArray
/-- block b: the bytes l, and what lies behind them. -/
def Row8 (b : Nat) (l : List UInt8) (w : World) : Prop := ∃ (r : Array Value) (lo hi : Nat), w.heap[b]? = some (.cells (cells8 l ++ r) 5 (lo, hi)) ∧ l.length ≤ lo

theorem cells8_size (l : List UInt8) : (cells8 l).size = l.length := by simp [cells8]
theorem Row8.cell {b : Nat} {l : List UInt8} {w : World} (h : Row8 b l w) (j : Nat) (hj : j < l.length) : w.cell? ⟨b, j, none⟩ = some (.int .u8 ((l.getD j 0).toNat : Int)) := by
  obtain ⟨r, lo, hi, h, _⟩ := h
  rw [cell_of_row w b j _ _ _ h, Array.getElem?_append_left (by rw [cells8_size]; exact hj)]
  simp [cells8, hj]
theorem Row8.frozen {b : Nat} {l : List UInt8} {w : World} (h : Row8 b l w) (j : Nat) (hj : j < l.length) : w.frozen? ⟨b, j, none⟩ = false := by
  obtain ⟨r, lo, hi, h, hlo⟩ := h
  simp [World.frozen?, h]
  intro h'
  omega
theorem Row8.set {b : Nat} {l : List UInt8} {w : World} (h : Row8 b l w) (j : Nat) (hj : j < l.length) (x : UInt8) : Row8 b (l.set j x) (w.setCell ⟨b, j, none⟩ (.int .u8 (x.toNat : Int))) := by
  obtain ⟨r, lo, hi, h, hlo⟩ := h
  refine ⟨r, lo, hi, ?_, by rw [List.length_set]; exact hlo⟩
  have e : (cells8 l ++ r).setIfInBounds j (.int .u8 (x.toNat : Int)) = cells8 (l.set j x) ++ r := by
    rw [Array.setIfInBounds_append_left (by rw [cells8_size]; exact hj)]
    congr 1
    simp only [cells8, List.setIfInBounds_toArray]
    congr 1
    rw [List.map_set]
  rw [← e]
  unfold World.setCell
  rw [Array.getElem?_modify, if_pos rfl, h]
  rfl
theorem Row8.drew {b : Nat} {l : List UInt8} {w : World} (h : Row8 b l w) : Row8 b l w.drew := h
theorem Row8.lt {b : Nat} {l : List UInt8} {w : World} (h : Row8 b l w) : b < w.heap.size := by
  obtain ⟨r, lo, hi, h, _⟩ := h
  exact lt_of_block h
theorem Row8.below {b B : Nat} {l : List UInt8} {w w' : World} (h : Row8 b l w) (hb : Below B w w') (hlt : b < B) : Row8 b l w' := by
  obtain ⟨r, lo, hi, h, h'⟩ := h
  exact ⟨r, lo, hi, (hb.block b hlt).trans h, h'⟩

/-- '[]byte(s)': a new row of its bytes. -/
theorem bytes_row (w : World) (s : ByteArray) : ∃ (C : Array Value) (cap : Nat) (fz : Nat × Nat), (convert 9 32 (.string s)).run Try.prog w = .ok (.slice (some ⟨w.heap.size, 0, none⟩) s.size cap) (w.drew.alloc (.cells C 5 fz)) ∧
    Row8 w.heap.size s.data.toList (w.alloc (.cells C 5 fz)).drew ∧ s.size ≤ cap := by
  have h := run_bytes_of_string w 9 32 5 s Try.underlying9 Try.underlying32 Try.underlying5
  have hg := grownCap_ge w s.size 0 5
  generalize grownCap w s.size 0 5 = cap at *
  have e : bytesRow s cap = cells8 s.data.toList ++ Array.replicate (cap - s.size) (.int .u8 0) := by
    unfold bytesRow cells8
    congr 1
    obtain ⟨⟨l⟩⟩ := s
    simp
  rw [e] at h
  refine ⟨_, _, _, h, ⟨_, _, _, heap_alloc_last w _, ?_⟩, hg⟩
  rw [Array.size_append, cells8_size]
  omega

theorem xor8 (a b : UInt8) : bits .xor .u8 (a.toNat : Int) (b.toNat : Int) = ((a ^^^ b).toNat : Int) := by
  rw [u8_xor_nat a.toNat b.toNat a.toNat_lt b.toNat_lt, UInt8.toNat_xor]

theorem ne_u8 (x : UInt8) : ((x.toNat : Int) != 0) = (x != 0) := by
  rw [Bool.eq_iff_iff]
  simp only [bne_iff_ne, ne_eq]
  constructor
  · intro h e; rw [e] at h; exact h rfl
  · intro h e; exact h (UInt8.toNat_inj.1 (by have : x.toNat = 0 := by omega
                                              exact this))

/-- the masks' box. -/
def Masks (b : Nat) (ms : List UInt8) (w : World) : Prop := w.heap[b]? = some (.cells (cells8 ms) 31 (0, 0))
theorem Masks.cell {b : Nat} {ms : List UInt8} {w : World} (h : Masks b ms w) (j : Nat) (hj : j < ms.length) : w.cell? ⟨b, j, none⟩ = some (.int .u8 ((ms.getD j 0).toNat : Int)) := by
  rw [cell_of_row w b j _ _ _ h]
  simp [cells8, hj]
theorem Masks.other {b c : Nat} {ms : List UInt8} {w : World} (h : Masks b ms w) (j : Nat) (v : Value) (hne : b ≠ c) : Masks b ms (w.setCell ⟨c, j, none⟩ v) :=
  (heap_setCell_other w ⟨c, j, none⟩ b v hne).trans h

/-- 'string(b)' of such a row. -/
theorem conv_row {b : Nat} {l : List UInt8} {w : World} (h : Row8 b l w) (n cap : Nat) (hn : l.length = n) : (convert 32 9 (.slice (some ⟨b, 0, none⟩) n cap)).run Try.prog w = .ok (.string ⟨l.toArray⟩) w := by
  subst hn
  refine run_convert_bytes_back (P := Try.prog) w 32 9 5 ⟨b, 0, none⟩ cap l Try.underlying32 Try.underlying5 Try.underlying9 ?_
  intro j hj
  rw [Addr.add_lit, Nat.zero_add, h.cell j hj, List.getD_eq_getElem?_getD, List.getElem?_eq_getElem hj]
  rfl

/-- what the last statement of the law keeps. -/
theorem last_keeps {w v : World} {l : List UInt8} {T : ByteArray} {n cap : Nat} (hT : (ByteArray.mk l.toArray) = T) (hn : l.length = n) (hr : Row8 (w.heap.size + 1) l v) (hb : Below w.heap.size w v) (hz : w.heap.size + 1 < v.heap.size) :
    (convert 32 9 (.slice (some ⟨w.heap.size + 1, 0, none⟩) n cap)).run Try.prog v = .ok (.string T) v ∧ Row8 (w.heap.size + 1) l v ∧ Below w.heap.size w v ∧ w.heap.size + 1 < v.heap.size := by
  subst hT
  exact ⟨conv_row hr n cap hn, hr, hb, hz⟩
theorem last_next {w v v' : World} {l : List UInt8} {T : ByteArray} {n cap : Nat} (hT : (ByteArray.mk l.toArray) = T) (hn : l.length = n)
    (h : (convert 32 9 (.slice (some ⟨w.heap.size + 1, 0, none⟩) n cap)).run Try.prog v = .ok (.string T) v ∧ Row8 (w.heap.size + 1) l v ∧ Below w.heap.size w v ∧ w.heap.size + 1 < v.heap.size) (hb : Below v.heap.size v v') :
    (convert 32 9 (.slice (some ⟨w.heap.size + 1, 0, none⟩) n cap)).run Try.prog v' = .ok (.string T) v' ∧ Row8 (w.heap.size + 1) l v' ∧ Below w.heap.size w v' ∧ w.heap.size + 1 < v'.heap.size := by
  obtain ⟨_, h2, h3, h4⟩ := h
  exact last_keeps hT hn (h2.below hb h4) (h3.trans (hb.mono (by omega))) (Nat.lt_of_lt_of_le h4 hb.size)

theorem sums_differ {s T : ByteArray} {L : List UInt8} {p k : Nat} {ms : List UInt8} (hL : s.data.toList = L) (hT : T.data.toList = spoil L p ms k) (h : p + k ≤ L.length) (hm : k ≤ ms.length) (h4 : k ≤ 4) :
    (((more 0 s.data.toList : Nat) : Int) != ((more 0 T.data.toList : Nat) : Int)) = changed ms k := by
  have := spoil_sum (l := L) (ms := ms) (p := p) (i := k) h hm h4
  rw [hL, hT, Bool.eq_iff_iff, bne_iff_ne, ← Bool.not_eq_false]
  exact ⟨fun h1 h2 => h1 (by rw [this.2 h2]), fun h1 h2 => h1 (this.1 (by omega))⟩

set_option maxRecDepth 100000 in
set_option maxHeartbeats 4000000 in
theorem spoils_main (s : ByteArray) (p : Nat) (ms : List UInt8) (w : World) (h1 : s.size ≤ 500) (hp : p < s.size) (hm : ms.length = 4) :
    Calls Try.prog 5 #[.string s, .int .i64 p, .agg (cells8 ms)] w fun e w' => e = .returned (.bool true) ∧ Below w.heap.size w w' := by
  have g1 : ¬ (500 : Int) < (s.size : Int) := by omega
  have g2 : ¬ (p : Int) < 0 := by omega
  have g3 : ¬ (s.size : Int) ≤ (p : Int) := by omega
  obtain ⟨C, cap, fz, hconv, hrow, hcap⟩ := bytes_row (w.alloc (.cells (cells8 ms) 31)) s
  simp only [World.size_alloc] at hconv hrow
  have hmasks : Masks w.heap.size ms ((w.alloc (.cells (cells8 ms) 31)).alloc (.cells C 5 fz)).drew := by
    show ((w.alloc _).alloc _).heap[w.heap.size]? = _
    rw [heap_alloc_old (w.alloc _) _ (by simp)]
    exact heap_alloc_last w _
  have hbel : Below w.heap.size w ((w.alloc (.cells (cells8 ms) 31)).alloc (.cells C 5 fz)).drew := (((Below.refl _ _).alloc (Nat.le_refl _) _).alloc (by simp) _).drew
  have hlen := size_list s
  generalize hL : s.data.toList = L at *
  replace hL := Lib.hid hL
  replace hlen := Lib.hid hlen
  replace hm := Lib.hid hm
  replace hrow := Lib.hid hrow
  replace hmasks := Lib.hid hmasks
  generalize hms : cells8 ms = M at *
  replace hms := Lib.hid hms
  go_enter Try.func5, Try.ntmps5
  go_wp2_with fail
  go_loopw [8, 9] (fun c i wr => ∃ k : Nat, k ≤ 4 ∧ p + k ≤ s.size ∧ i = .int .i64 k ∧ c = .bool (changed ms k) ∧ Row8 (w.heap.size + 1) (spoil L p ms k) wr ∧ Masks w.heap.size ms wr ∧ Below w.heap.size w wr ∧ w.heap.size + 1 < wr.heap.size) (fun _ i _ => 4 - (intOf i).toNat)
  case atStart => exact ⟨0, by omega, by omega, rfl, rfl, by rw [spoil_zero]; exact hrow.out, hmasks.out, hbel, by simp⟩
  case round =>
    obtain ⟨k, hk, hpk, rfl, rfl, hr, hmr, hb, hz⟩ := hrel
    replace hr := Lib.hid hr
    replace hmr := Lib.hid hmr
    by_cases hk4 : k < 4
    · by_cases hps : p + k < s.size
      · have hps' : (p : Int) + (k : Int) < (s.size : Int) := by omega
        have hat := spoil_at (l := L) (ms := ms) (p := p) (i := k) (by rw [hlen.out]; exact hps) (by rw [hm.out]; exact hk)
        have hln := spoil_length (l := L) (ms := ms) (p := p) (i := k) (by rw [hlen.out]; exact hpk) (by rw [hm.out]; exact hk)
        have hc1 := hr.out.cell (p + k) (by rw [hln, hlen.out]; exact hps)
        have hf1 := hr.out.frozen (p + k) (by rw [hln, hlen.out]; exact hps)
        have hc2 := hmr.out.cell k (by rw [hm.out]; exact hk4)
        have HX := Lib.hid (xor8 (L.getD (p + k) 0) (ms.getD k 0))
        have HS := Lib.hid (spoil_set (l := L) (ms := ms) (p := p) (i := k) (by rw [hlen.out]; exact hps) (by rw [hm.out]; exact hk4))
        have HC := Lib.hid (changed_succ (ms := ms) (i := k) (by rw [hm.out]; exact hk4))
        rw [hat] at hc1
        replace hat := Lib.hid hat
        replace hln := Lib.hid hln
        generalize L.getD (p + k) 0 = A at *
        generalize ms.getD k 0 = X at *
        generalize changed ms k = c at *
        cases c
        all_goals
          go_wp2_with fail
          go_region
          go_wp2_with fail
          go_roundw
          case rel =>
            rw [HX.out]
            refine ⟨k + 1, by omega, by omega, by go_num, by rw [HC.out]; first | (rw [Bool.true_or]; done) | rw [Bool.false_or, ne_u8], ?_, (hmr.out.other _ _ (by omega)), (hb.setCell (by simp) _).drew, by simpa using hz⟩
            rw [← HS.out]
            exact (hr.out.set (p + k) (by rw [hln.out, hlen.out]; exact hps) (A ^^^ X)).drew
          case measure => simp [intOf]; omega
      · have hps' : ¬ (p : Int) + (k : Int) < (s.size : Int) := by omega
        have hln := spoil_length (l := L) (ms := ms) (p := p) (i := k) (by rw [hlen.out]; exact hpk) (by rw [hm.out]; exact hk)
        obtain ⟨T, hT⟩ : ∃ T, ByteArray.mk (spoil L p ms k).toArray = T := ⟨_, rfl⟩
        have hTd : T.data.toList = spoil L p ms k := by rw [← hT]
        have hTs : T.size ≤ 500 := by rw [← hT, size_mk, hln, hlen.out]; exact h1
        have e1 := sums_differ hL.out hTd (by rw [hlen.out]; exact hpk) (by rw [hm.out]; exact hk) hk
        have hK := fun (v : World) (h1 : Row8 (w.heap.size + 1) (spoil L p ms k) v) h2 h3 => last_keeps (w := w) (v := v) (cap := cap) hT (hln.trans hlen.out) h1 h2 h3
        replace hK := hK wr hr.out hb hz
        have HN := Lib.hid (fun (v v' : World) => @last_next w v v' _ T _ cap hT (hln.trans hlen.out))
        replace hT := Lib.hid hT
        replace hTd := Lib.hid hTd
        replace hln := Lib.hid hln
        generalize spoil L p ms k = Q at *
        generalize changed ms k = c at *
        go_wp2_with fail
        go_region_held3 (fun w' => (convert 32 9 (.slice (some ⟨w.heap.size + 1, 0, none⟩) s.size cap)).run Try.prog w' = .ok (.string T) w' ∧ Row8 (w.heap.size + 1) Q w' ∧ Below w.heap.size w w' ∧ w.heap.size + 1 < w'.heap.size) (first | assumption | exact HN.out _ _ hK ((Below.refl _ _).drew))
          (first | (go_at_call 9; (refine (sum_any _ _ (by unfold maxLen; omega)).mono ?_); rintro e w' ⟨rfl, hb⟩; have hN := HN.out _ _ (by assumption) hb)
                 | (go_at_call 8; (refine (live_any _).mono ?_); rintro e w' ⟨rfl, hb⟩; have hN := HN.out _ _ (by assumption) hb))
        go_wp2_with fail
        go_ret
        exact ⟨rfl, hN.2.2.1⟩
    · have hk : k = 4 := by omega
      subst hk
      have hln := spoil_length (l := L) (ms := ms) (p := p) (i := 4) (by rw [hlen.out]; exact hpk) (by rw [hm.out]; exact hk)
      obtain ⟨T, hT⟩ : ∃ T, ByteArray.mk (spoil L p ms 4).toArray = T := ⟨_, rfl⟩
      have hTd : T.data.toList = spoil L p ms 4 := by rw [← hT]
      have hTs : T.size ≤ 500 := by rw [← hT, size_mk, hln, hlen.out]; exact h1
      have e1 := sums_differ hL.out hTd (by rw [hlen.out]; exact hpk) (by rw [hm.out]; exact hk) hk
      have hK := fun (v : World) (h1 : Row8 (w.heap.size + 1) (spoil L p ms 4) v) h2 h3 => last_keeps (w := w) (v := v) (cap := cap) hT (hln.trans hlen.out) h1 h2 h3
      replace hK := hK wr hr.out hb hz
      have HN := Lib.hid (fun (v v' : World) => @last_next w v v' _ T _ cap hT (hln.trans hlen.out))
      replace hT := Lib.hid hT
      replace hTd := Lib.hid hTd
      replace hln := Lib.hid hln
      generalize spoil L p ms 4 = Q at *
      generalize changed ms 4 = c at *
      go_wp2_with fail
      go_region_held3 (fun w' => (convert 32 9 (.slice (some ⟨w.heap.size + 1, 0, none⟩) s.size cap)).run Try.prog w' = .ok (.string T) w' ∧ Row8 (w.heap.size + 1) Q w' ∧ Below w.heap.size w w' ∧ w.heap.size + 1 < w'.heap.size) (first | assumption | exact HN.out _ _ hK ((Below.refl _ _).drew))
        (first | (go_at_call 9; (refine (sum_any _ _ (by unfold maxLen; omega)).mono ?_); rintro e w' ⟨rfl, hb⟩; have hN := HN.out _ _ (by assumption) hb)
               | (go_at_call 8; (refine (live_any _).mono ?_); rintro e w' ⟨rfl, hb⟩; have hN := HN.out _ _ (by assumption) hb))
      go_wp2_with fail
      go_ret
      exact ⟨rfl, hN.2.2.1⟩

theorem spoils_walk (s : ByteArray) (n : Int) (ms : List UInt8) (w : World) (hm : ms.length = 4) :
    Calls Try.prog 5 #[.string s, .int .i64 n, .agg (cells8 ms)] w fun e w' => e = .returned (.bool true) ∧ Below w.heap.size w w' := by
  by_cases h1 : s.size ≤ 500
  · have g1 : ¬ (500 : Int) < (s.size : Int) := by omega
    by_cases h2 : n < 0
    · generalize cells8 ms = M at *
      go_enter Try.func5, Try.ntmps5
      go_wp2_with fail
      refine (live_any _).mono ?_
      rintro e w1 ⟨rfl, hb1⟩
      go_wp2_with fail
      go_ret
      exact ⟨rfl, ((Below.refl _ _).alloc (Nat.le_refl _) _).trans (hb1.mono (by simp))⟩
    · by_cases h3 : n < (s.size : Int)
      · obtain ⟨p, rfl⟩ := Int.eq_ofNat_of_zero_le (show 0 ≤ n by omega)
        exact spoils_main s p ms w h1 (by omega) hm
      · have g3 : (s.size : Int) ≤ n := by omega
        generalize cells8 ms = M at *
        go_enter Try.func5, Try.ntmps5
        go_wp2_with fail
        refine (live_any _).mono ?_
        rintro e w1 ⟨rfl, hb1⟩
        go_wp2_with fail
        go_ret
        exact ⟨rfl, ((Below.refl _ _).alloc (Nat.le_refl _) _).trans (hb1.mono (by simp))⟩
  · have g1 : (500 : Int) < (s.size : Int) := by omega
    generalize cells8 ms = M at *
    go_enter Try.func5, Try.ntmps5
    go_wp2_with fail
    refine (live_any _).mono ?_
    rintro e w1 ⟨rfl, hb1⟩
    go_wp2_with fail
    go_ret
    exact ⟨rfl, ((Below.refl _ _).alloc (Nat.le_refl _) _).trans (hb1.mono (by simp))⟩

theorem open_byte {b : Nat} {W : World} {x : Value} (h : Cell.okWide Try.prog W .any b 5 x) : ∃ m : UInt8, x = .int .u8 (m.toNat : Int) := by
  obtain ⟨n, rfl, h0, h1⟩ := Opened.cell_int Try.underlying5 h
  obtain ⟨m, rfl, l⟩ := Opened.int_u8 h0 h1
  exact ⟨UInt8.ofNat m, by rw [UInt8.toNat_ofNat_of_lt' l]⟩

theorem open_masks {b : Nat} {W : World} {v : Value} (h : Value.okWide Try.prog W .any b 31 v) : ∃ ms : List UInt8, v = .agg (cells8 ms) ∧ ms.length = 4 := by
  obtain ⟨cs, rfl, hs, hc⟩ := Opened.ok_cells [5, 5, 5, 5] 4 (by kernel_rfl) (by kernel_rfl) (by kernel_rfl) h
  obtain ⟨x, y, z, u, rfl⟩ := Opened.arr4 hs
  obtain ⟨k, hk, hx⟩ := hc 0 x rfl
  cases hk
  obtain ⟨m0, rfl⟩ := open_byte hx
  obtain ⟨k, hk, hx⟩ := hc 1 y rfl
  cases hk
  obtain ⟨m1, rfl⟩ := open_byte hx
  obtain ⟨k, hk, hx⟩ := hc 2 z rfl
  cases hk
  obtain ⟨m2, rfl⟩ := open_byte hx
  obtain ⟨k, hk, hx⟩ := hc 3 u rfl
  cases hk
  obtain ⟨m3, rfl⟩ := open_byte hx
  exact ⟨[m0, m1, m2, m3], rfl, rfl⟩

theorem spoils_ok (W : World) (b : Nat) (v0 v1 v2 : Value) (o0 : Value.okWide Try.prog W .any b 9 v0) (o1 : Value.okWide Try.prog W .any b 3 v1) (o2 : Value.okWide Try.prog W .any b 31 v2) :
    Calls Try.prog 5 #[v0, v1, v2] W fun e w' => e = .returned (.bool true) ∧ Below W.heap.size W w' := by
  obtain ⟨s, rfl, hs⟩ := Opened.ok_string Try.underlying9 o0
  obtain ⟨n, rfl, h0, h1⟩ := Opened.ok_int Try.underlying3 o1
  obtain ⟨ms, rfl, hm⟩ := open_masks o2
  exact spoils_walk s n ms W hm

end Crc
end Go.Proofs.Ytmhlnfijghfngaa
