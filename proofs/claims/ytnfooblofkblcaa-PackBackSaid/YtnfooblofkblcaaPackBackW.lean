/-
  WALKS: the law of pack PackBack. No condition.
-/
import Derived.Test.YtnfooblofkblcaaPackLaws1
import Derived.Test.YtnfooblofkblcaaPackReads
import Derived.Test.YtnfooblofkblcaaSlices
import Derived.Deep.RegionHeld3
import Derived.Deep.RegionWith
namespace Go.Proofs.Ytnfooblofkblcaa
open Go.RowKit
namespace Pk
open Mem

/-- the bytes of numbers, each put and fixed, one behind the other. -/
def encL (l : List Int) : List UInt8 := l.flatMap fun n => putL n.toNat ++ fixL n.toNat
theorem encL_snoc (l : List Int) (n : Int) : encL (l ++ [n]) = encL l ++ putL n.toNat ++ fixL n.toNat := by unfold encL; rw [List.flatMap_append]; simp
theorem encL_cons (n : Int) (l : List Int) : encL (n :: l) = putL n.toNat ++ (fixL n.toNat ++ encL l) := by unfold encL; simp
theorem encL_len (l : List Int) : (encL l).length ≤ 18 * l.length := by
  induction l with
  | nil => simp [encL]
  | cons n l ih =>
    rw [encL_cons, List.length_append, List.length_append, fixL_length, List.length_cons]
    have := putL_length n.toNat
    omega
theorem take_next (zs : List Int) (k : Nat) (h : k < zs.length) : zs.take (k + 1) = zs.take k ++ [zs[k]?.getD 0] := by
  rw [List.take_succ_eq_append_getElem h, List.getElem?_eq_getElem h]
  rfl
theorem drop_here (zs : List Int) (k : Nat) (h : k < zs.length) : zs.drop k = zs[k]?.getD 0 :: zs.drop (k + 1) := by
  rw [List.drop_eq_getElem_cons h, List.getElem?_eq_getElem h]
  rfl
theorem str_append (l m : List UInt8) : str l ++ str m = str (l ++ m) := ext_list (by
  rw [str_data, ByteArray.data_append, Array.toList_append, str_data, str_data])
theorem str_append' (l : List UInt8) (s : ByteArray) : str l ++ s = str (l ++ s.data.toList) := by
  have := str_append l s.data.toList
  rw [str_of] at this
  exact this

/-- a number at the head is read. -/
theorem head_num {t : ByteArray} {n : Nat} {l : List UInt8} (hn : n < W64) (h : t.data.toList = putL n ++ l) : numN t 0 = n ∧ numE t 0 = 0 ∧ (rest t (numK t 0)).data.toList = l := by
  have e := read_put hn l
  rw [← h] at e
  have e1 : numN t 0 = (numR t.data.toList).2.1 := rfl
  have e2 : numE t 0 = (numR t.data.toList).1 := rfl
  have e3 : numK t 0 = (numR t.data.toList).2.2 := rfl
  rw [e1, e2, rest_list, e3, e, h]
  exact ⟨rfl, rfl, by simp⟩
theorem head_fix {t : ByteArray} {n : Nat} {l : List UInt8} (hn : n < W64) (h : t.data.toList = fixL n ++ l) : fixV t 0 = n ∧ takeE t 0 8 = 0 ∧ (rest t (takeK t 0 8)).data.toList = l := by
  have hz : t.size = 8 + l.length := by rw [← size_list, h, List.length_append, fixL_length]
  obtain ⟨e1, e2⟩ := take_ok (s := t) (n := 8) (by omega)
  unfold fixV takeS
  rw [e1, e2, head_list, rest_list, h]
  refine ⟨?_, rfl, ?_⟩
  · rw [List.take_append_of_le_length (by rw [fixL_length]; decide), List.take_of_length_le (by rw [fixL_length]; decide)]
    exact fixN_fixL hn
  · rw [List.drop_append_of_le_length (by rw [fixL_length]; decide), List.drop_eq_nil_of_le (by rw [fixL_length]; decide)]
    rfl

/-- what a call that turns no block that stood keeps. -/
theorem below_held {w W W' : World} {cb o : Nat} {v : Value} (hcb : cb < w.heap.size) (h : Below w.heap.size w W ∧ W.cell? ⟨cb, o, none⟩ = some v) (h2 : Below W.heap.size W W') : Below w.heap.size w W' ∧ W'.cell? ⟨cb, o, none⟩ = some v :=
  have h3 := h2.mono h.1.size
  ⟨h.1.trans h3, (h3.cell (p := ⟨cb, o, none⟩) hcb).trans h.2⟩
theorem put_held (N : Nat) (hN : N < W64) {w W : World} {cb o : Nat} (hcb : cb < w.heap.size) (h : Below w.heap.size w W ∧ W.cell? ⟨cb, o, none⟩ = some (.int .u64 (N : Nat))) :
    Calls Try.prog 9 #[.int .u64 (N : Nat)] W fun e W' => e = .returned (.string (str (putL N))) ∧ (Below w.heap.size w W' ∧ W'.cell? ⟨cb, o, none⟩ = some (.int .u64 (N : Nat))) :=
  (put_any N W hN).mono fun _ _ ⟨h1, h2⟩ => ⟨h1, below_held hcb h h2⟩
theorem fixed_held (N : Nat) (hN : N < W64) {w W : World} {cb o : Nat} (hcb : cb < w.heap.size) (h : Below w.heap.size w W ∧ W.cell? ⟨cb, o, none⟩ = some (.int .u64 (N : Nat))) :
    Calls Try.prog 11 #[.int .u64 (N : Nat)] W fun e W' => e = .returned (.string (str (fixL N))) ∧ (Below w.heap.size w W' ∧ W'.cell? ⟨cb, o, none⟩ = some (.int .u64 (N : Nat))) :=
  (fixed_any N W hN).mono fun _ _ ⟨h1, h2⟩ => ⟨h1, below_held hcb h h2⟩

/-- where the reader stands, while a number is read, and eight bytes. -/
structure Stage (w : World) (p cb co n : Nat) (t : ByteArray) (W : World) : Prop where
  one : W.heap[p]? = some (rd t 0)
  bel : Below w.heap.size w W
  cell : W.cell? ⟨cb, co, none⟩ = some (.int .u64 (n : Nat))
theorem Stage.num {w W : World} {p cb co n : Nat} {t : ByteArray} {l : List UInt8} (hn : n < W64) (ht : t.data.toList = putL n ++ l) (hs : t.size ≤ 9223372036854775807) (hp : w.heap.size ≤ p) (hcb : cb < w.heap.size) (h : Stage w p cb co n t W) :
    Calls Try.prog 19 #[.pointer (some ⟨p, 0, none⟩)] W fun e' W' => e' = .returned (.int .u64 (n : Nat)) ∧ Stage w p cb co n (rest t (numK t 0)) W' :=
  (num_any p t 0 W h.one hs).mono fun _ W' ⟨h1, h2, h3⟩ => by
    obtain ⟨e1, e2, _⟩ := head_num hn ht
    rw [e1] at h1
    rw [e2] at h2
    have hb := h3.to_below (B := w.heap.size) h.bel.size (fun k hk h => by omega)
    exact ⟨h1, h2, h.bel.trans hb, (hb.cell (p := ⟨cb, co, none⟩) hcb).trans h.cell⟩
theorem Stage.fix {w W : World} {p cb co n : Nat} {t : ByteArray} {l : List UInt8} (hn : n < W64) (ht : t.data.toList = fixL n ++ l) (hp : w.heap.size ≤ p) (hcb : cb < w.heap.size) (h : Stage w p cb co n t W) :
    Calls Try.prog 23 #[.pointer (some ⟨p, 0, none⟩)] W fun e' W' => e' = .returned (.int .u64 (n : Nat)) ∧ Stage w p cb co n (rest t (takeK t 0 8)) W' :=
  (fix_any p t 0 W h.one).mono fun _ W' ⟨h1, h2, h3⟩ => by
    obtain ⟨e1, e2, _⟩ := head_fix hn ht
    rw [e1] at h1
    rw [e2] at h2
    have hb := h3.to_below (B := w.heap.size) h.bel.size (fun k hk h => by omega)
    exact ⟨h1, h2, h.bel.trans hb, (hb.cell (p := ⟨cb, co, none⟩) hcb).trans h.cell⟩
/-- where the reader stands, between the rounds. -/
structure Rounds (w : World) (p k : Nat) (zs : List Int) (l : List UInt8) (W : World) (t : ByteArray) : Prop where
  one : W.heap[p]? = some (rd t 0)
  bel : Below w.heap.size w W
  list : t.data.toList = encL (zs.drop k) ++ l
theorem Rounds.size {w : World} {p k : Nat} {zs : List Int} {l : List UInt8} {W : World} {t : ByteArray} (h : Rounds w p k zs l W t) (h40 : zs.length ≤ 40) (hl : l.length ≤ 1000) : t.size ≤ 9223372036854775807 := by
  rw [← size_list, h.list, List.length_append]
  have := encL_len (zs.drop k)
  rw [List.length_drop] at this
  omega
theorem bad_num {s : ByteArray} (h : numE s 0 ≠ 0) : numN s 0 = 0 ∧ numK s 0 = 0 := by
  have := numR_bad (l := s.data.toList) h
  have e1 : numN s 0 = (numR s.data.toList).2.1 := rfl
  have e3 : numK s 0 = (numR s.data.toList).2.2 := rfl
  rw [e1, e3, this.1, this.2]
  exact ⟨rfl, rfl⟩
theorem good_num {s : ByteArray} (h : numE s 0 = 0) : 1 ≤ numK s 0 ∧ numK s 0 ≤ s.size ∧ s.extract 0 (numK s 0) = str (putL (numN s 0)) := by
  obtain ⟨h1, h2, h3, _⟩ := put_read (l := s.data.toList) (m := numN s 0) (K := numK s 0) (Prod.ext h rfl)
  rw [size_list] at h3
  refine ⟨h2, h3, ext_list ?_⟩
  rw [head_list, h1, str_data]

set_option maxRecDepth 100000 in
set_option maxHeartbeats 8000000 in
theorem back_walk (v : Value) (zs : List Int) (i : Int) (s : ByteArray) (w : World) (hv : Opened.Ints .u64 w v zs) (hi0 : -9223372036854775808 ≤ i) (hi1 : i ≤ 9223372036854775807) :
    Calls Try.prog 5 #[v, .int .i64 i, .string s] w fun e w' => e = .returned (.bool true) ∧ Below w.heap.size w w' := by
  obtain ⟨⟨a, cap, rfl, hcells⟩, hbound⟩ := hv
  by_cases hl : 40 < zs.length
  · have hl' : (40 : Int) < (zs.length : Int) := by omega
    clear hl
    go_enter Try.func5, Try.ntmps5
    go_wp2_with fail
    refine (live_any _).mono ?_
    rintro e w1 ⟨rfl, h1⟩
    go_wp2_with fail
    go_ret
    exact ⟨rfl, h1⟩
  · have hl' : (zs.length : Int) ≤ 40 := by omega
    by_cases hs : 300 < s.size
    · have hs' : (300 : Int) < (s.size : Int) := by omega
      clear hs hl
      go_enter Try.func5, Try.ntmps5
      go_wp2_with fail
      refine (live_any _).mono ?_
      rintro e w1 ⟨rfl, h1⟩
      go_wp2_with fail
      go_ret
      exact ⟨rfl, h1⟩
    · have hs' : (s.size : Int) ≤ 300 := by omega
      have HBD := Lib.hid hbound
      have HI := Lib.hid (And.intro hi0 hi1)
      have HC := Lib.hid hcells
      clear hs hl hcells hbound hi0 hi1
      go_enter Try.func5, Try.ntmps5
      go_wp2_with fail
      go_loopw [7, 8] (fun a i wr => ∃ k : Nat, i = .int .i64 k ∧ k ≤ zs.length ∧ a = .string (str (encL (zs.take k))) ∧ Below w.heap.size w wr) (fun _ i _ => zs.length - (intOf i).toNat)
      case atStart => exact ⟨0, rfl, by omega, rfl, Below.refl _ _⟩
      case round =>
        obtain ⟨k, rfl, hk, rfl, hb⟩ := hrel
        by_cases hlt : k < zs.length
        · obtain ⟨cb, off, rfl, hcb, hcell⟩ := HC.out (by omega)
          have hck : wr.cell? ⟨cb, off + k, none⟩ = some (.int .u64 (zs.getD k 0)) := (hb.cell (p := ⟨cb, off + k, none⟩) hcb).trans (hcell k hlt)
          have hlt' : (k : Int) < zs.length := by omega
          have h40 : zs.length ≤ 40 := by omega
          have hgd : zs.getD k 0 = zs[k]?.getD 0 := rfl
          rw [hgd] at hck
          have htk := take_next zs k hlt
          have hmem : zs[k]?.getD 0 ∈ zs := by rw [List.getElem?_eq_getElem hlt]; exact List.getElem_mem hlt
          obtain ⟨hb0, hb1⟩ := HBD.out _ hmem
          obtain ⟨N, hN, hN64⟩ := Opened.int_u64 hb0 hb1
          have hlen : (encL (zs.take k)).length ≤ 18 * 40 := Nat.le_trans (encL_len _) (by rw [List.length_take]; omega)
          have hsn := encL_snoc (zs.take k) (zs[k]?.getD 0)
          rw [← htk, hN] at hsn
          rw [hN] at hck
          rw [Int.toNat_natCast] at hsn
          replace hsn := Lib.hid hsn
          clear hgd hmem hb0 hb1 hN htk hcell
          generalize encL (zs.take k) = L at *
          have HP := Lib.hid (fun W h => put_held N hN64 (w := w) (cb := cb) (o := off + k) (W := W) hcb h)
          have HF := Lib.hid (fun W h => fixed_held N hN64 (w := w) (cb := cb) (o := off + k) (W := W) hcb h)
          have hp1 := putL_length N
          have hp2 := fixL_length N
          have z1 : (str L).size ≤ 720 := by rw [str_size]; exact hlen
          have z2 : (str (putL N)).size ≤ 10 := by rw [str_size]; exact hp1
          have z3 : (str (fixL N)).size ≤ 8 := by rw [str_size, hp2]; exact Nat.le_refl _
          have hS := And.intro hb hck
          have y1 : ¬ 9223372036854775807 < (str L).size + (str (putL N)).size := by omega
          have y2 : ¬ 9223372036854775807 < (str L).size + (str (putL N)).size + (str (fixL N)).size := by omega
          clear hlen hp1 hp2 hb hck z1 z2 z3
          go_wp2_with fail
          go_region_held3 (fun W => Below w.heap.size w W ∧ W.cell? ⟨cb, off + k, none⟩ = some (.int .u64 (N : Nat))) (first | assumption | exact ⟨hS.1.drew, hS.2⟩) (first | (go_at_call 9; (refine (HP.out _ (by assumption)).mono ?_); rintro e' W' ⟨rfl, hS'⟩) | (go_at_call 11; (refine (HF.out _ (by assumption)).mono ?_); rintro e' W' ⟨rfl, hS'⟩))
          all_goals
            obtain ⟨hb, -⟩ := hS'
            go_wp2_with fail
            go_roundw
            case rel => exact ⟨k + 1, by go_num, by omega, by rw [hsn.out, ← str_append, ← str_append], hb⟩
            case measure => simp [intOf]; omega
        · obtain rfl : k = zs.length := by omega
          have hge : decide (zs.length < zs.length) = false := decide_eq_false hlt
          have hlen : (encL zs).length ≤ 18 * 40 := Nat.le_trans (encL_len _) (by omega)
          rw [List.take_of_length_le (Nat.le_refl _)]
          have hZ := Lib.hid (zig_lt HI.out.1 HI.out.2)
          have hp1 := putL_length (zigN i)
          obtain ⟨t, ht⟩ : ∃ t, str (encL zs) ++ str (putL (zigN i)) ++ s = t := ⟨_, rfl⟩
          have htl : t.data.toList = encL (zs.drop 0) ++ (putL (zigN i) ++ s.data.toList) := by
            rw [← ht, str_append, str_append', str_data, List.append_assoc]; rfl
          have z1 : (str (encL zs)).size ≤ 720 := by rw [str_size]; exact hlen
          have z2 : (str (putL (zigN i))).size ≤ 10 := by rw [str_size]; exact hp1
          have z3 : s.size ≤ 300 := by omega
          have hll : (putL (zigN i) ++ s.data.toList).length ≤ 1000 := by rw [List.length_append, size_list]; omega
          replace ht := Lib.hid ht
          replace htl := Lib.hid htl
          replace hll := Lib.hid hll
          clear hlt hlen hp1
          go_wp2_with fail
          refine (zig_any i _ HI.out.1 HI.out.2).mono ?_
          rintro e w1 ⟨rfl, rfl⟩
          have HPZ := Lib.hid (fun W => put_any (zigN i) W hZ.out)
          go_wp2_with fail
          refine (HPZ.out _).mono ?_
          rintro e w2 ⟨rfl, hb2⟩
          replace hb2 := hb.trans (hb2.mono hb.size)
          clear hb
          go_wp2_with fail
          rw [ht.out]
          refine (new_any t _).mono ?_
          rintro e w3 ⟨rfl, rfl⟩
          have H0 : Hid (Rounds w w2.heap.size 0 zs (putL (zigN i) ++ s.data.toList) (w2.alloc (rd t 0)) t) := Lib.hid ⟨alloc_new _ _, hb2.alloc hb2.size _, htl.out⟩
          have hwp := hb2.size
          clear ht htl hb2 z1 z2
          generalize w2.alloc (rd t 0) = w3 at *
          generalize w2.heap.size = p at *
          obtain ⟨tl, htd⟩ : ∃ tl, putL (zigN i) ++ s.data.toList = tl := ⟨_, rfl⟩
          rw [htd] at H0 hll
          replace htd := Lib.hid htd
          go_wp2_with fail
          go_loopw [10] (fun x wr => ∃ (k : Nat) (t : ByteArray), x = .int .i64 k ∧ k ≤ zs.length ∧ Hid (Rounds w p k zs tl wr t)) (fun x _ => zs.length - (intOf x).toNat)
          case atStart => exact ⟨0, t, rfl, by omega, H0⟩
          case round =>
            obtain ⟨k, t0, rfl, hk, HR⟩ := hrel
            by_cases hlt : k < zs.length
            · obtain ⟨cb, off, rfl, hcb, hcell⟩ := HC.out (by omega)
              have hck : wr.cell? ⟨cb, off + k, none⟩ = some (.int .u64 (zs.getD k 0)) := (HR.out.bel.cell (p := ⟨cb, off + k, none⟩) hcb).trans (hcell k hlt)
              have hlt' : (k : Int) < zs.length := by omega
              have h40 : zs.length ≤ 40 := by omega
              have hgd : zs.getD k 0 = zs[k]?.getD 0 := rfl
              rw [hgd] at hck
              have hsz := Lib.hid (HR.out.size h40 hll.out)
              have htl := HR.out.list
              rw [drop_here zs k hlt, encL_cons] at htl
              have hmem : zs[k]?.getD 0 ∈ zs := by rw [List.getElem?_eq_getElem hlt]; exact List.getElem_mem hlt
              obtain ⟨hb0, hb1⟩ := HBD.out _ hmem
              obtain ⟨N, hN, hN64⟩ := Opened.int_u64 hb0 hb1
              rw [hN] at hck htl
              rw [Int.toNat_natCast, List.append_assoc, List.append_assoc] at htl
              have hl1 := (head_num hN64 htl).2.2
              have hl2 := Lib.hid (head_fix hN64 hl1).2.2
              replace hl1 := Lib.hid hl1
              replace htl := Lib.hid htl
              clear hgd hmem hb0 hb1 hN hcell
              have hS : Stage w p cb (off + k) N t0 wr.drew := ⟨HR.out.one, HR.out.bel.drew, hck⟩
              have HT := Lib.hid (fun W (h : Stage w p cb (off + k) N t0 W) => h.num hN64 htl.out hsz.out hwp hcb)
              generalize rest t0 (numK t0 0) = t1 at *
              have HU := Lib.hid (fun W (h : Stage w p cb (off + k) N t1 W) => h.fix hN64 hl1.out hwp hcb)
              generalize rest t1 (takeK t1 0 8) = t2 at *
              clear HR htl hl1 hsz hN64
              go_wp2_with fail
              go_region_with (first | (go_at_call 19; (refine (HT.out _ (by assumption)).mono ?_); rintro e' W' ⟨rfl, hS'⟩; have hc' := hS'.cell) | (go_at_call 23; (refine (HU.out _ (by assumption)).mono ?_); rintro e' W' ⟨rfl, hS'⟩; have hc' := hS'.cell))
              all_goals
                have hSS : Stage w p cb (off + k) N t2 W' := by assumption
                have HN : Hid (Rounds w p (k + 1) zs tl W' t2) := Lib.hid ⟨hSS.one, hSS.bel, hl2.out⟩
                clear hSS hS hS' hc' HT HU hl2 hck
                go_wp2_with fail
                go_roundw
                case rel => exact ⟨k + 1, t2, by go_num, by omega, HN⟩
                case measure => simp [intOf]; omega
            ·
              obtain rfl : k = zs.length := by omega
              have hge : decide (zs.length < zs.length) = false := decide_eq_false hlt
              obtain ⟨hR, hbel, htl⟩ := HR.out
              rw [List.drop_eq_nil_of_le (Nat.le_refl _)] at htl
              have hsz := Lib.hid (HR.out.size (by omega) hll.out)
              clear hlt HR
              have htl' : t0.data.toList = putL (zigN i) ++ s.data.toList := htl.trans htd.out.symm
              obtain ⟨e1, e2, e3⟩ := head_num hZ.out htl'
              have e4 : rest t0 (numK t0 0) = s := ext_list e3
              replace hR := Lib.hid hR
              clear htl htl' e3
              go_wp2_with fail
              refine (int_any p t0 0 _ hR.out hsz.out).mono ?_
              rintro e' w4 ⟨rfl, k1, k2⟩
              rw [e1, zag_zig]
              rw [e4, e2] at k1
              clear hR hsz e1 e2 e4
              replace hbel := hbel.trans (k2.to_below (B := w.heap.size) hbel.size (fun k hk h => by omega))
              clear k2
              replace k1 := Lib.hid k1
              go_wp2_with fail
              refine (left_any p s 0 _ k1.out).mono ?_
              rintro e' w5 ⟨rfl, rfl⟩
              go_wp2_with fail
              refine (err_any p s 0 _ k1.out).mono ?_
              rintro e' w5 ⟨rfl, rfl⟩
              go_wp2_with fail
              refine (zig_any i _ HI.out.1 HI.out.2).mono ?_
              rintro e' w5 ⟨rfl, rfl⟩
              go_wp2_with fail
              refine (zag_any (zigN i) _ hZ.out).mono ?_
              rintro e' w5 ⟨rfl, rfl⟩
              rw [zag_zig]
              by_cases hc : numE s 0 = 0
              · have hN := Lib.hid (numN_lt s 0)
                obtain ⟨g1, g2, g3⟩ := good_num hc
                go_wp2_with fail
                refine (num_any p s 0 _ k1.out (by omega)).mono ?_
                rintro e' w5 ⟨rfl, k3, k4⟩
                rw [hc] at k3
                replace hbel := hbel.trans (k4.to_below (B := w.heap.size) hbel.size (fun k hk h => by omega))
                clear k4 hc k1
                replace k3 := Lib.hid k3
                go_wp2_with fail
                refine (err_any p _ 0 _ k3.out).mono ?_
                rintro e' w6 ⟨rfl, rfl⟩
                go_wp2_with fail
                refine (left_any p _ 0 _ k3.out).mono ?_
                rintro e' w6 ⟨rfl, rfl⟩
                rw [rest_size]
                have hat : ((s.size - numK s 0 : Nat) : Int) = (s.size : Int) - (numK s 0 : Nat) := by omega
                rw [hat]
                have hsub : (s.size : Int) - ((s.size : Int) - (numK s 0 : Nat)) = (numK s 0 : Nat) := by omega
                have hPN := Lib.hid (fun W => put_any (numN s 0) W hN.out)
                clear hat hN
                generalize numN s 0 = n at *
                generalize numK s 0 = K at *
                go_wp2_with fail
                have HP2 := Lib.hid (fun W (h : Below w.heap.size w W) => (hPN.out W).mono fun _ _ (h2 : _ ∧ _) => And.intro h2.1 (h.trans (h2.2.mono h.size)))
                have HL2 := Lib.hid (fun W (h : Below w.heap.size w W) => (live_any W).mono fun _ _ (h2 : _ ∧ _) => And.intro h2.1 (h.trans (h2.2.mono h.size)))
                have hK1 : (1 : Int) ≤ (K : Nat) := by omega
                have hK2 : (K : Int) ≤ (s.size : Nat) := by omega
                have hK0 : (0 : Int) ≤ (K : Nat) := by omega
                go_region_held3 (fun W => Below w.heap.size w W) (first | assumption | exact hbel.drew) (first | (go_at_call 9; (refine (HP2.out _ (by assumption)).mono ?_); rintro e' W' ⟨rfl, hS'⟩) | (go_at_call 17; (refine (HL2.out _ (by assumption)).mono ?_); rintro e' W' ⟨rfl, hS'⟩))
                all_goals
                  go_wp2_with fail
                  go_ret
                  exact ⟨rfl, hS'⟩
              · obtain ⟨g1, g2⟩ := bad_num hc
                have hd : (numE s 0 != 0) = true := by rw [bne_iff_ne]; exact hc
                go_wp2_with fail
                refine (num_any p s 0 _ k1.out (by omega)).mono ?_
                rintro e' w5 ⟨rfl, k3, k4⟩
                rw [g1]
                rw [g2, rest_zero] at k3
                replace hbel := hbel.trans (k4.to_below (B := w.heap.size) hbel.size (fun k hk h => by omega))
                clear k4 g1 g2 hc k1
                generalize numE s 0 = E at *
                replace k3 := Lib.hid k3
                go_wp2_with fail
                refine (err_any p _ E _ k3.out).mono ?_
                rintro e' w6 ⟨rfl, rfl⟩
                go_wp2_with fail
                refine (left_any p _ E _ k3.out).mono ?_
                rintro e' w6 ⟨rfl, rfl⟩
                go_wp2_with fail
                refine (live_any _).mono ?_
                rintro e' w6 ⟨rfl, h6⟩
                go_wp2_with fail
                go_ret
                exact ⟨rfl, hbel.trans (h6.mono hbel.size)⟩

end Pk
end Go.Proofs.Ytnfooblofkblcaa
