/-
  WALKS: the document's Encode. Conditions: lists of at most 1000 numbers.
-/
import Derived.Test.YtlpleikcgikpoaaDeltaRef
namespace Go.Proofs.Ytlpleikcgikpoaa
open Go.RowKit
namespace Dl
open Mem Pk

theorem str_append (l m : List UInt8) : str l ++ str m = str (l ++ m) := ext_list (by
  rw [str_data, ByteArray.data_append, Array.toList_append, str_data, str_data])
theorem subs_length (l : List Int) : ∀ last, (subs last l).length = l.length := by
  induction l with
  | nil => intro _; rfl
  | cons n l ih => intro last; rw [subs, List.length_cons, List.length_cons, ih]
theorem subs_bound (l : List Int) : ∀ last, ∀ n ∈ subs last l, I64 n := by
  induction l with
  | nil => intro _ n h; simp [subs] at h
  | cons x l ih =>
    intro last n h
    rw [subs, List.mem_cons] at h
    rcases h with rfl | h
    · exact i64_wrap _
    · exact ih _ _ h
theorem sums_length (l : List Int) : ∀ acc, (sums acc l).length = l.length := by
  induction l with
  | nil => intro _; rfl
  | cons n l ih => intro last; rw [sums, List.length_cons, List.length_cons, ih]
theorem sums_bound (l : List Int) : ∀ acc, ∀ n ∈ sums acc l, I64 n := by
  induction l with
  | nil => intro _ n h; simp [sums] at h
  | cons x l ih =>
    intro last n h
    rw [sums, List.mem_cons] at h
    rcases h with rfl | h
    · exact i64_wrap _
    · exact ih _ _ h
theorem enc_len (d : List Int) : (enc d).length ≤ 10 * d.length := by
  induction d with
  | nil => simp [enc]
  | cons n l ih =>
    have h1 : enc (n :: l) = putL (zigN n) ++ enc l := by unfold enc; simp
    rw [h1, List.length_append, List.length_cons]
    have := putL_length (zigN n)
    omega
theorem enc_snoc (d : List Int) (n : Int) : enc (d ++ [n]) = enc d ++ putL (zigN n) := by unfold enc; rw [List.flatMap_append]; simp
theorem take_next (zs : List Int) (k : Nat) (h : k < zs.length) : zs.take (k + 1) = zs.take k ++ [zs[k]?.getD 0] := by
  rw [List.take_succ_eq_append_getElem h, List.getElem?_eq_getElem h]
  rfl

set_option maxRecDepth 100000 in
set_option maxHeartbeats 2000000 in
theorem rencode_any (v : Value) (d : List Int) (w : World) (hv : Opened.Ints .i64 w v d) (hl : d.length ≤ 1000) :
    Calls Try.prog 15 #[v] w fun e w' => e = .returned (.string (str (enc (subs 0 d)))) ∧ Below w.heap.size w w' := by
  have HV := Lib.hid (rdeltas_any v d w hv hl)
  have hsl := subs_length d 0
  have hsb := Lib.hid (subs_bound d 0)
  clear hv
  go_enter Try.func15, Try.ntmps15
  go_wp2_with fail
  refine HV.out.mono ?_
  rintro e w1 ⟨⟨r, rfl, hr⟩, hb1⟩
  obtain ⟨q, hq⟩ : ∃ q, subs 0 d = q := ⟨_, rfl⟩
  rw [hq] at hr hsl hsb
  replace hq := Lib.hid hq
  obtain ⟨⟨a, cap, rfl, hcells⟩, -⟩ := hr
  have hql : q.length ≤ 1000 := by omega
  have HC := Lib.hid hcells
  have hz1 := hb1.size
  clear hcells hsl HV
  go_wp2_with fail
  go_loopw [4, 5] (fun s i wr => ∃ k : Nat, s = .string (str (enc (q.take k))) ∧ i = .int .i64 k ∧ k ≤ q.length ∧ Below w1.heap.size w1 wr) (fun _ i _ => q.length - (intOf i).toNat)
  case atStart => exact ⟨0, rfl, rfl, by omega, Below.refl _ _⟩
  case round =>
    obtain ⟨k, rfl, rfl, hk, hb⟩ := hrel
    by_cases hlt : k < q.length
    · obtain ⟨cb, off, rfl, hcb, hcell⟩ := HC.out (by omega)
      have hck : wr.cell? ⟨cb, off + k, none⟩ = some (.int .i64 (q.getD k 0)) := (hb.cell (p := ⟨cb, off + k, none⟩) hcb).trans (hcell k hlt)
      have hlt' : (k : Int) < q.length := by omega
      have hgd : q.getD k 0 = q[k]?.getD 0 := rfl
      rw [hgd] at hck
      have hmem := Lib.hid (hsb.out _ (getD_mem q k hlt))
      have hle : (enc (q.take k)).length ≤ 10 * 1000 := Nat.le_trans (enc_len _) (by rw [List.length_take]; omega)
      have hsn := Lib.hid (enc_snoc (q.take k) (q[k]?.getD 0))
      rw [← take_next q k hlt] at hsn
      clear hcell hgd hlt
      generalize q[k]?.getD 0 = c at *
      generalize enc (q.take k) = L at *
      have hp1 := putL_length (zigN c)
      have z1 : (str L).size ≤ 10000 := by rw [str_size]; exact hle
      have z2 : (str (putL (zigN c))).size ≤ 10 := by rw [str_size]; exact hp1
      have hz64 := Lib.hid (zig_lt hmem.out.1 hmem.out.2)
      clear hle hp1
      go_wp2_with fail
      refine (rzig_any c _ hmem.out.1 hmem.out.2).mono ?_
      rintro e' w2 ⟨rfl, rfl⟩
      go_wp2_with fail
      refine (rput_any (zigN c) _ hz64.out).mono ?_
      rintro e' w2 ⟨rfl, hb2⟩
      replace hb2 := hb.trans (hb2.mono hb.size)
      clear hb
      go_wp2_with fail
      go_roundw
      case rel => exact ⟨k + 1, by rw [hsn.out, str_append], by go_num, by omega, hb2⟩
      case measure => simp [intOf]; omega
    · obtain rfl : k = q.length := by omega
      have hge : decide (q.length < q.length) = false := decide_eq_false hlt
      rw [List.take_of_length_le (Nat.le_refl _)]
      clear hlt HC
      go_wp2_with fail
      go_ret
      exact ⟨by rw [hq.out]; rfl, hb1.trans (hb.mono hz1)⟩

end Dl
end Go.Proofs.Ytlpleikcgikpoaa
