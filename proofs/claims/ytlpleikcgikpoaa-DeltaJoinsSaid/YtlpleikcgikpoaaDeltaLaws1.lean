/-
  WALKS: the laws DeltaTells and DeltaReads. No condition.
-/
import Derived.Test.YtlpleikcgikpoaaDeltaLive
namespace Go.Proofs.Ytlpleikcgikpoaa
open Go.RowKit
namespace Dl
open Mem Pk

theorem rdInts_length (k : Nat) : ∀ (s : ByteArray) (e : Int), (rdInts k s e).1.length = k := by
  induction k with
  | zero => intro s e; rfl
  | succ k ih => intro s e; rw [rdInts, List.length_cons, ih]
theorem decL_len (s : ByteArray) (n : Int) : (decL s n).length ≤ s.size := by
  unfold decL
  split
  · simp
  · split
    · simp
    · split
      · rw [sums_length, rdInts_length]; omega
      · simp

set_option maxRecDepth 100000 in
set_option maxHeartbeats 4000000 in
theorem reads_walk (s : ByteArray) (n : Int) (w : World) :
    Calls Try.prog 4 #[.string s, .int .i64 n] w fun e w' => e = .returned (.bool true) ∧ Below w.heap.size w w' := by
  by_cases hs : 500 < s.size
  · have hs' : (500 : Int) < (s.size : Int) := by omega
    clear hs
    go_enter Try.func4, Try.ntmps4
    go_wp2_with fail
    refine (live_any _).mono ?_
    rintro e w1 ⟨rfl, h1⟩
    go_wp2_with fail
    go_ret
    exact ⟨rfl, h1⟩
  · have hs' : (s.size : Int) ≤ 500 := by omega
    have HD := Lib.hid (fun w => decode_any s n w (by omega))
    have HR := Lib.hid (fun w => rdecode_any s n w (by omega))
    have hlen : (decL s n).length ≤ 100000 := by have := decL_len s n; omega
    clear hs
    generalize decL s n = L at *
    generalize decE s n = c at *
    go_enter Try.func4, Try.ntmps4
    go_wp2_with fail
    refine (HD.out _).mono ?_
    rintro e w1 ⟨⟨r1, rfl, hr⟩, hb⟩
    replace hr := Lib.hid hr
    replace hb := Lib.hid hb
    go_wp2_with fail
    refine (HR.out _).mono ?_
    rintro e w2 ⟨⟨r2, rfl, hr2⟩, hb2⟩
    replace hr := Lib.hid (ints_below hr.out hb2)
    replace hb := Lib.hid (hb.out.trans (hb2.mono hb.out.size))
    replace hr2 := Lib.hid hr2
    clear hb2 HD HR
    go_wp2_with fail
    refine (same_any _ _ L L _ hr.out hr2.out hlen).mono ?_
    rintro e w3 ⟨rfl, hb2⟩
    rw [show decide (L = L) = true from decide_eq_true rfl]
    replace hb := Lib.hid (hb.out.trans (hb2.mono hb.out.size))
    clear hb2
    go_wp2_with fail
    refine (live_any _).mono ?_
    rintro e w4 ⟨rfl, hb2⟩
    replace hb := Lib.hid (hb.out.trans (hb2.mono hb.out.size))
    go_wp2_with fail
    go_ret
    exact ⟨rfl, hb.out⟩

set_option maxRecDepth 100000 in
set_option maxHeartbeats 4000000 in
theorem tells_walk (v : Value) (l : List Int) (w : World) (hv : Opened.Ints .i64 w v l) :
    Calls Try.prog 3 #[v] w fun e w' => e = .returned (.bool true) ∧ Below w.heap.size w w' := by
  have hr := Lib.hid hv
  obtain ⟨⟨a, cap, rfl, -⟩, -⟩ := hv
  by_cases hl : 200 < l.length
  · have hl' : (200 : Int) < (l.length : Int) := by omega
    clear hl
    go_enter Try.func3, Try.ntmps3
    go_wp2_with fail
    refine (live_any _).mono ?_
    rintro e w1 ⟨rfl, h1⟩
    go_wp2_with fail
    go_ret
    exact ⟨rfl, h1⟩
  · have hl' : (l.length : Int) ≤ 200 := by omega
    have h1k : l.length ≤ 1000 := by omega
    have hs1 := subs_length l 0
    have hs2 := sums_length l 0
    clear hl
    go_enter Try.func3, Try.ntmps3
    go_wp2_with fail
    refine (deltas_any' _ l _ hr.out h1k).mono ?_
    rintro e w1 ⟨⟨r1, rfl, hx⟩, hb⟩
    replace hr := Lib.hid (ints_below hr.out hb)
    replace hx := Lib.hid hx
    replace hb := Lib.hid hb
    go_wp2_with fail
    refine (rdeltas_any _ l _ hr.out h1k).mono ?_
    rintro e w2 ⟨⟨r2, rfl, hy⟩, hb2⟩
    replace hx := Lib.hid (ints_below hx.out hb2)
    replace hy := Lib.hid hy
    replace hr := Lib.hid (ints_below hr.out hb2)
    replace hb := Lib.hid (hb.out.trans (hb2.mono hb.out.size))
    clear hb2
    go_wp2_with fail
    refine (same_any _ _ _ _ _ hx.out hy.out (by omega)).mono ?_
    rintro e w2 ⟨rfl, hb2⟩
    rw [show decide (subs 0 l = subs 0 l) = true from decide_eq_true rfl]
    clear hx hy
    replace hr := Lib.hid (ints_below hr.out hb2)
    replace hb := Lib.hid (hb.out.trans (hb2.mono hb.out.size))
    clear hb2
    go_wp2_with fail
    refine (sums_any _ l _ hr.out (by omega)).mono ?_
    rintro e w2 ⟨⟨r3, rfl, hx⟩, hb2⟩
    replace hx := Lib.hid hx
    replace hr := Lib.hid (ints_below hr.out hb2)
    replace hb := Lib.hid (hb.out.trans (hb2.mono hb.out.size))
    clear hb2
    go_wp2_with fail
    refine (rsums_any _ l _ hr.out (by omega)).mono ?_
    rintro e w2 ⟨⟨r4, rfl, hy⟩, hb2⟩
    replace hx := Lib.hid (ints_below hx.out hb2)
    replace hy := Lib.hid hy
    replace hr := Lib.hid (ints_below hr.out hb2)
    replace hb := Lib.hid (hb.out.trans (hb2.mono hb.out.size))
    clear hb2
    go_wp2_with fail
    refine (same_any _ _ _ _ _ hx.out hy.out (by omega)).mono ?_
    rintro e w2 ⟨rfl, hb2⟩
    rw [show decide (sums 0 l = sums 0 l) = true from decide_eq_true rfl]
    clear hx hy
    replace hr := Lib.hid (ints_below hr.out hb2)
    replace hb := Lib.hid (hb.out.trans (hb2.mono hb.out.size))
    clear hb2
    go_wp2_with fail
    refine (encode_any _ l _ hr.out h1k).mono ?_
    rintro e w2 ⟨rfl, hb2⟩
    replace hr := Lib.hid (ints_below hr.out hb2)
    replace hb := Lib.hid (hb.out.trans (hb2.mono hb.out.size))
    clear hb2
    go_wp2_with fail
    refine (rencode_any _ l _ hr.out h1k).mono ?_
    rintro e w2 ⟨rfl, hb2⟩
    replace hr := Lib.hid (ints_below hr.out hb2)
    replace hb := Lib.hid (hb.out.trans (hb2.mono hb.out.size))
    clear hb2
    go_wp2_with fail
    refine (rising_any _ l _ hr.out h1k).mono ?_
    rintro e w2 ⟨rfl, hb2⟩
    replace hr := Lib.hid (ints_below hr.out hb2)
    replace hb := Lib.hid (hb.out.trans (hb2.mono hb.out.size))
    clear hb2
    go_wp2_with fail
    refine (rrising_any _ l _ hr.out h1k).mono ?_
    rintro e w2 ⟨rfl, hb2⟩
    replace hr := Lib.hid (ints_below hr.out hb2)
    replace hb := Lib.hid (hb.out.trans (hb2.mono hb.out.size))
    clear hb2
    go_wp2_with fail
    refine (live_any _).mono ?_
    rintro e w2 ⟨rfl, hb2⟩
    replace hr := Lib.hid (ints_below hr.out hb2)
    replace hb := Lib.hid (hb.out.trans (hb2.mono hb.out.size))
    clear hb2
    go_wp2_with fail
    go_ret
    exact ⟨rfl, hb.out⟩

theorem reads_ok (W : World) (b : Nat) (v0 v1 : Value) (o0 : Value.okWide Try.prog W .any b 9 v0) (o1 : Value.okWide Try.prog W .any b 3 v1) :
    Calls Try.prog 4 #[v0, v1] W fun e w' => e = .returned (.bool true) ∧ Below W.heap.size W w' := by
  obtain ⟨s, rfl, _⟩ := Opened.ok_string Try.underlying9 o0
  obtain ⟨n, rfl, _, _⟩ := Opened.ok_int Try.underlying3 o1
  exact reads_walk s n W
theorem tells_ok {H : Type} {enc : TypeId × Value → H} {d : DataW H} {p : List MemPlace} (W : World) (b : Nat) (v0 : Value) (o0 : Value.okWide Try.prog W .any b 22 v0) (h0 : DataW.Trod enc Try.prog W 0 (fun _ => true) true 22 v0 d p) :
    Calls Try.prog 3 #[v0] W fun e w' => e = .returned (.bool true) ∧ Below W.heap.size W w' := by
  obtain ⟨zs, hz⟩ := Opened.ints_of Try.underlying22 Try.underlying3 (by kernel_rfl) o0 h0
  exact tells_walk v0 zs W hz

end Dl
end Go.Proofs.Ytlpleikcgikpoaa
