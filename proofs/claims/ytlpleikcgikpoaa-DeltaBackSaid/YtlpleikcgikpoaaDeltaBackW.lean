/-
  WALKS: the law DeltaBack. No condition.
-/
import Derived.Test.YtlpleikcgikpoaaDeltaLaws1
import Derived.Test.YtlpleikcgikpoaaDeltaBackP
namespace Go.Proofs.Ytlpleikcgikpoaa
open Go.RowKit
namespace Dl
open Mem Pk

theorem decL_bad {s : ByteArray} {n : Int} (h : decE s n ≠ 0) : decL s n = [] := by
  unfold decE at h
  unfold decL
  by_cases h0 : n < 0
  · rw [if_pos h0]
  · rw [if_neg h0] at h ⊢
    by_cases h1 : (s.size : Int) < n
    · rw [if_pos h1]
    · rw [if_neg h1] at h ⊢
      rw [if_neg h]

set_option maxRecDepth 100000 in
set_option maxHeartbeats 8000000 in
theorem back_walk (v : Value) (l : List Int) (s : ByteArray) (n : Int) (w : World) (hv : Opened.Ints .i64 w v l) :
    Calls Try.prog 5 #[v, .string s, .int .i64 n] w fun e w' => e = .returned (.bool true) ∧ Below w.heap.size w w' := by
  have hr := Lib.hid hv
  have HI : Hid (∀ m ∈ l, I64 m) := Lib.hid (fun m hm => i64_bounds (hv.bound m hm))
  obtain ⟨⟨a, cap, rfl, -⟩, -⟩ := hv
  by_cases hl : 200 < l.length
  · have hl' : (200 : Int) < (l.length : Int) := by omega
    clear hl
    go_enter Try.func5, Try.ntmps5
    go_wp2_with fail
    refine (live_any _).mono ?_
    rintro e w1 ⟨rfl, h1⟩
    go_wp2_with fail
    go_ret
    exact ⟨rfl, h1⟩
  · have hl' : (l.length : Int) ≤ 200 := by omega
    by_cases hs : 500 < s.size
    · have hs' : (500 : Int) < (s.size : Int) := by omega
      clear hs hl
      go_enter Try.func5, Try.ntmps5
      go_wp2_with fail
      refine (live_any _).mono ?_
      rintro e w1 ⟨rfl, h1⟩
      go_wp2_with fail
      go_ret
      exact ⟨rfl, h1⟩
    · have hs' : (s.size : Int) ≤ 500 := by omega
      have h1k : l.length ≤ 1000 := by omega
      have HE := Lib.hid (fun w (h : Opened.Ints .i64 w (.slice a l.length cap) l) => encode_any _ l w h h1k)
      have HDE := Lib.hid (dec_enc HI.out)
      have HDO := Lib.hid (fun (h : n ≠ l.length) => dec_other h)
      have hge : l.length ≤ (str (enc (subs 0 l))).size := by have := enc_ge (subs 0 l); rw [subs_length] at this; rw [str_size]; exact this
      have hle : (str (enc (subs 0 l))).size ≤ 10000 := by have := enc_len (subs 0 l); rw [subs_length] at this; rw [str_size]; omega
      have HSS := Lib.hid (sums_subs l HI.out 0)
      have HTT := Lib.hid (subs_sums l HI.out 0)
      generalize str (enc (subs 0 l)) = t at *
      clear hl hs
      go_enter Try.func5, Try.ntmps5
      go_wp2_with fail
      refine (HE.out _ hr.out).mono ?_
      rintro e w1 ⟨rfl, hb⟩
      replace hr := Lib.hid (ints_below hr.out hb)
      replace hb := Lib.hid hb
      go_wp2_with fail
      refine (decode_any t l.length _ hle).mono ?_
      rintro e w2 ⟨⟨r, rfl, hm⟩, hb2⟩
      rw [HDE.out.1]
      rw [HDE.out.2] at hm
      replace hm := Lib.hid hm
      replace hr := Lib.hid (ints_below hr.out hb2)
      replace hb := Lib.hid (hb.out.trans (hb2.mono hb.out.size))
      clear hb2
      go_wp2_with fail
      refine (same_any _ _ l l _ hm.out hr.out (by omega)).mono ?_
      rintro e w3 ⟨rfl, hb2⟩
      rw [show decide (l = l) = true from decide_eq_true rfl]
      replace hr := Lib.hid (ints_below hr.out hb2)
      replace hb := Lib.hid (hb.out.trans (hb2.mono hb.out.size))
      clear hb2 hm
      go_wp2_with fail
      refine (deltas_any' _ l _ hr.out h1k).mono ?_
      rintro e w2 ⟨⟨r2, rfl, hm⟩, hb2⟩
      replace hm := Lib.hid hm
      replace hr := Lib.hid (ints_below hr.out hb2)
      replace hb := Lib.hid (hb.out.trans (hb2.mono hb.out.size))
      clear hb2
      go_wp2_with fail
      refine (sums_any _ (subs 0 l) _ hm.out (by rw [subs_length]; omega)).mono ?_
      rintro e w2 ⟨⟨r3, rfl, hy⟩, hb2⟩
      rw [HSS.out] at hy
      replace hy := Lib.hid hy
      clear hm
      replace hr := Lib.hid (ints_below hr.out hb2)
      replace hb := Lib.hid (hb.out.trans (hb2.mono hb.out.size))
      clear hb2
      go_wp2_with fail
      refine (same_any _ _ l l _ hy.out hr.out (by omega)).mono ?_
      rintro e w2 ⟨rfl, hb2⟩
      rw [show decide (l = l) = true from decide_eq_true rfl]
      clear hy
      replace hr := Lib.hid (ints_below hr.out hb2)
      replace hb := Lib.hid (hb.out.trans (hb2.mono hb.out.size))
      clear hb2
      go_wp2_with fail
      refine (sums_any _ l _ hr.out (by omega)).mono ?_
      rintro e w2 ⟨⟨r4, rfl, hm⟩, hb2⟩
      replace hm := Lib.hid hm
      replace hr := Lib.hid (ints_below hr.out hb2)
      replace hb := Lib.hid (hb.out.trans (hb2.mono hb.out.size))
      clear hb2
      go_wp2_with fail
      refine (deltas_any' _ (sums 0 l) _ hm.out (by rw [sums_length]; omega)).mono ?_
      rintro e w2 ⟨⟨r5, rfl, hy⟩, hb2⟩
      rw [HTT.out] at hy
      replace hy := Lib.hid hy
      clear hm
      replace hr := Lib.hid (ints_below hr.out hb2)
      replace hb := Lib.hid (hb.out.trans (hb2.mono hb.out.size))
      clear hb2
      go_wp2_with fail
      refine (same_any _ _ l l _ hy.out hr.out (by omega)).mono ?_
      rintro e w2 ⟨rfl, hb2⟩
      rw [show decide (l = l) = true from decide_eq_true rfl]
      clear hy
      have hnlt : decide (t.size < l.length) = false := decide_eq_false (by omega)
      replace hr := Lib.hid (ints_below hr.out hb2)
      replace hb := Lib.hid (hb.out.trans (hb2.mono hb.out.size))
      clear hb2
      by_cases hn : n = l.length
      · have hne : (n != (l.length : Int)) = false := by rw [hn]; simp
        clear hn HDO HDE HSS HTT HE HI
        go_wp2_with fail
        refine (decode_any s n _ (by omega)).mono ?_
        rintro e w4 ⟨⟨r6, rfl, hm⟩, hb2⟩
        replace hb := Lib.hid (hb.out.trans (hb2.mono hb.out.size))
        clear hb2
        by_cases hg : decE s n = 0
        · obtain ⟨g1, g2⟩ := dec_good hg
          rw [hg]
          have hL := decL_len s n
          replace g1 : (((decL s n).length : Int) == n) = true := by rw [beq_iff_eq]; exact g1
          replace g2 := Lib.hid g2
          generalize decL s n = L at *
          have hm2 := Lib.hid hm
          obtain ⟨⟨a6, c6, rfl, -⟩, -⟩ := hm
          clear hg
          have HK := Lib.hid (encode_any _ L _ hm2.out (by omega))
          go_wp2_with fail
          refine HK.out.mono ?_
          rintro e w5 ⟨rfl, hb2⟩
          rw [g2.out]
          replace hb := Lib.hid (hb.out.trans (hb2.mono hb.out.size))
          clear hb2 HK hm2
          go_wp2_with fail
          refine (live_any _).mono ?_
          rintro e w6 ⟨rfl, hb2⟩
          replace hb := Lib.hid (hb.out.trans (hb2.mono hb.out.size))
          go_wp2_with fail
          go_ret
          exact ⟨rfl, hb.out⟩
        · have hgn : (decE s n != 0) = true := by rw [bne_iff_ne]; exact hg
          rw [decL_bad hg] at hm
          obtain ⟨⟨a6, c6, rfl, -⟩, -⟩ := hm
          clear hg
          generalize decE s n = g at *
          go_wp2_with fail
          refine (live_any _).mono ?_
          rintro e w6 ⟨rfl, hb2⟩
          replace hb := Lib.hid (hb.out.trans (hb2.mono hb.out.size))
          go_wp2_with fail
          go_ret
          exact ⟨rfl, hb.out⟩
      · have hne : (n != (l.length : Int)) = true := by rw [bne_iff_ne]; exact hn
        have hf := HDO.out hn
        have hfe : (decE t n == 0) = false := by rw [beq_eq_false_iff_ne]; exact hf
        clear hn HDO HDE HSS HTT HE HI hf
        go_wp2_with fail
        refine (decode_any t n _ hle).mono ?_
        rintro e w3 ⟨⟨r7, rfl, -⟩, hb2⟩
        replace hb := Lib.hid (hb.out.trans (hb2.mono hb.out.size))
        clear hb2
        generalize decE t n = f at *
        go_wp2_with fail
        refine (decode_any s n _ (by omega)).mono ?_
        rintro e w4 ⟨⟨r6, rfl, hm⟩, hb2⟩
        replace hb := Lib.hid (hb.out.trans (hb2.mono hb.out.size))
        clear hb2
        by_cases hg : decE s n = 0
        · obtain ⟨g1, g2⟩ := dec_good hg
          rw [hg]
          have hL := decL_len s n
          replace g1 : (((decL s n).length : Int) == n) = true := by rw [beq_iff_eq]; exact g1
          replace g2 := Lib.hid g2
          generalize decL s n = L at *
          have hm2 := Lib.hid hm
          obtain ⟨⟨a6, c6, rfl, -⟩, -⟩ := hm
          clear hg
          have HK := Lib.hid (encode_any _ L _ hm2.out (by omega))
          go_wp2_with fail
          refine HK.out.mono ?_
          rintro e w5 ⟨rfl, hb2⟩
          rw [g2.out]
          replace hb := Lib.hid (hb.out.trans (hb2.mono hb.out.size))
          clear hb2 HK hm2
          go_wp2_with fail
          refine (live_any _).mono ?_
          rintro e w6 ⟨rfl, hb2⟩
          replace hb := Lib.hid (hb.out.trans (hb2.mono hb.out.size))
          go_wp2_with fail
          go_ret
          exact ⟨rfl, hb.out⟩
        · have hgn : (decE s n != 0) = true := by rw [bne_iff_ne]; exact hg
          rw [decL_bad hg] at hm
          obtain ⟨⟨a6, c6, rfl, -⟩, -⟩ := hm
          clear hg
          generalize decE s n = g at *
          go_wp2_with fail
          refine (live_any _).mono ?_
          rintro e w6 ⟨rfl, hb2⟩
          replace hb := Lib.hid (hb.out.trans (hb2.mono hb.out.size))
          go_wp2_with fail
          go_ret
          exact ⟨rfl, hb.out⟩

end Dl
end Go.Proofs.Ytlpleikcgikpoaa
