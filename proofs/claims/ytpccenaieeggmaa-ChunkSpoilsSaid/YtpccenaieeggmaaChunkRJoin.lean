/-
  WALK: the document's Join. Conditions: files of at most 90000 bytes.
-/
import Derived.Test.YtpccenaieeggmaaChunkJoin
namespace Go.Proofs.Ytpccenaieeggmaa
open Go.RowKit Go.Shelf
namespace Ck
open Mem Pk Bd

set_option maxRecDepth 100000 in
set_option maxHeartbeats 2000000 in
theorem rjoin_any (n : Int) (v : Value) (l : List Ch) (w : World) (h : Chs w v l) (hl : (l.flatMap oneL).length ≤ 90000) (hl2 : l.length ≤ 90000) :
    Calls Try.prog 11 #[.int .i64 n, v] w fun e w' => e = .returned (joinV n l) ∧ Below w.heap.size w w' := by
  obtain ⟨a, cap, rfl⟩ := chs_val h
  have H := Lib.hid h
  clear h
  have HL := Lib.hid hl
  clear hl
  by_cases hn : n < 0 ∨ 255 < n
  · have hV := Lib.hid (joinV_bad (v := n) (l := l) (c := 1) (by unfold joinE; exact if_pos hn) (by decide))
    by_cases h1 : n < 0
    · have hd : decide (n < 0) = true := decide_eq_true h1
      clear hn h1
      go_enter Try.func11, Try.ntmps11
      go_wp2_with fail
      go_ret2
      exact ⟨by rw [hV.out]; rfl, Below.refl _ _⟩
    · have hd : decide (n < 0) = false := decide_eq_false h1
      have hd2 : decide (255 < n) = true := decide_eq_true (by omega)
      clear hn h1
      go_enter Try.func11, Try.ntmps11
      go_wp2_with fail
      go_ret2
      exact ⟨by rw [hV.out]; rfl, Below.refl _ _⟩
  · have hJ : Hid (joinE n l = joinGo 0 l) := Lib.hid (by unfold joinE; exact if_neg hn)
    have hd : decide (n < 0) = false := decide_eq_false (by omega)
    have hd2 : decide (255 < n) = false := decide_eq_false (by omega)
    have hw : IntKind.u8.wrap n = ((b8 n).toNat : Int) := b8_val n
    have hhd : Hid (hdL n = [] ++ [66, 78, 83, 73] ++ [b8 n]) := Lib.hid rfl
    clear hn
    generalize b8 n = B at *
    have hcv := conv_one (w := w.alloc (.cells #[.int .u8 (B.toNat : Int)] 5)) (g := w.heap.size) (b := B) (alloc_new w _)
    go_enter Try.func11, Try.ntmps11
    go_wp2_with fail
    clear hcv
    have hhl : (hdL n).length = 5 := by rw [hhd.out]; rfl
    have hst : Hid (⟨#[66, 78, 83, 73]⟩ ++ str [B] = str (hdL n)) := Lib.hid (by rw [hhd.out]; exact str_append [66, 78, 83, 73] [B])
    clear hhd
    rw [hst.out]
    generalize hh0 : hdL n = hd0 at *
    have hhead := Lib.hid hh0
    clear hh0
    go_loopw [6, 7, 8] (fun t lv i wr => ∃ (k : Nat) (last : Int), t = .string (str (hd0 ++ (l.take k).flatMap oneL)) ∧ lv = .int .i64 last ∧ i = .int .i64 k ∧ k ≤ l.length ∧ Hid (joinGo 0 l = joinGo last (l.drop k)) ∧ Hid (Below w.heap.size w wr)) (fun _ _ i _ => l.length - (intOf i).toNat)
    case atStart => exact ⟨0, 0, by rw [List.take_zero, List.flatMap_nil, List.append_nil], rfl, rfl, by omega, Lib.hid rfl, Lib.hid ((Below.refl _ _).alloc (Nat.le_refl _) _)⟩
    case round =>
      clear hd hd2 hw hst
      obtain ⟨k, last, rfl, rfl, rfl, hk, hT, hb⟩ := hrel
      by_cases hlt : k < l.length
      · obtain ⟨b, o, rfl⟩ := some_chs H.out (by omega)
        have hc := chs_at (chs_below H.out hb.out) hlt
        have c1 := hc.2.1
        have c2 := hc.2.2
        have hlt' : (k : Int) < l.length := by omega
        have hbs := hb.out.size
        have hO1 := Lib.hid (fun hc => joinGo_order hT.out hlt hc)
        have hO2 := Lib.hid (fun hc hb => joinGo_big hT.out hlt hc hb)
        have hO3 := Lib.hid (fun hc hb => joinGo_next hT.out hlt hc hb)
        have hF := Lib.hid (hJL n l hhead.out hlt)
        have hm := one_in (chAt_mem hlt)
        have hm2 := take_len l k
        have hm3 := oneL_len (chAt l k)
        have hlen : (hd0 ++ (l.take k).flatMap oneL).length ≤ 100000 := by rw [List.length_append]; have := HL.out; omega
        have hlo : (oneL (chAt l k)).length ≤ 90000 := by have := HL.out; omega
        clear hT hlt hc hm hm2
        generalize chAt l k = c at *
        obtain ⟨kk, body⟩ := c
        simp only at c1 c2 hm3
        have HONE := Lib.hid (fun W => rone_any (kk, body) W (by simp only; omega))
        unfold vCh at HONE
        simp only at HONE
        generalize hd0 ++ (l.take k).flatMap oneL = acc at *
        by_cases h1 : kk ≤ last
        · have hV := Lib.hid (joinV_bad (v := n) (l := l) (c := 12) (by rw [hJ.out]; exact hO1.out (.inl h1)) (by decide))
          have hq : decide (kk ≤ last) = true := decide_eq_true h1
          clear h1
          go_wp2_with fail
          go_ret2
          exact ⟨by rw [hV.out]; rfl, hb.out⟩
        · have hq : decide (kk ≤ last) = false := decide_eq_false h1
          by_cases h2 : 255 < kk
          · have hV := Lib.hid (joinV_bad (v := n) (l := l) (c := 12) (by rw [hJ.out]; exact hO1.out (.inr h2)) (by decide))
            have hq2 : decide (255 < kk) = true := decide_eq_true h2
            clear h1 h2
            go_wp2_with fail
            go_ret2
            exact ⟨by rw [hV.out]; rfl, hb.out⟩
          · have hq2 : decide (255 < kk) = false := decide_eq_false h2
            by_cases h3 : 1048576 < body.size
            · have hV := Lib.hid (joinV_bad (v := n) (l := l) (c := 10) (by rw [hJ.out]; exact hO2.out (by rintro (h | h) <;> omega) h3) (by decide))
              have hq3 : decide ((1048576 : Int) < (body.size : Nat)) = true := decide_eq_true (by omega)
              clear h1 h2 h3
              go_wp2_with fail
              go_ret2
              exact ⟨by rw [hV.out]; rfl, hb.out⟩
            · have hN := Lib.hid (hO3.out (by rintro (h | h) <;> omega) h3)
              have hq3 : decide ((1048576 : Int) < (body.size : Nat)) = false := decide_eq_false (by omega)
              clear h1 h2 h3 hO1 hO2 hO3
              go_wp2_with fail
              refine (HONE.out _).mono ?_
              rintro e w3 ⟨rfl, hb3⟩
              have hb4 := Lib.hid (hb.out.trans (hb3.mono hbs))
              have hz1 : (str acc).size = acc.length := str_size acc
              have hz2 : (str (oneL (kk, body))).size = (oneL (kk, body)).length := str_size _
              have hzz : ¬ 9223372036854775807 < acc.length + (oneL (kk, body)).length := by omega
              have hFs : Hid (str acc ++ str (oneL (kk, body)) = str (hd0 ++ (l.take (k + 1)).flatMap oneL)) := Lib.hid (by rw [str_append, hF.out])
              clear hb3 hb
              go_wp2_with fail
              go_roundw
              case rel => exact ⟨k + 1, kk, hFs.out ▸ rfl, rfl, by go_num, by omega, hN, hb4⟩
              case measure => simp [intOf]; omega
      · have hV := Lib.hid (joinV_good (v := n) (l := l) (by rw [hJ.out]; exact joinGo_end hT.out hlt))
        obtain rfl : k = l.length := by omega
        have hge : decide (l.length < l.length) = false := decide_eq_false hlt
        rw [List.take_of_length_le (Nat.le_refl _), ← hhead.out]
        clear hlt hT
        go_wp2_with fail
        go_ret2
        exact ⟨by rw [hV.out]; rfl, hb.out⟩

end Ck
end Go.Proofs.Ytpccenaieeggmaa
