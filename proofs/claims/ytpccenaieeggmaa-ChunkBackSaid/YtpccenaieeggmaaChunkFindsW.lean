/-
  WALK: the law ChunkFinds. No condition.
-/
import Derived.Test.YtpccenaieeggmaaChunkJoinsW
import Derived.Test.YtpccenaieeggmaaChunkBackP
namespace Go.Proofs.Ytpccenaieeggmaa
open Go.RowKit Go.Shelf Go.ChangeShapes Go.WideShapes Go.ChangeAt
namespace Ck
open Mem Pk Bd

def amongB (l : List Ch) (kind : Int) (k : Nat) : Bool := (l.take k).any (fun c => decide (c.1 = kind))
def sizeN (l : List Ch) (k : Nat) : Nat := 5 + ((l.take k).flatMap oneL).length
theorem among_next {l : List Ch} {kind : Int} {k : Nat} (h : k < l.length) : amongB l kind (k + 1) = (amongB l kind k || decide ((chAt l k).1 = kind)) := by
  unfold amongB
  rw [take_next l k h, List.any_append]
  simp
theorem size_next {l : List Ch} {k : Nat} (h : k < l.length) : sizeN l (k + 1) = sizeN l k + (oneL (chAt l k)).length := by
  unfold sizeN
  rw [take_next l k h, List.flatMap_append, List.length_append, Nat.add_assoc]
  simp
theorem joinS_size {v : Int} {l : List Ch} (h : joinE v l = 0) : (joinS v l).size = sizeN l l.length := by
  unfold joinS sizeN
  rw [if_pos h, str_size, List.take_of_length_le (Nat.le_refl _)]
  unfold joinL
  rw [List.length_append]
  rfl
theorem among_end (l : List Ch) (kind : Int) : (findS l kind).isSome = amongB l kind l.length := by
  unfold amongB
  rw [List.take_of_length_le (Nat.le_refl _), find_is]

set_option maxRecDepth 100000 in
set_option maxHeartbeats 4000000 in
theorem finds_walk (v : Value) (l : List Ch) (kind : Int) (w : World) (h : Chs w v l) :
    Calls Try.prog 7 #[v, .int .i64 kind] w fun e w' => e = .returned (.bool true) ∧ Below w.heap.size w w' := by
  obtain ⟨a, cap, rfl⟩ := chs_val h
  have H := Lib.hid h
  clear h
  have HF := Lib.hid (few_any _ l w H.out)
  by_cases hf : few l = true
  · obtain ⟨hl1, hl2, hl3⟩ := few_len hf
    rw [hf] at HF
    replace hl2 := Lib.hid hl2
    clear hf
    have HJ := Lib.hid (fun w (h : Chs w (.slice a l.length cap) l) => join_any 7 _ l w h (by omega) (by omega))
    by_cases he : joinE 7 l = 0
    · obtain ⟨s1, s2, s3⟩ := split_join he
      have hzs := joinS_size he
      have hjr := (join_zero he).2.2
      unfold joinV at HJ
      rw [he] at HJ
      have hsz : sizeN l l.length ≤ 5000 := by unfold sizeN; rw [List.take_of_length_le (Nat.le_refl _)]; omega
      have HSp := Lib.hid (fun w => split_any (joinS 7 l) w (by omega))
      have HFR := Lib.hid (find_rise l 0 hjr)
      have HAE := Lib.hid (among_end l kind)
      clear he hjr
      generalize joinS 7 l = js at *
      go_enter Try.func7, Try.ntmps7
      go_wp2_with fail
      refine HF.out.mono ?_
      rintro e w1 ⟨rfl, hb⟩
      replace hb := Lib.hid hb
      go_wp2_with fail
      refine (HJ.out _ (chs_below H.out hb.out)).mono ?_
      rintro e w2 ⟨rfl, k⟩
      replace hb := Lib.hid (hb.out.trans (k.mono hb.out.size))
      clear k
      go_wp2_with fail
      refine (HSp.out _).mono ?_
      rintro e w3 ⟨⟨r1, L, rfl, hr, hL⟩, k⟩
      rw [s2] at hL
      subst hL
      rw [s1]
      replace hr := Lib.hid hr
      replace hb := Lib.hid (hb.out.trans (k.mono hb.out.size))
      clear k HSp HJ HF s1 s2 s3
      generalize splitV js = sv
      go_wp2_with fail
      go_loopw [10, 11, 12] (fun m z i wr => ∃ k : Nat, m = .bool (amongB L kind k) ∧ z = .int .i64 (sizeN L k : Nat) ∧ i = .int .i64 k ∧ k ≤ L.length ∧ Hid (Chs wr r1 L) ∧ Hid (Below w.heap.size w wr)) (fun _ _ i _ => L.length - (intOf i).toNat)
      case atStart => exact ⟨0, rfl, rfl, rfl, by omega, hr, hb⟩
      case round =>
        clear hb hr
        obtain ⟨k, rfl, rfl, rfl, hk, hr, hb⟩ := hrel
        by_cases hlt : k < L.length
        · obtain ⟨b, o, rfl⟩ := some_chs H.out (by omega)
          have hc := chs_at (chs_below H.out hb.out) hlt
          have c1 := hc.2.1
          have c2 := hc.2.2
          have hlt' : (k : Int) < L.length := by omega
          have hm := chAt_mem hlt
          have hsm := hl2.out _ hm
          have hfr := (HFR.out _ hm).2
          have HA := Lib.hid (among_next (kind := kind) hlt)
          have HZ := Lib.hid (size_next hlt)
          have ho := one_small hsm
          have hzk : sizeN L k ≤ 4400 := by unfold sizeN; have := take_len L k; omega
          have hw := Lib.hid (hc.1)
          have HFi := Lib.hid (find_any r1 L (chAt L k).1 wr hr.out (by omega))
          unfold findV at HFi
          rw [hfr] at HFi
          have HH := Lib.hid (fun W (hB : Below wr.heap.size wr W) => And.intro ((hB.cell (p := ⟨b, o + k * 2, none⟩) hw.out).trans c1) ((hB.cell (p := ⟨b, o + k * 2 + 1, none⟩) hw.out).trans c2))
          clear hlt hm hfr hc c2
          generalize chAt L k = c at *
          obtain ⟨kk, body⟩ := c
          simp only at c1 hsm HFi HA HH
          go_wp2_with fail
          refine HFi.out.mono ?_
          rintro e w4 ⟨rfl, hk4⟩
          obtain ⟨d1, d2⟩ := HH.out _ hk4
          replace hb := Lib.hid (hb.out.trans (hk4.mono hb.out.size))
          replace hr := Lib.hid (chs_below hr.out hk4)
          have HOn := Lib.hid (one_any (kk, body) w4 (by simp only; omega))
          have hzo : (str (oneL (kk, body))).size = (oneL (kk, body)).length := str_size _
          have hw1 : IntKind.i64.wrap ((sizeN L k : Int) + (oneL (kk, body)).length) = (sizeN L k : Int) + (oneL (kk, body)).length := IntWalk.i64_in _ (by omega)
          clear hk4 HH c1 HFi
          rcases hA : amongB L kind k with _ | _
          · rw [hA] at HA
            by_cases hq : kk = kind
            · subst hq
              rw [decide_eq_true rfl] at HA
              go_wp2_with fail
              refine HOn.out.mono ?_
              rintro e w5 ⟨rfl, hk5⟩
              replace hb := Lib.hid (hb.out.trans (hk5.mono hb.out.size))
              replace hr := Lib.hid (chs_below hr.out hk5)
              go_wp2_with fail
              go_roundw
              case rel => exact ⟨k + 1, by rw [HA.out]; rfl, by rw [HZ.out]; go_num, by go_num, by omega, hr, hb⟩
              case measure => simp [intOf]; omega
            · rw [decide_eq_false hq] at HA
              have hq2 : (kk == kind) = false := by rw [beq_eq_false_iff_ne]; exact hq
              go_wp2_with fail
              refine HOn.out.mono ?_
              rintro e w5 ⟨rfl, hk5⟩
              replace hb := Lib.hid (hb.out.trans (hk5.mono hb.out.size))
              replace hr := Lib.hid (chs_below hr.out hk5)
              go_wp2_with fail
              go_roundw
              case rel => exact ⟨k + 1, by rw [HA.out]; rfl, by rw [HZ.out]; go_num, by go_num, by omega, hr, hb⟩
              case measure => simp [intOf]; omega
          · rw [hA] at HA
            go_wp2_with fail
            refine HOn.out.mono ?_
            rintro e w5 ⟨rfl, hk5⟩
            replace hb := Lib.hid (hb.out.trans (hk5.mono hb.out.size))
            replace hr := Lib.hid (chs_below hr.out hk5)
            go_wp2_with fail
            go_roundw
            case rel => exact ⟨k + 1, by rw [HA.out]; rfl, by rw [HZ.out]; go_num, by go_num, by omega, hr, hb⟩
            case measure => simp [intOf]; omega
        · obtain rfl : k = L.length := by omega
          have hge : decide (L.length < L.length) = false := decide_eq_false hlt
          have HFi := Lib.hid (find_any r1 L kind wr hr.out (by omega))
          unfold findV at HFi
          rw [HAE.out] at HFi
          clear hlt
          generalize (findS L kind).getD ByteArray.empty = fb at *
          go_wp2_with fail
          refine HFi.out.mono ?_
          rintro e w4 ⟨rfl, hk4⟩
          replace hb := Lib.hid (hb.out.trans (hk4.mono hb.out.size))
          clear hk4 HFi
          go_wp2_with fail
          refine (live_any _).mono ?_
          rintro e w6 ⟨rfl, k⟩
          replace hb := Lib.hid (hb.out.trans (k.mono hb.out.size))
          go_wp2_with fail
          go_ret
          exact ⟨rfl, hb.out⟩
    · have hV := joinV_bad (v := 7) (l := l) rfl he
      rw [hV] at HJ
      have hd : (joinE 7 l != 0) = true := by rw [bne_iff_ne]; exact he
      clear he hV
      generalize joinE 7 l = je at *
      go_enter Try.func7, Try.ntmps7
      go_wp2_with fail
      refine HF.out.mono ?_
      rintro e w1 ⟨rfl, hb⟩
      replace hb := Lib.hid hb
      go_wp2_with fail
      refine (HJ.out _ (chs_below H.out hb.out)).mono ?_
      rintro e w2 ⟨rfl, k⟩
      replace hb := Lib.hid (hb.out.trans (k.mono hb.out.size))
      clear k
      go_wp2_with fail
      refine (live_any _).mono ?_
      rintro e w3 ⟨rfl, k⟩
      go_wp2_with fail
      go_ret
      exact ⟨rfl, hb.out.trans (k.mono hb.out.size)⟩
  · have hf2 : few l = false := by simpa using hf
    rw [hf2] at HF
    clear hf hf2
    go_enter Try.func7, Try.ntmps7
    go_wp2_with fail
    refine HF.out.mono ?_
    rintro e w1 ⟨rfl, hb⟩
    go_wp2_with fail
    refine (live_any _).mono ?_
    rintro e w2 ⟨rfl, k⟩
    go_wp2_with fail
    go_ret
    exact ⟨rfl, hb.trans (k.mono hb.size)⟩

theorem finds_ok {H : Type} {enc : TypeId × Value → H} {d0 : DataW H} {p0 : List MemPlace} (W : World) (b : Nat) (v0 v1 : Value) (o0 : Value.okWide Try.prog W .any b 22 v0) (h0 : DataW.Trod enc Try.prog W 0 (fun _ => true) true 22 v0 d0 p0) (o1 : Value.okWide Try.prog W .any b 3 v1) :
    Calls Try.prog 7 #[v0, v1] W fun e w' => e = .returned (.bool true) ∧ Below W.heap.size W w' := by
  obtain ⟨l, hl⟩ := chs_of h0 (Opened.ok_slice Try.underlying22 o0) o0
  obtain ⟨kind, rfl, -, -⟩ := Opened.ok_int Try.underlying3 o1
  exact finds_walk v0 l kind W hl

end Ck
end Go.Proofs.Ytpccenaieeggmaa
