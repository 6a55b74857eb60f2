/-
  WALK: the document's Split. Condition: at most 10000 bytes.
-/
import Derived.Test.YtpccenaieeggmaaChunkSplitP
import Derived.Deep.RegionHeld3
import Derived.Deep.DeepCutAuto
import Derived.WalkMore
namespace Go.Proofs.Ytpccenaieeggmaa
open Go.RowKit Go.Shelf
namespace Ck
open Mem Pk Bd

theorem RW_below {rb : Nat} {B : Nat} {w W W' : World} (hB : B ≤ rb) (hz : B ≤ W.heap.size) (h : Below B w W) (k : Kept (· = rb) W W') : Below B w W' := h.trans (k.to_below hz (fun _ _ _ => by omega))
theorem ownC_drewN {W : World} {B : Nat} {v : Value} {l : List Ch} (h : OwnC W B v l) (n : Nat) : OwnC (W.drewN n) B v l := h
theorem below_drewN {B : Nat} {w W : World} (h : Below B w W) (n : Nat) : Below B w (W.drewN n) := ⟨h.os, h.tape, h.output, h.size, h.block⟩
/-- the sum is right, or not. -/
theorem sum_right {u : ByteArray} {X : Nat} : (sealL (u.data.toList.take X) = u.data.toList.take (X + 4)) ↔ str ((fixL (Crc.more 0 (u.data.toList.take X))).take 4) = (rest u X).extract 0 4 := by
  have e : u.data.toList.take (X + 4) = u.data.toList.take X ++ (u.data.toList.drop X).take 4 := List.take_add
  rw [e]
  unfold sealL
  rw [List.append_cancel_left_eq]
  constructor
  · intro h
    exact ext_list (by rw [str_data, h, head_list, rest_list])
  · intro h
    have := congrArg (fun b : ByteArray => b.data.toList) h
    simp only [str_data, head_list, rest_list] at this
    exact this
theorem takeK_le (s : ByteArray) (e n : Int) : takeK s e n ≤ s.size := by
  unfold takeK
  split <;> omega
theorem mid_list (s : ByteArray) (j X : Nat) : (s.extract j (j + X)).data.toList = (rest s j).data.toList.take X := by
  rw [Lib.extract_data, rest_list, Nat.add_sub_cancel_left]

set_option maxRecDepth 100000 in
set_option maxHeartbeats 4000000 in
theorem rsplit_any (s : ByteArray) (w : World) (hs : s.size ≤ 10000) :
    Calls Try.prog 17 #[.string s] w (SplitR s w) := by
  obtain ⟨i0, hi, hz0, hz1, hz2⟩ := info_parts infoC
  have HV := Lib.hid (rver_any s w)
  unfold verV at HV
  by_cases hv : verE s = 0
  · have h5 := ver_size hv
    have hv0 := Lib.hid hv
    rw [hv] at HV
    clear hv
    go_enter Try.func17, Try.ntmps17
    go_wp2_with fail
    refine HV.out.mono ?_
    rintro e w1 ⟨rfl, hb1⟩
    have hsz1 := hb1.size
    go_wp2_with fail
    obtain ⟨W0, hW0⟩ : ∃ W0, w1.alloc (rr s 5 0) = W0 := ⟨_, rfl⟩
    have hH0 : Hid (W0.heap[w1.heap.size]? = some (rr s 5 0)) := Lib.hid (by rw [← hW0]; exact alloc_new w1 _)
    have hB0 : Hid (Below w.heap.size w W0) := Lib.hid (by rw [← hW0]; exact hb1.alloc hb1.size _)
    have hz0' : W0.heap.size = w1.heap.size + 1 := by rw [← hW0]; simp
    have hr0 : w1.alloc (.cells #[.string s, .int .i64 5, .int .i64 0] 63) = W0 := hW0
    rw [hr0]
    have hO0 : Hid (OwnC W0 (w1.heap.size + 1) (.slice none 0 0) []) := Lib.hid (ownC_nil _ _)
    generalize w1.heap.size = rb at *
    clear hr0 hW0
    go_loopw [8, 9] (fun i v wr => ∃ (last : Int) (j : Nat) (u : ByteArray) (acc : List Ch), i = .int .i64 last ∧ Hid (SAt s last u acc) ∧ Hid (u = rest s j ∧ j ≤ s.size) ∧ Hid (OwnC wr (rb + 1) v acc) ∧ Hid (Below w.heap.size w wr) ∧ Hid (wr.heap[rb]? = some (rr s j 0))) (fun i v wr => match wr.cell? ⟨rb, 1, none⟩ with | some (.int _ z) => s.size - z.toNat | _ => 0)
    case atStart => exact ⟨0, 5, rest s 5, [], rfl, Lib.hid (SAt.start s), Lib.hid ⟨rfl, h5⟩, hO0, hB0, hH0⟩
    case round =>
      obtain ⟨last, j, u, acc, rfl, hS, hJ, hO, hb, hH⟩ := hrel
      have hj := hJ.out.2
      have HH0 := hH
      have hus : u.size = s.size - j := by rw [hJ.out.1, rest_size]
      go_wp2_with fail
      refine (rleft_any rb j s 0 _ hH.out hj (by omega)).mono ?_
      rintro e w2 ⟨rfl, n2, hw2⟩
      replace hO := Lib.hid (show OwnC w2 _ _ _ by rw [hw2]; exact ownC_drewN hO.out n2)
      replace hb := Lib.hid (show Below _ _ w2 by rw [hw2]; exact below_drewN hb.out n2)
      replace hH := Lib.hid (show w2.heap[rb]? = some (rr s j 0) by rw [hw2]; exact hH.out)
      rw [← hJ.out.1]
      clear hw2
      by_cases h0 : u.size = 0
      · have hE := Lib.hid (SplitR.good hv0.out (hS.out.done h0) (hO.out.chs hS.out.bound) hb.out)
        rw [h0]
        clear hS hO h0 hus
        go_wp2_with fail
        go_ret3
        exact hE.out
      · have hu : 0 < u.size := by omega
        have hd0 : decide ((0 : Int) < (u.size : Nat)) = true := decide_eq_true (by omega)
        have hlen := hS.out.len
        obtain ⟨t1, t2⟩ := take_one hu
        have cA : w2.cell? ⟨rb, 1, none⟩ = some (.int .i64 (j : Nat)) := rr_pos hH.out
        obtain ⟨T, hT⟩ : ∃ T, takeS u 0 1 = T := ⟨_, rfl⟩
        have hTs : T.size = 1 := by rw [← hT]; unfold takeS; rw [t2, ← size_list, head_list, List.length_take, size_list]; omega
        have hT0 := Lib.hid (show T.data.toList[0]?.getD 0 = u.data.toList[0]?.getD 0 by rw [← hT]; unfold takeS; rw [t2, head_list, List.getElem?_take_of_lt (by omega)])
        have hT1 : 0 < T.size := by omega
        obtain ⟨kb, hkb⟩ : ∃ kb, u.data.toList[0]?.getD 0 = kb := ⟨_, rfl⟩
        rw [hkb] at hT0
        have hTk : T[0] = kb := by rw [byte_at, hT0.out]
        have hwb := wrap_byte kb
        replace hkb := Lib.hid hkb
        clear h0
        go_wp2_with fail
        refine (rtake_any rb j s 0 1 _ hH.out hj (by omega)).mono ?_
        rintro e w3 ⟨rfl, k3, q3⟩
        rw [← hJ.out.1, t1, t2] at k3
        rw [← hJ.out.1, hT]
        have hO3 := Lib.hid (ownC_kept q3 hO.out (fun k hk _ h => by omega))
        have hb3 := Lib.hid (RW_below hsz1 hb.out.size hb.out q3)
        replace k3 := Lib.hid k3
        clear q3 hO hb hH cA t1 t2 hT
        go_wp2_with fail
        refine (rnum_any rb (j + 1) s 0 _ k3.out (by omega) (by omega)).mono ?_
        rintro e w4 ⟨rfl, k4, q4⟩
        have hO4 := Lib.hid (ownC_kept q4 hO3.out (fun k hk _ h => by omega))
        have hb4 := Lib.hid (RW_below hsz1 hb3.out.size hb3.out q4)
        have hr1 : rest s (j + 1) = rest u 1 := by rw [hJ.out.1, rest_rest]
        rw [hr1] at k4
        rw [hr1]
        have hjk : j + 1 + numK (rest u 1) 0 = j + fK u := by unfold fK; omega
        rw [hjk] at k4
        replace k4 := Lib.hid k4
        obtain ⟨E, hE⟩ : ∃ E, numE (rest u 1) 0 = E := ⟨_, rfl⟩
        obtain ⟨N, hN⟩ : ∃ N, numN (rest u 1) 0 = N := ⟨_, rfl⟩
        have hE2 : fE1 u = E := hE
        have hN2 : fN u = N := hN
        have HN := numN_lt (rest u 1) 0
        rw [hN] at HN ⊢
        rw [hE] at k4
        clear q4 hO3 hb3 k3 hr1 hjk hE hN
        have cE : w4.cell? ⟨rb, 2, none⟩ = some (.int .i64 E) := rr_err k4.out
        by_cases h1 : E = 0
        · subst h1
          obtain ⟨hK, hK2⟩ := fK_le hu hE2
          by_cases h2 : 1048576 < N
          · have hR := Lib.hid (fun w' hb => SplitR.bad (s := s) (w := w) (w' := w') (c := 10) (splitE_of hv0.out ((hS.out.err hu (by rw [first_big hE2 (by rw [hN2]; exact h2)]; decide)).trans (first_big hE2 (by rw [hN2]; exact h2)))) (by decide) hb)
            have hd : decide ((1048576 : Int) < (N : Nat)) = true := decide_eq_true (by omega)
            clear h2 hS
            go_wp2_with fail
            go_ret3
            exact hR.out _ hb4.out
          · have hd : decide ((1048576 : Int) < (N : Nat)) = false := decide_eq_false (by omega)
            have hwN : IntKind.i64.wrap (N : Int) = (N : Int) := IntWalk.i64_in _ (by omega)
            have HH := Lib.hid (two_takes u hK)
            rw [hN2] at HH
            have hfU : Hid (fU u = fK u + N + 4) := Lib.hid (by unfold fU; rw [hN2])
            have HB : Hid (fB u = (rest u (fK u)).extract 0 N) := Lib.hid (by unfold fB; rw [hN2])
            have HS1 := Lib.hid (fun h3 => first_sum hE2 (by rw [hN2]; exact h2) h3)
            have HS2 := Lib.hid (fun h3 => first_cut hE2 (by rw [hN2]; exact h2) h3)
            rw [hN2] at HS1
            have hr2 : Hid (rest s (j + fK u) = rest u (fK u)) := Lib.hid (by rw [hJ.out.1, rest_rest])
            generalize hU0 : fU u = Un at *
            replace hU0 := Lib.hid hU0
            generalize fK u = K at *
            clear h2
            go_wp2_with fail
            clear cE
            refine (rtake_any rb (j + K) s 0 (N : Int) _ k4.out (by omega) (by omega)).mono ?_
            rintro e w5 ⟨rfl, k5, q5⟩
            have hO5 := Lib.hid (ownC_kept q5 hO4.out (fun k hk _ h => by omega))
            have hb5 := Lib.hid (RW_below hsz1 hb4.out.size hb4.out q5)
            rw [hr2.out] at k5
            rw [hr2.out]
            replace k5 := Lib.hid k5
            have HH2 := Lib.hid (HH.out _ rfl _ _ _ _ rfl rfl rfl rfl)
            have HB2 : Hid (takeS (rest u K) 0 (N : Int) = (rest u K).extract 0 (takeK (rest u K) 0 (N : Int))) := Lib.hid rfl
            have hkl := takeK_le (rest u K) 0 (N : Int)
            rw [rest_size] at hkl
            have hr3 : Hid (rest s (j + K + takeK (rest u K) 0 (N : Int)) = rest (rest u K) (takeK (rest u K) 0 (N : Int))) := Lib.hid (by rw [← hr2.out, rest_rest])
            clear q5 k4 HH hO4 hb4
            generalize takeS (rest u K) 0 (N : Int) = body at *
            generalize takeK (rest u K) 0 (N : Int) = k2 at *
            generalize takeE (rest u K) 0 (N : Int) = e2 at *
            go_wp2_with fail
            refine (rtake_any rb (j + K + k2) s e2 4 _ k5.out (by omega) (by omega)).mono ?_
            rintro e w6 ⟨rfl, k6, q6⟩
            have hO6 := Lib.hid (ownC_kept q6 hO5.out (fun k hk _ h => by omega))
            have hb6 := Lib.hid (RW_below hsz1 hb5.out.size hb5.out q6)
            rw [hr3.out] at k6
            rw [hr3.out]
            replace k6 := Lib.hid k6
            have HM : Hid (takeS (rest (rest u K) k2) e2 4 = (rest (rest u K) k2).extract 0 (takeK (rest (rest u K) k2) e2 4)) := Lib.hid rfl
            clear q6 k5 hO5 hb5 hr3
            generalize takeS (rest (rest u K) k2) e2 4 = sum at *
            generalize takeK (rest (rest u K) k2) e2 4 = k3 at *
            generalize takeE (rest (rest u K) k2) e2 4 = e3 at *
            have cE : w6.cell? ⟨rb, 2, none⟩ = some (.int .i64 e3) := rr_err k6.out
            rcases HH2.out with ⟨h3, rfl⟩ | ⟨h3, rfl, rfl, rfl, rfl⟩
            · have hR := Lib.hid (fun w' hb => SplitR.bad (s := s) (w := w) (w' := w') (c := 2) (splitE_of hv0.out ((hS.out.err hu (by rw [HS2.out h3]; decide)).trans (HS2.out h3))) (by decide) hb)
              clear HH2 hS
              go_wp2_with fail
              go_region
              all_goals
                go_wp2_with fail
                go_ret3
                exact hR.out _ hb6.out.drew
            · obtain ⟨X, hX⟩ : ∃ X, K + k2 = X := ⟨_, rfl⟩
              have hUX : Un = X + 4 := by have := hfU.out; omega
              have hXs : X + 4 ≤ u.size := by omega
              rw [show j + K + k2 + 4 = j + Un by omega] at k6
              have hv1 := HS1.out h3
              rw [hX, hUX] at hv1
              have cA : w6.cell? ⟨rb, 1, none⟩ = some (.int .i64 ((j + Un : Nat) : Int)) := rr_pos k6.out
              obtain ⟨A, hA⟩ : ∃ A, j + Un = A := ⟨_, rfl⟩
              obtain ⟨Y, hY⟩ : ∃ Y, j + X = Y := ⟨_, rfl⟩
              rw [hA] at k6 cA
              have hw2 : IntKind.i64.wrap ((A : Int) - 4) = (Y : Int) := by rw [show (A : Int) - 4 = (Y : Int) by omega]; exact IntWalk.i64_in _ (by omega)
              have hml := mid_list s j X
              rw [hY, ← hJ.out.1] at hml
              have hms : (s.extract j Y).size = X := by rw [← size_list, hml, List.length_take, size_list]; omega
              have HSu := Lib.hid (Crc.ref_sum (s.extract j Y) w6 (by unfold maxLen; omega))
              have hm := more_lt (s.extract j Y).data.toList
              have HF := Lib.hid (fun w => rfixed_any (Crc.more 0 (s.extract j Y).data.toList) w (more_64 _))
              have HT := str_take (fixL (Crc.more 0 (s.extract j Y).data.toList)) 4
              have hz : (str (fixL (Crc.more 0 (s.extract j Y).data.toList))).size = 8 := by rw [str_size, fix_len]
              have HQ := Lib.hid (sum_right (u := u) (X := X))
              rw [hml] at HSu hm HF HT hz
              have hrX : Hid (sum = (rest u X).extract 0 4) := Lib.hid (by rw [HM.out, rest_rest, hX])
              rw [← hrX.out] at HQ
              generalize Crc.more 0 (u.data.toList.take X) = M at *
              have hi1 : (j : Int) ≤ (Y : Nat) := by omega
              have hi2 : (Y : Int) ≤ (s.size : Nat) := by omega
              have hi3 : j ≤ Y := by omega
              have hi4 : Y ≤ s.size := by omega
              by_cases hq : str ((fixL M).take 4) = sum
              · have he : firstE u = 0 := by rw [hv1]; exact if_pos (HQ.out.2 hq)
                rw [hq] at HT
                have hfc : firstC u = (((kb.toNat : Nat) : Int), body) := by unfold firstC; rw [hkb.out, HB.out, ← HB2.out]
                have hru : Hid (rest u Un = rest s A ∧ A ≤ s.size) := Lib.hid ⟨by rw [hJ.out.1, rest_rest, hA], by omega⟩
                have hjA : Hid (j < A) := Lib.hid (by omega)
                by_cases h2 : ((kb.toNat : Nat) : Int) ≤ last
                · have hR := Lib.hid (fun w' hb => SplitR.bad (s := s) (w := w) (w' := w') (c := 12) (splitE_of hv0.out (hS.out.low hu he (by rw [hfc]; exact h2))) (by decide) hb)
                  have hd2 : decide (((kb.toNat : Nat) : Int) ≤ last) = true := decide_eq_true h2
                  clear hv1 he hq hS HQ hX hY hA hUX hXs h3 hms hml h2 hfc
                  go_wp2_with fail
                  refine HSu.out.mono ?_
                  rintro e w7 ⟨rfl, rfl⟩
                  go_wp2_with fail
                  refine (HF.out _).mono ?_
                  rintro e w8 ⟨rfl, hb8⟩
                  have hbf := Lib.hid (hb6.out.trans (hb8.mono hb6.out.size))
                  go_wp2_with fail
                  go_ret3
                  exact hR.out _ hbf.out
                · have hN := Lib.hid (hS.out.next hu he (by rw [hfc]; exact h2))
                  rw [hfc, hU0.out] at hN
                  have hd2 : decide (((kb.toNat : Nat) : Int) ≤ last) = false := decide_eq_false h2
                  clear hv1 he hq hS HQ hX hY hA hUX hXs h3 hms hml h2 hfc
                  go_wp2_with fail
                  refine HSu.out.mono ?_
                  rintro e w7 ⟨rfl, rfl⟩
                  go_wp2_with fail
                  refine (HF.out _).mono ?_
                  rintro e w8 ⟨rfl, hb8⟩
                  have hbf := Lib.hid (hb6.out.trans (hb8.mono hb6.out.size))
                  have hO8 := ownC_below hb8 hO6.out
                  have hH8 := Lib.hid ((hb8.block _ (lt_of_block k6.out)).trans k6.out)
                  have hs8 := lt_of_block hH8.out
                  have hbz := hbf.out.size
                  clear hb8 hO6 hb6 k6
                  have hO8' : w8.ownsRow (rb + 1) 32 2 u9 acc.length (cellsC acc) := hO8
                  go_wp2_with (at_builtin; refine wpList_append_src rfl _ _ 22 rfl (rb + 1) 32 i0 (.agg #[.int .i64 0, .string ByteArray.empty]) 2 24 Try.underlying22 hi hz0 hz1 hz2 rfl (by decide) _ acc.length (cellsC acc) rfl (hO8'.alloc _) _ 1 [.int .i64 ((kb.toNat : Nat) : Int), .string body] rfl rfl (src_two (alloc_new _ _)) (one_ch _ _) (by unfold maxLen; omega) (by omega) (by simp; omega) ?_; intro v9 w9 hown hgrow)
                  have hOf := Lib.hid (ownC_snoc (c := (((kb.toNat : Nat) : Int), body)) hown)
                  have hHf := Lib.hid (show w9.heap[rb]? = some (rr s A 0) from (hgrow.block rb (by simp; omega) (fun e => by have := (hO8'.lt _ e.symm).1; omega)).trans (alloc_at _ hH8.out))
                  have hbff := Lib.hid (show Below w.heap.size w w9 from (hbf.out.alloc hbz _).grown hgrow (by simp; omega) (fun k e => by have := (hO8'.lt k e).1; omega))
                  clear hown hgrow hO8 hO8' hH8 hbf
                  have cF : w9.cell? ⟨rb, 1, none⟩ = some (.int .i64 (A : Nat)) := rr_pos hHf.out
                  have cH : wr.cell? ⟨rb, 1, none⟩ = some (.int .i64 (j : Nat)) := rr_pos HH0.out
                  go_wp2_with fail
                  go_roundw
                  case rel => exact ⟨_, A, _, _, rfl, hN, hru, hOf, hbff, hHf⟩
                  case measure => simp only [cF, cH]; have := hru.out.2; have := hjA.out; omega
              · have he : firstE u = 6 := by rw [hv1]; exact if_neg (fun e => hq (HQ.out.1 e))
                have hR := Lib.hid (fun w' hb => SplitR.bad (s := s) (w := w) (w' := w') (c := 6) (splitE_of hv0.out ((hS.out.err hu (by rw [he]; decide)).trans he)) (by decide) hb)
                have hq2 := bytes_ne hq
                clear hv1 he hq hS HQ hX hY hA hUX hXs h3 hms hml
                go_wp2_with fail
                refine HSu.out.mono ?_
                rintro e w7 ⟨rfl, rfl⟩
                go_wp2_with fail
                refine (HF.out _).mono ?_
                rintro e w8 ⟨rfl, hb8⟩
                have hbf := Lib.hid (hb6.out.trans (hb8.mono hb6.out.size))
                go_wp2_with fail
                go_ret3
                exact hR.out _ hbf.out
        · have hR := Lib.hid (fun w' hb => SplitR.bad (s := s) (w := w) (w' := w') (splitE_of hv0.out ((hS.out.err hu (by rw [first_num (by rw [hE2]; exact h1), hE2]; exact h1)).trans ((first_num (by rw [hE2]; exact h1)).trans hE2))) h1 hb)
          have hd : (E != 0) = true := by rw [bne_iff_ne]; exact h1
          clear h1 hS
          go_wp2_with fail
          go_region
          all_goals
            go_wp2_with fail
            go_ret3
            exact hR.out _ hb4.out.drew
  · have hE := Lib.hid (fun w' hb => SplitR.bad (s := s) (w := w) (w' := w') (splitE_ver hv) hv hb)
    have hd : (verE s != 0) = true := by rw [bne_iff_ne]; exact hv
    clear hv
    go_enter Try.func17, Try.ntmps17
    go_wp2_with fail
    refine HV.out.mono ?_
    rintro e w1 ⟨rfl, hb1⟩
    go_wp2_with fail
    go_ret3
    exact hE.out _ hb1

end Ck
end Go.Proofs.Ytpccenaieeggmaa
