/-
  WALK: a chunk's bytes, by the document. Conditions: a body of at most 2 million bytes.
-/
import Derived.Test.YtpccenaieeggmaaChunkOne
import Derived.Deep.DeepCutAuto
import Derived.Deep.RegionHeld3
namespace Go.Proofs.Ytpccenaieeggmaa
open Go.RowKit Go.Shelf
namespace Ck
open Mem Pk Bd

set_option maxRecDepth 100000 in
set_option maxHeartbeats 2000000 in
theorem rone_any (c : Ch) (w : World) (hz : c.2.size ≤ 2000000) :
    Calls Try.prog 15 #[vCh c] w fun e w' => e = .returned (.string (str (oneL c))) ∧ Below w.heap.size w w' := by
  obtain ⟨k, s⟩ := c
  simp only at hz
  have hb8 := b8_val k
  have HR := Lib.hid (show str (sealL (str [b8 k] ++ str (putL s.size) ++ s).data.toList) = str (oneL (k, s)) from by rw [str_append, str_cat, str_data]; rfl)
  have hp1 := putL_length s.size
  have hz2 : (str (putL s.size)).size ≤ 10 := by rw [str_size]; exact hp1
  have hz1 : (str [b8 k]).size = 1 := rfl
  have HP := Lib.hid (fun W => rput_any s.size W (Nat.lt_of_le_of_lt hz (by decide)))
  have hbv : IntKind.u8.wrap k = ((b8 k).toNat : Int) := hb8
  unfold vCh
  generalize str (oneL (k, s)) = R at *
  generalize b8 k = B at *
  go_enter Try.func15, Try.ntmps15
  go_upto_region 1 with fail
  go_cut [3] (fun v wx => v = .string (str [B] ++ str (putL s.size) ++ s) ∧ Hid (Below w.heap.size w wx))
  case first =>
    obtain ⟨w1, hw1⟩ : ∃ w1, w.alloc (.cells #[.int .i64 k, .string s] 32) = w1 := ⟨_, rfl⟩
    have hsz : w1.heap.size = w.heap.size + 1 := by rw [← hw1]; simp
    have hk1 : w1.heap[w.heap.size]? = some (.cells #[.int .i64 k, .string s] 32) := by rw [← hw1]; exact alloc_new w _
    have hb1 : Below w.heap.size w w1 := by rw [← hw1]; exact (Below.refl _ _).alloc (Nat.le_refl _) _
    rw [hw1]
    have HSS : Hid (∀ W, Below (w.heap.size + 1) w1 W → OneS w.heap.size k s w1 W) := Lib.hid (fun W h => ⟨(h.cell (p := ⟨w.heap.size, 0, none⟩) (by simp)).trans (cell_at hk1 0), (h.cell (p := ⟨w.heap.size, 1, none⟩) (by simp)).trans (cell_at hk1 1), h⟩)
    clear hw1
    have HP2 : Hid (∀ W, OneS w.heap.size k s w1 W → Calls Try.prog 26 #[.int .u64 (s.size : Nat)] W fun e W' => e = .returned (.string (str (putL s.size))) ∧ OneS w.heap.size k s w1 W' ∧ Below W.heap.size W W') := Lib.hid (fun W h => (HP.out W).mono fun e W' h2 => ⟨h2.1, HSS.out _ (h.2.2.trans (h2.2.mono (by have := h.2.2.size; omega))), h2.2⟩)
    have HCV : ∀ W : World, (convert 42 9 (.slice (some ⟨W.heap.size, 0, none⟩) 1 1)).run Try.prog (W.alloc (.cells #[.int .u8 (B.toNat : Int)] 5)) = .ok (.string (str [B])) (W.alloc (.cells #[.int .u8 (B.toNat : Int)] 5)) := fun W => conv_one (alloc_new W _)
    have hn1 : (w1.alloc (.cells #[.int .u8 (B.toNat : Int)] 5)).drew.heap[w.heap.size + 1]? = some (.cells #[.int .u8 (B.toNat : Int)] 5) := by rw [← hsz]; exact alloc_new w1 _
    have hcv := conv_one hn1
    have hws : IntKind.u64.wrap (s.size : Int) = (s.size : Int) := IntWalk.u64_in _ (by omega)
    have y1 : ¬ 9223372036854775807 < 1 + (str (putL s.size)).size := by omega
    have y2 : ¬ 9223372036854775807 < 1 + (str (putL s.size)).size + s.size := by omega
    have hS0 := HSS.out _ (Below.refl _ w1).drew
    have hHB := Lib.hid hb1
    clear hb1 hk1 hp1
    unfold OneS at *
    refine wp_region_held_drew (S := fun W => W.cell? ⟨w.heap.size, 0, none⟩ = some (.int .i64 k) ∧ W.cell? ⟨w.heap.size, 1, none⟩ = some (.string s) ∧ Below (w.heap.size + 1) w1 W) (by kernel_rfl) ?_ (fun hHeld => ?_)
    · exact hS0
    refine wpAnyH_take (i := 0) (oi := _) (v := ?_) rfl (by kernel_rfl) (by kernel_rfl) (by kernel_rfl) (fun _ _ _ h => h) (Or.inl ⟨by rfl, ?_⟩) (by assumption) ?_
    rotate_left
    · intro w hSw; (try dsimp only at hSw); go_simp; (try with_reducible rfl)
    (try simp only [Act.put]); (try simp only [List.setIfInBounds_toArray]); (try simp only [List.set_cons_succ]); (try simp only [List.set_cons_zero])
    refine wpAnyH_take (i := 1) (oi := _) (v := ?_) rfl (by kernel_rfl) (by kernel_rfl) (by kernel_rfl) (fun _ _ _ h => h) (Or.inl ⟨by rfl, ?_⟩) (by assumption) ?_
    rotate_left
    · intro w hSw; (try dsimp only at hSw); go_simp; (try with_reducible rfl)
    (try simp only [Act.put]); (try simp only [List.setIfInBounds_toArray]); (try simp only [List.set_cons_succ]); (try simp only [List.set_cons_zero])
    refine wpAnyH_take (i := 2) (oi := _) (v := ?_) rfl (by kernel_rfl) (by kernel_rfl) (by kernel_rfl) (fun _ _ _ h => h) (Or.inl ⟨by rfl, ?_⟩) (by assumption) ?_
    rotate_left
    · intro w hSw; (try dsimp only at hSw); go_simp; (try with_reducible rfl)
    (try simp only [Act.put]); (try simp only [List.setIfInBounds_toArray]); (try simp only [List.set_cons_succ]); (try simp only [List.set_cons_zero])
    refine wpAnyH_take (i := 5) (oi := _) (v := ?_) rfl (by kernel_rfl) (by kernel_rfl) (by kernel_rfl) (fun _ _ _ h => h) (Or.inl ⟨by rfl, ?_⟩) (by assumption) ?_
    rotate_left
    · intro w hSw; (try dsimp only at hSw); go_simp; (try with_reducible rfl)
    (try simp only [Act.put]); (try simp only [List.setIfInBounds_toArray]); (try simp only [List.set_cons_succ]); (try simp only [List.set_cons_zero])
    refine wpAnyH_take (i := 6) (oi := _) (v := ?_) rfl (by kernel_rfl) (by kernel_rfl) (by kernel_rfl) (fun _ _ _ h => h) (Or.inl ⟨by rfl, ?_⟩) (by assumption) ?_
    rotate_left
    · intro w hSw; (try dsimp only at hSw); go_simp; (try with_reducible rfl)
    (try simp only [Act.put]); (try simp only [List.setIfInBounds_toArray]); (try simp only [List.set_cons_succ]); (try simp only [List.set_cons_zero])
    refine wpAnyH_take (i := 7) (oi := _) (v := ?_) rfl (by kernel_rfl) (by kernel_rfl) (by kernel_rfl) (fun _ _ _ h => h) (Or.inl ⟨by rfl, ?_⟩) (by assumption) ?_
    rotate_left
    · intro w hSw; (try dsimp only at hSw); go_simp; (try with_reducible rfl)
    (try simp only [Act.put]); (try simp only [List.setIfInBounds_toArray]); (try simp only [List.set_cons_succ]); (try simp only [List.set_cons_zero])
    refine wpAnyH_take (i := 8) (oi := _) (v := ?_) rfl (by kernel_rfl) (by kernel_rfl) (by kernel_rfl) (fun _ _ _ h => h) (Or.inl ⟨by rfl, ?_⟩) (by assumption) ?_
    rotate_left
    · intro w hSw; (try dsimp only at hSw); go_simp; (try with_reducible rfl)
    (try simp only [Act.put]); (try simp only [List.setIfInBounds_toArray]); (try simp only [List.set_cons_succ]); (try simp only [List.set_cons_zero])
    refine wpAnyH_take (i := 11) (oi := _) (v := ?_) rfl (by kernel_rfl) (by kernel_rfl) (by kernel_rfl) (fun _ _ _ h => h) (Or.inl ⟨by rfl, ?_⟩) (by assumption) ?_
    rotate_left
    · intro w hSw; (try dsimp only at hSw); go_simp; (try with_reducible rfl)
    (try simp only [Act.put]); (try simp only [List.setIfInBounds_toArray]); (try simp only [List.set_cons_succ]); (try simp only [List.set_cons_zero])
    refine wpAnyH_take (i := 12) (oi := _) (v := ?_) rfl (by kernel_rfl) (by kernel_rfl) (by kernel_rfl) (fun _ _ _ h => h) (Or.inl ⟨by rfl, ?_⟩) (by assumption) ?_
    rotate_left
    · intro w hSw; (try dsimp only at hSw); go_simp; (try with_reducible rfl)
    (try simp only [Act.put]); (try simp only [List.setIfInBounds_toArray]); (try simp only [List.set_cons_succ]); (try simp only [List.set_cons_zero])
    refine wpAnyH_ready (rs := [3, 9]) (by kernel_rfl) (by simp) ?_
    refine AllReadyH.cons (o := _) rfl (fun K hK => ?_) ?_
    · go_simp
      refine hK.out _ _ ?_ (fun hHeld => ?_)
      · first | exact HSS.out _ ((Below.refl _ w1).alloc (by omega) _).drew | (refine HSS.out _ (Below.alloc ?_ ?_ _); exact (by assumption : _ ∧ _ ∧ Below (w.heap.size + 1) w1 _).2.2; have := (by assumption : _ ∧ _ ∧ Below (w.heap.size + 1) w1 _).2.2.size; omega)
      clear hK K
      (try simp only [Act.put]); (try simp only [List.setIfInBounds_toArray]); (try simp only [List.set_cons_succ]); (try simp only [List.set_cons_zero])
      refine wpAnyH_ready (rs := [4, 9]) (by kernel_rfl) (by simp) ?_
      refine AllReadyH.cons (o := _) rfl (fun K hK => ?_) ?_
      · go_simp
        refine hK.out _ _ ?_ (fun hHeld => ?_)
        · assumption
        clear hK K
        (try simp only [Act.put]); (try simp only [List.setIfInBounds_toArray]); (try simp only [List.set_cons_succ]); (try simp only [List.set_cons_zero])
        refine wpAnyH_ready (rs := [9]) (by kernel_rfl) (by simp) ?_
        refine AllReadyH.cons (o := _) rfl (fun K hK => ?_) ?_
        · go_simp; go_at_call 26; refine (HP2.out _ (by assumption)).mono ?_; rintro e' W' ⟨rfl, hS', hk'⟩; (try have hcv2 := conv_one ((hk'.block (w.heap.size + 1) (by simp; omega)).trans hn1)); go_wp2_with fail
          refine hK.out _ _ ?_ (fun hHeld => ?_)
          · assumption
          clear hK K
          (try simp only [Act.put]); (try simp only [List.setIfInBounds_toArray]); (try simp only [List.set_cons_succ]); (try simp only [List.set_cons_zero])
          refine wpAnyH_take (i := 10) (oi := _) (v := ?_) rfl (by kernel_rfl) (by kernel_rfl) (by kernel_rfl) (fun _ _ _ h => h) (Or.inl ⟨by rfl, ?_⟩) (by assumption) ?_
          rotate_left
          · intro w hSw; (try dsimp only at hSw); go_simp; (try with_reducible rfl)
          (try simp only [Act.put]); (try simp only [List.setIfInBounds_toArray]); (try simp only [List.set_cons_succ]); (try simp only [List.set_cons_zero])
          refine wpAnyH_take (i := 13) (oi := _) (v := ?_) rfl (by kernel_rfl) (by kernel_rfl) (by kernel_rfl) (fun _ _ _ h => h) (Or.inl ⟨by rfl, ?_⟩) (by assumption) ?_
          rotate_left
          · intro w hSw; (try dsimp only at hSw); go_simp; (try with_reducible rfl)
          (try simp only [Act.put]); (try simp only [List.setIfInBounds_toArray]); (try simp only [List.set_cons_succ]); (try simp only [List.set_cons_zero])
          refine wpAnyH_ready (rs := [14]) (by kernel_rfl) (by simp) ?_
          refine AllReadyH.cons (o := _) rfl (fun K hK => ?_) ?_
          · go_simp
            refine hK.out _ _ ?_ (fun hHeld => ?_)
            · assumption
            clear hK K
            (try simp only [Act.put]); (try simp only [List.setIfInBounds_toArray]); (try simp only [List.set_cons_succ]); (try simp only [List.set_cons_zero])
            refine wpAnyH_done (by kernel_rfl) ?_ _
            go_wp2_with fail
            go_meet
            exact ⟨rfl, Lib.hid (hHB.out.trans (hHeld.2.2.mono (by omega)))⟩
          exact AllReadyH.nil
        exact AllReadyH.nil
      refine AllReadyH.cons (o := _) rfl (fun K hK => ?_) ?_
      · go_simp; go_at_call 26; refine (HP2.out _ (by assumption)).mono ?_; rintro e' W' ⟨rfl, hS', hk'⟩; (try have hcv2 := conv_one ((hk'.block (w.heap.size + 1) (by simp; omega)).trans hn1)); go_wp2_with fail
        refine hK.out _ _ ?_ (fun hHeld => ?_)
        · assumption
        clear hK K
        (try simp only [Act.put]); (try simp only [List.setIfInBounds_toArray]); (try simp only [List.set_cons_succ]); (try simp only [List.set_cons_zero])
        refine wpAnyH_ready (rs := [4]) (by kernel_rfl) (by simp) ?_
        refine AllReadyH.cons (o := _) rfl (fun K hK => ?_) ?_
        · go_simp
          refine hK.out _ _ ?_ (fun hHeld => ?_)
          · assumption
          clear hK K
          (try simp only [Act.put]); (try simp only [List.setIfInBounds_toArray]); (try simp only [List.set_cons_succ]); (try simp only [List.set_cons_zero])
          refine wpAnyH_take (i := 10) (oi := _) (v := ?_) rfl (by kernel_rfl) (by kernel_rfl) (by kernel_rfl) (fun _ _ _ h => h) (Or.inl ⟨by rfl, ?_⟩) (by assumption) ?_
          rotate_left
          · intro w hSw; (try dsimp only at hSw); go_simp; (try with_reducible rfl)
          (try simp only [Act.put]); (try simp only [List.setIfInBounds_toArray]); (try simp only [List.set_cons_succ]); (try simp only [List.set_cons_zero])
          refine wpAnyH_take (i := 13) (oi := _) (v := ?_) rfl (by kernel_rfl) (by kernel_rfl) (by kernel_rfl) (fun _ _ _ h => h) (Or.inl ⟨by rfl, ?_⟩) (by assumption) ?_
          rotate_left
          · intro w hSw; (try dsimp only at hSw); go_simp; (try with_reducible rfl)
          (try simp only [Act.put]); (try simp only [List.setIfInBounds_toArray]); (try simp only [List.set_cons_succ]); (try simp only [List.set_cons_zero])
          refine wpAnyH_ready (rs := [14]) (by kernel_rfl) (by simp) ?_
          refine AllReadyH.cons (o := _) rfl (fun K hK => ?_) ?_
          · go_simp
            refine hK.out _ _ ?_ (fun hHeld => ?_)
            · assumption
            clear hK K
            (try simp only [Act.put]); (try simp only [List.setIfInBounds_toArray]); (try simp only [List.set_cons_succ]); (try simp only [List.set_cons_zero])
            refine wpAnyH_done (by kernel_rfl) ?_ _
            go_wp2_with fail
            go_meet
            exact ⟨rfl, Lib.hid (hHB.out.trans (hHeld.2.2.mono (by omega)))⟩
          exact AllReadyH.nil
        exact AllReadyH.nil
      exact AllReadyH.nil
    refine AllReadyH.cons (o := _) rfl (fun K hK => ?_) ?_
    · go_simp; go_at_call 26; refine (HP2.out _ (by assumption)).mono ?_; rintro e' W' ⟨rfl, hS', hk'⟩; (try have hcv2 := conv_one ((hk'.block (w.heap.size + 1) (by simp; omega)).trans hn1)); go_wp2_with fail
      refine hK.out _ _ ?_ (fun hHeld => ?_)
      · assumption
      clear hK K
      (try simp only [Act.put]); (try simp only [List.setIfInBounds_toArray]); (try simp only [List.set_cons_succ]); (try simp only [List.set_cons_zero])
      refine wpAnyH_ready (rs := [3]) (by kernel_rfl) (by simp) ?_
      refine AllReadyH.cons (o := _) rfl (fun K hK => ?_) ?_
      · go_simp
        refine hK.out _ _ ?_ (fun hHeld => ?_)
        · first | exact HSS.out _ ((Below.refl _ w1).alloc (by omega) _).drew | (refine HSS.out _ (Below.alloc ?_ ?_ _); exact (by assumption : _ ∧ _ ∧ Below (w.heap.size + 1) w1 _).2.2; have := (by assumption : _ ∧ _ ∧ Below (w.heap.size + 1) w1 _).2.2.size; omega)
        clear hK K
        (try simp only [Act.put]); (try simp only [List.setIfInBounds_toArray]); (try simp only [List.set_cons_succ]); (try simp only [List.set_cons_zero])
        refine wpAnyH_ready (rs := [4]) (by kernel_rfl) (by simp) ?_
        refine AllReadyH.cons (o := _) rfl (fun K hK => ?_) ?_
        · go_simp
          refine hK.out _ _ ?_ (fun hHeld => ?_)
          · assumption
          clear hK K
          (try simp only [Act.put]); (try simp only [List.setIfInBounds_toArray]); (try simp only [List.set_cons_succ]); (try simp only [List.set_cons_zero])
          refine wpAnyH_take (i := 10) (oi := _) (v := ?_) rfl (by kernel_rfl) (by kernel_rfl) (by kernel_rfl) (fun _ _ _ h => h) (Or.inl ⟨by rfl, ?_⟩) (by assumption) ?_
          rotate_left
          · intro w hSw; (try dsimp only at hSw); go_simp; (try with_reducible rfl)
          (try simp only [Act.put]); (try simp only [List.setIfInBounds_toArray]); (try simp only [List.set_cons_succ]); (try simp only [List.set_cons_zero])
          refine wpAnyH_take (i := 13) (oi := _) (v := ?_) rfl (by kernel_rfl) (by kernel_rfl) (by kernel_rfl) (fun _ _ _ h => h) (Or.inl ⟨by rfl, ?_⟩) (by assumption) ?_
          rotate_left
          · intro w hSw; (try dsimp only at hSw); go_simp; (try with_reducible rfl)
          (try simp only [Act.put]); (try simp only [List.setIfInBounds_toArray]); (try simp only [List.set_cons_succ]); (try simp only [List.set_cons_zero])
          refine wpAnyH_ready (rs := [14]) (by kernel_rfl) (by simp) ?_
          refine AllReadyH.cons (o := _) rfl (fun K hK => ?_) ?_
          · go_simp
            refine hK.out _ _ ?_ (fun hHeld => ?_)
            · assumption
            clear hK K
            (try simp only [Act.put]); (try simp only [List.setIfInBounds_toArray]); (try simp only [List.set_cons_succ]); (try simp only [List.set_cons_zero])
            refine wpAnyH_done (by kernel_rfl) ?_ _
            go_wp2_with fail
            go_meet
            exact ⟨rfl, Lib.hid (hHB.out.trans (hHeld.2.2.mono (by omega)))⟩
          exact AllReadyH.nil
        exact AllReadyH.nil
      exact AllReadyH.nil
    exact AllReadyH.nil
  case rest =>
    obtain ⟨rfl, hb⟩ := hcut
    have hT : ∃ T, str [B] ++ str (putL s.size) ++ s = T ∧ T.size ≤ 3000000 ∧ str (sealL T.data.toList) = R := ⟨_, rfl, by rw [ByteArray.size_append, ByteArray.size_append]; omega, by rw [← HR.out]⟩
    obtain ⟨T, hTe, hTs, hTo⟩ := hT
    rw [hTe]
    replace hTo := Lib.hid hTo
    clear hTe hz hz1 hz2 hp1 hb8 hbv HP HR
    have hm := more_lt T.data.toList
    have HS := Lib.hid (Crc.ref_sum T wc (by unfold maxLen; omega))
    have HF := Lib.hid (fun w => rfixed_any (Crc.more 0 T.data.toList) w (more_64 _))
    have hz : (str (fixL (Crc.more 0 T.data.toList))).size = 8 := by rw [str_size, fix_len]
    have HT := Lib.hid (str_take (fixL (Crc.more 0 T.data.toList)) 4)
    have hz4 : (str ((fixL (Crc.more 0 T.data.toList)).take 4)).size = 4 := by rw [str_size, List.length_take, fix_len]; rfl
    have HA := Lib.hid (str_append' T ((fixL (Crc.more 0 T.data.toList)).take 4))
    have HL : Hid (sealL T.data.toList = T.data.toList ++ (fixL (Crc.more 0 T.data.toList)).take 4) := Lib.hid rfl
    rw [← HL.out, hTo.out] at HA
    generalize Crc.more 0 T.data.toList = M at *
    go_wp2_with fail
    refine HS.out.mono ?_
    rintro e w1 ⟨rfl, rfl⟩
    go_wp2_with fail
    refine (HF.out _).mono ?_
    rintro e w2 ⟨rfl, hb2⟩
    replace hb := Lib.hid (hb.out.trans (hb2.mono hb.out.size))
    have hT := HT.out
    go_wp2_with fail
    go_ret
    exact ⟨by rw [HA.out]; rfl, hb.out⟩

end Ck
end Go.Proofs.Ytpccenaieeggmaa
