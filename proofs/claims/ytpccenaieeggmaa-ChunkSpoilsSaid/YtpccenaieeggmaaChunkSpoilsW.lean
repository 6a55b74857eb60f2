/-
  WALK: the law ChunkSpoils. No condition.
-/
import Derived.Test.YtpccenaieeggmaaChunkSpoilP
import Derived.Test.YtpccenaieeggmaaChunkLive
import Derived.Test.YtpccenaieeggmaaChunkJoinsW
namespace Go.Proofs.Ytpccenaieeggmaa
open Go.RowKit Go.Shelf Go.ChangeShapes Go.WideShapes Go.ChangeAt
namespace Ck
open Mem Pk Bd
attribute [local go_sem ↓] Go.wp_at_zero Go.wp_at_succ

theorem chs_one (w : World) (c : Ch) (hc : Ok c) : Chs (w.alloc (.cells #[.int .i64 c.1, .string c.2] 32)) (.slice (some ⟨w.heap.size, 0, none⟩) 1 1) [c] := by
  refine ⟨⟨_, 1, rfl, Nat.le_refl _, (fun e => by cases e), fun _ => ⟨w.heap.size, 0, rfl, by simp, fun j hj => ?_⟩⟩, fun n hn => ?_⟩
  · rw [cell_at (alloc_new w _), cell_at (alloc_new w _)]
    match j, hj with
    | 0, _ => exact ⟨rfl, rfl⟩
  · rcases List.mem_cons.1 hn with rfl | hn
    · exact hc
    · cases hn
/-- the two boxes. -/
def Bx (w : World) (kk : Int) (b : ByteArray) (ms : List UInt8) (W : World) : Prop := W.heap[w.heap.size]? = some (.cells #[.int .i64 kk, .string b] 32) ∧ Crc.Masks (w.heap.size + 1) ms W ∧ Below w.heap.size w W ∧ w.heap.size + 2 ≤ W.heap.size
theorem Bx.below {w W W' : World} {kk : Int} {b : ByteArray} {ms : List UInt8} (h : Bx w kk b ms W) (k : Below W.heap.size W W') : Bx w kk b ms W' := by
  obtain ⟨h1, h2, h3, h4⟩ := h
  exact ⟨(k.block _ (by omega)).trans h1, (k.block (w.heap.size + 1) (by omega)).trans h2, h3.trans (k.mono (by omega)), Nat.le_trans h4 k.size⟩
theorem Bx.low {w W W' : World} {kk : Int} {b : ByteArray} {ms : List UInt8} (h : Bx w kk b ms W) (k : Below (w.heap.size + 2) W W') : Bx w kk b ms W' := by
  obtain ⟨h1, h2, h3, h4⟩ := h
  exact ⟨(k.block _ (by omega)).trans h1, (k.block (w.heap.size + 1) (by omega)).trans h2, h3.trans (k.mono (by omega)), Nat.le_trans h4 k.size⟩
theorem one_file {c : Ch} (hk : 1 ≤ c.1 ∧ c.1 ≤ 255) (hb : c.2.size ≤ 200) : joinE 1 [c] = 0 ∧ (joinS 1 [c]).data.toList = headL ++ oneL c := by
  have hj : joinE 1 [c] = 0 := by
    refine joinE_of ⟨by decide, by decide⟩ ?_
    rw [joinGo, if_neg (by omega), if_neg (by omega), joinGo]
  refine ⟨hj, ?_⟩
  unfold joinS
  rw [if_pos hj, str_data]
  unfold joinL
  simp [headL]
  rfl
theorem oneL_more (c : Ch) : c.2.size + 6 ≤ (oneL c).length := by
  unfold oneL sealL
  have h1 := putL_pos c.2.size
  have h2 := fix_len (Crc.more 0 ([b8 c.1] ++ putL c.2.size ++ c.2.data.toList))
  simp only [List.length_append, List.length_take, size_list, List.length_singleton]
  omega

set_option maxRecDepth 100000 in
set_option maxHeartbeats 8000000 in
theorem spoils_main (kk : Int) (b : ByteArray) (at0 : Int) (ms : List UInt8) (w : World) (hk1 : 1 ≤ kk) (hk2 : kk ≤ 255) (hb : b.size ≤ 200) (hm : ms.length = 4) :
    Calls Try.prog 6 #[.agg #[.int .i64 kk, .string b], .int .i64 at0, .agg (Crc.cells8 ms)] w fun e w' => e = .returned (.bool true) ∧ Below w.heap.size w w' := by
  have hok : Ok (kk, b) := ⟨⟨by simp only; omega, by simp only; omega⟩, by simp only; unfold maxLen; omega⟩
  obtain ⟨hj, hjs⟩ := one_file (c := (kk, b)) ⟨hk1, hk2⟩ hb
  have hlen := oneL_more (kk, b)
  have hon := one_small (c := (kk, b)) hb
  have hjz : (joinS 1 [(kk, b)]).size = 5 + (oneL (kk, b)).length := by rw [← size_list, hjs]; simp [headL]; omega
  have HJ : Hid (∀ w v, Chs w v [(kk, b)] → Calls Try.prog 10 #[.int .i64 1, v] w fun e w' => e = .returned (.tuple #[.string (joinS 1 [(kk, b)]), .int .i64 0]) ∧ Below w.heap.size w w') := Lib.hid (fun w v h => (join_any 1 v [(kk, b)] w h (by simp; omega) (by simp)).mono fun e w' h2 => ⟨h2.1.trans (by unfold joinV; rw [hj]), h2.2⟩)
  have hd1 : decide ((200 : Int) < (b.size : Nat)) = false := decide_eq_false (by omega)
  have hd2 : decide (kk < 1) = false := decide_eq_false (by omega)
  have hd3 : decide (255 < kk) = false := decide_eq_false (by omega)
  have hB0 : Bx w kk b ms ((w.alloc (.cells #[.int .i64 kk, .string b] 32)).alloc (.cells (Crc.cells8 ms) 41)) := by
    refine ⟨alloc_at _ (alloc_new w _), ?_, ((Below.refl _ _).alloc (Nat.le_refl _) _).alloc (by simp) _, by simp⟩
    have := alloc_new (w.alloc (.cells #[.int .i64 kk, .string b] 32)) (.cells (Crc.cells8 ms) 41)
    rw [World.size_alloc] at this
    exact this
  have hch := chs_one ((w.alloc (.cells #[.int .i64 kk, .string b] 32)).alloc (.cells (Crc.cells8 ms) 41)) (kk, b) hok
  have c0 : ((w.alloc (.cells #[.int .i64 kk, .string b] 32)).alloc (.cells (Crc.cells8 ms) 41)).cell? ⟨w.heap.size, 0, none⟩ = some (.int .i64 kk) := cell_at hB0.1 0
  have c1 : ((w.alloc (.cells #[.int .i64 kk, .string b] 32)).alloc (.cells (Crc.cells8 ms) 41)).cell? ⟨w.heap.size, 1, none⟩ = some (.string b) := cell_at hB0.1 1
  have hB1 := Lib.hid (hB0.below ((Below.refl _ _).alloc (Nat.le_refl _) (.cells #[.int .i64 kk, .string b] 32)))
  simp only [World.size_alloc] at hch
  replace hch := Lib.hid hch
  clear hB0 hj
  replace hjs := Lib.hid hjs
  generalize joinS 1 [(kk, b)] = js at *
  generalize hms : Crc.cells8 ms = M at *
  replace hms := Lib.hid hms
  go_enter Try.func6, Try.ntmps6
  go_wp2_with fail
  refine (HJ.out _ _ hch.out).mono ?_
  rintro e w3 ⟨rfl, k3⟩
  have hB3 := hB1.out.below k3
  clear hch hB1 c0 c1 k3 HJ
  have c0 : w3.cell? ⟨w.heap.size, 0, none⟩ = some (.int .i64 kk) := cell_at hB3.1 0
  have c1 : w3.cell? ⟨w.heap.size, 1, none⟩ = some (.string b) := cell_at hB3.1 1
  have hsz3 := hB3.2.2.2
  replace hB3 := Lib.hid hB3
  have hd4 : decide ((js.size : Int) < 11 + (b.size : Nat)) = false := decide_eq_false (by omega)
  have hw1 : IntKind.i64.wrap (11 + (b.size : Int)) = 11 + (b.size : Int) := IntWalk.i64_in _ (by omega)
  have hw2 : IntKind.i64.wrap ((js.size : Int) - 4) = (js.size : Int) - 4 := IntWalk.i64_in _ (by omega)
  have hw3 : IntKind.i64.wrap ((js.size : Int) - 4 - (b.size : Int)) = (js.size : Int) - 4 - (b.size : Int) := IntWalk.i64_in _ (by omega)
  have hjsm : js.size ≤ 300 := by omega
  have hjge : 11 + b.size ≤ js.size := by omega
  clear hjz hlen hon
  by_cases hp1 : at0 < (js.size : Int) - 4 - (b.size : Int)
  · have hd5 : decide (at0 < (js.size : Int) - 4 - (b.size : Int)) = true := decide_eq_true hp1
    clear hp1
    go_wp2_with fail
    refine (live_any _).mono ?_
    rintro e w4 ⟨rfl, k4⟩
    have hf := (hB3.out.below k4).2.2.1
    go_wp2_with fail
    go_ret
    exact ⟨rfl, hf⟩
  · have hd5 : decide (at0 < (js.size : Int) - 4 - (b.size : Int)) = false := decide_eq_false hp1
    by_cases hp2 : (js.size : Int) ≤ at0
    · have hd6 : decide ((js.size : Int) ≤ at0) = true := decide_eq_true hp2
      clear hp1 hp2
      go_wp2_with fail
      refine (live_any _).mono ?_
      rintro e w4 ⟨rfl, k4⟩
      have hf := (hB3.out.below k4).2.2.1
      go_wp2_with fail
      go_ret
      exact ⟨rfl, hf⟩
    · have hd6 : decide ((js.size : Int) ≤ at0) = false := decide_eq_false hp2
      obtain ⟨p, rfl⟩ := Int.eq_ofNat_of_zero_le (show 0 ≤ at0 by omega)
      have hp : p < js.size := by omega
      have hpl : js.size ≤ p + 4 + b.size := by omega
      have hd7 : decide (js.size ≤ p) = false := decide_eq_false (by omega)
      clear hp1 hp2
      have hL0 : Hid (js.data.toList.length = js.size ∧ js.data.toList = headL ++ oneL (kk, b)) := Lib.hid ⟨size_list js, hjs.out⟩
      obtain ⟨C, cap, fz, hconv, hrow, hcap⟩ := Crc.bytes_row w3 js
      have hB4 := Lib.hid (hB3.out.below (((Below.refl w3.heap.size w3).alloc (Nat.le_refl _) (.cells C 5 fz)).drew))
      have hrz : w3.heap.size < ((w3.alloc (.cells C 5 fz)).drew).heap.size := by simp
      generalize js.data.toList = L at *
      replace hrow := Lib.hid hrow
      replace hL := hL0
      clear hL0
      generalize hrb : w3.heap.size = rb at *
      replace hrb := Lib.hid hrb
      go_wp2_with fail
      go_loopw [11, 12] (fun c i wr => ∃ k : Nat, k ≤ 4 ∧ p + k ≤ js.size ∧ i = .int .i64 k ∧ c = .bool (Crc.changed ms k) ∧ Hid (Crc.Row8 rb (Crc.spoil L p ms k) wr) ∧ Hid (Bx w kk b ms wr) ∧ rb < wr.heap.size) (fun _ i _ => 4 - (intOf i).toNat)
      case atStart => exact ⟨0, by omega, by omega, rfl, rfl, Lib.hid (by rw [Crc.spoil_zero]; exact hrow.out), hB4, hrz⟩
      case round =>
        clear hB3 hB4 hrow hconv hrz c0 c1
        obtain ⟨k, hk, hpk, rfl, rfl, hr, hB, hz⟩ := hrel
        by_cases hk4 : k < 4
        · by_cases hps : p + k < js.size
          · have hps' : (p : Int) + (k : Int) < (js.size : Int) := by omega
            have hat := Crc.spoil_at (l := L) (ms := ms) (p := p) (i := k) (by rw [hL.out.1]; exact hps) (by rw [hm]; exact hk)
            have hln := Crc.spoil_length (l := L) (ms := ms) (p := p) (i := k) (by rw [hL.out.1]; exact hpk) (by rw [hm]; exact hk)
            have hc1 := hr.out.cell (p + k) (by rw [hln, hL.out.1]; exact hps)
            have hf1 := hr.out.frozen (p + k) (by rw [hln, hL.out.1]; exact hps)
            have hc2 := Crc.Masks.cell hB.out.2.1 k (by rw [hm]; exact hk4)
            have HX := Lib.hid (Crc.xor8 (L.getD (p + k) 0) (ms.getD k 0))
            have HS := Lib.hid (Crc.spoil_set (l := L) (ms := ms) (p := p) (i := k) (by rw [hL.out.1]; exact hps) (by rw [hm]; exact hk4))
            have HC := Lib.hid (Crc.changed_succ (ms := ms) (i := k) (by rw [hm]; exact hk4))
            have hpw : IntKind.i64.wrap ((p : Int) + (k : Int)) = (p : Int) + (k : Int) := IntWalk.i64_in _ (by omega)
            have hne1 : ¬ w.heap.size + 1 = rb := by omega
            have hne2 : ¬ rb = w.heap.size + 1 := by omega
            have hne3 : w.heap.size + 2 ≤ rb := by omega
            rw [hat] at hc1
            replace hat := Lib.hid hat
            replace hln := Lib.hid (hln.trans hL.out.1)
            generalize L.getD (p + k) 0 = A at *
            generalize ms.getD k 0 = X at *
            generalize Crc.changed ms k = c at *
            cases c
            all_goals
              go_wp2_with fail
              go_region
              go_wp2_with fail
              go_roundw
              case rel =>
                refine ⟨k + 1, by omega, by omega, ?_, ?_, ?_, ?_, ?_⟩
                · go_num
                · rw [HC.out]; first | (rw [Bool.true_or]; done) | rw [Bool.false_or, Crc.ne_u8]
                · rw [HX.out, ← HS.out]
                  exact Lib.hid (hr.out.set (p + k) (by rw [hln.out]; exact hps) (A ^^^ X)).drew
                · exact Lib.hid (hB.out.low ((((Below.refl _ wr).setCell (p := ⟨rb, p + k, none⟩) hne3 _)).drew))
                · simpa using hz
              case measure => simp [intOf]; omega
          · have hps' : ¬ (p : Int) + (k : Int) < (js.size : Int) := by omega
            have hpw : IntKind.i64.wrap ((p : Int) + (k : Int)) = (p : Int) + (k : Int) := IntWalk.i64_in _ (by omega)
            have hln := Crc.spoil_length (l := L) (ms := ms) (p := p) (i := k) (by rw [hL.out.1]; exact hpk) (by rw [hm]; exact hk)
            have hpl2 := spoil_plain (c := (kk, b)) (L := L) (ms := ms) (p := p) (k := k) ⟨hk1, hk2⟩ hb hL.out.2 (by rw [hL.out.1]; exact hpl) (by rw [hL.out.1]; exact hpk) (by rw [hm]; exact hk) hk
            obtain ⟨T, hT⟩ : ∃ T, str (Crc.spoil L p ms k) = T := ⟨_, rfl⟩
            have hcvT : (convert 42 9 (.slice (some ⟨rb, 0, none⟩) js.size cap)).run Try.prog wr = .ok (.string T) wr := by rw [← hT]; exact Crc.conv_row hr.out js.size cap (hln.trans hL.out.1)
            have hTs : T.size ≤ 300 := by rw [← hT, str_size, hln, hL.out.1]; exact hjsm
            rw [hT] at hpl2
            have HSp := Lib.hid (split_any T wr (by omega))
            unfold SplitR at HSp
            rw [hpl2] at HSp
            have hV0 : Hid (splitE T ≠ 0 → splitV T = 0 ∧ splitL T = []) := Lib.hid (fun h => ⟨by unfold splitV; rw [if_neg h], by unfold splitL; rw [if_neg h]⟩)
            replace hpl2 := Lib.hid hpl2
            clear hln hT
            generalize Crc.changed ms k = cg at *
            generalize Crc.spoil L p ms k = Q at *
            cases cg
            · generalize splitV T = sv at *
              go_wp2_with fail
              refine HSp.out.mono ?_
              rintro e w5 ⟨⟨r5, L5, rfl, -, -⟩, k5⟩
              have hB5 := Lib.hid (hB.out.below k5)
              clear k5 HSp
              go_wp2_with fail
              refine (live_any _).mono ?_
              rintro e w6 ⟨rfl, k6⟩
              have hf := (hB5.out.below k6).2.2.1
              go_wp2_with fail
              go_ret
              exact ⟨rfl, hf⟩
            · obtain ⟨e1, e2⟩ := hV0.out (by rw [hpl2.out]; decide)
              rw [e1, e2] at HSp
              clear e1 e2
              go_wp2_with fail
              refine HSp.out.mono ?_
              rintro e w5 ⟨⟨r5, L5, rfl, h5, rfl⟩, k5⟩
              obtain ⟨a5, c5, rfl⟩ := chs_val h5
              have hB5 := Lib.hid (hB.out.below k5)
              clear k5 HSp h5
              go_wp2_with fail
              refine (live_any _).mono ?_
              rintro e w6 ⟨rfl, k6⟩
              have hf := (hB5.out.below k6).2.2.1
              go_wp2_with fail
              go_ret
              exact ⟨rfl, hf⟩
        · have hk : k = 4 := by omega
          subst hk
          have hk : (4 : Nat) ≤ 4 := by omega
          have hln := Crc.spoil_length (l := L) (ms := ms) (p := p) (i := 4) (by rw [hL.out.1]; exact hpk) (by rw [hm]; exact hk)
          have hpl2 := spoil_plain (c := (kk, b)) (L := L) (ms := ms) (p := p) (k := 4) ⟨hk1, hk2⟩ hb hL.out.2 (by rw [hL.out.1]; exact hpl) (by rw [hL.out.1]; exact hpk) (by rw [hm]; exact hk) hk
          obtain ⟨T, hT⟩ : ∃ T, str (Crc.spoil L p ms 4) = T := ⟨_, rfl⟩
          have hcvT : (convert 42 9 (.slice (some ⟨rb, 0, none⟩) js.size cap)).run Try.prog wr = .ok (.string T) wr := by rw [← hT]; exact Crc.conv_row hr.out js.size cap (hln.trans hL.out.1)
          have hTs : T.size ≤ 300 := by rw [← hT, str_size, hln, hL.out.1]; exact hjsm
          rw [hT] at hpl2
          have HSp := Lib.hid (split_any T wr (by omega))
          unfold SplitR at HSp
          rw [hpl2] at HSp
          have hV0 : Hid (splitE T ≠ 0 → splitV T = 0 ∧ splitL T = []) := Lib.hid (fun h => ⟨by unfold splitV; rw [if_neg h], by unfold splitL; rw [if_neg h]⟩)
          replace hpl2 := Lib.hid hpl2
          clear hln hT
          generalize Crc.changed ms 4 = cg at *
          generalize Crc.spoil L p ms 4 = Q at *
          cases cg
          · generalize splitV T = sv at *
            go_wp2_with fail
            refine HSp.out.mono ?_
            rintro e w5 ⟨⟨r5, L5, rfl, -, -⟩, k5⟩
            have hB5 := Lib.hid (hB.out.below k5)
            clear k5 HSp
            go_wp2_with fail
            refine (live_any _).mono ?_
            rintro e w6 ⟨rfl, k6⟩
            have hf := (hB5.out.below k6).2.2.1
            go_wp2_with fail
            go_ret
            exact ⟨rfl, hf⟩
          · obtain ⟨e1, e2⟩ := hV0.out (by rw [hpl2.out]; decide)
            rw [e1, e2] at HSp
            clear e1 e2
            go_wp2_with fail
            refine HSp.out.mono ?_
            rintro e w5 ⟨⟨r5, L5, rfl, h5, rfl⟩, k5⟩
            obtain ⟨a5, c5, rfl⟩ := chs_val h5
            have hB5 := Lib.hid (hB.out.below k5)
            clear k5 HSp h5
            go_wp2_with fail
            refine (live_any _).mono ?_
            rintro e w6 ⟨rfl, k6⟩
            have hf := (hB5.out.below k6).2.2.1
            go_wp2_with fail
            go_ret
            exact ⟨rfl, hf⟩

set_option maxRecDepth 100000 in
set_option maxHeartbeats 4000000 in
theorem spoils_walk (kk : Int) (b : ByteArray) (at0 : Int) (ms : List UInt8) (w : World) (hm : ms.length = 4) :
    Calls Try.prog 6 #[.agg #[.int .i64 kk, .string b], .int .i64 at0, .agg (Crc.cells8 ms)] w fun e w' => e = .returned (.bool true) ∧ Below w.heap.size w w' := by
  have hX : (w.alloc (.cells #[.int .i64 kk, .string b] 32)).heap[w.heap.size]? = some (.cells #[.int .i64 kk, .string b] 32) := alloc_new w _
  have hW := alloc_at (.cells (Crc.cells8 ms) 41) hX
  have c0 : ((w.alloc (.cells #[.int .i64 kk, .string b] 32)).alloc (.cells (Crc.cells8 ms) 41)).cell? ⟨w.heap.size, 0, none⟩ = some (.int .i64 kk) := cell_at hW 0
  have c1 : ((w.alloc (.cells #[.int .i64 kk, .string b] 32)).alloc (.cells (Crc.cells8 ms) 41)).cell? ⟨w.heap.size, 1, none⟩ = some (.string b) := cell_at hW 1
  have hB := Lib.hid (((Below.refl w.heap.size w).alloc (Nat.le_refl _) (.cells #[.int .i64 kk, .string b] 32)).alloc (by simp) (.cells (Crc.cells8 ms) 41))
  clear hX hW
  by_cases h1 : b.size ≤ 200
  · by_cases h2 : kk < 1
    · have hd1 : decide ((200 : Int) < (b.size : Nat)) = false := decide_eq_false (by omega)
      have hd2 : decide (kk < 1) = true := decide_eq_true h2
      clear h1 h2
      generalize Crc.cells8 ms = M at *
      go_enter Try.func6, Try.ntmps6
      go_wp2_with fail
      refine (live_any _).mono ?_
      rintro e w1 ⟨rfl, k1⟩
      have hf := hB.out.trans (k1.mono (by simp; omega))
      go_wp2_with fail
      go_ret
      exact ⟨rfl, hf⟩
    · by_cases h3 : 255 < kk
      · have hd1 : decide ((200 : Int) < (b.size : Nat)) = false := decide_eq_false (by omega)
        have hd2 : decide (kk < 1) = false := decide_eq_false h2
        have hd3 : decide (255 < kk) = true := decide_eq_true h3
        clear h1 h2 h3
        generalize Crc.cells8 ms = M at *
        go_enter Try.func6, Try.ntmps6
        go_wp2_with fail
        refine (live_any _).mono ?_
        rintro e w1 ⟨rfl, k1⟩
        have hf := hB.out.trans (k1.mono (by simp; omega))
        go_wp2_with fail
        go_ret
        exact ⟨rfl, hf⟩
      · exact spoils_main kk b at0 ms w (by omega) (by omega) h1 hm
  · have hd1 : decide ((200 : Int) < (b.size : Nat)) = true := decide_eq_true (by omega)
    clear h1
    generalize Crc.cells8 ms = M at *
    go_enter Try.func6, Try.ntmps6
    go_wp2_with fail
    refine (live_any _).mono ?_
    rintro e w1 ⟨rfl, k1⟩
    have hf := hB.out.trans (k1.mono (by simp; omega))
    go_wp2_with fail
    go_ret
    exact ⟨rfl, hf⟩

theorem spoils_ok (W : World) (b : Nat) (v0 v1 v2 : Value) (o0 : Value.okWide Try.prog W .any b 32 v0) (o1 : Value.okWide Try.prog W .any b 3 v1) (o2 : Value.okWide Try.prog W .any b 41 v2) :
    Calls Try.prog 6 #[v0, v1, v2] W fun e w' => e = .returned (.bool true) ∧ Below W.heap.size W w' := by
  obtain ⟨cs, rfl, hs, hc⟩ := Opened.ok_cells [3, 9] 2 (by kernel_rfl) (by kernel_rfl) (by kernel_rfl) o0
  obtain ⟨n, rfl, -, -⟩ := Opened.ok_int Try.underlying3 o1
  obtain ⟨ms, rfl, hm⟩ := Crc.open_masks o2
  obtain ⟨x, y, rfl⟩ := Opened.arr2 hs
  obtain ⟨t, ht, hx⟩ := hc 0 x rfl
  cases ht
  obtain ⟨kk, rfl, -, -⟩ := Opened.cell_int Try.underlying3 hx
  obtain ⟨t, ht, hy⟩ := hc 1 y rfl
  cases ht
  obtain ⟨s, rfl, -⟩ := Opened.cell_string Try.underlying9 hy
  exact spoils_walk kk s n ms W hm

end Ck
end Go.Proofs.Ytpccenaieeggmaa
