/-
  WALK: the law's 'live' of package chunk: some answers that the document gives. No condition.
-/
import Derived.Test.YtpccenaieeggmaaChunkRJoin
import Derived.Test.YtpccenaieeggmaaChunkSplit
import Derived.Test.YtpccenaieeggmaaChunkRSplit
import Derived.BigQuiet
namespace Go.Proofs.Ytpccenaieeggmaa
open Go.RowKit Go.Shelf
namespace Ck
open Mem Pk Bd

theorem chs_two (w : World) (c d : Ch) (hc : Ok c) (hd : Ok d) : Chs (w.alloc (.cells #[.int .i64 c.1, .string c.2, .int .i64 d.1, .string d.2] 32)) (.slice (some ⟨w.heap.size, 0, none⟩) 2 2) [c, d] := by
  refine ⟨⟨_, 2, rfl, Nat.le_refl _, (fun e => by cases e), fun _ => ⟨w.heap.size, 0, rfl, by simp, fun j hj => ?_⟩⟩, fun n hn => ?_⟩
  · rw [cell_at (alloc_new w _), cell_at (alloc_new w _)]
    match j, hj with
    | 0, _ => exact ⟨rfl, rfl⟩
    | 1, _ => exact ⟨rfl, rfl⟩
  · rcases List.mem_cons.1 hn with rfl | hn
    · exact hc
    · rcases List.mem_cons.1 hn with rfl | hn
      · exact hd
      · cases hn
def cA : Ch := (1, ⟨#[97, 98]⟩)
def cB : Ch := (3, ⟨#[]⟩)
def lvL : List Ch := [cA, cB]
def lvM : List Ch := [cB, cB]
def lvS : ByteArray := ⟨#[66, 78, 83, 73, 2, 1, 2, 97, 98, 133, 54, 38, 69, 3, 0, 60, 65, 244, 106]⟩
def lvC : ByteArray := ⟨#[66, 78, 83, 73, 2, 1, 2, 97, 98, 133, 54, 38, 69, 3, 0, 60, 65, 244]⟩
def lvX : ByteArray := ⟨#[66, 78, 83, 88, 2]⟩
def lvN : ByteArray := ⟨#[66, 78, 83, 73]⟩
def lvV : ByteArray := ⟨#[66, 78, 83, 73, 7, 114, 101, 115, 116]⟩
def lvA : ByteArray := ⟨#[1, 2, 97, 98, 133, 54, 38, 69]⟩
def lvB : ByteArray := ⟨#[3, 0, 60, 65, 244, 106]⟩
theorem ok_A : Ok cA := by unfold Ok I64 cA; decide +kernel
theorem ok_B : Ok cB := by unfold Ok I64 cB; decide +kernel
theorem lv_join : joinE 2 lvL = 0 ∧ joinS 2 lvL = lvS := by decide +kernel
theorem lv_order : joinE 2 lvM = 12 := by decide +kernel
theorem lv_arg : joinE 256 [] = 1 := by decide +kernel
theorem lv_split : splitE lvS = 0 ∧ splitL lvS = lvL ∧ splitV lvS = 2 := by decide +kernel
theorem lv_magic : splitE lvX = 7 := by decide +kernel
theorem lv_cut : splitE lvN = 2 := by decide +kernel
theorem lv_less : splitE lvC = 2 := by decide +kernel
theorem lv_ver : verE lvV = 0 ∧ verN lvV = 7 := by decide +kernel
theorem lv_one : str (oneL cA) = lvA ∧ str (oneL cB) = lvB := by decide +kernel
theorem lv_find : findS lvL 1 = some ⟨#[97, 98]⟩ ∧ findS lvL 2 = none := by decide +kernel
theorem lv_same : sameC lvL lvL = true := decide_eq_true rfl
theorem lv_len : (lvL.flatMap oneL).length ≤ 90000 ∧ (lvM.flatMap oneL).length ≤ 90000 := by decide +kernel
theorem lv_pre : lvS.extract 0 18 = lvC := by decide +kernel
theorem lvJ : joinV 2 lvL = .tuple #[.string lvS, .int .i64 0] := by unfold joinV; rw [lv_join.1, lv_join.2]
theorem lvJ2 : joinV 2 lvM = .tuple #[.string ⟨#[]⟩, .int .i64 12] := joinV_bad lv_order (by decide)
theorem lvJ3 : joinV 256 [] = .tuple #[.string ⟨#[]⟩, .int .i64 1] := joinV_bad lv_arg (by decide)
theorem lvF : findV lvL 1 = .tuple #[.string ⟨#[97, 98]⟩, .bool true] := by unfold findV; rw [lv_find.1]; rfl
theorem lvF2 : findV lvL 2 = .tuple #[.string ByteArray.empty, .bool false] := by unfold findV; rw [lv_find.2]; rfl
theorem lvVv : verV lvV = .tuple #[.int .i64 7, .int .i64 0] := by unfold verV; rw [lv_ver.1, lv_ver.2]

/-- the class of worlds of the last region. -/
def LC (w : World) (r : Value) (W : World) : Prop := W.heap[w.heap.size]? = some (.cells #[.int .i64 1, .string ⟨#[97, 98]⟩, .int .i64 3, .string ⟨#[]⟩] 32) ∧ Below w.heap.size w W ∧ Chs W (.slice (some ⟨w.heap.size, 0, none⟩) 2 2) lvL ∧ Chs W r lvL
theorem LC.below {w W W' : World} {r : Value} (h : LC w r W) (k : Below W.heap.size W W') : LC w r W' := ⟨(k.block _ (lt_of_block h.1)).trans h.1, h.2.1.trans (k.mono h.2.1.size), chs_below h.2.2.1 k, chs_below h.2.2.2 k⟩
theorem LC.drew {w W : World} {r : Value} (h : LC w r W) : LC w r W.drew := h.below (Below.refl _ _).drew
/-- the two chunks are there. -/
def LS (w W : World) : Prop := W.heap[w.heap.size]? = some (.cells #[.int .i64 1, .string ⟨#[97, 98]⟩, .int .i64 3, .string ⟨#[]⟩] 32) ∧ Below w.heap.size w W ∧ Chs W (.slice (some ⟨w.heap.size, 0, none⟩) 2 2) lvL
theorem LS.start (w : World) : LS w (w.alloc (.cells #[.int .i64 1, .string ⟨#[97, 98]⟩, .int .i64 3, .string ⟨#[]⟩] 32)) := ⟨alloc_new w _, (Below.refl _ _).alloc (Nat.le_refl _) _, chs_two w cA cB ok_A ok_B⟩
theorem LS.below {w W W' : World} (h : LS w W) (k : Below W.heap.size W W') : LS w W' := ⟨(k.block _ (lt_of_block h.1)).trans h.1, h.2.1.trans (k.mono h.2.1.size), chs_below h.2.2 k⟩

set_option maxRecDepth 100000 in
set_option maxHeartbeats 8000000 in
theorem live_any (w : World) :
    Calls Try.prog 9 #[] w fun e w' => e = .returned (.bool true) ∧ Below w.heap.size w w' := by
  have hpre := lv_pre
  have hm1 : lvS.size = 19 := by decide +kernel
  go_enter Try.func9, Try.ntmps9
  go_wp2_with fail
  refine (join_any 2 _ lvL _ (LS.start w).2.2 lv_len.1 (by decide)).mono ?_
  rintro e w1 ⟨rfl, k⟩
  rw [lvJ]
  have hL := Lib.hid ((LS.start w).below k)
  clear k
  go_wp2_with fail
  refine (split_any lvS _ (by decide)).mono ?_
  rintro e w2 ⟨⟨r1, L1, rfl, hr, hL1⟩, k⟩
  rw [lv_split.1, lv_split.2.2]
  rw [lv_split.2.1] at hL1
  subst hL1
  replace hr := Lib.hid hr
  replace hL := Lib.hid (hL.out.below k)
  clear k
  go_wp2_with fail
  refine (split_any lvX _ (by decide)).mono ?_
  rintro e w3 ⟨⟨r3, L3, rfl, -, -⟩, k⟩
  rw [lv_magic]
  replace hr := Lib.hid (chs_below hr.out k)
  replace hL := Lib.hid (hL.out.below k)
  clear k
  generalize splitV lvX = x3
  go_wp2_with fail
  refine (split_any lvN _ (by decide)).mono ?_
  rintro e w4 ⟨⟨r4, L4, rfl, -, -⟩, k⟩
  rw [lv_cut]
  replace hr := Lib.hid (chs_below hr.out k)
  replace hL := Lib.hid (hL.out.below k)
  clear k
  generalize splitV lvN = x4
  go_wp2_with fail
  refine (split_any lvC _ (by decide)).mono ?_
  rintro e w5 ⟨⟨r5, L5, rfl, -, -⟩, k⟩
  rw [lv_less]
  replace hr := Lib.hid (chs_below hr.out k)
  replace hL := Lib.hid (hL.out.below k)
  clear k
  generalize splitV lvC = x5
  go_wp2_with fail
  refine (join_any 2 _ lvM _ (chs_two _ cB cB ok_B ok_B) lv_len.2 (by decide)).mono ?_
  rintro e w6 ⟨rfl, k⟩
  rw [lvJ2]
  replace k := ((Below.refl w5.heap.size w5).alloc (Nat.le_refl _) _).trans (k.mono (by simp))
  replace hr := Lib.hid (chs_below hr.out k)
  replace hL := Lib.hid (hL.out.below k)
  clear k
  go_wp2_with fail
  refine (join_any 256 _ [] _ (chs_nil _) (by decide) (by decide)).mono ?_
  rintro e w7 ⟨rfl, k⟩
  rw [lvJ3]
  replace hr := Lib.hid (chs_below hr.out k)
  replace hL := Lib.hid (hL.out.below k)
  clear k
  go_wp2_with fail
  refine (find_any _ lvL 1 _ hL.out.2.2 (by decide)).mono ?_
  rintro e w8 ⟨rfl, k⟩
  rw [lvF]
  replace hr := Lib.hid (chs_below hr.out k)
  replace hL := Lib.hid (hL.out.below k)
  clear k
  go_wp2_with fail
  refine (find_any _ lvL 2 _ hL.out.2.2 (by decide)).mono ?_
  rintro e w9 ⟨rfl, k⟩
  rw [lvF2]
  replace hr := Lib.hid (chs_below hr.out k)
  replace hL := Lib.hid (hL.out.below k)
  clear k
  go_wp2_with fail
  refine (ver_any lvV _).mono ?_
  rintro e w10 ⟨rfl, k⟩
  rw [lvVv]
  replace hr := Lib.hid (chs_below hr.out k)
  replace hL := Lib.hid (hL.out.below k)
  clear k
  have hLC := Lib.hid (show LC w r1 w10 from ⟨hL.out.1, hL.out.2.1, hL.out.2.2, hr.out⟩)
  clear hr hL hpre hm1
  have hS1 := hLC.out.drew
  haveI hne : Nonempty (Held (LC w r1)) := ⟨⟨_, hS1⟩⟩
  have HA : Hid (∀ q : Held (LC w r1), Calls Try.prog 14 #[.agg #[.int .i64 1, .string ⟨#[97, 98]⟩]] q.w fun e w' => e = .returned (.string lvA) ∧ ∃ q' : Held (LC w r1), w' = q'.w) := Lib.hid (fun q => held_calls ((one_any cA q.w (by decide)).mono fun e w' (c : _ ∧ Below q.w.heap.size q.w w') => And.intro (c.1.trans (by rw [lv_one.1])) (q.h.below c.2)))
  have HB : Hid (∀ q : Held (LC w r1), Calls Try.prog 14 #[.agg #[.int .i64 3, .string ⟨#[]⟩]] q.w fun e w' => e = .returned (.string lvB) ∧ ∃ q' : Held (LC w r1), w' = q'.w) := Lib.hid (fun q => held_calls ((one_any cB q.w (by decide)).mono fun e w' (c : _ ∧ Below q.w.heap.size q.w w') => And.intro (c.1.trans (by rw [lv_one.2])) (q.h.below c.2)))
  have HC : Hid (∀ q : Held (LC w r1), Calls Try.prog 20 #[r1, .slice (some ⟨w.heap.size, 0, none⟩) 2 2] q.w fun e w' => e = .returned (.bool true) ∧ ∃ q' : Held (LC w r1), w' = q'.w) := Lib.hid (fun q => held_calls ((rsame_any _ _ lvL lvL q.w q.h.2.2.2 q.h.2.2.1 (by decide)).mono fun e w' (c : _ ∧ Below q.w.heap.size q.w w') => And.intro (c.1.trans (by rw [lv_same])) (q.h.below c.2)))
  have c0 : ∀ q : Held (LC w r1), q.w.cell? ⟨w.heap.size, 0, none⟩ = some (.int .i64 1) := fun q => cell_at q.h.1 0
  have c1 : ∀ q : Held (LC w r1), q.w.cell? ⟨w.heap.size, 1, none⟩ = some (.string ⟨#[97, 98]⟩) := fun q => cell_at q.h.1 1
  have c2 : ∀ q : Held (LC w r1), q.w.cell? ⟨w.heap.size, 2, none⟩ = some (.int .i64 3) := fun q => cell_at q.h.1 2
  have c3 : ∀ q : Held (LC w r1), q.w.cell? ⟨w.heap.size, 3, none⟩ = some (.string ⟨#[]⟩) := fun q => cell_at q.h.1 3
  have z1 : lvA.size = 8 := by decide +kernel
  have z2 : lvB.size = 6 := by decide +kernel
  have z3 : (⟨#[66, 78, 83, 73, 2]⟩ ++ lvA : ByteArray).size = 13 := by decide +kernel
  have z4 : (⟨#[66, 78, 83, 73, 2]⟩ ++ lvA ++ lvB : ByteArray) = lvS := by decide +kernel
  have z5 : lvA.extract 0 4 = ⟨#[1, 2, 97, 98]⟩ := by decide +kernel
  go_wp2_with fail
  simp only [List.append]
  refine wp_region_class (LC w r1) (by kernel_rfl) (by kernel_rfl) hS1 ?_
  repeat (go_big_quiet_step ((first | (go_at_call 14; with_reducible exact HA.out _) | (go_at_call 14; with_reducible exact HB.out _) | (go_at_call 20; with_reducible exact HC.out _))))
  refine wpQuiet_nil ?_
  intro _ hw'
  obtain ⟨⟨Wq, hq⟩, hw''⟩ := hw'
  subst hw''
  have hq2 := Lib.hid hq.2.1
  clear hq hS1 HA HB HC hne
  go_wp2_with fail
  go_ret
  exact ⟨rfl, hq2.out⟩

end Ck
end Go.Proofs.Ytpccenaieeggmaa
