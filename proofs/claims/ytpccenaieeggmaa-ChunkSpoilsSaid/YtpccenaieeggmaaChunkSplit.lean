/-
  WALK: chunk.Split. Condition: at most 10000 bytes.
-/
import Derived.Test.YtpccenaieeggmaaChunkSplitP
import Derived.Deep.RegionHeld3
import Derived.Deep.DeepCutAuto
import Derived.WalkMore
namespace Go.Proofs.Ytpccenaieeggmaa
open Go.RowKit Go.Shelf
namespace Ck
open Mem Pk Bd

/-- the worlds of the region that appends: the chunk's variable. -/
def CS (B : Nat) (k : Int) (b : ByteArray) (w W : World) : Prop := W.cell? ⟨B, 0, none⟩ = some (.int .i64 k) ∧ W.cell? ⟨B, 1, none⟩ = some (.string b) ∧ Below B w W

set_option maxRecDepth 100000 in
set_option maxHeartbeats 2000000 in
theorem split_any (s : ByteArray) (w : World) (hs : s.size ≤ 10000) :
    Calls Try.prog 16 #[.string s] w (SplitR s w) := by
  obtain ⟨i0, hi, hz0, hz1, hz2⟩ := info_parts infoC
  have HV := Lib.hid (ver_any s w)
  unfold verV at HV
  by_cases hv : verE s = 0
  · have h5 := ver_size hv
    have hv0 := Lib.hid hv
    rw [hv] at HV
    clear hv
    go_enter Try.func16, Try.ntmps16
    go_wp2_with fail
    go_step3
    go_wp2_with fail
    refine HV.out.mono ?_
    rintro e w1 ⟨rfl, hb1⟩
    replace hb1 := Lib.hid hb1
    have hr5 : s.extract 5 s.size = rest s 5 := rfl
    go_wp2_with fail
    go_step3
    go_wp2_with fail
    go_loopw [0, 7, 8] (fun t v i wr => ∃ (last : Int) (u : ByteArray) (acc : List Ch), t = .string u ∧ i = .int .i64 last ∧ Hid (SAt s last u acc) ∧ Hid (OwnC wr w.heap.size v acc) ∧ Hid (Below w.heap.size w wr)) (fun t _ _ _ => match t with | .string u => u.size | _ => 0)
    case atStart => exact ⟨0, rest s 5, [], rfl, rfl, Lib.hid (SAt.start s), Lib.hid (ownC_nil _ _), hb1⟩
    case round =>
      obtain ⟨last, u, acc, rfl, rfl, hS, hO, hb⟩ := hrel
      by_cases h0 : u.size = 0
      · obtain rfl : u = ByteArray.empty := ext_list (List.eq_nil_of_length_eq_zero (by rw [size_list]; exact h0))
        have hE := Lib.hid (SplitR.good hv0.out (hS.out.done rfl) (hO.out.chs hS.out.bound) hb.out)
        clear hS hO h0
        go_wp2_with fail
        go_ret3
        exact hE.out
      · have hu : 0 < u.size := by omega
        have hne : (u.toList == []) = false := by
          rw [beq_eq_false_iff_ne]
          intro e
          rw [ByteArray.toList_eq] at e
          have := congrArg List.length e
          rw [size_list] at this
          exact h0 this
        have hlen := hS.out.len
        have hus : u.size ≤ 100000 := by omega
        clear h0
        go_wp2_with fail
        refine (first_any u _ hu hus).mono ?_
        rintro e w2 ⟨rfl, hb2⟩
        have hbW := Lib.hid (hb.out.trans (hb2.mono hb.out.size))
        have hO2 := Lib.hid (ownC_below hb2 hO.out)
        clear hb2 hO hb
        by_cases h1 : firstE u = 0
        · obtain ⟨g1, g2, g3, g4⟩ := firstC_ok h1
          rw [firstV_good h1]
          have hc : firstC u = (((u.data.toList[0]?.getD 0).toNat : Int), fB u) := rfl
          have hfu : fU u ≤ u.size := by have := (firstE_ok h1).2.2.1; omega
          have hp := fU_pos u
          by_cases h2 : (firstC u).1 ≤ last
          · have hE := Lib.hid (fun w' hb => SplitR.bad (s := s) (w := w) (w' := w') (splitE_of hv0.out (hS.out.low hu h1 h2)) (by decide) hb)
            rw [hc] at h2
            have hd : decide (last < ((u.data.toList[0]?.getD 0).toNat : Int)) = false := decide_eq_false (by simp only at h2; omega)
            clear h2 hc hS g1 g2 g3 g4 hO2
            generalize (u.data.toList[0]?.getD 0) = kb at *
            generalize fB u = body at *
            go_wp2_with fail
            go_ret3
            exact hE.out _ (hbW.out.alloc hbW.out.size _)
          · have hN := Lib.hid (hS.out.next hu h1 h2)
            rw [hc] at h2 hN
            have hd : decide (last < ((u.data.toList[0]?.getD 0).toNat : Int)) = true := decide_eq_true (by simp only at h2; omega)
            clear h2 hc hS g1 g2 g3 g4
            generalize (u.data.toList[0]?.getD 0) = kb at *
            generalize fB u = body at *
            go_wp2_with fail
            obtain ⟨wx, hwx⟩ : ∃ wx, w2.alloc (.cells #[.int .i64 ((kb.toNat : Nat) : Int), .string body] 32) = wx := ⟨_, rfl⟩
            rw [hwx]
            have hx1 : wx.heap[w2.heap.size]? = some (.cells #[.int .i64 ((kb.toNat : Nat) : Int), .string body] 32) := by rw [← hwx]; exact alloc_new w2 _
            have hsx : wx.heap.size = w2.heap.size + 1 := by rw [← hwx]; simp
            have hOx : wx.ownsRow w.heap.size 32 2 u7 acc.length (cellsC acc) := by rw [← hwx]; exact World.ownsRow.alloc hO2.out _
            have hbx : Below w.heap.size w wx := by rw [← hwx]; exact hbW.out.alloc hbW.out.size _
            clear hwx
            have c0 : wx.cell? ⟨w2.heap.size, 0, none⟩ = some (.int .i64 ((kb.toNat : Nat) : Int)) := cell_at hx1 0
            have c1 : wx.cell? ⟨w2.heap.size, 1, none⟩ = some (.string body) := cell_at hx1 1
            have hS0 : wx.drew.cell? ⟨w2.heap.size, 0, none⟩ = some (.int .i64 ((kb.toNat : Nat) : Int)) ∧ wx.drew.cell? ⟨w2.heap.size, 1, none⟩ = some (.string body) ∧ Below w.heap.size w wx.drew := ⟨c0, c1, hbx.drew⟩
            have HSS : Hid (∀ W, W.heap[w2.heap.size]? = some (.cells #[.int .i64 ((kb.toNat : Nat) : Int), .string body] 32) → Below w.heap.size w W → W.cell? ⟨w2.heap.size, 0, none⟩ = some (.int .i64 ((kb.toNat : Nat) : Int)) ∧ W.cell? ⟨w2.heap.size, 1, none⟩ = some (.string body) ∧ Below w.heap.size w W) := Lib.hid (fun W h h2 => ⟨cell_at h 0, cell_at h 1, h2⟩)
            have hno := hOx.lt
            have hno2 := World.ownsRow.lt hO2.out
            have i1 : (0 : Int) ≤ (fU u : Nat) := by omega
            have i2 : (fU u : Int) ≤ (u.size : Nat) := by omega
            have hre : u.extract (fU u) u.size = rest u (fU u) := rfl
            have hbz := hbx.size
            clear hO2 hbW
            go_region_held3 (fun W => W.cell? ⟨w2.heap.size, 0, none⟩ = some (.int .i64 ((kb.toNat : Nat) : Int)) ∧ W.cell? ⟨w2.heap.size, 1, none⟩ = some (.string body) ∧ Below w.heap.size w W) (first | assumption | exact HSS.out _ (alloc_at _ hx1) (hbx.alloc hbz _).drew) ((refine step_append_src (by rfl) (.tmp 39) (.tmp 41) 22 (by rfl) w.heap.size 32 i0 (.agg #[.int .i64 0, .string ByteArray.empty]) 2 24 Try.underlying22 hi hz0 hz1 hz2 rfl (by decide) _ acc.length (cellsC acc) (by rfl) ?_ _ 1 [.int .i64 ((kb.toNat : Nat) : Int), .string body] (by rfl) rfl ?_ (one_ch _ _) (by unfold maxLen; omega) (by omega) ?_ ?_; exact World.ownsRow.alloc hOx _; exact src_two (by rw [← hsx]; exact alloc_new wx _); exact (hbx.alloc hbz _).size; intro v1 w1' hown1 hgrow1; have hS1 := HSS.out w1' ((hgrow1.block _ (by simp; omega) (fun e => by have := (hno2 _ e.symm).2; omega)).trans (alloc_at _ hx1)) ((hbx.alloc hbz _).drew.grown hgrow1 (by simp; omega) (fun k e => (hno k e).1))))
            all_goals
              have hOf := Lib.hid (ownC_snoc (c := (((kb.toNat : Nat) : Int), body)) hown1)
              have hbf := Lib.hid hS1.2.2
              clear hown1 hgrow1 hS1 hS0 hno hno2
              go_wp2_with fail
              go_roundw
              case rel => exact ⟨_, _, _, rfl, rfl, hN, hOf, hbf⟩
              case measure => simp [rest_size]; omega
        · have hE := Lib.hid (fun w' hb => SplitR.bad (s := s) (w := w) (w' := w') (splitE_of hv0.out (hS.out.err hu h1)) h1 hb)
          rw [firstV_bad h1]
          have hd : (firstE u != 0) = true := by rw [bne_iff_ne]; exact h1
          clear h1 hS hO2
          generalize firstE u = E at *
          go_wp2_with fail
          go_ret3
          exact hE.out _ (hbW.out.alloc hbW.out.size _)
  · have hE := Lib.hid (fun w' hb => SplitR.bad (s := s) (w := w) (w' := w') (splitE_ver hv) hv hb)
    have hd : (verE s != 0) = true := by rw [bne_iff_ne]; exact hv
    clear hv
    go_enter Try.func16, Try.ntmps16
    go_wp2_with fail
    go_step3
    go_wp2_with fail
    refine HV.out.mono ?_
    rintro e w1 ⟨rfl, hb1⟩
    go_wp2_with fail
    go_ret3
    exact hE.out _ hb1

end Ck
end Go.Proofs.Ytpccenaieeggmaa
