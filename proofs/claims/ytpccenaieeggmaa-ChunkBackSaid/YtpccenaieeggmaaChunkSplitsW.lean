/-
  WALK: the law ChunkSplits. No condition.
-/
import Derived.Test.YtpccenaieeggmaaChunkLive
import Derived.Test.YtpccenaieeggmaaOpen
namespace Go.Proofs.Ytpccenaieeggmaa
open Go.RowKit Go.Shelf Go.ChangeShapes Go.WideShapes Go.ChangeAt
namespace Ck
open Mem Pk Bd

/-- both lists are there. -/
def TwoL (w : World) (a b : Value) (L M : List Ch) (W : World) : Prop := Chs W a L ∧ Chs W b M ∧ Below w.heap.size w W
theorem TwoL.below {w W W' : World} {a b : Value} {L M : List Ch} (h : TwoL w a b L M W) (k : Below W.heap.size W W') : TwoL w a b L M W' := ⟨chs_below h.1 k, chs_below h.2.1 k, h.2.2.trans (k.mono h.2.2.size)⟩
theorem splitL_len (s : ByteArray) : (splitL s).length ≤ s.size := by
  have key : ∀ f last u, (splitGo f last u).2.length ≤ f := by
    intro f
    induction f with
    | zero => intro last u; rw [splitGo]; simp
    | succ f ih =>
      intro last u
      rw [splitGo]
      split
      · simp
      · split
        · simp
        · split
          · simp
          · have := ih (firstC u).1 (rest u (fU u))
            simp only [List.length_cons]
            omega
  unfold splitL splitR
  split
  · exact key _ _ _
  · simp

set_option maxRecDepth 100000 in
set_option maxHeartbeats 4000000 in
theorem splits_walk (s : ByteArray) (w : World) :
    Calls Try.prog 4 #[.string s] w fun e w' => e = .returned (.bool true) ∧ Below w.heap.size w w' := by
  by_cases hs : 2000 < s.size
  · have hd : decide ((2000 : Int) < (s.size : Nat)) = true := decide_eq_true (by omega)
    clear hs
    go_enter Try.func4, Try.ntmps4
    go_wp2_with fail
    refine (live_any _).mono ?_
    rintro e w1 ⟨rfl, hb⟩
    go_wp2_with fail
    go_ret
    exact ⟨rfl, hb⟩
  · have hd : decide ((2000 : Int) < (s.size : Nat)) = false := decide_eq_false (by omega)
    have hlen := splitL_len s
    have H1 := Lib.hid (fun w => split_any s w (by omega))
    have H2 := Lib.hid (fun w => rsplit_any s w (by omega))
    go_enter Try.func4, Try.ntmps4
    go_wp2_with fail
    refine (H1.out _).mono ?_
    rintro e w1 ⟨⟨r1, L, rfl, hr, rfl⟩, hb1⟩
    replace hr := Lib.hid hr
    replace hb1 := Lib.hid hb1
    go_wp2_with fail
    refine (H2.out _).mono ?_
    rintro e w2 ⟨⟨r2, M, rfl, hr2, rfl⟩, k⟩
    have hT := Lib.hid (show TwoL w r1 r2 (splitL s) (splitL s) w2 from ⟨chs_below hr.out k, hr2, hb1.out.trans (k.mono hb1.out.size)⟩)
    clear k hr hb1 hr2
    go_wp2_with fail
    refine (ver_any s _).mono ?_
    rintro e w3 ⟨rfl, k⟩
    unfold verV
    replace hT := Lib.hid (hT.out.below k)
    clear k
    go_wp2_with fail
    refine (rver_any s _).mono ?_
    rintro e w4 ⟨rfl, k⟩
    unfold verV
    replace hT := Lib.hid (hT.out.below k)
    clear k
    have HC := Lib.hid (fun W (h : TwoL w r1 r2 (splitL s) (splitL s) W) => rsame_any r1 r2 (splitL s) (splitL s) W h.1 h.2.1 (by omega))
    rw [show sameC (splitL s) (splitL s) = true from decide_eq_true rfl] at HC
    clear H1 H2 hs hlen hd
    generalize splitV s = n1
    generalize splitE s = n2
    generalize verN s = n3
    generalize verE s = n4
    generalize splitL s = LL at *
    go_wp2_with fail
    refine (HC.out _ hT.out).mono ?_
    rintro e w5 ⟨rfl, k⟩
    replace hT := Lib.hid (hT.out.below k)
    clear k HC
    go_wp2_with fail
    refine (live_any _).mono ?_
    rintro e w6 ⟨rfl, k⟩
    replace hT := Lib.hid (hT.out.below k)
    go_wp2_with fail
    go_ret
    exact ⟨rfl, hT.out.2.2⟩

theorem splits_ok (W : World) (b : Nat) (v0 : Value) (o0 : Value.okWide Try.prog W .any b 9 v0) :
    Calls Try.prog 4 #[v0] W fun e w' => e = .returned (.bool true) ∧ Below W.heap.size W w' := by
  obtain ⟨s, rfl, _⟩ := Opened.ok_string Try.underlying9 o0
  exact splits_walk s W

end Ck
end Go.Proofs.Ytpccenaieeggmaa
