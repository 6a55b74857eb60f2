/-
  WALKS: the laws RealsTells and RealsReads. No condition.
-/
import Derived.Test.YtimgiokhhdkfaaaRealsLive
import Derived.Test.YtimgiokhhdkfaaaOpen
namespace Go.Proofs.Ytimgiokhhdkfaaa
open Go.RowKit
namespace Rl
open Mem Pk Fl

set_option maxRecDepth 100000 in
set_option maxHeartbeats 4000000 in
theorem tells_walk (va vb : Value) (l m : List Nat) (u : Nat) (w : World) (ha : Flts w va l) (hm : Flts w vb m) (hu : u < 2 * S) :
    Calls Try.prog 3 #[va, vb, .int .u64 u] w fun e w' => e = .returned (.bool true) ∧ Below w.heap.size w w' := by
  have Ha := Lib.hid ha
  have Hm := Lib.hid hm
  obtain ⟨⟨pa, ca, rfl, -, -⟩, -⟩ := ha
  obtain ⟨⟨pb, cb, rfl, -, -⟩, -⟩ := hm
  by_cases h1 : 100 < l.length
  · have g1 : decide ((100 : Int) < (l.length : Int)) = true := decide_eq_true (by omega)
    clear h1 Ha Hm
    go_enter Try.func3, Try.ntmps3
    go_wp2_with fail
    refine (live_any _).mono ?_
    rintro e w1 ⟨rfl, h1⟩
    go_wp2_with fail
    go_ret
    exact ⟨rfl, h1⟩
  · have g1 : decide ((100 : Int) < (l.length : Int)) = false := decide_eq_false (by omega)
    by_cases h2 : 100 < m.length
    · have g2 : decide ((100 : Int) < (m.length : Int)) = true := decide_eq_true (by omega)
      clear h1 h2 Ha Hm
      go_enter Try.func3, Try.ntmps3
      go_wp2_with fail
      refine (live_any _).mono ?_
      rintro e w1 ⟨rfl, h1⟩
      go_wp2_with fail
      go_ret
      exact ⟨rfl, h1⟩
    · have g2 : decide ((100 : Int) < (m.length : Int)) = false := decide_eq_false (by omega)
      have k1 : l.length ≤ 1000 := by omega
      have k2 : l.length ≤ 100000 := by omega
      have hb := Lib.hid (Below.refl w.heap.size w)
      clear h1 h2
      go_enter Try.func3, Try.ntmps3
      go_wp2_with fail
      refine (swap_any u _ hu).mono ?_
      rintro e wn ⟨rfl, rfl⟩
      go_wp2_with fail
      refine (rswap_any u _ hu).mono ?_
      rintro e wn ⟨rfl, rfl⟩
      go_wp2_with fail
      refine (encode_any _ l _ Ha.out k1).mono ?_
      rintro e wn ⟨rfl, hb2⟩
      replace Ha := Lib.hid (flts_below Ha.out hb2)
      replace Hm := Lib.hid (flts_below Hm.out hb2)
      replace hb := Lib.hid (hb.out.trans (hb2.mono hb.out.size))
      clear hb2
      go_wp2_with fail
      refine (rencode_any _ l _ Ha.out k1).mono ?_
      rintro e wn ⟨rfl, hb2⟩
      replace Ha := Lib.hid (flts_below Ha.out hb2)
      replace Hm := Lib.hid (flts_below Hm.out hb2)
      replace hb := Lib.hid (hb.out.trans (hb2.mono hb.out.size))
      clear hb2
      go_wp2_with fail
      refine (rlsame_any _ _ l m _ Ha.out Hm.out k2).mono ?_
      rintro e wn ⟨rfl, hb2⟩
      replace Ha := Lib.hid (flts_below Ha.out hb2)
      replace Hm := Lib.hid (flts_below Hm.out hb2)
      replace hb := Lib.hid (hb.out.trans (hb2.mono hb.out.size))
      clear hb2
      obtain ⟨q, hq⟩ : ∃ q, sameB l m = q := ⟨_, rfl⟩
      rw [hq]
      replace hq := Lib.hid hq
      go_wp2_with fail
      refine (rrsame_any _ _ l m _ Ha.out Hm.out k2).mono ?_
      rintro e wn ⟨rfl, hb2⟩
      rw [hq.out]
      replace hb := Lib.hid (hb.out.trans (hb2.mono hb.out.size))
      clear hb2
      go_wp2_with fail
      refine (live_any _).mono ?_
      rintro e wn ⟨rfl, hb2⟩
      replace hb := Lib.hid (hb.out.trans (hb2.mono hb.out.size))
      clear hb2
      go_wp2_with fail
      go_ret
      exact ⟨rfl, hb.out⟩

theorem sameB_of {a b : List Nat} {L : List Nat} (h : a.map canon = L) (k : b.map canon = L) : sameB a b = true := decide_eq_true (h.trans k.symm)
theorem decRL_len (s : ByteArray) (n : Int) : (decRL s n).length ≤ s.size := by
  have hr : ∀ (k : Nat) (s : ByteArray) (p : Nat), (rdR k s p).2.length ≤ k := by
    intro k
    induction k with
    | zero => intro s p; exact Nat.le_refl _
    | succ k ih =>
      intro s p
      rw [rdR]
      split
      · simp
      · split
        · simp
        · simp only [List.length_cons]
          have := ih (rest s (numK s 0)) (swapN (numN s 0) ^^^ p)
          omega
  unfold decRL
  split
  · simp
  · split
    · simp
    · split
      · have := hr n.toNat s 0
        omega
      · simp

set_option maxRecDepth 100000 in
set_option maxHeartbeats 4000000 in
theorem reads_walk (s : ByteArray) (n : Int) (w : World) :
    Calls Try.prog 4 #[.string s, .int .i64 n] w fun e w' => e = .returned (.bool true) ∧ Below w.heap.size w w' := by
  by_cases hs : 500 < s.size
  · have hs' : (500 : Int) < (s.size : Int) := by omega
    clear hs
    go_enter Try.func4, Try.ntmps4
    go_wp2_with fail
    refine (live_any _).mono ?_
    rintro e w1 ⟨rfl, h1⟩
    go_wp2_with fail
    go_ret
    exact ⟨rfl, h1⟩
  · have hs' : (s.size : Int) ≤ 500 := by omega
    have HD := Lib.hid (fun w => decode_any s n w (by omega))
    have HR := Lib.hid (fun w => rdecode_any s n w (by omega))
    have hlen : (decRL s n).length ≤ 100000 := by have := decRL_len s n; omega
    have hb := Lib.hid (Below.refl w.heap.size w)
    clear hs
    unfold DecR at HD HR
    generalize decRL s n = L at *
    generalize decRE s n = c at *
    go_enter Try.func4, Try.ntmps4
    go_wp2_with fail
    refine (HD.out _).mono ?_
    rintro e wn ⟨⟨r1, L1, rfl, hr, hL1⟩, hb2⟩
    replace hr := Lib.hid hr
    replace hL1 := Lib.hid hL1
    replace hb := Lib.hid (hb.out.trans (hb2.mono hb.out.size))
    clear hb2
    go_wp2_with fail
    refine (HR.out _).mono ?_
    rintro e wn ⟨⟨r2, L2, rfl, hr2, hL2⟩, hb2⟩
    replace hr := Lib.hid (flts_below hr.out hb2)
    replace hb := Lib.hid (hb.out.trans (hb2.mono hb.out.size))
    clear hb2
    replace hr2 := Lib.hid hr2
    replace hL2 := Lib.hid hL2
    go_wp2_with fail
    refine (rrsame_any _ _ L1 L2 _ hr.out hr2.out (by rw [lens hL1.out]; exact hlen)).mono ?_
    rintro e wn ⟨rfl, hb2⟩
    rw [sameB_of hL1.out hL2.out]
    replace hb := Lib.hid (hb.out.trans (hb2.mono hb.out.size))
    clear hb2
    go_wp2_with fail
    refine (live_any _).mono ?_
    rintro e wn ⟨rfl, hb2⟩
    replace hb := Lib.hid (hb.out.trans (hb2.mono hb.out.size))
    clear hb2
    go_wp2_with fail
    go_ret
    exact ⟨rfl, hb.out⟩

theorem int_word {n : Int} (h0 : IntKind.u64.min ≤ n) (h1 : n ≤ IntKind.u64.max) : ∃ m : Nat, n = (m : Int) ∧ m < 2 * S := Opened.int_u64 h0 h1
theorem tells_ok {H : Type} {enc : TypeId × Value → H} {d0 d1 : DataW H} {p0 p1 : List MemPlace} (W : World) (b : Nat) (v0 v1 v2 : Value) (o0 : Value.okWide Try.prog W .any b 22 v0) (h0 : DataW.Trod enc Try.prog W 0 (fun _ => true) true 22 v0 d0 p0) (o1 : Value.okWide Try.prog W .any b 22 v1) (h1 : DataW.Trod enc Try.prog W 0 (fun _ => true) true 22 v1 d1 p1) (o2 : Value.okWide Try.prog W .any b 23 v2) :
    Calls Try.prog 3 #[v0, v1, v2] W fun e w' => e = .returned (.bool true) ∧ Below W.heap.size W w' := by
  obtain ⟨zs, hz⟩ := flts_of Try.underlying22 Try.underlying33 (by kernel_rfl) (Opened.ok_slice Try.underlying22 o0) h0
  obtain ⟨ys, hy⟩ := flts_of Try.underlying22 Try.underlying33 (by kernel_rfl) (Opened.ok_slice Try.underlying22 o1) h1
  obtain ⟨n, rfl, a1, a2⟩ := Opened.ok_int Try.underlying23 o2
  obtain ⟨u, rfl, hu⟩ := int_word a1 a2
  exact tells_walk v0 v1 zs ys u W hz hy hu
theorem reads_ok (W : World) (b : Nat) (v0 v1 : Value) (o0 : Value.okWide Try.prog W .any b 9 v0) (o1 : Value.okWide Try.prog W .any b 3 v1) :
    Calls Try.prog 4 #[v0, v1] W fun e w' => e = .returned (.bool true) ∧ Below W.heap.size W w' := by
  obtain ⟨s, rfl, _⟩ := Opened.ok_string Try.underlying9 o0
  obtain ⟨n, rfl, _, _⟩ := Opened.ok_int Try.underlying3 o1
  exact reads_walk s n W

end Rl
end Go.Proofs.Ytimgiokhhdkfaaa
