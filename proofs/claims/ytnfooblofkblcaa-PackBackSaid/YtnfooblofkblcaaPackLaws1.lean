/-
  WALKS: the laws of pack PackPuts, PackNil, PackSizes. No condition.
-/
import Derived.Test.YtnfooblofkblcaaPackLive
import Derived.Test.YtnfooblofkblcaaPackBack
import Derived.Test.YtnfooblofkblcaaOpen
namespace Go.Proofs.Ytnfooblofkblcaa
open Go.RowKit
namespace Pk
open Mem

theorem chain2 {a b c : World} (h : Below a.heap.size a b) (h' : Below b.heap.size b c) : Below a.heap.size a c := h.trans (h'.mono h.size)

set_option maxRecDepth 100000 in
set_option maxHeartbeats 2000000 in
theorem puts_walk (n : Nat) (i : Int) (w : World) (hn : n < W64) (h0 : -9223372036854775808 ≤ i) (h1' : i ≤ 9223372036854775807) :
    Calls Try.prog 3 #[.int .u64 (n : Nat), .int .i64 i] w fun e w' => e = .returned (.bool true) ∧ Below w.heap.size w w' := by
  have HP := Lib.hid (fun w => put_any n w hn)
  have HRP := Lib.hid (fun w => rput_any n w hn)
  have HF := Lib.hid (fun w => fixed_any n w hn)
  have HRF := Lib.hid (fun w => rfixed_any n w hn)
  have HZ := Lib.hid (fun w => zig_any i w h0 h1')
  have HRZ := Lib.hid (fun w => rzig_any i w h0 h1')
  have HG := Lib.hid (fun w => zag_any n w hn)
  have HRG := Lib.hid (fun w => rzag_any n w hn)
  generalize str (putL n) = sp at *
  generalize str (fixL n) = sf at *
  generalize zigN i = z at *
  generalize zagI n = g at *
  clear hn h0 h1'
  go_enter Try.func3, Try.ntmps3
  go_wp2_with fail
  refine (HP.out _).mono ?_
  rintro e w1 ⟨rfl, h1⟩
  go_wp2_with fail
  refine (HRP.out _).mono ?_
  rintro e w2 ⟨rfl, h2⟩
  replace h2 := chain2 h1 h2
  clear h1
  go_wp2_with fail
  refine (HF.out _).mono ?_
  rintro e w3 ⟨rfl, h3⟩
  replace h3 := chain2 h2 h3
  clear h2
  go_wp2_with fail
  refine (HRF.out _).mono ?_
  rintro e w4 ⟨rfl, h4⟩
  replace h4 := chain2 h3 h4
  clear h3
  go_wp2_with fail
  refine (HZ.out _).mono ?_
  rintro e w' ⟨rfl, rfl⟩
  go_wp2_with fail
  refine (HRZ.out _).mono ?_
  rintro e w' ⟨rfl, rfl⟩
  go_wp2_with fail
  refine (HG.out _).mono ?_
  rintro e w' ⟨rfl, rfl⟩
  go_wp2_with fail
  refine (HRG.out _).mono ?_
  rintro e w' ⟨rfl, rfl⟩
  go_wp2_with fail
  refine (live_any _).mono ?_
  rintro e w5 ⟨rfl, h5⟩
  replace h5 := chain2 h4 h5
  clear h4
  go_wp2_with fail
  go_ret
  exact ⟨rfl, h5⟩

set_option maxRecDepth 100000 in
set_option maxHeartbeats 2000000 in
theorem nil_walk (n : Int) (w : World) :
    Calls Try.prog 7 #[.int .i64 n] w fun e w' => e = .returned (.bool true) ∧ Below w.heap.size w w' := by
  go_enter Try.func7, Try.ntmps7
  go_wp2_with fail
  refine (num_nil _).mono ?_
  rintro e w1 ⟨rfl, h1⟩
  go_wp2_with fail
  refine (int_nil _).mono ?_
  rintro e w2 ⟨rfl, h2⟩
  replace h2 := chain2 h1 h2
  clear h1
  go_wp2_with fail
  refine (fix_nil _).mono ?_
  rintro e w3 ⟨rfl, h3⟩
  replace h3 := chain2 h2 h3
  clear h2
  go_wp2_with fail
  refine (take_nil n _).mono ?_
  rintro e w4 ⟨rfl, h4⟩
  replace h4 := chain2 h3 h4
  clear h3
  go_wp2_with fail
  refine (left_nil _).mono ?_
  rintro e w' ⟨rfl, rfl⟩
  go_wp2_with fail
  refine (err_nil _).mono ?_
  rintro e w' ⟨rfl, rfl⟩
  go_wp2_with fail
  refine (done_nil _).mono ?_
  rintro e w' ⟨rfl, rfl⟩
  go_wp2_with fail
  refine (live_any _).mono ?_
  rintro e w5 ⟨rfl, h5⟩
  replace h5 := chain2 h4 h5
  clear h4
  go_wp2_with fail
  go_ret
  exact ⟨rfl, h5⟩

/-- where the law's loop stands that divides by 128. -/
theorem size_step {f m : Nat} (h : ¬ m < 128) : sizeF (f + 1) m = sizeF f (m / 128) + 1 := by rw [sizeF, if_neg h]
theorem size_last {f m : Nat} (h : m < 128) : sizeF (f + 1) m = 1 := by rw [sizeF, if_pos h]
structure SizeAt (n k m : Nat) : Prop where
  le : k ≤ 9
  lt : m * 2 ^ (7 * k) < 2 ^ 64
  eq : sizeF (10 - k) m + k = (putL n).length
theorem SizeAt.start {n : Nat} (h : n < W64) : SizeAt n 0 n := ⟨by omega, by rw [W64_pow] at h; simpa using h, (putF_size 10 n).symm⟩
theorem SizeAt.next {n k m : Nat} (h : SizeAt n k m) (hm : ¬ m < 128) : SizeAt n (k + 1) (m / 128) := by
  have h5 : m / 128 * 2 ^ (7 * (k + 1)) < 2 ^ 64 := by
    rw [pow7, ← Nat.mul_assoc]
    exact Nat.lt_of_le_of_lt (Nat.mul_le_mul_right _ (Nat.div_mul_le_self m 128)) h.lt
  have hk : k + 1 ≤ 9 := by
    have := h.le
    rcases (show k = 9 ∨ k + 1 ≤ 9 by omega) with rfl | h'
    · have := top_small h.lt; omega
    · exact h'
  refine ⟨hk, h5, ?_⟩
  have e := h.eq
  rw [show 10 - k = (10 - (k + 1)) + 1 from by omega, size_step hm] at e
  omega
theorem SizeAt.last {n k m : Nat} (h : SizeAt n k m) (hm : m < 128) : k + 1 = (putL n).length := by
  have e := h.eq
  have := h.le
  rw [show 10 - k = (9 - k) + 1 from by omega, size_last hm] at e
  omega
theorem SizeAt.lt64 {n k m : Nat} (h : SizeAt n k m) : m < W64 := by
  have := h.lt
  rw [W64_pow]
  exact Nat.lt_of_le_of_lt (Nat.le_mul_of_pos_right _ (Nat.two_pow_pos _)) this

/-- what the law asks of what is read: the same bytes. -/
theorem sizes_read {n : Nat} {s : ByteArray} (h1 : numE s 0 = 0) (h2 : numN s 0 = n) : ((s.size : Int) - ((rest s (numK s 0)).size : Nat) == ((putL n).length : Int)) = true := by
  have e1 : (numR s.data.toList).1 = 0 := h1
  have e2 : (numR s.data.toList).2.1 = n := h2
  have e3 : numR s.data.toList = (0, n, numK s 0) := by
    have : numK s 0 = (numR s.data.toList).2.2 := rfl
    rw [this, ← e2, ← e1]
  obtain ⟨_, _, h3, h4⟩ := put_read e3
  rw [size_list] at h3
  rw [beq_iff_eq, rest_size, ← h4]
  omega

set_option maxRecDepth 100000 in
set_option maxHeartbeats 4000000 in
theorem sizes_walk (n : Nat) (s : ByteArray) (w : World) (hn : n < W64) :
    Calls Try.prog 8 #[.int .u64 (n : Nat), .string s] w fun e w' => e = .returned (.bool true) ∧ Below w.heap.size w w' := by
  by_cases hs : 100 < s.size
  · have hs' : (100 : Int) < (s.size : Int) := by omega
    clear hs
    go_enter Try.func8, Try.ntmps8
    go_wp2_with fail
    refine (live_any _).mono ?_
    rintro e w1 ⟨rfl, h1⟩
    go_wp2_with fail
    go_ret
    exact ⟨rfl, h1⟩
  · have hs' : (s.size : Int) ≤ 100 := by omega
    have hs2 : s.size ≤ 9223372036854775807 := by omega
    have HN := Lib.hid hn
    have HP := Lib.hid (fun w => put_any n w hn)
    have HF := Lib.hid (fun w => fixed_any n w hn)
    obtain ⟨t, ht⟩ : ∃ t, str (putL n) = t := ⟨_, rfl⟩
    have htl : t.data.toList = putL n := by rw [← ht, str_data]
    have htz : t.size = (putL n).length := by rw [← ht, str_size]
    have htp : 0 < t.size := by rw [htz]; exact putL_pos n
    have ht10 : t.size ≤ 10 := by rw [htz]; exact putL_length n
    have hby : ∀ i (h : i < t.size), (t[i].toNat < 128 ↔ i + 1 = t.size) := by
      intro i h
      have e : t[i] = (putL n)[i]'(by rw [← htz]; exact h) := by
        show t.data.toList[i]'(by rw [size_list]; exact h) = _
        simp only [htl]
      rw [e, putL_bytes hn, htz]
    have hf8 : (str (fixL n)).size = 8 := by rw [str_size, fixL_length]
    rw [ht] at HP
    replace ht := Lib.hid ht
    replace htl := Lib.hid htl
    replace htz := Lib.hid htz
    have HB := Lib.hid hby
    obtain ⟨lb, hixL, hlast'⟩ : ∃ lb : Nat, (∀ w, (Instr.index 9 (.string t) (.int .i64 ((t.size : Int) - 1))).run Try.prog w = .ok (.int .u8 (lb : Int)) w) ∧ ¬ (127 : Int) < lb := by
      have hlt : t.size - 1 < t.size := by omega
      have hix := index_at t (t.size - 1) hlt
      have e : ((t.size - 1 : Nat) : Int) = (t.size : Int) - 1 := by omega
      have hl := (hby (t.size - 1) hlt).2 (by omega)
      rw [e] at hix
      exact ⟨t[t.size - 1].toNat, hix, by omega⟩
    generalize str (fixL n) = sf at *
    replace hf8 := Lib.hid hf8
    clear hs hby hn
    go_enter Try.func8, Try.ntmps8
    go_wp2_with fail
    go_loop [5, 6] (fun v x => ∃ k m : Nat, v = .int .i64 ((k : Int) + 1) ∧ x = .int .u64 m ∧ k ≤ 9 ∧ Hid (SizeAt n k m)) (fun _ x => (intOf x).toNat)
    case atStart => exact ⟨0, n, rfl, rfl, by omega, Lib.hid (SizeAt.start HN.out)⟩
    case round =>
      obtain ⟨k, m, rfl, rfl, hk9, HS⟩ := hrel
      have hm64 := w64 HS.out.lt64
      by_cases hm : m < 128
      · have hm' : ¬ (127 : Int) < m := by omega
        have hk1 : (k : Int) + 1 = (t.size : Int) := by rw [htz.out]; have := HS.out.last hm; omega
        rw [hk1]
        have hne : ((t.size : Int) != (t.size : Int)) = false := by rw [bne_self_eq_false]
        have h8 : ((sf.size : Int) != 8) = false := by rw [hf8.out]; rfl
        clear hm hk1
        go_wp2_with fail
        refine (HP.out _).mono ?_
        rintro e w1 ⟨rfl, h1⟩
        go_wp2_with fail
        refine (HF.out _).mono ?_
        rintro e w2 ⟨rfl, h2⟩
        replace h2 := chain2 h1 h2
        clear h1
        go_wp2_with fail
        go_loop [8] (fun v => ∃ i : Nat, v = .int .i64 i ∧ i + 1 ≤ t.size) (fun v => 10 - (intOf v).toNat)
        case atStart => exact ⟨0, rfl, by omega⟩
        case round =>
          obtain ⟨i, rfl, hi⟩ := hrel
          by_cases hlt : i + 1 < t.size
          · have hb := HB.out i (by omega)
            have hil : i < t.size := by omega
            have hii : (i : Int) < (t.size : Int) - 1 := by omega
            have hge : 128 ≤ t[i].toNat := by omega
            have hix2 := index_at t i hil
            clear hb
            generalize t[i].toNat = y at *
            have hge' : 128 ≤ (y : Int) := by omega
            go_wp2_with fail
            go_round
            case rel => exact ⟨i + 1, by go_num, by omega⟩
            case measure => simp [intOf]; omega
          · have hii : decide ((i : Int) < (t.size : Int) - 1) = false := by rw [decide_eq_false_iff_not]; omega
            clear hlt
            go_wp2_with fail
            refine (new_any s _).mono ?_
            rintro e w' ⟨rfl, rfl⟩
            obtain ⟨b, hb⟩ : ∃ b, w2.heap.size = b := ⟨_, rfl⟩
            have hR : Hid ((w2.alloc (rd s 0)).heap[b]? = some (rd s 0)) := by rw [← hb]; exact alloc_new w2 (rd s 0)
            have hK := (Kept.refl (· = b) w2).alloc (rd s 0)
            rw [hb]
            replace hb := Lib.hid hb
            generalize w2.alloc (rd s 0) = w3 at *
            go_wp2_with fail
            refine (num_any b s 0 _ hR.out hs2).mono ?_
            rintro e w4 ⟨rfl, k1, k2⟩
            replace hR := Lib.hid k1
            replace hK := hK.trans k2
            clear k1 k2
            have HSR := Lib.hid (sizes_read (n := n) (s := s))
            have HLE := Lib.hid (rest_size s (numK s 0))
            generalize rest s (numK s 0) = s' at *
            generalize numE s 0 = e1 at *
            generalize numN s 0 = m1 at *
            have hE := Lib.hid (fun w (h : w.heap[b]? = some (rd s' e1)) => err_any b s' e1 w h)
            have hL := Lib.hid (fun w (h : w.heap[b]? = some (rd s' e1)) => left_any b s' e1 w h)
            go_wp2_with fail
            refine (hE.out _ hR.out).mono ?_
            rintro e w' ⟨rfl, rfl⟩
            by_cases he : e1 = 0
            · subst he
              by_cases hm1 : m1 = n
              · have hsz := HSR.out rfl hm1
                have hm1' : ((m1 : Int) != (n : Int)) = false := by rw [bne_eq_false_iff_eq]; omega
                have hz0 : (s'.size : Int) ≤ s.size := by rw [HLE.out]; omega
                rw [← htz.out] at hsz
                clear hm1
                go_wp2_with fail
                refine (hL.out _ hR.out).mono ?_
                rintro e w' ⟨rfl, rfl⟩
                go_wp2_with fail
                refine (live_any _).mono ?_
                rintro e w5 ⟨rfl, k5⟩
                go_wp2_with fail
                go_ret
                exact ⟨rfl, chain2 h2 ((hK.below k5).to_below (by rw [hb.out]; exact Nat.le_refl _) (fun k hk h => by rw [hb.out] at hk; omega))⟩
              · have hm1' : ((m1 : Int) != (n : Int)) = true := by rw [bne_iff_ne]; omega
                clear hm1
                go_wp2_with fail
                refine (live_any _).mono ?_
                rintro e w5 ⟨rfl, k5⟩
                go_wp2_with fail
                go_ret
                exact ⟨rfl, chain2 h2 ((hK.below k5).to_below (by rw [hb.out]; exact Nat.le_refl _) (fun k hk h => by rw [hb.out] at hk; omega))⟩
            · have he' : (e1 != 0) = true := by rw [bne_iff_ne]; exact he
              clear he
              go_wp2_with fail
              refine (live_any _).mono ?_
              rintro e w5 ⟨rfl, k5⟩
              go_wp2_with fail
              go_ret
              exact ⟨rfl, chain2 h2 ((hK.below k5).to_below (by rw [hb.out]; exact Nat.le_refl _) (fun k hk h => by rw [hb.out] at hk; omega))⟩
      · have hm' : (127 : Int) < m := by omega
        have hP' := HS.out.next hm
        have hk8 := hP'.le
        clear hm
        go_wp2_with fail
        go_round
        case rel => exact ⟨k + 1, m / 128, by go_num, rfl, by omega, Lib.hid hP'⟩
        case measure => simp [intOf]; omega

theorem puts_ok (W : World) (b : Nat) (v0 v1 : Value) (o0 : Value.okWide Try.prog W .any b 22 v0) (o1 : Value.okWide Try.prog W .any b 3 v1) :
    Calls Try.prog 3 #[v0, v1] W fun e w' => e = .returned (.bool true) ∧ Below W.heap.size W w' := by
  obtain ⟨n, rfl, h0, h1⟩ := Opened.ok_int Try.underlying22 o0
  obtain ⟨u, rfl, hu⟩ := Opened.int_u64 h0 h1
  obtain ⟨i, rfl, h2, h3⟩ := Opened.ok_int Try.underlying3 o1
  obtain ⟨h4, h5⟩ := Opened.int_i64 h2 h3
  exact puts_walk u i W hu h4 h5
theorem nil_ok (W : World) (b : Nat) (v0 : Value) (o0 : Value.okWide Try.prog W .any b 3 v0) :
    Calls Try.prog 7 #[v0] W fun e w' => e = .returned (.bool true) ∧ Below W.heap.size W w' := by
  obtain ⟨i, rfl, _, _⟩ := Opened.ok_int Try.underlying3 o0
  exact nil_walk i W
theorem sizes_ok (W : World) (b : Nat) (v0 v1 : Value) (o0 : Value.okWide Try.prog W .any b 22 v0) (o1 : Value.okWide Try.prog W .any b 9 v1) :
    Calls Try.prog 8 #[v0, v1] W fun e w' => e = .returned (.bool true) ∧ Below W.heap.size W w' := by
  obtain ⟨n, rfl, h0, h1⟩ := Opened.ok_int Try.underlying22 o0
  obtain ⟨u, rfl, hu⟩ := Opened.int_u64 h0 h1
  obtain ⟨s, rfl, _⟩ := Opened.ok_string Try.underlying9 o1
  exact sizes_walk u s W hu

end Pk
end Go.Proofs.Ytnfooblofkblcaa
