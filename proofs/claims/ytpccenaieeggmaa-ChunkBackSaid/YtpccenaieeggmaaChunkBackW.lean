/-
  WALK: the law ChunkBack. No condition.
-/
import Derived.Test.YtpccenaieeggmaaChunkJoinsW
import Derived.Test.YtpccenaieeggmaaChunkFindsW
import Derived.Test.YtpccenaieeggmaaChunkSplitsW
import Derived.Test.YtpccenaieeggmaaChunkBackP
import Derived.Deep.DeepCutAuto
import Derived.BigQuiet
namespace Go.Proofs.Ytpccenaieeggmaa
open Go.RowKit Go.Shelf Go.ChangeShapes Go.WideShapes Go.ChangeAt
namespace Ck
open Mem Pk Bd

theorem cellsC_take (L : List Ch) : ∀ k, cellsC (L.take k) = (cellsC L).take (k * 2) := by
  induction L with
  | nil => intro k; simp [cellsC]
  | cons c l ih =>
    intro k
    cases k with
    | zero => rfl
    | succ k =>
      rw [List.take_succ_cons, cellsC, cellsC, ih k, show (k + 1) * 2 = k * 2 + 1 + 1 by omega]
      rfl
theorem cellsC_drop (L : List Ch) : ∀ k, cellsC (L.drop k) = (cellsC L).drop (k * 2) := by
  induction L with
  | nil => intro k; simp [cellsC]
  | cons c l ih =>
    intro k
    cases k with
    | zero => rfl
    | succ k =>
      rw [List.drop_succ_cons, cellsC, ih k, show (k + 1) * 2 = k * 2 + 1 + 1 by omega]
      rfl
theorem chs_cells {W : World} {b o n c : Nat} {L : List Ch} (h : Chs W (.slice (some ⟨b, o, none⟩) n c) L) (j : Nat) (u : Value) (hu : (cellsC L)[j]? = some u) : W.cell? ⟨b, o + j, none⟩ = some u := by
  have hj := (List.getElem?_eq_some_iff.1 hu).1
  rw [cellsC_length] at hj
  have hi : j / 2 < L.length := by omega
  obtain ⟨-, h1, h2⟩ := chs_at h hi
  obtain ⟨e1, e2⟩ := cellsC_at L (j / 2) hi
  rcases Nat.mod_two_eq_zero_or_one j with h0 | h0
  · rw [show j / 2 * 2 = j by omega] at e1 h1
    rw [h1, ← e1, hu]
  · rw [show j / 2 * 2 + 1 = j by omega] at e2
    rw [show o + j / 2 * 2 + 1 = o + j by omega] at h2
    rw [h2, ← e2, hu]
theorem add_none (b o j : Nat) : (⟨b, o, none⟩ : Addr).add j = ⟨b, o + j, none⟩ := by unfold Addr.add; split <;> simp_all
theorem srcC_head {W : World} {b o n c k : Nat} {L : List Ch} (h : Chs W (.slice (some ⟨b, o, none⟩) n c) L) : Src W (.slice (some ⟨b, o, none⟩) k c) k (cellsC (L.take k)) := by
  refine .inr ⟨⟨b, o, none⟩, c, rfl, fun j u hu => ?_⟩
  rw [add_none]
  refine chs_cells h j u ?_
  rw [cellsC_take] at hu
  have hj : j < k * 2 := by
    have h1 := (List.getElem?_eq_some_iff.1 hu).1
    rw [List.length_take] at h1
    omega
  rwa [List.getElem?_take_of_lt hj] at hu
theorem srcC_tail {W : World} {b o n c k : Nat} {L : List Ch} (h : Chs W (.slice (some ⟨b, o, none⟩) n c) L) (_hk : k ≤ L.length) (_hc : n ≤ c) : Src W (.slice (if c = k then some ⟨b, o, none⟩ else some ⟨b, o + k * 2, none⟩) (n - k) (c - k)) (n - k) (cellsC (L.drop k)) := by
  have hn : L.length = n := by
    obtain ⟨⟨a', c', e1, -⟩, -⟩ := h
    cases e1
    rfl
  by_cases hck : c = k
  · rw [if_pos hck]
    refine .inr ⟨⟨b, o, none⟩, c - k, rfl, fun j u hu => ?_⟩
    have h1 := (List.getElem?_eq_some_iff.1 hu).1
    rw [cellsC_length, List.length_drop] at h1
    omega
  · rw [if_neg hck]
    refine .inr ⟨⟨b, o + k * 2, none⟩, c - k, rfl, fun j u hu => ?_⟩
    rw [cellsC_drop, List.getElem?_drop] at hu
    rw [add_none, Nat.add_assoc]
    exact chs_cells h _ _ hu
theorem ownC_empty {W : World} {base g : Nat} (h : W.heap[g]? = some (.cells #[] 32 (0, 0))) (hb : base ≤ g) : W.ownsRow base 32 2 (.slice (some ⟨g, 0, none⟩) 0 0) 0 [] :=
  ⟨rfl, .inr ⟨g, 0, #[], rfl, hb, h, Nat.le_refl _, by unfold maxLen; omega, rfl, rfl⟩⟩
theorem ownC_two {W : World} {base k n : Nat} {v : Value} {l : List Ch} (hk : k ≤ l.length) (hn : l.length = n) (h : W.ownsRow base 32 2 v (k + (n - (k + 1))) (cellsC (l.take k) ++ cellsC (l.drop (k + 1)))) : OwnC W base v (l.take k ++ l.drop (k + 1)) := by
  unfold OwnC
  rw [cellsC_append, List.length_append, List.length_take, List.length_drop, Nat.min_eq_left hk, hn]
  exact h
theorem again_grown {w W W1 : World} {B : Nat} {row : Option Nat} (hB : B ≤ W.heap.size) (h : Below B w W) (hg : W.grownBy W1 row) (hr : ∀ k, row = some k → B ≤ k) : Below B w W1 := h.grown hg hB hr

/-! ### one chunk less -/
theorem joinGo_mono {l : List Ch} {x y : Int} (h : joinGo x l = 0) (hy : y ≤ x) : joinGo y l = 0 := by
  cases l with
  | nil => rfl
  | cons c l =>
    obtain ⟨h1, h2, h3, h4⟩ := joinGo_zero h
    rw [joinGo, if_neg (by omega), if_neg (by omega), h4]
theorem joinGo_less {c : Ch} {m : List Ch} (l : List Ch) : ∀ x, joinGo x (l ++ c :: m) = 0 → joinGo x (l ++ m) = 0 := by
  induction l with
  | nil =>
    intro x h
    obtain ⟨h1, -, -, h4⟩ := joinGo_zero h
    exact joinGo_mono h4 (by omega)
  | cons a l ih =>
    intro x h
    obtain ⟨h1, h2, h3, h4⟩ := joinGo_zero h
    rw [List.cons_append, joinGo, if_neg (by omega), if_neg (by omega)]
    exact ih _ h4
theorem parts (l : List Ch) {k : Nat} (hk : k < l.length) : l.take k ++ chAt l k :: l.drop (k + 1) = l := by
  rw [← drop_here l k hk, List.take_append_drop]
theorem less_ok {v : Int} {l : List Ch} {k : Nat} (h : joinE v l = 0) (hk : k < l.length) : joinE v (l.take k ++ l.drop (k + 1)) = 0 := by
  obtain ⟨h0, h1, h2⟩ := join_zero h
  refine joinE_of ⟨h0, h1⟩ (joinGo_less (c := chAt l k) (l.take k) 0 ?_)
  rw [parts l hk]
  exact h2
theorem less_flat {l : List Ch} {k : Nat} (hk : k < l.length) : (l.flatMap oneL).length = ((l.take k ++ l.drop (k + 1)).flatMap oneL).length + (oneL (chAt l k)).length := by
  have e : l.flatMap oneL = (l.take k ++ chAt l k :: l.drop (k + 1)).flatMap oneL := by rw [parts l hk]
  rw [e]
  simp only [List.flatMap_append, List.flatMap_cons, List.length_append]
  omega
theorem joinS_len {v : Int} {l : List Ch} (h : joinE v l = 0) : (joinS v l).size = 5 + (l.flatMap oneL).length := by
  rw [joinS_size h]
  unfold sizeN
  rw [List.take_of_length_le (Nat.le_refl _)]

/-- the class of worlds of a round's last region. -/
def BS (w : World) (b p : Nat) (kk : Int) (body : ByteArray) (r v : Value) (M : List Ch) (W : World) : Prop := W.cell? ⟨b, p, none⟩ = some (.int .i64 kk) ∧ W.cell? ⟨b, p + 1, none⟩ = some (.string body) ∧ Chs W r M ∧ Chs W v M ∧ Below w.heap.size w W ∧ b < w.heap.size
theorem BS.below {w W W' : World} {b p : Nat} {kk : Int} {body : ByteArray} {r v : Value} {M : List Ch} (h : BS w b p kk body r v M W) (k : Below W.heap.size W W') : BS w b p kk body r v M W' := by
  obtain ⟨h1, h2, h3, h4, h5, h6⟩ := h
  have hs := h5.size
  exact ⟨(k.cell (p := ⟨b, p, none⟩) (show b < _ by omega)).trans h1, (k.cell (p := ⟨b, p + 1, none⟩) (show b < _ by omega)).trans h2, chs_below h3 k, chs_below h4 k, h5.trans (k.mono hs), h6⟩

set_option maxRecDepth 100000 in
set_option maxHeartbeats 8000000 in
theorem back_walk (n : Int) (v : Value) (l : List Ch) (s : ByteArray) (w : World) (h : Chs w v l) :
    Calls Try.prog 5 #[.int .i64 n, v, .string s] w fun e w' => e = .returned (.bool true) ∧ Below w.heap.size w w' := by
  obtain ⟨i0, hi, hz0, hz1, hz2⟩ := info_parts infoC
  obtain ⟨a, cap, rfl⟩ := chs_val h
  have H := Lib.hid h
  have hcap : l.length ≤ cap := by
    obtain ⟨⟨a', c', e1, h0, -⟩, -⟩ := h
    cases e1
    exact h0
  clear h
  have HF := Lib.hid (few_any _ l w H.out)
  by_cases hf : few l = true
  · by_cases hs : 2000 < s.size
    · rw [hf] at HF
      have hd : decide ((2000 : Int) < (s.size : Nat)) = true := decide_eq_true (by omega)
      clear hf hs
      go_enter Try.func5, Try.ntmps5
      go_wp2_with fail
      refine HF.out.mono ?_
      rintro e w1 ⟨rfl, hb⟩
      go_wp2_with fail
      refine (live_any _).mono ?_
      rintro e w2 ⟨rfl, k⟩
      go_wp2_with fail
      go_ret
      exact ⟨rfl, hb.trans (k.mono hb.size)⟩
    · obtain ⟨hl1, hl2, hl3⟩ := few_len hf
      rw [hf] at HF
      have hd : decide ((2000 : Int) < (s.size : Nat)) = false := decide_eq_false (by omega)
      replace hl2 := Lib.hid hl2
      clear hf
      have HJ := Lib.hid (fun w (h : Chs w (.slice a l.length cap) l) => join_any n _ l w h (by omega) (by omega))
      have HSp := Lib.hid (fun w => split_any s w (by omega))
      unfold joinV at HJ
      by_cases he : joinE n l = 0
      · obtain ⟨s1, s2, s3⟩ := split_join he
        have hjl := joinS_len he
        have hjo := Lib.hid (fun k (hk : k < l.length) => less_ok he hk)
        rw [he] at HJ
        have HSj := Lib.hid (fun w => split_any (joinS n l) w (by omega))
        clear he
        generalize joinS n l = js at *
        have hjne : (js.toList == []) = false := by
          rw [beq_eq_false_iff_ne]
          intro e
          rw [ByteArray.toList_eq] at e
          have := congrArg List.length e
          rw [size_list] at this
          have hz : js.size = 0 := this
          omega
        go_enter Try.func5, Try.ntmps5
        go_wp2_with fail
        refine HF.out.mono ?_
        rintro e w1 ⟨rfl, hb⟩
        replace hb := Lib.hid hb
        go_wp2_with fail
        refine (HJ.out _ (chs_below H.out hb.out)).mono ?_
        rintro e w2 ⟨rfl, k⟩
        replace hb := Lib.hid (hb.out.trans (k.mono hb.out.size))
        clear k
        go_wp2_with fail
        refine (HSj.out _).mono ?_
        rintro e w3 ⟨⟨r1, L, rfl, hr, hL⟩, k⟩
        rw [s2] at hL
        subst hL
        rw [s1, s3]
        replace hr := Lib.hid hr
        replace hb := Lib.hid (hb.out.trans (k.mono hb.out.size))
        clear k HSj HJ HF s1 s2 s3
        have HSa := Lib.hid (rsame_any r1 (.slice a L.length cap) L L w3 hr.out (chs_below H.out hb.out) (by omega))
        rw [show sameC L L = true from decide_eq_true rfl] at HSa
        go_wp2_with fail
        refine HSa.out.mono ?_
        rintro e w4 ⟨rfl, k⟩
        replace hb := Lib.hid (hb.out.trans (k.mono hb.out.size))
        clear k HSa hr
        go_wp2_with fail
        go_loopw [12] (fun i wr => ∃ k : Nat, i = .int .i64 k ∧ k ≤ L.length ∧ Hid (Below w.heap.size w wr)) (fun i _ => L.length - (intOf i).toNat)
        case atStart => exact ⟨0, rfl, by omega, hb⟩
        case round =>
          clear hb
          obtain ⟨k, rfl, hk, hb⟩ := hrel
          by_cases hlt : k < L.length
          · obtain ⟨b, o, rfl⟩ := some_chs H.out (by omega)
            have hbs := hb.out.size
            have hlt' : (k : Int) < L.length := by omega
            have hk0 : (0 : Int) ≤ (k : Nat) := by omega
            have hk1 : (0 : Int) ≤ (k : Int) + 1 := by omega
            have hkn1 : (k : Int) + 1 ≤ (L.length : Nat) := by omega
            have hkc : (k : Int) + 1 ≤ (cap : Nat) := by omega
            have hkc0 : (k : Int) ≤ (cap : Nat) := by omega
            have hkw : IntKind.i64.wrap ((k : Int) + 1) = (k : Int) + 1 := IntWalk.i64_in _ (by omega)
            have hkt : ((k : Int) + 1).toNat = k + 1 := by omega
            have hcl0 : ¬ cap = 0 := by omega
            have hn : Hid (L.length = L.length) := Lib.hid rfl
            have HLw := Lib.hid (chs_below H.out hb.out)
            have HH := Lib.hid (fun W (h : Below wr.heap.size wr W) => srcC_head (k := k) (chs_below HLw.out h))
            have HT := Lib.hid (fun W (h : Below wr.heap.size wr W) => srcC_tail (chs_below HLw.out h) (show k + 1 ≤ L.length by omega) hcap)
            have hlh : (cellsC (L.take k)).length = k * 2 := by rw [cellsC_length, List.length_take]; omega
            have hlt2 : (cellsC (L.drop (k + 1))).length = (L.length - (k + 1)) * 2 := by rw [cellsC_length, List.length_drop]
            have hbe := (Below.refl wr.heap.size wr).drew
            go_wp2_with fail
            go_region_held3 (fun W => Below wr.heap.size wr W) (first | assumption | exact ((Below.refl _ wr).alloc (Nat.le_refl _) _).drew) ((first | (refine step_append_src (by rfl) (.tmp 66) (.tmp 69) 22 (by rfl) wr.heap.size 32 i0 (.agg #[.int .i64 0, .string ByteArray.empty]) 2 24 Try.underlying22 hi hz0 hz1 hz2 rfl (by decide) (.slice (some ⟨wr.heap.size, 0, none⟩) 0 0) 0 [] (by rfl) ?_ _ k (cellsC (L.take k)) (by rfl) hlh ?_ (ones_ch _) (by unfold maxLen; omega) (by omega) (by assumption : Below wr.heap.size wr _).size ?_; exact ownC_empty (alloc_new wr _) (Nat.le_refl _); exact HH.out _ (by assumption : Below wr.heap.size wr _); intro v1 w1 hown1 hgrow1; rw [Nat.zero_add, List.nil_append] at hown1; have hbw : Below wr.heap.size wr w1 := again_grown (by assumption : Below wr.heap.size wr _).size (by assumption : Below wr.heap.size wr _) hgrow1 (fun k e => by simp [Value.ownBlock] at e; omega)) | (refine step_append_src (by rfl) (.tmp 70) (.tmp 74) 22 (by rfl) wr.heap.size 32 i0 (.agg #[.int .i64 0, .string ByteArray.empty]) 2 24 Try.underlying22 hi hz0 hz1 hz2 rfl (by decide) _ k (cellsC (L.take k)) (by rfl) ?_ _ (L.length - (k + 1)) (cellsC (L.drop (k + 1))) (by rfl) hlt2 ?_ (ones_ch _) (by unfold maxLen; omega) (by omega) (by assumption : Below wr.heap.size wr _).size ?_; exact hown1; exact HT.out _ (by assumption : Below wr.heap.size wr _); intro v2 w2' hown2 hgrow2; have hbw2 : Below wr.heap.size wr w2' := again_grown (by assumption : Below wr.heap.size wr _).size (by assumption : Below wr.heap.size wr _) hgrow2 (fun k e => (hown1.lt k e).1); have hfin := ownC_two (l := L) (k := k) (by omega) rfl hown2) | fail))
            have hbF := Lib.hid (hb.out.trans (hbw2.mono hbs))
            have hcw := chs_at H.out hlt
            have hflat := less_flat hlt
            have hjM := hjo.out k hlt
            have hsm := hl2.out _ (chAt_mem hlt)
            obtain ⟨M, hM⟩ : ∃ M, L.take k ++ L.drop (k + 1) = M := ⟨_, rfl⟩
            have hMok : ∀ c ∈ M, Ok c := by
              rw [← hM]
              intro c hc
              rcases List.mem_append.1 hc with hc | hc
              · exact H.out.bound c (List.mem_of_mem_take hc)
              · exact H.out.bound c (List.mem_of_mem_drop hc)
            have hMl : M.length ≤ 20 := by rw [← hM, List.length_append, List.length_take, List.length_drop]; omega
            rw [hM] at hfin hflat hjM
            have hMc := Lib.hid (hfin.chs hMok)
            obtain ⟨m1, m2, m3⟩ := split_join hjM
            have hju := joinS_len hjM
            have HJM := Lib.hid (join_any n v2 M w2' hMc.out (by omega) (by omega))
            unfold joinV at HJM
            rw [hjM] at HJM
            have HSM := Lib.hid (fun w => split_any (joinS n M) w (by omega))
            clear hgrow2 hgrow1 hown2 hown1 hfin hbw2 hbw HH HT hlh hlt2 hbe hM hMok hjM HLw hb
            generalize (if cap = k + 1 then some (⟨b, o, none⟩ : Addr) else some ⟨b, o + (k + 1) * 2, none⟩) = pa at *
            generalize joinS n M = ju at *
            go_wp2_with fail
            refine HJM.out.mono ?_
            rintro e w5 ⟨rfl, k5⟩
            replace hMc := Lib.hid (chs_below hMc.out k5)
            replace hbF := Lib.hid (hbF.out.trans (k5.mono hbF.out.size))
            clear k5 HJM
            go_wp2_with fail
            refine (HSM.out _).mono ?_
            rintro e w6 ⟨⟨r6, L6, rfl, hr6, hL6⟩, k6⟩
            rw [m2] at hL6
            subst hL6
            rw [m1, m3]
            replace hMc := Lib.hid (chs_below hMc.out k6)
            replace hbF := Lib.hid (hbF.out.trans (k6.mono hbF.out.size))
            replace hr6 := Lib.hid hr6
            clear k6 HSM m1 m2 m3
            obtain ⟨hblt, c1, c2⟩ := hcw
            generalize chAt L k = c at *
            obtain ⟨kk, body⟩ := c
            simp only at c1 c2 hsm
            have hB6 : BS w b (o + k * 2) kk body r6 v2 L6 w6 := ⟨(hbF.out.cell (p := ⟨b, o + k * 2, none⟩) hblt).trans c1, (hbF.out.cell (p := ⟨b, o + k * 2 + 1, none⟩) hblt).trans c2, hr6.out, hMc.out, hbF.out, hblt⟩
            replace hB6 := Lib.hid hB6
            have HSS := Lib.hid (rsame_any r6 v2 L6 L6 w6 hB6.out.2.2.1 hB6.out.2.2.2.1 (by omega))
            rw [show sameC L6 L6 = true from decide_eq_true rfl] at HSS
            have HA := Lib.hid (fun W => one_any (kk, body) W (by simp only; omega))
            have hzo : (str (oneL (kk, body))).size = (oneL (kk, body)).length := str_size _
            have hsub : (js.size : Int) - ((oneL (kk, body)).length : Int) = (ju.size : Int) := by omega
            have hsw : IntKind.i64.wrap (ju.size : Int) = (ju.size : Int) := IntWalk.i64_in _ (by omega)
            unfold vCh at HA
            simp only at HA
            generalize str (oneL (kk, body)) = R at *
            generalize (oneL (kk, body)).length = z at *
            clear c1 c2 hflat hju hjl hsm hMl hl3 hMc hr6 hbF
            go_wp2_with fail
            refine HSS.out.mono ?_
            rintro e w7 ⟨rfl, k7⟩
            have hB7 := hB6.out.below k7
            have c1 := hB7.1
            have c2 := hB7.2.1
            replace hB7 := Lib.hid hB7
            clear k7 HSS hB6
            go_wp2_with fail
            refine (HA.out _).mono ?_
            rintro e w8 ⟨rfl, k8⟩
            have hB8 := Lib.hid (hB7.out.below k8).2.2.2.2.1
            clear k8 c1 c2 hB7 HA
            go_wp2_with fail
            go_roundw
            case rel => exact ⟨k + 1, by go_num, by omega, hB8⟩
            case measure => simp [intOf]; omega
          · obtain rfl : k = L.length := by omega
            have hge : decide (L.length < L.length) = false := decide_eq_false hlt
            clear hlt
            go_wp2_with fail
            refine (HSp.out _).mono ?_
            rintro e wA ⟨⟨rA, LA, rfl, hrA, hLA⟩, kA⟩
            replace hb := Lib.hid (hb.out.trans (kA.mono hb.out.size))
            clear kA
            by_cases hz : splitE s = 0
            · obtain ⟨j1, j2⟩ := join_split hz
              have jl := joinS_len j1
              rw [j2] at jl
              have HJ2 := Lib.hid (join_any (splitV s) rA (splitL s) wA (by rw [← hLA]; exact hrA) (by omega) (by have := splitL_len s; omega))
              unfold joinV at HJ2
              rw [j1, j2] at HJ2
              rw [hz]
              clear hrA hLA j1 j2 jl hz
              generalize splitV s = sv at *
              go_wp2_with fail
              refine HJ2.out.mono ?_
              rintro e wB ⟨rfl, kB⟩
              replace hb := Lib.hid (hb.out.trans (kB.mono hb.out.size))
              clear kB HJ2
              go_wp2_with fail
              refine (live_any _).mono ?_
              rintro e wC ⟨rfl, kC⟩
              replace hb := Lib.hid (hb.out.trans (kC.mono hb.out.size))
              go_wp2_with fail
              go_ret
              exact ⟨rfl, hb.out⟩
            · have hv0 : splitV s = 0 := by unfold splitV; rw [if_neg hz]
              have hl0 : splitL s = [] := by unfold splitL; rw [if_neg hz]
              rw [hl0] at hLA
              subst hLA
              obtain ⟨aA, cA', rfl⟩ := chs_val hrA
              have hdz : (splitE s != 0) = true := by rw [bne_iff_ne]; exact hz
              rw [hv0]
              clear hv0 hl0 hrA hz
              generalize splitE s = se at *
              go_wp2_with fail
              refine (live_any _).mono ?_
              rintro e wC ⟨rfl, kC⟩
              replace hb := Lib.hid (hb.out.trans (kC.mono hb.out.size))
              go_wp2_with fail
              go_ret
              exact ⟨rfl, hb.out⟩
      · have hde : (joinE n l == 0) = false := by rw [beq_eq_false_iff_ne]; exact he
        have hje : joinS n l = ByteArray.empty := if_neg he
        rw [hje] at HJ
        clear he hje
        generalize joinE n l = je at *
        go_enter Try.func5, Try.ntmps5
        go_wp2_with fail
        refine HF.out.mono ?_
        rintro e w1 ⟨rfl, hb⟩
        replace hb := Lib.hid hb
        go_wp2_with fail
        refine (HJ.out _ (chs_below H.out hb.out)).mono ?_
        rintro e w2 ⟨rfl, k⟩
        replace hb := Lib.hid (hb.out.trans (k.mono hb.out.size))
        clear k
        go_wp2_with fail
        refine (HSp.out _).mono ?_
        rintro e wA ⟨⟨rA, LA, rfl, hrA, hLA⟩, kA⟩
        replace hb := Lib.hid (hb.out.trans (kA.mono hb.out.size))
        clear kA
        by_cases hz : splitE s = 0
        · obtain ⟨j1, j2⟩ := join_split hz
          have jl := joinS_len j1
          rw [j2] at jl
          have HJ2 := Lib.hid (join_any (splitV s) rA (splitL s) wA (by rw [← hLA]; exact hrA) (by omega) (by have := splitL_len s; omega))
          unfold joinV at HJ2
          rw [j1, j2] at HJ2
          rw [hz]
          clear hrA hLA j1 j2 jl hz
          generalize splitV s = sv at *
          go_wp2_with fail
          refine HJ2.out.mono ?_
          rintro e wB ⟨rfl, kB⟩
          replace hb := Lib.hid (hb.out.trans (kB.mono hb.out.size))
          clear kB HJ2
          go_wp2_with fail
          refine (live_any _).mono ?_
          rintro e wC ⟨rfl, kC⟩
          replace hb := Lib.hid (hb.out.trans (kC.mono hb.out.size))
          go_wp2_with fail
          go_ret
          exact ⟨rfl, hb.out⟩
        · have hv0 : splitV s = 0 := by unfold splitV; rw [if_neg hz]
          have hl0 : splitL s = [] := by unfold splitL; rw [if_neg hz]
          rw [hl0] at hLA
          subst hLA
          obtain ⟨aA, cA', rfl⟩ := chs_val hrA
          have hdz : (splitE s != 0) = true := by rw [bne_iff_ne]; exact hz
          rw [hv0]
          clear hv0 hl0 hrA hz
          generalize splitE s = se at *
          go_wp2_with fail
          refine (live_any _).mono ?_
          rintro e wC ⟨rfl, kC⟩
          replace hb := Lib.hid (hb.out.trans (kC.mono hb.out.size))
          go_wp2_with fail
          go_ret
          exact ⟨rfl, hb.out⟩
  · have hf2 : few l = false := by simpa using hf
    rw [hf2] at HF
    clear hf hf2
    go_enter Try.func5, Try.ntmps5
    go_wp2_with fail
    refine HF.out.mono ?_
    rintro e w1 ⟨rfl, hb⟩
    go_wp2_with fail
    refine (live_any _).mono ?_
    rintro e w2 ⟨rfl, k⟩
    go_wp2_with fail
    go_ret
    exact ⟨rfl, hb.trans (k.mono hb.size)⟩

theorem back_ok {H : Type} {enc : TypeId × Value → H} {d1 : DataW H} {p1 : List MemPlace} (W : World) (b : Nat) (v0 v1 v2 : Value) (o0 : Value.okWide Try.prog W .any b 3 v0) (o1 : Value.okWide Try.prog W .any b 22 v1) (h1 : DataW.Trod enc Try.prog W 0 (fun _ => true) true 22 v1 d1 p1) (o2 : Value.okWide Try.prog W .any b 9 v2) :
    Calls Try.prog 5 #[v0, v1, v2] W fun e w' => e = .returned (.bool true) ∧ Below W.heap.size W w' := by
  obtain ⟨l, hl⟩ := chs_of h1 (Opened.ok_slice Try.underlying22 o1) o1
  obtain ⟨n, rfl, -, -⟩ := Opened.ok_int Try.underlying3 o0
  obtain ⟨s, rfl, _⟩ := Opened.ok_string Try.underlying9 o2
  exact back_walk n v1 l s W hl

end Ck
end Go.Proofs.Ytpccenaieeggmaa
