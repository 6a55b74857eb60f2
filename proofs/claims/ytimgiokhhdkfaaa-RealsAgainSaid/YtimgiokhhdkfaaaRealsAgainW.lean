/-
  WALKS: the law RealsAgain. No condition.
-/
import Derived.Test.YtimgiokhhdkfaaaRealsJoinW
import Derived.Test.YtimgiokhhdkfaaaSrc2
import Derived.Test.YtimgiokhhdkfaaaHeld
import Derived.Deep.RegionHeld3
import Derived.Deep.AppendLies
import Derived.Deep.DeepCutAuto
namespace Go.Proofs.Ytimgiokhhdkfaaa
open Go.RowKit
namespace Rl
open Mem Pk Fl

theorem again_grown {w W W1 : World} {row : Option Nat} (h : Below w.heap.size w W) (hg : W.grownBy W1 row) (hr : ∀ k, row = some k → w.heap.size ≤ k) : Below w.heap.size w W1 := h.grown hg h.size hr
theorem own_empty {W : World} {base g : Nat} (h : W.heap[g]? = some (.cells #[] 33 (0, 0))) (hb : base ≤ g) : W.ownsRow base 33 1 (.slice (some ⟨g, 0, none⟩) 0 0) 0 [] :=
  ⟨rfl, .inr ⟨g, 0, #[], rfl, hb, h, Nat.le_refl _, by unfold maxLen; omega, rfl, rfl⟩⟩
theorem second_new (w : World) (o o' : Obj) : ((w.alloc o).alloc o').heap[w.heap.size + 1]? = some o' := by
  have := alloc_new (w.alloc o) o'
  rw [World.size_alloc] at this
  exact this
theorem src_one {W : World} {f x : Nat} (h : W.heap[f]? = some (.cells #[.float .f64 x] 33 (0, 0))) : Src W (.slice (some ⟨f, 0, none⟩) 1 1) 1 [.float .f64 x] :=
  .inr ⟨⟨f, 0, none⟩, 1, rfl, fun j u hu => World.news_of_block (cs := #[.float .f64 x]) h j u hu⟩
theorem src_head {W : World} {b o n c k : Nat} {L : List Nat} (h : Flts W (.slice (some ⟨b, o, none⟩) n c) L) (_hk : k ≤ L.length) : Src W (.slice (some ⟨b, o, none⟩) k c) k (cellsF (L.take k)) := by
  refine .inr ⟨⟨b, o, none⟩, c, rfl, fun j u hu => flts_cells h j u ?_⟩
  unfold cellsF at hu ⊢
  rw [List.map_take] at hu
  have hj : j < k := by
    have h1 := (List.getElem?_eq_some_iff.1 hu).1
    rw [List.length_take] at h1
    omega
  rwa [List.getElem?_take_of_lt hj] at hu
theorem src_tail {W : World} {b o n c k : Nat} {L : List Nat} (h : Flts W (.slice (some ⟨b, o, none⟩) n c) L) (hk : k ≤ L.length) (_hc : n ≤ c) : Src W (.slice (if c = k then some ⟨b, o, none⟩ else some ⟨b, o + k, none⟩) (n - k) (c - k)) (n - k) (cellsF (L.drop k)) := by
  have hn : L.length = n := by
    obtain ⟨⟨a', c', e1, -⟩, -⟩ := h
    cases e1
    rfl
  by_cases hck : c = k
  · rw [if_pos hck]
    refine .inr ⟨⟨b, o, none⟩, c - k, rfl, fun j u hu => ?_⟩
    have h1 := (List.getElem?_eq_some_iff.1 hu).1
    rw [cellsF_length, List.length_drop] at h1
    omega
  · rw [if_neg hck]
    refine .inr ⟨⟨b, o + k, none⟩, c - k, rfl, fun j u hu => ?_⟩
    have h1 : (cellsF L)[k + j]? = some u := by
      unfold cellsF at hu ⊢
      rw [List.map_drop, List.getElem?_drop] at hu
      exact hu
    have h2 := flts_cells h _ _ h1
    have ea : (⟨b, o, none⟩ : Addr).add (k + j) = ⟨b, o + (k + j), none⟩ := by unfold Addr.add; split <;> simp_all
    have eb : (⟨b, o + k, none⟩ : Addr).add j = ⟨b, o + k + j, none⟩ := by unfold Addr.add; split <;> simp_all
    rw [ea] at h2
    rw [eb, Nat.add_assoc]
    exact h2
theorem own_again {W : World} {base k n x : Nat} {v : Value} {l : List Nat} (hk : k + 1 ≤ l.length) (hn : l.length = n) (h : W.ownsRow base 33 1 v (k + 1 + 1 + (n - (k + 1))) (cellsF (l.take (k + 1)) ++ [.float .f64 x] ++ cellsF (l.drop (k + 1)))) : OwnF W base v (l.take (k + 1) ++ [x] ++ l.drop (k + 1)) := by
  unfold OwnF
  rw [cellsF_append, cellsF_append, List.length_append, List.length_append, List.length_take, List.length_drop, Nat.min_eq_left hk, hn]
  exact h
theorem byte_at {s : ByteArray} {i : Nat} {b : UInt8} (h : s.data.toList[i]? = some b) (hi : i < s.size) : s[i] = b := by
  have h1 : s.data.toList[i]? = some s[i] := by
    rw [List.getElem?_eq_getElem (by rw [size_list]; exact hi)]
    rfl
  rw [h] at h1
  exact (Option.some.inj h1).symm
theorem flts_take {W : World} {b o n c k : Nat} {L : List Nat} (h : Flts W (.slice (some ⟨b, o, none⟩) n c) L) (hk : k ≤ L.length) (hc : k ≤ c) : Flts W (.slice (some ⟨b, o, none⟩) k c) (L.take k) := by
  have hl : (L.take k).length = k := by rw [List.length_take]; omega
  refine ⟨⟨_, c, by rw [hl], by rw [hl]; exact hc, fun h0 => ⟨b, o, rfl, (flts_at h (j := 0) (by omega)).1, fun j hj => ?_⟩⟩, fun n hn => h.bound n (List.mem_of_mem_take hn)⟩
  rw [hl] at hj
  rw [(flts_at h (j := j) (by omega)).2, List.getElem?_take_of_lt hj]
theorem again_plain {l : List Nat} {k x : Nat} (hx : l[k]?.getD 0 = x) (hk : k < l.length) : encR 0 l = encR 0 (l.take (k + 1)) ++ encR (canon x) (l.drop (k + 1)) ∧ encR 0 (l.take (k + 1) ++ [x] ++ l.drop (k + 1)) = encR 0 (l.take (k + 1)) ++ ([0] ++ encR (canon x) (l.drop (k + 1))) := by
  have e := take_next l k hk
  rw [hx] at e
  obtain ⟨h1, h2⟩ := again_encR (l.take k) (l.drop (k + 1)) x
  rw [← e] at h1 h2
  rw [List.take_append_drop] at h2
  exact ⟨h2, h1⟩
theorem again_parts (A B : List UInt8) : (str (A ++ ([0] ++ B))).size = (str (A ++ B)).size + 1 ∧ (str A).size ≤ (str (A ++ B)).size ∧ (str (A ++ ([0] ++ B))).extract 0 (str A).size = str A ∧ (str (A ++ B)).extract 0 (str A).size = str A ∧
    (str (A ++ ([0] ++ B))).data.toList[(str A).size]? = some 0 ∧ (str (A ++ ([0] ++ B))).extract ((str A).size + 1) (str (A ++ ([0] ++ B))).size = (str (A ++ B)).extract (str A).size (str (A ++ B)).size := by
  refine ⟨by rw [str_size, str_size]; simp; omega, (part_of A B).1, (part_of A _).2.1, (part_of A B).2.1, by rw [str_data, str_size]; simp, ?_⟩
  rw [(part_of A B).2.2]
  apply ext_list
  rw [Lib.extract_data, str_data, str_data, str_size, str_size, List.take_of_length_le (by simp; omega)]
  rw [show A.length + 1 = (A ++ [0]).length by simp, ← List.append_assoc, List.drop_left]

set_option maxRecDepth 100000 in
set_option maxHeartbeats 8000000 in
theorem again_main (bl ol k n cl : Nat) (l : List Nat) (w : World) (hl : Flts w (.slice (some ⟨bl, ol, none⟩) n cl) l) (hn : Hid (l.length = n)) (hk : k < n) (hn1 : n ≤ 100) :
    Calls Try.prog 6 #[.slice (some ⟨bl, ol, none⟩) n cl, .int .i64 k] w fun e w' => e = .returned (.bool true) ∧ Below w.heap.size w w' := by
  obtain ⟨i0, hi, hz0, hz1, hz2⟩ := info_parts infoF
  have HL := Lib.hid hl
  have HI := Lib.hid hl.bound
  have hcap : n ≤ cl := by
    obtain ⟨⟨a', c', e1, h0, -⟩, -⟩ := hl
    cases e1
    exact h0
  obtain ⟨hbl, hx⟩ := flts_at hl (j := k) (by rw [hn.out]; exact hk)
  have hxl := getD_lt HI.out (show k < l.length by rw [hn.out]; exact hk)
  obtain ⟨x, hxe⟩ : ∃ x, l[k]?.getD 0 = x := ⟨_, rfl⟩
  rw [hxe] at hx hxl
  replace hxe := Lib.hid hxe
  clear hl
  have g1 : decide ((100 : Int) < (n : Int)) = false := decide_eq_false (by omega)
  have g2 : decide ((k : Int) < 0) = false := decide_eq_false (by omega)
  have g3 : decide ((n : Int) ≤ (k : Int)) = false := decide_eq_false (by omega)
  have g3' : decide (n ≤ k) = false := decide_eq_false (by omega)
  have hcl0 : ¬ cl = 0 := by omega
  have hk0 : (0 : Int) ≤ (k : Int) := by omega
  have hk1 : (0 : Int) ≤ (k : Int) + 1 := by omega
  have hkn : (k : Int) < (n : Int) := by omega
  have hkn1 : (k : Int) + 1 ≤ (n : Int) := by omega
  have hkc : (k : Int) + 1 ≤ (cl : Int) := by omega
  have hkw : IntKind.i64.wrap ((k : Int) + 1) = (k : Int) + 1 := IntWalk.i64_in _ (by omega)
  have hkt : ((k : Int) + 1).toNat = k + 1 := by omega
  go_enter Try.func6, Try.ntmps6
  go_upto_region 3 with fail
  go_cut [5] (fun v wx => Hid (OwnF wx w.heap.size v (l.take (k + 1) ++ [x] ++ l.drop (k + 1))) ∧ Hid (Below w.heap.size w wx))
  case first =>
    have hbe := (Below.refl w.heap.size w).drew
    have hS0 : w.drew.cell? ⟨bl, ol + k, none⟩ = some (.float .f64 x) ∧ Below w.heap.size w w.drew := ⟨hx, hbe⟩
    have HSS : Hid (∀ W, Below w.heap.size w W → W.cell? ⟨bl, ol + k, none⟩ = some (.float .f64 x) ∧ Below w.heap.size w W) := Lib.hid (fun W h => ⟨(h.cell (p := ⟨bl, ol + k, none⟩) hbl).trans hx, h⟩)
    have HH := Lib.hid (fun W (h : Below w.heap.size w W) => (src_head HL.out (show k + 1 ≤ l.length by rw [hn.out]; omega)).below h)
    have HT := Lib.hid (fun W (h : Below w.heap.size w W) => (src_tail HL.out (show k + 1 ≤ l.length by rw [hn.out]; omega) hcap).below h)
    have hlh : (cellsF (l.take (k + 1))).length = (k + 1) * 1 := by rw [cellsF_length, List.length_take, hn.out]; omega
    have hlt : (cellsF (l.drop (k + 1))).length = (n - (k + 1)) * 1 := by rw [cellsF_length, List.length_drop, hn.out]; omega
    go_region_held3 (fun W => W.cell? ⟨bl, ol + k, none⟩ = some (.float .f64 x) ∧ Below w.heap.size w W) (first | assumption | exact HSS.out _ (((Below.refl _ w).alloc (Nat.le_refl _) _).drew) | exact HSS.out _ ((((Below.refl _ w).alloc (Nat.le_refl _) _).alloc (by simp) _).drew) | (refine HSS.out _ (Below.alloc ?_ ?_ _); assumption; assumption)) ((first | (refine step_append_src (by rfl) (.tmp 23) (.tmp 27) 22 (by rfl) w.heap.size 33 i0 (.float .f64 0) 1 8 Try.underlying22 hi hz0 hz1 hz2 rfl (by decide) (.slice (some ⟨w.heap.size, 0, none⟩) 0 0) 0 [] (by rfl) ?_ _ (k + 1) (cellsF (l.take (k + 1))) (by rfl) hlh ?_ (ones_float _) (by unfold maxLen; omega) (by omega) (by assumption : _ ∧ Below w.heap.size w _).2.size ?_; exact own_empty (alloc_new w _) (Nat.le_refl _); exact HH.out _ (by assumption : _ ∧ Below w.heap.size w _).2; intro v1 w1 hown1 hgrow1; rw [Nat.zero_add, List.nil_append] at hown1; have hbw : Below w.heap.size w w1 := again_grown (by assumption : _ ∧ Below w.heap.size w _).2 hgrow1 (fun k e => by simp [Value.ownBlock] at e; omega); have hS1 := HSS.out _ hbw; have hsz1 := hbw.size) | (refine step_append_src (by rfl) (.tmp 23) (.tmp 27) 22 (by rfl) w.heap.size 33 i0 (.float .f64 0) 1 8 Try.underlying22 hi hz0 hz1 hz2 rfl (by decide) (.slice (some ⟨w.heap.size, 0, none⟩) 0 0) 0 [] (by rfl) ?_ _ (k + 1) (cellsF (l.take (k + 1))) (by rfl) hlh ?_ (ones_float _) (by unfold maxLen; omega) (by omega) (by assumption : _ ∧ Below w.heap.size w _).2.size ?_; exact own_empty (alloc_at (.cells #[.float .f64 x] 33) (alloc_new w _)) (Nat.le_refl _); exact HH.out _ (by assumption : _ ∧ Below w.heap.size w _).2; intro v1 w1 hown1 hgrow1; rw [Nat.zero_add, List.nil_append] at hown1; have hbw : Below w.heap.size w w1 := again_grown (by assumption : _ ∧ Below w.heap.size w _).2 hgrow1 (fun k e => by simp [Value.ownBlock] at e; omega); have hS1 := HSS.out _ hbw; have hsz1 := hbw.size; have hF : w1.heap[w.heap.size + 1]? = some (.cells #[.float .f64 x] 33) := (hgrow1.block _ (by simp) (by simp [Value.ownBlock])).trans (second_new w _ _)) | (refine step_append_src (by rfl) (.tmp 23) (.tmp 27) 22 (by rfl) w.heap.size 33 i0 (.float .f64 0) 1 8 Try.underlying22 hi hz0 hz1 hz2 rfl (by decide) (.slice (some ⟨w.heap.size + 1, 0, none⟩) 0 0) 0 [] (by rfl) ?_ _ (k + 1) (cellsF (l.take (k + 1))) (by rfl) hlh ?_ (ones_float _) (by unfold maxLen; omega) (by omega) (by assumption : _ ∧ Below w.heap.size w _).2.size ?_; exact own_empty (second_new w _ _) (by omega); exact HH.out _ (by assumption : _ ∧ Below w.heap.size w _).2; intro v1 w1 hown1 hgrow1; rw [Nat.zero_add, List.nil_append] at hown1; have hbw : Below w.heap.size w w1 := again_grown (by assumption : _ ∧ Below w.heap.size w _).2 hgrow1 (fun k e => by simp [Value.ownBlock] at e; omega); have hS1 := HSS.out _ hbw; have hsz1 := hbw.size; have hF : w1.heap[w.heap.size]? = some (.cells #[.float .f64 x] 33) := (hgrow1.block _ (by simp; omega) (by simp [Value.ownBlock])).trans (alloc_at _ (alloc_new w _))) | (refine step_append_src (by rfl) (.tmp 28) (.tmp 33) 22 (by rfl) w.heap.size 33 i0 (.float .f64 0) 1 8 Try.underlying22 hi hz0 hz1 hz2 rfl (by decide) _ (k + 1) (cellsF (l.take (k + 1))) (by rfl) ?_ _ 1 [.float .f64 x] (by rfl) rfl ?_ (one_float _) (by unfold maxLen; omega) (by omega) (by assumption : _ ∧ Below w.heap.size w _).2.size ?_; exact hown1.alloc _; (first | exact src_one (alloc_new w1 _) | exact src_one hF); intro v2 w2 hown2 hgrow2; have hbw2 : Below w.heap.size w w2 := again_grown (by assumption : _ ∧ Below w.heap.size w _).2 hgrow2 (fun k e => (hown1.lt k e).1); have hS2 := HSS.out _ hbw2; have hsz2 := hbw2.size) | (refine step_append_src (by rfl) (.tmp 28) (.tmp 33) 22 (by rfl) w.heap.size 33 i0 (.float .f64 0) 1 8 Try.underlying22 hi hz0 hz1 hz2 rfl (by decide) _ (k + 1) (cellsF (l.take (k + 1))) (by rfl) ?_ _ 1 [.float .f64 x] (by rfl) rfl ?_ (one_float _) (by unfold maxLen; omega) (by omega) (by assumption : _ ∧ Below w.heap.size w _).2.size ?_; exact hown1; (first | exact src_one (alloc_new w1 _) | exact src_one hF); intro v2 w2 hown2 hgrow2; have hbw2 : Below w.heap.size w w2 := again_grown (by assumption : _ ∧ Below w.heap.size w _).2 hgrow2 (fun k e => (hown1.lt k e).1); have hS2 := HSS.out _ hbw2; have hsz2 := hbw2.size) | (refine step_append_src (by rfl) (.tmp 34) (.tmp 38) 22 (by rfl) w.heap.size 33 i0 (.float .f64 0) 1 8 Try.underlying22 hi hz0 hz1 hz2 rfl (by decide) _ (k + 1 + 1) (cellsF (l.take (k + 1)) ++ [.float .f64 x]) (by rfl) ?_ _ (n - (k + 1)) (cellsF (l.drop (k + 1))) (by rfl) hlt ?_ (ones_float _) (by unfold maxLen; omega) (by omega) (by assumption : _ ∧ Below w.heap.size w _).2.size ?_; exact hown2; exact HT.out _ (by assumption : _ ∧ Below w.heap.size w _).2; intro v3 w3 hown3 hgrow3; have hbw3 : Below w.heap.size w w3 := again_grown (by assumption : _ ∧ Below w.heap.size w _).2 hgrow3 (fun k e => (hown2.lt k e).1); have hS3 := HSS.out _ hbw3; have hfin := own_again (l := l) (k := k) (x := x) (by rw [hn.out]; omega) hn.out hown3) | fail))
    all_goals
      generalize (if cl = k + 1 then some (⟨bl, ol, none⟩ : Addr) else some ⟨bl, ol + (k + 1), none⟩) = pa
      go_wp2_with fail
      go_meet
      exact ⟨Lib.hid hfin, Lib.hid (by assumption : _ ∧ Below w.heap.size w _).2⟩
  case rest =>
    obtain ⟨hO, hb⟩ := hcut
    have HE := Lib.hid (again_plain hxe.out (show k < l.length by rw [hn.out]; exact hk))
    have hdl := Lib.hid (show ∀ b ∈ l.take (k + 1) ++ [x] ++ l.drop (k + 1), b < 2 * S from fun b hb => by
      rcases List.mem_append.1 hb with hb | hb
      · rcases List.mem_append.1 hb with hb | hb
        · exact HI.out b (List.mem_of_mem_take hb)
        · simp at hb; subst hb; exact hxl
      · exact HI.out b (List.mem_of_mem_drop hb))
    have hM := Lib.hid (hO.out.flts hdl.out)
    have hMl : (l.take (k + 1) ++ [x] ++ l.drop (k + 1)).length ≤ 1000 := by simp; rw [hn.out]; omega
    have hll : l.length ≤ 1000 := by rw [hn.out]; omega
    have hL1 := Lib.hid (flts_below HL.out hb.out)
    have hT1 := Lib.hid (flts_take (flts_below HL.out hb.out) (show k + 1 ≤ l.length by rw [hn.out]; omega) (by omega))
    have HE1 := Lib.hid (fun W (h : Below wc.heap.size wc W) => encode_any _ _ W (flts_below hL1.out h) hll)
    have HE2 := Lib.hid (fun W (h : Below wc.heap.size wc W) => encode_any _ _ W (flts_below hM.out h) hMl)
    have HE3 := Lib.hid (fun W (h : Below wc.heap.size wc W) => encode_any _ _ W (flts_below hT1.out h) (by rw [List.length_take]; omega))
    rw [HE.out.1] at HE1
    rw [HE.out.2] at HE2
    have hz1 : (str (encR 0 l)).size ≤ 10000 := by have := encR_len l 0; rw [hn.out] at this; rw [str_size]; omega
    rw [HE.out.1] at hz1
    have HP := Lib.hid (again_parts (encR 0 (l.take (k + 1))) (encR (canon x) (l.drop (k + 1))))
    clear HE hMl hll HL HI hO hxe hx hxl hdl
    generalize str (encR 0 (l.take (k + 1)) ++ encR (canon x) (l.drop (k + 1))) = s at *
    generalize str (encR 0 (l.take (k + 1)) ++ ([0] ++ encR (canon x) (l.drop (k + 1)))) = t at *
    generalize str (encR 0 (l.take (k + 1))) = hd at *
    go_wp2_with fail
    refine (HE1.out _ (Below.refl _ _)).mono ?_
    rintro e w4 ⟨rfl, hb4⟩
    have hb4 := Lib.hid hb4
    go_wp2_with fail
    refine (HE2.out _ hb4.out).mono ?_
    rintro e w5 ⟨rfl, hb5⟩
    replace hb4 := Lib.hid (hb4.out.trans (hb5.mono hb4.out.size))
    clear hb5
    go_wp2_with fail
    refine (HE3.out _ hb4.out).mono ?_
    rintro e w6 ⟨rfl, hb5⟩
    replace hb4 := Lib.hid (hb4.out.trans (hb5.mono hb4.out.size))
    clear hb5 HE1 HE2 HE3
    have p1 : ((t.size : Int) != (s.size : Int) + 1) = false := by rw [HP.out.1, bne_eq_false_iff_eq]; omega
    have p2 : decide (s.size < hd.size) = false := decide_eq_false (by have := HP.out.2.1; omega)
    go_wp2_with fail
    clear p1 p2
    obtain ⟨q1, q2, q3, q4, q5, q6⟩ := HP.out
    clear HP
    have hS1 := hb4.out.drew
    have HV := Lib.hid (fun q : Held (Below wc.heap.size wc) => held_calls ((live_any q.w).mono fun e w' (c : _ ∧ Below q.w.heap.size q.w w') => And.intro c.1 (q.h.trans (c.2.mono q.h.size))))
    have r1 : (hd.size : Int) ≤ (s.size : Nat) := by omega
    have r2 : (hd.size : Int) ≤ (t.size : Nat) := by omega
    have r3 : (0 : Int) ≤ (hd.size : Nat) := by omega
    have r4 : (hd.size : Int) < (t.size : Nat) := by omega
    have r5 : (hd.size : Int) + 1 ≤ (t.size : Nat) := by omega
    have r6 : (0 : Int) ≤ (hd.size : Int) + 1 := by omega
    have r7 : IntKind.i64.wrap ((hd.size : Int) + 1) = (hd.size : Int) + 1 := IntWalk.i64_in _ (by omega)
    have r8 : ((hd.size : Int) + 1).toNat = hd.size + 1 := by omega
    have r9 : hd.size < t.size := by omega
    have hbyte := byte_at q5 r9
    replace q1 := Lib.hid q1
    replace q5 := Lib.hid q5
    haveI hne : Nonempty (Held (Below wc.heap.size wc)) := ⟨⟨_, hS1⟩⟩
    refine wp_region_class (Below wc.heap.size wc) (by kernel_rfl) (by kernel_rfl) hS1 ?_
    repeat (go_big_quiet_step ((go_at_call 8; exact HV.out _)))
    refine wpQuiet_nil ?_
    intro _ hw'
    obtain ⟨⟨Wq, hq⟩, hw''⟩ := hw'
    subst hw''
    have hq2 := Lib.hid hq
    clear hq hS1 HV hne q2 q3 q4 q6 r1 r2 r3 r4 r5 r6 r7 r8 r9 hbyte
    go_wp2_with fail
    go_ret
    exact ⟨rfl, hb.out.trans (hq2.out.mono hb.out.size)⟩

set_option maxRecDepth 100000 in
set_option maxHeartbeats 4000000 in
theorem again_walk (p : Option Addr) (c : Nat) (at_ : Int) (l : List Nat) (w : World) (hl : Flts w (.slice p l.length c) l) :
    Calls Try.prog 6 #[.slice p l.length c, .int .i64 at_] w fun e w' => e = .returned (.bool true) ∧ Below w.heap.size w w' := by
  have Hl := Lib.hid hl
  clear hl
  by_cases h1 : 100 < l.length
  · have g1 : decide ((100 : Int) < (l.length : Int)) = true := decide_eq_true (by omega)
    clear h1 Hl
    go_enter Try.func6, Try.ntmps6
    go_wp2_with fail
    refine (live_any _).mono ?_
    rintro e w1 ⟨rfl, h1⟩
    go_wp2_with fail
    go_ret
    exact ⟨rfl, h1⟩
  · have g1 : decide ((100 : Int) < (l.length : Int)) = false := decide_eq_false (by omega)
    by_cases h2 : at_ < 0
    · have g2 : decide (at_ < 0) = true := decide_eq_true h2
      clear h1 h2 Hl
      go_enter Try.func6, Try.ntmps6
      go_wp2_with fail
      refine (live_any _).mono ?_
      rintro e w1 ⟨rfl, h1⟩
      go_wp2_with fail
      go_ret
      exact ⟨rfl, h1⟩
    · have g2 : decide (at_ < 0) = false := decide_eq_false h2
      by_cases h3 : (l.length : Int) ≤ at_
      · have g3 : decide ((l.length : Int) ≤ at_) = true := decide_eq_true h3
        clear h1 h2 h3 Hl
        go_enter Try.func6, Try.ntmps6
        go_wp2_with fail
        refine (live_any _).mono ?_
        rintro e w1 ⟨rfl, h1⟩
        go_wp2_with fail
        go_ret
        exact ⟨rfl, h1⟩
      · obtain ⟨k, rfl⟩ : ∃ k : Nat, at_ = (k : Int) := ⟨at_.toNat, by omega⟩
        obtain ⟨bl, ol, rfl⟩ : ∃ b o, p = some ⟨b, o, none⟩ := by
          obtain ⟨⟨a', c', e1, -, h⟩, -⟩ := Hl.out
          cases e1
          obtain ⟨b, o, e2, -⟩ := h (by omega)
          exact ⟨b, o, e2⟩
        exact again_main bl ol k l.length c l w Hl.out (Lib.hid rfl) (by omega) (by omega)

theorem again_ok {H : Type} {enc : TypeId × Value → H} {d0 : DataW H} {p0 : List MemPlace} (W : World) (b : Nat) (v0 v1 : Value) (o0 : Value.okWide Try.prog W .any b 22 v0) (h0 : DataW.Trod enc Try.prog W 0 (fun _ => true) true 22 v0 d0 p0) (o1 : Value.okWide Try.prog W .any b 3 v1) :
    Calls Try.prog 6 #[v0, v1] W fun e w' => e = .returned (.bool true) ∧ Below W.heap.size W w' := by
  obtain ⟨a, c, zs, rfl, hz, -⟩ := arg_of o0 h0
  obtain ⟨n, rfl, -, -⟩ := Opened.ok_int Try.underlying3 o1
  exact again_walk a c n zs W hz

end Rl
end Go.Proofs.Ytimgiokhhdkfaaa
