/-
  PART 4 of what law TopSizes leans on: plain lemmas and walks, of which each says its own condition.
-/
import Derived.Test.YtnlijlknjhkoaaaGreatBTopSizes3
set_option maxRecDepth 100000
set_option maxHeartbeats 16000000
namespace Go.Proofs.YtnlijlknjhkoaaaGreat
section
open Go.RowKit Go.Shelf
namespace Fg
open Mem Pk Ck Rn
theorem encode_any (v : Value) (l : List Bool) (w : World) (hv : Bools w v l) (hl : l.length ≤ 1000) :
    Calls Tryz.prog 137 #[v] w fun e w' => e = .returned (.string (str (encFlags l))) ∧ Below w.heap.size w w' := by
  obtain ⟨-, -, hsum, hrl, -⟩ := lens_spec l
  have hsm := Lib.hid (fun k => sum_take_le (lens l) k)
  have hst := Lib.hid (fun k n (h : (lens l)[k]? = some n) => sum_take (k := k) h)
  have HO := Lib.hid (fun W (h : Bools W v l) => lengths_any v l W h hl)
  have HV := Lib.hid hv
  have hE : Hid (encFlags l = encL (lens l)) := Lib.hid rfl
  rw [hsum] at hsm
  clear hv hsum
  generalize lens l = r at *
  go_enter Tryz.func137, Tryz.ntmps137
  go_wp2_with fail
  have hb0 := BAt.start w
  refine (HO.out _ (HV.out.below hb0.bel)).mono ?_
  rintro e w1 ⟨⟨y, rfl, hO⟩, hb⟩
  have hB1 := Lib.hid (hb0.below hb)
  have hR := Lib.hid (own_mono hO (C := w.heap.size + 1) (by simp))
  obtain ⟨a, cap, rfl⟩ := (own_sl hO).len
  clear hb0 hb hO
  go_wp2_with fail
  go_loopw [9] (fun i wr => ∃ k : Nat, i = .int .i64 k ∧ k ≤ r.length ∧ Hid (BAt w (encL (r.take k)) wr) ∧ Hid (OwnL wr (w.heap.size + 1) (.slice a r.length cap) r)) (fun i _ => r.length - (intOf i).toNat)
  case atStart => exact ⟨0, rfl, by omega, hB1, hR⟩
  case round =>
    clear hB1 hR
    obtain ⟨k, rfl, hk, hB, hR⟩ := hrel
    by_cases hlt : k < r.length
    · have hlt' : (k : Int) < (r.length : Nat) := by omega
      obtain ⟨b, off, rfl⟩ := (own_sl hR.out).addr (by omega)
      obtain ⟨x, hx⟩ := some_at hlt
      have c0 : wr.cell? ⟨b, off + k, none⟩ = some (.int .i64 (x : Int)) := sl_one (own_sl hR.out) rfl hx
      have hnx := Lib.hid (encL_take hx)
      have hs1 := hst.out k _ hx
      have hs2 := hsm.out (k + 1)
      have hlen : (encL (r.take k)).length ≤ 20000 := by have := encL_len (r.take k); rw [List.length_take] at this; omega
      have hxb : x ≤ 1000 := by omega
      clear hx hlt hs1 hs2
      generalize encL (r.take k) = acc at *
      have HP := Lib.hid (fun W => put_any x W (by unfold W64; omega))
      have hpl := putL_length x
      have hcw : IntKind.u64.wrap (x : Int) = (x : Int) := by rw [IntKind.wrap_u64]; omega
      have hw1 := hB.out.size
      go_wp2_with fail
      refine (HP.out _).mono ?_
      rintro e w3 ⟨rfl, hb3⟩
      have hB3 := Lib.hid (hB.out.below hb3)
      have hK3 := Lib.hid (KeepsT.below (b := w.heap.size) hb3)
      clear hb3 hB
      go_wp2_with fail
      refine (w_strX hB3.out (str (putL x)) (by omega) (by rw [str_size]; omega)).mono ?_
      rintro e w4 ⟨rfl, hB4, hK4⟩
      rw [str_data, ← hnx.out] at hB4
      replace hB4 := Lib.hid hB4
      replace hR := Lib.hid ((hK3.out.trans hK4).own hR.out (by omega) (by decide))
      clear hK4 hB3
      go_wp2_with fail
      go_roundw
      case rel => exact ⟨k + 1, by go_num, by omega, hB4, hR⟩
      case measure => simp [intOf]; omega
    · obtain rfl : k = r.length := by omega
      have hge : ¬ ((r.length : Int) < (r.length : Nat)) := by omega
      rw [List.take_length, ← hE.out] at hB
      go_wp2_with fail
      refine (b_string hB.out).mono ?_
      rintro e w3 ⟨rfl, hb3⟩
      go_wp2_with fail
      go_ret
      exact ⟨rfl, hb3⟩
def cntT (l : List Bool) : Nat := l.countP (· = true)
theorem cntT_snoc (l : List Bool) (x : Bool) : cntT (l ++ [x]) = cntT l + if x = true then 1 else 0 := by unfold cntT; rw [List.countP_append]; cases x <;> simp
theorem cntT_le (l : List Bool) : cntT l ≤ l.length := List.countP_le_length
theorem count_any (v : Value) (l : List Bool) (w : World) (hv : Bools w v l) (hl : l.length ≤ 1000) :
    Calls Tryz.prog 213 #[v] w fun e w' => e = .returned (.int .i64 (cntT l : Nat)) ∧ w = w' := by
  obtain ⟨a, cap, rfl⟩ := hv.len
  have HV := Lib.hid hv
  clear hv
  go_enter Tryz.func213, Tryz.ntmps213
  go_wp2_with fail
  go_loop [3, 8] (fun n i => ∃ k : Nat, i = .int .i64 k ∧ k ≤ l.length ∧ n = .int .i64 (cntT (l.take k) : Nat)) (fun _ i => l.length - (intOf i).toNat)
  case atStart => exact ⟨0, rfl, by omega, rfl⟩
  case round =>
    obtain ⟨k, rfl, hk, rfl⟩ := hrel
    by_cases hlt : k < l.length
    · have hlt' : (k : Int) < (l.length : Nat) := by omega
      obtain ⟨b, off, rfl⟩ := HV.out.addr (by omega)
      obtain ⟨y, hy⟩ := some_at hlt
      have hc : w.cell? ⟨b, off + k, none⟩ = some (.bool y) := sl_one HV.out rfl hy
      have hn : Hid (cntT (l.take (k + 1)) = cntT (l.take k) + if y = true then 1 else 0) := Lib.hid (by rw [take_snoc hy, cntT_snoc])
      have hle := cntT_le (l.take k)
      rw [List.length_take] at hle
      clear hy
      generalize cntT (l.take k) = c at *
      cases y
      · go_wp2_with fail
        go_round
        case rel => exact ⟨k + 1, by go_num, by omega, by rw [hn.out]; rfl⟩
        case measure => simp [intOf]; omega
      · go_wp2_with fail
        go_round
        case rel => exact ⟨k + 1, by go_num, by omega, by rw [hn.out]; rfl⟩
        case measure => simp [intOf]; omega
    · obtain rfl : k = l.length := by omega
      have hge : ¬ ((l.length : Int) < (l.length : Nat)) := by omega
      rw [List.take_length]
      go_wp2_with fail
      go_ret
      exact ⟨rfl, rfl⟩
def OwnBl (w : World) (B : Nat) (v : Value) (l : List Bool) : Prop := w.ownsRow B 4 1 v l.length (l.map boolC)
def Lns (W : World) (v : Value) (r : List Nat) : Prop := Sl W v r.length (r.map fun n : Nat => i64C n)
structure Good (r : List Nat) : Prop where
  pos : ∀ i n, 0 < i → r[i]? = some n → 1 ≤ n
  one : r ≠ [0]
theorem spread_any (v : Value) (r : List Nat) (w : World) (hv : Lns w v r) (hg : Good r) (hl : r.length ≤ 2000) (hs : r.sum ≤ 1000) :
    Calls Tryz.prog 229 #[v, .int .i64 (r.sum : Nat)] w fun e w' => (∃ y, e = .returned (.tuple #[y, .bool true]) ∧ OwnBl w' w.heap.size y (expand false r)) ∧ Below w.heap.size w w' := by
  obtain ⟨i0, hi, hz0, hz1, hz2⟩ := info_parts infoBool
  obtain ⟨a, cap, rfl⟩ := hv.len
  have HV := Lib.hid hv
  have HG := Lib.hid hg
  have hS := Lib.hid (fun k n (h : r[k]? = some n) => sum_take (k := k) h)
  have hS2 := Lib.hid (fun k => sum_take_le r k)
  obtain ⟨N, hN⟩ : ∃ N, r.sum = N := ⟨_, rfl⟩
  rw [hN] at hs hS2 ⊢
  have hn0 : (0 : Int) ≤ (N : Int) := by omega
  clear hN hv hg
  have key : ((r.length : Int) == 1) = false ∨ (∃ b off x, a = some ⟨b, off, none⟩ ∧ ((r.length : Int) == 1) = true ∧ w.cell? ⟨b, off, none⟩ = some (.int .i64 x) ∧ (x == 0) = false ∧ 0 < r.length) := by
    by_cases h : r.length = 1
    · refine .inr ?_
      obtain ⟨x, hx⟩ := some_at (l := r) (k := 0) (by omega)
      obtain ⟨b, off, rfl⟩ := HV.out.addr (by omega)
      have hc := sl_one HV.out rfl hx
      refine ⟨b, off, (x : Int), rfl, by rw [beq_iff_eq]; omega, by simpa [i64C] using hc, ?_, by omega⟩
      rw [beq_eq_false_iff_ne]
      intro e
      have e' : x = 0 := by omega
      subst e'
      refine HG.out.one ?_
      match r, h with
      | [y], _ => simp at hx; rw [hx]
    · exact .inl (by rw [beq_eq_false_iff_ne]; omega)
  rcases key with hd | ⟨bx, ox, x0, rfl, hd, hcx, hx0, hp0⟩
  all_goals
    go_enter Tryz.func229, Tryz.ntmps229
    go_wp2_with fail
    refine (turns_any _).mono ?_
    rintro e w1 ⟨rfl, hT, hb, hsz⟩
    have hT' : Hid (TB w.heap.size (!(decide (0 % 2 = 1))) w1) := Lib.hid hT
    replace hb := Lib.hid hb
    clear hsz hT hd
    (try clear hcx hx0)
    go_wp2_with fail
    go_loopw [6, 26] (fun o i wr => ∃ k : Nat, i = .int .i64 k ∧ k ≤ r.length ∧ Hid (TB w.heap.size (!(decide (k % 2 = 1))) wr) ∧ Hid (OwnBl wr (w.heap.size + 1) o (expand false (r.take k))) ∧ Hid (Below w.heap.size w wr)) (fun _ i _ => r.length - (intOf i).toNat)
    case atStart => exact ⟨0, rfl, by omega, hT', Lib.hid (World.ownsRow_nil _ _ _ _), hb⟩
    case round =>
      clear hT' hb
      obtain ⟨k, rfl, hk, hT, hO, hb⟩ := hrel
      have hwl := lt_of_block hT.out
      by_cases hlt : k < r.length
      · have hlt' : (k : Int) < (r.length : Nat) := by omega
        obtain ⟨b, off, hao⟩ := HV.out.addr (by omega)
        first | subst hao | (have h9 : b = bx ∧ off = ox := (by simp at hao; exact ⟨hao.1.symm, hao.2.symm⟩); obtain ⟨h9a, h9b⟩ := h9; subst h9a; subst h9b)
        obtain ⟨n, hn⟩ := some_at hlt
        have hc : wr.cell? ⟨b, off + k, none⟩ = some (.int .i64 (n : Int)) := (hb.out.cell (p := ⟨b, off + k, none⟩) (sl_lt HV.out (by omega))).trans (sl_one HV.out rfl hn)
        have hs1 := hS.out k _ hn
        have hs2 := hS2.out (k + 1)
        have hlen : (expand false (r.take k)).length = (r.take k).sum := expand_len _ _
        have hnx : Hid (expand false (r.take (k + 1)) = expand false (r.take k) ++ List.replicate n (decide (k % 2 = 1))) := Lib.hid (by rw [take_snoc hn, expand_snoc, List.length_take, Nat.min_eq_left (by omega)]; cases decide (k % 2 = 1) <;> rfl)
        have hp1 := HG.out.pos k n
        have hln : (expand false (r.take k)).length + n ≤ N := by omega
        have hmin : Hid (0 < k → 1 ≤ n) := Lib.hid (fun h => hp1 h hn)
        have hpar : Hid ((!(decide ((k + 1) % 2 = 1))) = decide (k % 2 = 1)) := Lib.hid (by
          rcases Nat.mod_two_eq_zero_or_one k with h | h
          · rw [decide_eq_false (by omega : ¬ k % 2 = 1), decide_eq_true (by omega : (k + 1) % 2 = 1)]; rfl
          · rw [decide_eq_true h, decide_eq_false (by omega : ¬ (k + 1) % 2 = 1)]; rfl)
        clear hs1 hs2 hlen hn hp1
        generalize expand false (r.take k) = acc at *
        obtain ⟨a2, c2, rfl⟩ := (own_sl hO.out).len
        obtain ⟨tn, htn⟩ : ∃ tn, decide (k % 2 = 1) = tn := ⟨_, rfl⟩
        rw [htn] at hT hnx hpar
        clear htn
        have hd2 : decide ((N : Int) - (acc.length : Nat) < (n : Int)) = false := decide_eq_false (by omega)
        have hRep := Lib.hid (fun (W : World) (g : Nat) (h : W.cell? ⟨g, 0, none⟩ = some (.bool tn)) => repeatB_any g 0 1 (.bool tn) rfl n W h (by omega))
        have hlo := Lib.hid hO.out.lt
        have hmn : decide ((n : Int) < min (k : Int) 1) = false := decide_eq_false (by
          by_cases h0 : k = 0
          · omega
          · have := hmin.out (by omega); omega)
        go_wp2_with fail
        refine (turn_any w.heap.size (!tn) wr hT.out).mono ?_
        rintro e w2 ⟨rfl, hT2, k2, hsz2⟩
        rw [Bool.not_not] at hT2 ⊢
        have hO2 := own_kept hO.out k2 (fun i hi h => by omega)
        have hb2 := hb.out.trans (k2.to_below (B := w.heap.size) (by omega) (fun i hi h => by omega))
        have hws : wr.heap.size ≤ w2.heap.size := by omega
        replace hO2 := Lib.hid hO2
        replace hb2 := Lib.hid hb2
        replace hT2 := Lib.hid hT2
        clear k2 hO hb hT hsz2
        go_wp2_with fail
        obtain ⟨W3, hW3⟩ : ∃ W3, w2.alloc (.cells #[.bool tn] 4) = W3 := ⟨_, rfl⟩
        have hc3 : W3.cell? ⟨w2.heap.size, 0, none⟩ = some (.bool tn) := by rw [← hW3]; exact cell_at (alloc_new w2 _) 0
        have hO3 : OwnBl W3 (w.heap.size + 1) (.slice a2 acc.length c2) acc := by rw [← hW3]; exact World.ownsRow.alloc hO2.out _
        have hb3 : Below w.heap.size w W3 := by rw [← hW3]; exact hb2.out.alloc hb2.out.size _
        have hT3 : TB w.heap.size tn W3 := by rw [← hW3]; exact alloc_at _ hT2.out
        rw [hW3]
        clear hW3
        refine (hRep.out _ _ hc3).mono ?_
        rintro e w4 ⟨⟨y, rfl, hOy, -⟩, hb4⟩
        have hO4 := Lib.hid (own_below hO3 hb4)
        have hT4 := Lib.hid (hT3.below hb4)
        have hb5 := Lib.hid (hb3.trans (hb4.mono hb3.size))
        have hsy := Lib.hid (sl_src (own_sl hOy) (fun h => by rw [h]; rfl))
        have hs4 := hb4.size
        have hs3 := lt_of_block hT3
        clear hO3 hb3 hT3 hOy hb4 hO2 hT2 hb2
        go_wp2_with (at_builtin; refine wpList_append_src (by rfl) _ _ 216 (by rfl) (w.heap.size + 1) 4 i0 (.bool false) 1 1 Tryz.underlying216 hi hz0 hz1 hz2 rfl (by decide) _ acc.length _ (by rfl) hO4.out _ n (List.replicate n (.bool tn)) (by rfl) (by simp) hsy.out (fun v hv => by rw [List.eq_of_mem_replicate hv]; rfl) (by unfold maxLen; omega) (by omega) (by omega) ?_; intro v5 w5 hown hgrow)
        have hOf : Hid (OwnBl w5 (w.heap.size + 1) v5 (acc ++ List.replicate n tn)) := Lib.hid (by unfold OwnBl; rw [List.length_append, List.length_replicate, List.map_append, List.map_replicate]; exact hown)
        have hbf := Lib.hid (hb5.out.grown hgrow hb5.out.size (fun k e => by have := (hlo.out k e).1; omega))
        have hTf : Hid (TB w.heap.size tn w5) := Lib.hid ((hgrow.block _ (by omega) (fun e => by have := (hlo.out _ e.symm).1; omega)).trans hT4.out)
        clear hown hgrow
        go_wp2_with fail
        go_roundw
        case rel => exact ⟨k + 1, by go_num, by omega, by rw [hpar.out]; exact hTf, by rw [hnx.out]; exact hOf, hbf⟩
        case measure => simp [intOf]; omega
      · obtain rfl : k = r.length := by omega
        have hge : ¬ ((r.length : Int) < (r.length : Nat)) := by omega
        rw [List.take_length] at hO
        go_wp2_with fail
        go_ret2
        exact ⟨⟨_, rfl, own_mono hO.out (by omega)⟩, hb.out⟩
theorem encL_drop_len (r : List Nat) (k : Nat) : (encL (r.drop k)).length ≤ 10 * r.length := by
  have := encL_len (r.drop k)
  rw [List.length_drop] at this
  omega
theorem decode_any (l : List Bool) (w : World) (hl : l.length ≤ 1000) :
    Calls Tryz.prog 211 #[.string (str (encFlags l)), .int .i64 (l.length : Nat)] w fun e w' => (∃ y, e = .returned (.tuple #[y, .int .i64 0]) ∧ Bools w' y l) ∧ Below w.heap.size w w' := by
  obtain ⟨i0, hi, hz0, hz1, hz2⟩ := info_parts infoInt
  obtain ⟨hsp, hpos, hsum, hrl, hone⟩ := lens_spec l
  have hE : encFlags l = encL (lens l) := rfl
  rw [hE]
  obtain ⟨n, hn⟩ : ∃ n, l.length = n := ⟨_, rfl⟩
  rw [hn] at hl hrl hsum ⊢
  replace hsp := Lib.hid hsp
  clear hE hn
  generalize lens l = r at *
  have hG : Good r := ⟨hpos, hone⟩
  have HS := Lib.hid (fun (W : World) v (h : Lns W v r) => spread_any v r W h hG (by omega) (by omega))
  rw [hsum] at HS
  have hsm := Lib.hid (fun k => sum_take_le r k)
  have hst := Lib.hid (fun k p (h : r[k]? = some p) => sum_take (k := k) h)
  rw [hsum] at hsm
  replace hsum := Lib.hid hsum
  have hps := Lib.hid hpos
  have hd0 : (0 : Int) ≤ (n : Int) := by omega
  have hd1 : (n : Int) ≤ 4096 := by omega
  have hEl := Lib.hid (fun k => encL_drop_len r k)
  clear hG hpos hone
  go_enter Tryz.func211, Tryz.ntmps211
  go_wp2_with fail
  refine (new_any _ _).mono ?_
  rintro e w1 ⟨rfl, hw1⟩
  have hB0 := Lib.hid (show RB w.heap.size (encL (r.drop 0)) w1 by rw [hw1]; exact RB.new _ _)
  have hb0 := Lib.hid (show Below w.heap.size w w1 by rw [hw1]; exact (Below.refl _ _).alloc (Nat.le_refl _) _)
  clear hw1
  go_wp2_with fail
  go_loopw [7, 8] (fun o lf wr => ∃ k : Nat, k ≤ r.length ∧ lf = .int .i64 ((n : Int) - ((r.take k).sum : Nat)) ∧ Hid (RB w.heap.size (encL (r.drop k)) wr) ∧ Hid (OwnL wr (w.heap.size + 1) o (r.take k)) ∧ Hid (Below w.heap.size w wr)) (fun o _ _ => match o with | .slice _ k _ => r.length - k | _ => 0)
  case atStart => exact ⟨0, by omega, by simp, hB0, Lib.hid (World.ownsRow_nil _ _ _ _), hb0⟩
  case round =>
    clear hB0 hb0
    obtain ⟨k, hk, rfl, hB, hO, hb⟩ := hrel
    have hlk : (encL (r.drop k)).length ≤ 20000 := by have := hEl.out k; omega
    have hwl := lt_of_block hB.out
    by_cases hlt : k < r.length
    · obtain ⟨c, hx⟩ := some_at hlt
      have hpos := encL_pos (ns := r.drop k) (by rw [List.length_drop]; omega)
      have hdr := Lib.hid (encL_drop hx)
      have hcp := hps.out k c
      have hs1 := hst.out k _ hx
      have hs2 := hsm.out (k + 1)
      have hcp2 : 0 < k → 1 ≤ c := fun h => hcp h hx
      have htk := Lib.hid (take_snoc hx)
      have hle2 : (encL (r.drop (k + 1))).length ≤ 20000 := by have := hEl.out (k + 1); omega
      have HL := rb_left hB.out
      have hgt : decide ((0 : Int) < ((encL (r.drop k)).length : Nat)) = true := decide_eq_true (by omega)
      replace HL := Lib.hid HL
      have htl : (r.take k).length = k := by rw [List.length_take]; omega
      rw [hdr.out] at hB
      have HN1 := Lib.hid (rb_num hB.out (show c < W64 by unfold W64; omega) (by omega))
      clear hx hcp
      generalize (r.take k).sum = sk at *
      generalize (encL (r.drop k)).length = L at *
      obtain ⟨a2, cap2, rfl⟩ := (own_sl hO.out).len
      rw [htl]
      go_wp2_with fail
      refine HL.out.mono ?_
      rintro e w2 ⟨rfl, rfl⟩
      go_wp2_with fail
      refine HN1.out.mono ?_
      rintro e w3 ⟨rfl, hB3, k2⟩
      have hO2 := Lib.hid (own_kept hO.out k2 (fun i hi h => by omega))
      have hb2 := Lib.hid (hb.out.trans (k2.to_below (B := w.heap.size) (by omega) (fun i hi h => by omega)))
      have hwl3 := k2.size
      replace hB3 := Lib.hid hB3
      clear hO hb k2 HN1 HL
      go_wp2_with fail
      refine (rb_err hB3.out).mono ?_
      rintro e w4 ⟨rfl, rfl⟩
      have hO3 : Hid (w3.ownsRow (w.heap.size + 1) 3 1 (.slice a2 k cap2) k ((r.take k).map fun n : Nat => i64C n)) := Lib.hid (by have := hO2.out; unfold OwnL at this; rw [htl] at this; exact this)
      have q2 : IntKind.u64.wrap ((n : Int) - (sk : Int)) = (n : Int) - (sk : Int) := by rw [IntKind.wrap_u64]; omega
      have q3 : decide ((n : Int) - (sk : Int) < (c : Int)) = false := decide_eq_false (by omega)
      have q4 : IntKind.i64.wrap (c : Int) = (c : Int) := IntWalk.i64_in _ (by omega)
      have hnk : sk + c ≤ n := by omega
      clear hO2
      by_cases hc0 : c = 0
      · subst hc0
        have hk0 : k = 0 := by
          rcases Nat.eq_zero_or_pos k with h | h
          · exact h
          · have := hcp2 h; omega
        subst hk0
        go_wp2_with (at_builtin; refine wpList_append_src (by rfl) _ _ 82 (by rfl) (w.heap.size + 1) 3 i0 (.int .i64 0) 1 8 Tryz.underlying82 hi hz0 hz1 hz2 rfl (by decide) _ 0 _ (by rfl) (World.ownsRow.alloc hO3.out _) _ 1 [.int .i64 ((0 : Nat) : Int)] (by rfl) rfl (src_new (alloc_new w3 _) _) (one_i64 _) (by unfold maxLen; omega) (by omega) (by simp; omega) ?_; intro v5 w5 hown hgrow)
        have hOf : Hid (OwnL w5 (w.heap.size + 1) v5 (r.take (0 + 1))) := Lib.hid (by unfold OwnL; rw [htk.out, List.map_append, List.length_append, List.length_take, Nat.min_eq_left (by omega)]; exact hown)
        have hbf := Lib.hid ((hb2.out.alloc hb2.out.size _).grown hgrow (hb2.out.alloc hb2.out.size _).size (fun k e => by have := (hO3.out.lt k e).1; omega))
        have hBf : Hid (RB w.heap.size (encL (r.drop (0 + 1))) w5) := Lib.hid ((hgrow.block _ (by simp; omega) (fun e => by have := (hO3.out.lt _ e.symm).1; omega)).trans (alloc_at _ hB3.out))
        clear hown hgrow
        go_wp2_with fail
        go_roundw
        case rel => exact ⟨0 + 1, by omega, by rw [hs1]; go_num, hBf, hOf, hbf⟩
        case measure =>
          obtain ⟨a9, c9, e9⟩ := (own_sl hOf.out).len
          rw [e9, List.length_take, Nat.min_eq_left (by omega)]
          simp
          omega
      · have q1 : ((c : Int) == 0) = false := by rw [beq_eq_false_iff_ne]; omega
        go_wp2_with (at_builtin; refine wpList_append_src (by rfl) _ _ 82 (by rfl) (w.heap.size + 1) 3 i0 (.int .i64 0) 1 8 Tryz.underlying82 hi hz0 hz1 hz2 rfl (by decide) _ k _ (by rfl) (World.ownsRow.alloc hO3.out _) _ 1 [.int .i64 (c : Int)] (by rfl) rfl (src_new (alloc_new w3 _) _) (one_i64 _) (by unfold maxLen; omega) (by omega) (by simp; omega) ?_; intro v5 w5 hown hgrow)
        have hOf : Hid (OwnL w5 (w.heap.size + 1) v5 (r.take (k + 1))) := Lib.hid (by unfold OwnL; rw [htk.out, List.map_append, List.length_append, List.length_take, Nat.min_eq_left (by omega)]; exact hown)
        have hbf := Lib.hid ((hb2.out.alloc hb2.out.size _).grown hgrow (hb2.out.alloc hb2.out.size _).size (fun k e => by have := (hO3.out.lt k e).1; omega))
        have hBf : Hid (RB w.heap.size (encL (r.drop (k + 1))) w5) := Lib.hid ((hgrow.block _ (by simp; omega) (fun e => by have := (hO3.out.lt _ e.symm).1; omega)).trans (alloc_at _ hB3.out))
        clear hown hgrow
        go_wp2_with fail
        go_roundw
        case rel => exact ⟨k + 1, by omega, by rw [hs1]; go_num, hBf, hOf, hbf⟩
        case measure =>
          obtain ⟨a9, c9, e9⟩ := (own_sl hOf.out).len
          rw [e9, List.length_take, Nat.min_eq_left (by omega)]
          simp
          omega
    · obtain rfl : k = r.length := by omega
      rw [List.drop_length, show encL [] = [] from rfl] at hB
      rw [List.take_length] at hO
      rw [List.take_length, hsum.out]
      obtain ⟨a2, cap2, rfl⟩ := (own_sl hO.out).len
      have hq : (n : Int) - (n : Int) = 0 := by omega
      have hln : (r.map fun n : Nat => i64C n).length = r.length := by simp
      have HS2 := Lib.hid (HS.out _ _ (own_sl hO.out))
      go_wp2_with fail
      refine (rb_left hB.out).mono ?_
      rintro e w2 ⟨rfl, rfl⟩
      go_wp2_with fail
      refine HS2.out.mono ?_
      rintro e w2 ⟨⟨y, rfl, hy⟩, hb2⟩
      have hyy : Bools w2 y l := by
        have := own_sl hy
        rw [hsp.out] at this
        exact this
      go_wp2_with fail
      go_ret2
      exact ⟨⟨_, rfl, hyy⟩, hb.out.trans (hb2.mono hb.out.size)⟩
end Fg
end
section
open Go.RowKit Go.Shelf
namespace Og
open Mem Pk Ck Rn Fl
theorem alloc_new_at {w : World} {n : Nat} (x : Obj) (h : w.heap.size = n) : (w.alloc x).heap[n]? = some x := by subst h; exact alloc_new w x
def someL (zs : List Nat) : List Bool := zs.map fun z => canon z != 0
def restL (zs : List Nat) : List Nat := zs.filter fun z => canon z != 0
def ranksL (zs : List Nat) : List UInt8 := partL (Fg.encFlags (someL zs)) ++ Rl.encR 0 (restL zs)
theorem someL_len (zs : List Nat) : (someL zs).length = zs.length := by unfold someL; simp
theorem restL_len (zs : List Nat) : (restL zs).length ≤ zs.length := List.length_filter_le _ _
theorem cnt_rest (zs : List Nat) : Fg.cntT (someL zs) = (restL zs).length := by
  unfold Fg.cntT someL restL
  rw [List.countP_map, ← List.countP_eq_length_filter]
  congr 1
  funext z
  cases h : (canon z != 0) <;> simp [h]
theorem rest_snoc (l : List Nat) (z : Nat) : restL (l ++ [z]) = if (canon z != 0) = true then restL l ++ [z] else restL l := by
  unfold restL
  rw [List.filter_append]
  cases h : (canon z != 0) <;> simp [h]
theorem rest_cons (l : List Nat) (z : Nat) : restL (z :: l) = if (canon z != 0) = true then z :: restL l else restL l := by
  unfold restL
  rw [List.filter_cons]
def boolCells (l : List Bool) (n : Nat) : List Value := l.map boolC ++ List.replicate (n - l.length) (.bool false)
theorem boolCells_set {l : List Bool} {n : Nat} (h : l.length < n) (b : Bool) : (boolCells l n).set l.length (.bool b) = boolCells (l ++ [b]) n := by
  unfold boolCells
  rw [List.set_append_right _ _ (by simp), List.length_map, Nat.sub_self, List.map_append, List.length_append, List.length_singleton]
  obtain ⟨m, hm⟩ : ∃ m, n - l.length = m + 1 := ⟨n - l.length - 1, by omega⟩
  rw [hm, show n - (l.length + 1) = m by omega, List.replicate_succ, List.set_cons_zero, List.append_assoc]
  rfl
theorem putRanks_any (v : Value) (zs : List Nat) (w : World) (hv : Fs w v zs) (hz : ∀ z ∈ zs, z < 2 * S) (hl : zs.length ≤ 400) :
    Calls Tryz.prog 98 #[v] w fun e w' => e = .returned (.string (str (ranksL zs))) ∧ Below w.heap.size w w' := by
  obtain ⟨i0, hi, hz0, hz1, hz2⟩ := info_parts infoBool
  obtain ⟨j0, hj, hy0, hy1, hy2⟩ := info_parts Rl.infoF
  obtain ⟨a, cap, rfl⟩ := hv.len
  have HV := Lib.hid hv
  have HZ := Lib.hid hz
  have hn0 : (0 : Int) ≤ (zs.length : Nat) := by omega
  have hlen := someL_len zs
  have hrl := restL_len zs
  obtain ⟨W2, hmk, hown, hgrow⟩ := run_make_full (P := Tryz.prog) w w.heap.size 216 4 i0 (.bool false) 1 Tryz.underlying216 hi hz0 hz1 .i64 .i64 zs.length (by rw [hz2]; omega) (by unfold maxLen; omega) (Nat.le_refl _)
  rw [Nat.mul_one] at hown
  change W2.ownsRow _ _ _ _ _ (madeCells #[.bool false] zs.length).toList at hown
  rw [toList_madeCells_one] at hown
  have hb0 := Lib.hid (show Below w.heap.size w W2 from (Below.refl _ _).grown hgrow (Nat.le_refl _) (by simp))
  have hs2 : w.heap.size + 1 ≤ W2.heap.size := by have h9 : w.heap.size < W2.heap.size := (hown.lt _ rfl).2; omega
  replace hown := Lib.hid hown
  have HF := Lib.hid (fun W v h => Fg.encode_any v (someL zs) W h (by omega))
  have HP := Lib.hid (fun W => part_any (Fg.encFlags (someL zs)) W (by have := Fg.encFlags_len (someL zs); omega))
  have HR := Lib.hid (fun W v h => Rl.encode_any v (restL zs) W h (by omega))
  have hE : Hid (str (partL (Fg.encFlags (someL zs))) ++ str (Rl.encR 0 (restL zs)) = str (ranksL zs)) := Lib.hid (str_append _ _)
  have hpl := partL_len (Fg.encFlags (someL zs))
  have hfl := Fg.encFlags_len (someL zs)
  have hb1 : (str (partL (Fg.encFlags (someL zs)))).size ≤ 100000 := by rw [str_size]; omega
  have hb2 : (str (Rl.encR 0 (restL zs))).size ≤ 100000 := by
    rw [str_size]
    have : ∀ (l : List Nat) (p : Nat), (Rl.encR p l).length ≤ 10 * l.length := by
      intro l
      induction l with
      | nil => intro p; simp [Rl.encR]
      | cons x l ih =>
        intro p
        rw [Rl.encR, List.length_append, List.length_cons]
        have := putL_length (Rl.swapN (canon x ^^^ p))
        have := ih (canon x)
        omega
    have := this (restL zs) 0
    omega
  clear hv hz hgrow hpl hfl
  go_enter Tryz.func98, Tryz.ntmps98
  go_wp2_with fail
  clear hmk
  go_loopw [4, 12] (fun o i wr => ∃ k : Nat, i = .int .i64 k ∧ k ≤ zs.length ∧ Hid (wr.ownsRow w.heap.size 4 1 (.slice (some ⟨w.heap.size, 0, none⟩) zs.length zs.length) zs.length (boolCells (someL (zs.take k)) zs.length)) ∧ Hid (Rl.OwnF wr (w.heap.size + 1) o (restL (zs.take k))) ∧ Hid (Below w.heap.size w wr) ∧ w.heap.size + 1 ≤ wr.heap.size) (fun _ i _ => zs.length - (intOf i).toNat)
  case atStart => exact ⟨0, rfl, by omega, hown, Lib.hid (World.ownsRow_nil _ _ _ _), hb0, hs2⟩
  case round =>
    clear hown hb0 hs2
    obtain ⟨k, rfl, hk, hA, hO, hb, hsz⟩ := hrel
    by_cases hlt : k < zs.length
    · have hlt' : (k : Int) < (zs.length : Nat) := by omega
      obtain ⟨b, off, rfl⟩ := HV.out.addr (by omega)
      obtain ⟨z, hx⟩ := some_at hlt
      have hc : wr.cell? ⟨b, off + k, none⟩ = some (.float .f64 z) := (hb.out.cell (p := ⟨b, off + k, none⟩) (sl_lt HV.out (by omega))).trans (sl_one HV.out rfl hx)
      have hzb := HZ.out z (List.mem_of_getElem? hx)
      have HB := Lib.hid (fun W => bits_any z W hzb)
      have hsl : (someL (zs.take k)).length = k := by rw [someL_len, List.length_take]; omega
      have hsn : Hid (someL (zs.take (k + 1)) = someL (zs.take k) ++ [canon z != 0]) := Lib.hid (by rw [take_snoc hx]; unfold someL; simp)
      have hrn : Hid (restL (zs.take (k + 1)) = if (canon z != 0) = true then restL (zs.take k) ++ [z] else restL (zs.take k)) := Lib.hid (by rw [take_snoc hx, rest_snoc])
      have hrll := restL_len (zs.take k)
      rw [List.length_take] at hrll
      have hlo := Lib.hid hO.out.lt
      obtain ⟨a2, c2, rfl⟩ := (own_sl hO.out).len
      clear hx
      have hq : ((canon z : Int) != 0) = (canon z != 0) := by rw [Bool.eq_iff_iff]; simp
      generalize canon z = cz at *
      generalize restL (zs.take k) = rs at *
      go_wp2_with fail
      refine (HB.out _).mono ?_
      rintro e w3 ⟨rfl, hb3⟩
      have hA3 := Lib.hid (own_below hA.out hb3)
      have hO3 := Lib.hid (own_below hO.out hb3)
      have hb4 := Lib.hid (hb.out.trans (hb3.mono hb.out.size))
      have hs3 := hb3.size
      have hf0 : w3.frozen? ⟨w.heap.size, k, none⟩ = false := hA3.out.frozenAt k
      obtain ⟨old, hold⟩ : ∃ u, w3.cell? ⟨w.heap.size, k, none⟩ = some u := by
        rw [hA3.out.cellAt k (by omega)]
        exact some_at (by rw [hA3.out.1]; omega)
      obtain ⟨st1, st2⟩ := hA3.out.stored k (.bool (cz != 0))
      have hset : (boolCells (someL (zs.take k)) zs.length).set k (.bool (cz != 0)) = boolCells (someL (zs.take (k + 1))) zs.length := by
        have h9 := boolCells_set (l := someL (zs.take k)) (n := zs.length) (by omega) (cz != 0)
        rw [hsl, ← hsn.out] at h9
        exact h9
      rw [hset] at st1
      clear hset
      have hAf := Lib.hid st1
      have hbf := Lib.hid (hb4.out.grown st2 hb4.out.size (fun j e => by cases e; exact Nat.le_refl _))
      have hOf := Lib.hid (Dc.own_other hO3.out st2 (by omega))
      have hszf : w.heap.size + 1 ≤ (w3.setCell ⟨w.heap.size, k, none⟩ (.bool (cz != 0))).heap.size := by simp [World.setCell]; omega
      clear hb3 hA hO hb hc st1 st2 hA3 hO3 hb4
      by_cases hcz : cz = 0
      · have hq2 : (cz != 0) = false := by rw [hcz]; rfl
        rw [hq2] at hq hrn hAf hbf hOf hszf
        clear hcz hq2
        go_wp2_with fail
        go_roundw
        case rel => exact ⟨k + 1, by go_num, by omega, hAf, by rw [hrn.out, if_neg (by decide)]; exact hOf, hbf, hszf⟩
        case measure => simp [intOf]; omega
      · have hq2 : (cz != 0) = true := by rw [bne_iff_ne]; exact hcz
        rw [hq2] at hq hrn hAf hbf hOf hszf
        clear hcz hq2
        go_wp2_with (at_builtin; refine wpList_append_src (by rfl) _ _ 164 (by rfl) (w.heap.size + 1) 47 j0 (.float .f64 0) 1 8 Tryz.underlying164 hj hy0 hy1 hy2 rfl (by decide) _ rs.length (Rl.cellsF rs) (by rfl) (World.ownsRow.alloc hOf.out _) _ 1 [.float .f64 z] (by rfl) rfl (src_new (alloc_new_at (n := w3.heap.size) _ (by simp [World.setCell])) _) (Rl.one_float _) (by unfold maxLen; omega) (by omega) (by simp [World.setCell]; omega) ?_; intro v5 w5 hown hgrow)
        have hO5 := Lib.hid (Rl.ownF_snoc hown)
        have hA5 := Lib.hid ((hAf.out.alloc (.cells #[.float .f64 z] 47)).kept hgrow (.inr (fun e => by have h9 : w.heap.size + 1 ≤ w.heap.size := (hlo.out _ e.symm).1; omega)))
        have hb5 := Lib.hid ((hbf.out.alloc hbf.out.size (.cells #[.float .f64 z] 47)).grown hgrow (by simp [World.setCell]; omega) (fun j e => by have := (hlo.out _ e).1; omega))
        have hs5 : w.heap.size + 1 ≤ w5.heap.size := by have := hgrow.size; simp [World.setCell] at this; omega
        clear hown hgrow
        go_wp2_with fail
        go_roundw
        case rel => exact ⟨k + 1, by go_num, by omega, hA5, by rw [hrn.out, if_pos trivial]; exact hO5, hb5, hs5⟩
        case measure => simp [intOf]; omega
    · obtain rfl : k = zs.length := by omega
      have hge : ¬ ((zs.length : Int) < (zs.length : Nat)) := by omega
      rw [List.take_length] at hA hO
      have hA2 : Hid (Bools wr (.slice (some ⟨w.heap.size, 0, none⟩) zs.length zs.length) (someL zs)) := Lib.hid (by
        have := own_sl hA.out
        unfold boolCells at this
        rw [hlen, Nat.sub_self, List.replicate_zero, List.append_nil] at this
        unfold Bools
        rw [hlen]
        exact this)
      have hO2 := Lib.hid (hO.out.flts (fun n hn => HZ.out n (List.mem_filter.1 hn).1))
      obtain ⟨a2, c2, rfl⟩ := (own_sl hO.out).len
      go_wp2_with fail
      refine (HF.out _ _ hA2.out).mono ?_
      rintro e w3 ⟨rfl, hb3⟩
      replace hO2 := Lib.hid (Rl.flts_below hO2.out hb3)
      replace hb := Lib.hid (hb.out.trans (hb3.mono hb.out.size))
      clear hb3
      go_wp2_with fail
      refine (HP.out _).mono ?_
      rintro e w4 ⟨rfl, hb4⟩
      replace hO2 := Lib.hid (Rl.flts_below hO2.out hb4)
      replace hb := Lib.hid (hb.out.trans (hb4.mono hb.out.size))
      clear hb4
      go_wp2_with fail
      refine (HR.out _ _ hO2.out).mono ?_
      rintro e w5 ⟨rfl, hb5⟩
      replace hb := Lib.hid (hb.out.trans (hb5.mono hb.out.size))
      clear hb5
      go_wp2_with fail
      go_ret
      exact ⟨by rw [← hE.out]; rfl, hb.out⟩
theorem decR_ok (l : List Nat) (hz : ∀ z ∈ l, z < 2 * S) (hl : l.length ≤ 400) (w : World) :
    Calls Tryz.prog 212 #[.string (str (Rl.encR 0 l)), .int .i64 (l.length : Nat)] w fun e w' => (∃ r L, e = .returned (.tuple #[r, .int .i64 0]) ∧ Rl.Flts w' r L ∧ L.map canon = l.map canon) ∧ Below w.heap.size w w' := by
  obtain ⟨h1, h2⟩ := Rl.dec_encR hz
  have hlen : ∀ (l : List Nat) (p : Nat), (Rl.encR p l).length ≤ 10 * l.length := by
    intro l
    induction l with
    | nil => intro p; simp [Rl.encR]
    | cons x l ih =>
      intro p
      rw [Rl.encR, List.length_append, List.length_cons]
      have := putL_length (Rl.swapN (canon x ^^^ p))
      have := ih (canon x)
      omega
  have := Rl.decode_any (str (Rl.encR 0 l)) (l.length : Nat) w (by rw [str_size]; have := hlen l 0; omega)
  unfold Rl.DecR at this
  rw [h1, h2] at this
  exact this
theorem canon_zero : canon 0 = 0 := by decide +kernel
theorem flts_tail {W : World} {b o n c m : Nat} {M : List Nat} (h : Rl.Flts W (.slice (some ⟨b, o, none⟩) n c) (m :: M)) : Rl.Flts W (.slice (if c = 1 then some ⟨b, o, none⟩ else some ⟨b, o + 1, none⟩) (n - 1) (c - 1)) M := by
  obtain ⟨⟨a, cap, e, h1, h2⟩, h3⟩ := h
  cases e
  simp only [List.length_cons] at h1 h2
  refine ⟨?_, fun x hx => h3 x (by simp [hx])⟩
  by_cases hc : c = 1
  · rw [if_pos hc]
    have : M = [] := List.eq_nil_of_length_eq_zero (by omega)
    subst this
    exact ⟨some ⟨b, o, none⟩, c - 1, by simp, by simp, fun h => by simp at h⟩
  · rw [if_neg hc]
    refine ⟨_, _, rfl, by omega, fun h0 => ?_⟩
    obtain ⟨b', o', e, hb, hcell⟩ := h2 (by omega)
    cases e
    refine ⟨b, o + 1, rfl, hb, fun j hj => ?_⟩
    have := hcell (j + 1) (by omega)
    rw [show o + 1 + j = o + (j + 1) by omega]
    simpa using this
def VB (b : Nat) (v : Value) (W : World) : Prop := W.heap[b]? = some (.cells #[v] 164 (0, 0))
def T1 (zs : List Nat) (bl B : Nat) (w' : World) : Prop := ∃ y L, VB bl y w' ∧ Rl.OwnF w' B y L ∧ (∀ z ∈ L, z < 2 * S) ∧ L.map canon = zs.map canon
theorem vb_keep {b bl j : Nat} {a : Option Addr} {n c : Nat} {u : Value} {W W' : World} (h : VB bl (.slice a n c) W) (hk : Kept (· = bl) W W') (hu : W.cell? ⟨b, j, none⟩ = some u) (hns : ∀ a n c, u ≠ .slice a n c) : W'.cell? ⟨b, j, none⟩ = some u := by
  have hne : b ≠ bl := by
    rintro rfl
    rw [cell_at h] at hu
    cases j with
    | zero => simp at hu; exact hns _ _ _ hu.symm
    | succ j => simp at hu
  have hlt := World.block_lt_of_cell? _ _ hu
  exact (World.cell?_of_block (w := W) (hk.block b hlt hne)).trans hu
theorem take1_ok (zs : List Nat) (hz : ∀ z ∈ zs, z < 2 * S) (hl : zs.length ≤ 400) (bs bn bl : Nat) (w : World)
    (h0 : w.cell? ⟨bs, 0, none⟩ = some (.string (str (ranksL zs)))) (h1 : w.cell? ⟨bn, 0, none⟩ = some (.int .i64 (zs.length : Nat))) (h2 : VB bl (.slice none 0 0) w) :
    Calls Tryz.prog 209 #[.pointer (some ⟨bs, 0, none⟩), .pointer (some ⟨bn, 0, none⟩), .pointer (some ⟨bl, 0, none⟩)] w fun e w' => e = .returned (.tuple #[]) ∧ T1 zs bl w.heap.size w' ∧ Kept (· = bl) w w' := by
  obtain ⟨j0, hj, hy0, hy1, hy2⟩ := info_parts Rl.infoF
  have hlen := someL_len zs
  have hrl := restL_len zs
  have hcnt := cnt_rest zs
  have HZ := Lib.hid hz
  have hfl := Fg.encFlags_len (someL zs)
  have henc : ∀ (l : List Nat) (p : Nat), (Rl.encR p l).length ≤ 10 * l.length := by
    intro l
    induction l with
    | nil => intro p; simp [Rl.encR]
    | cons x l ih =>
      intro p
      rw [Rl.encR, List.length_append, List.length_cons]
      have := putL_length (Rl.swapN (canon x ^^^ p))
      have := ih (canon x)
      omega
  have HC := Lib.hid (fun W => cut_ok (Fg.encFlags (someL zs)) (Rl.encR 0 (restL zs)) W (by have := henc (restL zs) 0; omega))
  have HF := Lib.hid (fun W => Fg.decode_any (someL zs) W (by omega))
  rw [hlen] at HF
  have HN := Lib.hid (fun W v h => Fg.count_any v (someL zs) W h (by omega))
  rw [hcnt] at HN
  have HR := Lib.hid (fun W => decR_ok (restL zs) (fun z h => HZ.out z (List.mem_filter.1 h).1) (by omega) W)
  have h2' := Lib.hid h2
  have hbl := lt_of_block h2
  have hS : Hid (ranksL zs = partL (Fg.encFlags (someL zs)) ++ Rl.encR 0 (restL zs)) := Lib.hid rfl
  rw [hS.out] at h0
  clear hz h2 hfl henc hcnt
  generalize str (partL (Fg.encFlags (someL zs)) ++ Rl.encR 0 (restL zs)) = Sx at *
  go_enter Tryz.func209, Tryz.ntmps209
  go_wp2_with fail
  refine (HC.out _).mono ?_
  rintro e w1 ⟨rfl, hb1⟩
  have h11 : w1.cell? ⟨bn, 0, none⟩ = some (.int .i64 (zs.length : Nat)) := (hb1.cell (World.block_lt_of_cell? _ _ h1)).trans h1
  replace hb1 := Lib.hid hb1
  go_wp2_with fail
  refine (HF.out _).mono ?_
  rintro e w2 ⟨⟨ys, rfl, hY⟩, hb2⟩
  replace hb1 := Lib.hid (hb1.out.trans (hb2.mono hb1.out.size))
  replace hY := Lib.hid hY
  clear hb2 h11
  go_wp2_with fail
  refine (got_bools _ _).mono ?_
  rintro e w3 ⟨rfl, rfl⟩
  have HN2 := Lib.hid (HN.out _ _ hY.out)
  go_wp2_with fail
  refine HN2.out.mono ?_
  rintro e w3 ⟨rfl, rfl⟩
  go_wp2_with fail
  refine (HR.out _).mono ?_
  rintro e w3 ⟨⟨yr, L0, rfl, hL0, hLc⟩, hb3⟩
  replace hb1 := Lib.hid (hb1.out.trans (hb3.mono hb1.out.size))
  replace hY := Lib.hid (hY.out.below hb3)
  replace hL0 := Lib.hid hL0
  replace hLc := Lib.hid hLc
  clear hb3 HN2
  go_wp2_with fail
  refine (got_flts _ _).mono ?_
  rintro e w4 ⟨rfl, rfl⟩
  have hV := Lib.hid (show VB bl (.slice none 0 0) w3 from (hb1.out.block _ hbl).trans h2'.out)
  obtain ⟨a, cap, rfl⟩ := hY.out.len
  have hsz3 := hb1.out.size
  go_wp2_with fail
  go_loopw [6, 30] (fun r i wr => ∃ (k : Nat) (M acc : List Nat) (y : Value), i = .int .i64 k ∧ k ≤ zs.length ∧ Hid (Rl.Flts w3 r M) ∧ Hid (M.map canon = (restL (zs.drop k)).map canon) ∧ Hid (VB bl y wr) ∧ Hid (Rl.OwnF wr w3.heap.size y acc) ∧ Hid (∀ z ∈ acc, z < 2 * S) ∧ Hid (acc.map canon = (zs.take k).map canon) ∧ Hid (Kept (· = bl) w3 wr)) (fun _ i _ => zs.length - (intOf i).toNat)
  case atStart => exact ⟨0, L0, [], _, rfl, by omega, hL0, hLc, hV, Lib.hid (World.ownsRow_nil _ _ _ _), Lib.hid (fun z h => by simp at h), Lib.hid rfl, Lib.hid (Kept.refl _ _)⟩
  case round =>
    clear hL0 hLc hV
    obtain ⟨k, M, acc, y, rfl, hk, hM, hMc, hV, hO, hab, hac, hK⟩ := hrel
    by_cases hlt : k < zs.length
    · have hlt' : (k : Int) < (zs.length : Nat) := by omega
      obtain ⟨z, hx⟩ := some_at hlt
      obtain ⟨b, off, rfl⟩ := hY.out.addr (by rw [hlen]; omega)
      have hwl := Nat.lt_of_lt_of_le (lt_of_block hV.out) (Nat.le_refl _)
      obtain ⟨ay, ny, cy, hye⟩ : ∃ ay ny cy, y = .slice ay ny cy := by obtain ⟨ay, cy, e⟩ := (own_sl hO.out).len; exact ⟨_, _, _, e⟩
      have hV3 : VB bl (.slice none 0 0) w3 := (hb1.out.block _ hbl).trans h2'.out
      have hc : wr.cell? ⟨b, off + k, none⟩ = some (.bool (canon z != 0)) := vb_keep hV3 hK.out (sl_one hY.out rfl (j := k) (x := (canon z != 0)) (by unfold someL; rw [List.getElem?_map, hx]; rfl)) (fun _ _ _ e => by cases e)
      have hzb := HZ.out z (List.mem_of_getElem? hx)
      have hac2 : Hid (∀ f : Nat, canon f = canon z → (acc ++ [f]).map canon = (zs.take (k + 1)).map canon) := Lib.hid (fun f hf => by rw [take_snoc hx, List.map_append, List.map_append, hac.out, List.map_cons, List.map_nil, hf]; rfl)
      have hlo := Lib.hid hO.out.lt
      have hszr : w3.heap.size ≤ wr.heap.size := hK.out.size
      have hacb : acc.length ≤ 400 := by have := congrArg List.length hac.out; rw [List.length_map, List.length_map, List.length_take] at this; omega
      obtain ⟨a5, c5, hye2⟩ := (own_sl hO.out).len
      subst hye2
      clear hye
      have hltS : (k : Int) < ((someL zs).length : Nat) := by omega
      have hdr := Lib.hid (congrArg restL (drop_cons hx))
      rw [rest_cons] at hdr
      by_cases hcz : canon z = 0
      · have hq2 : (canon z != 0) = false := by rw [hcz]; rfl
        rw [hq2] at hc hdr
        have hMc2 : Hid (M.map canon = (restL (zs.drop (k + 1))).map canon) := Lib.hid (by rw [hMc.out, hdr.out, if_neg (by decide)])
        have hac3 := Lib.hid (hac2.out 0 (by rw [hcz]; exact canon_zero))
        have hab3 : Hid (∀ z ∈ acc ++ [0], z < 2 * S) := Lib.hid (fun z h => by
          rw [List.mem_append, List.mem_singleton] at h
          rcases h with h | rfl
          · exact hab.out z h
          · decide)
        clear hx hcz hq2 hMc hac2 hdr
        have hV4 := hV.out
        have cv : wr.cell? ⟨bl, 0, none⟩ = some _ := cell_at hV4 0
        replace hV4 := Lib.hid hV4
        go_wp2_with (at_builtin; refine wpList_append_src (by rfl) _ _ 164 (by rfl) w3.heap.size 47 j0 (.float .f64 0) 1 8 Tryz.underlying164 hj hy0 hy1 hy2 rfl (by decide) _ acc.length (Rl.cellsF acc) (by rfl) (World.ownsRow.alloc hO.out _) _ 1 [.float .f64 0] (by rfl) rfl (src_new (alloc_new wr _) _) (Rl.one_float _) (by unfold maxLen; omega) (by omega) (by simp; omega) ?_; intro v6 w6 hown hgrow; obtain ⟨a6, c6, h6⟩ := (own_sl hown).len; subst h6; have hV6 : VB bl _ w6 := (hgrow.block _ (by simp; omega) (fun e => by have := (hlo.out _ e.symm).1; omega)).trans (alloc_at _ hV4.out); have cf := free_at hV6 0; have cc := cell_at hV6 0; have hO6 := Lib.hid (Rl.ownF_snoc hown); have hK6 := Lib.hid ((hK.out.alloc (.cells #[.float .f64 0] 47)).grown hgrow (fun j e hlt => by have := (hlo.out j e).1; omega)); clear hown hgrow)
        have hVf := Lib.hid (show VB bl (.slice a6 (acc.length + 1) c6) (w6.setCell ⟨bl, 0, none⟩ (.slice a6 (acc.length + 1) c6)) from (set_at hV6 0 _).trans rfl)
        have hKf := Lib.hid (hK6.out.setCell (p := ⟨bl, 0, none⟩) (fun _ => rfl) (.slice a6 (acc.length + 1) c6))
        have hOf := Lib.hid (show Rl.OwnF (w6.setCell ⟨bl, 0, none⟩ (.slice a6 (acc.length + 1) c6)) w3.heap.size (.slice a6 (acc.length + 1) c6) (acc ++ [0]) from Bd.own_setCell hO6.out (Nat.lt_of_lt_of_le hbl hsz3) _)
        go_roundw
        case rel => exact ⟨k + 1, M, acc ++ [0], _, by go_num, by omega, hM, hMc2, hVf, hOf, hab3, hac3, hKf⟩
        case measure => simp [intOf]; omega
      · have hq2 : (canon z != 0) = true := by rw [bne_iff_ne]; exact hcz
        rw [hq2] at hc hdr
        have hMc1 : M.map canon = canon z :: (restL (zs.drop (k + 1))).map canon := by rw [hMc.out, hdr.out, if_pos rfl, List.map_cons]
        obtain ⟨m, M', rfl⟩ : ∃ m M', M = m :: M' := by
          cases M with
          | nil => exact absurd hMc1 (by simp)
          | cons m M' => exact ⟨m, M', rfl⟩
        rw [List.map_cons, List.cons.injEq] at hMc1
        obtain ⟨hm, hMc2⟩ := hMc1
        have hac3 := Lib.hid (hac2.out m hm)
        have hmb : m < 2 * S := hM.out.2 m (by simp)
        have hab3 : Hid (∀ z ∈ acc ++ [m], z < 2 * S) := Lib.hid (fun z h => by
          rw [List.mem_append, List.mem_singleton] at h
          rcases h with h | rfl
          · exact hab.out z h
          · exact hmb)
        have hHS := Lib.hid (fun W => same_any m 0 W hmb (by decide))
        have hbq : (canon m == canon 0) = false := by rw [hm, canon_zero]; exact beq_eq_false_iff_ne.2 hcz
        rw [hbq] at hHS
        replace hMc2 := Lib.hid hMc2
        clear hMc
        obtain ⟨⟨ar, cr, rfl, hn1, hn2⟩, hn3⟩ := hM.out
        obtain ⟨b2, o2, rfl, hb2, hc2⟩ := hn2 (by simp)
        have hT := flts_tail hM.out
        have hcm : wr.cell? ⟨b2, o2, none⟩ = some (.float .f64 m) := by
          have h9 := hc2 0 (by simp)
          exact vb_keep hV3 hK.out h9 (fun _ _ _ e => by cases e)
        rw [List.length_cons] at hn1 hT
        clear hx hcz hq2 hac2 hdr hm hn2 hn3 hc2 hbq
        have g1 : ∃ Lr, Lr = M'.length + 1 := ⟨_, rfl⟩
        obtain ⟨Lr, hLr⟩ := g1
        rw [List.length_cons, ← hLr]
        rw [← hLr] at hT hn1
        have hL0 : (0 : Int) < (Lr : Nat) := by omega
        have hL1 : 0 < Lr := by omega
        have hL2 : (1 : Int) ≤ (Lr : Nat) := by omega
        have hL3 : (Lr : Int) ≤ (cr : Nat) := by omega
        have hL4 : (1 : Int) ≤ (cr : Nat) := by omega
        have hL5 : ((Lr : Int) - 1).toNat = Lr - 1 := by omega
        have hL6 : ((cr : Int) - 1).toNat = cr - 1 := by omega
        clear hLr
        by_cases hcr : cr = 1
        · subst hcr
          rw [if_pos rfl, show Lr - 1 = 0 by omega] at hT
          have hT0 := Lib.hid hT
          go_wp2_with fail
          go_quiet (fail)
          go_wp2_with fail
          refine (hHS.out _).mono ?_
          rintro e w5 ⟨rfl, hb5'⟩
          have hb5 : Below wr.heap.size wr w5 := (bel_drewN (Below.refl _ wr) _).trans hb5'
          have hO4 := Lib.hid (own_below hO.out hb5)
          have hV4 : VB bl _ w5 := (hb5.block _ hwl).trans hV.out
          have hK4 := Lib.hid (hK.out.below hb5)
          have cv : w5.cell? ⟨bl, 0, none⟩ = some _ := cell_at hV4 0
          have hs5 := hb5.size
          clear hb5 hb5'
          go_wp2_with (at_builtin; refine wpList_append_src (by rfl) _ _ 164 (by rfl) w3.heap.size 47 j0 (.float .f64 0) 1 8 Tryz.underlying164 hj hy0 hy1 hy2 rfl (by decide) _ acc.length (Rl.cellsF acc) (by rfl) (World.ownsRow.alloc hO4.out _) _ 1 [.float .f64 m] (by rfl) rfl (src_new (alloc_new w5 _) _) (Rl.one_float _) (by unfold maxLen; omega) (by omega) (by simp; omega) ?_; intro v6 w6 hown hgrow; obtain ⟨a6, c6, h6⟩ := (own_sl hown).len; subst h6; have hV6 : VB bl _ w6 := (hgrow.block _ (by simp; omega) (fun e => by have := (hlo.out _ e.symm).1; omega)).trans (alloc_at _ hV4); have cf := free_at hV6 0; have cc := cell_at hV6 0; have hO6 := Lib.hid (Rl.ownF_snoc hown); have hK6 := Lib.hid ((hK4.out.alloc (.cells #[.float .f64 m] 47)).grown hgrow (fun j e hlt => by have := (hlo.out j e).1; omega)); clear hown hgrow)
          have hVf := Lib.hid (show VB bl (.slice a6 (acc.length + 1) c6) (w6.setCell ⟨bl, 0, none⟩ (.slice a6 (acc.length + 1) c6)) from (set_at hV6 0 _).trans rfl)
          have hKf := Lib.hid (hK6.out.setCell (p := ⟨bl, 0, none⟩) (fun _ => rfl) (.slice a6 (acc.length + 1) c6))
          have hOf := Lib.hid (show Rl.OwnF (w6.setCell ⟨bl, 0, none⟩ (.slice a6 (acc.length + 1) c6)) w3.heap.size (.slice a6 (acc.length + 1) c6) (acc ++ [m]) from Bd.own_setCell hO6.out (Nat.lt_of_lt_of_le hbl hsz3) _)
          go_roundw
          case rel => exact ⟨k + 1, M', acc ++ [m], _, by go_num, by omega, hT0, hMc2, hVf, hOf, hab3, hac3, hKf⟩
          case measure => simp [intOf]; omega
        · have hcr1 : ¬ cr = 1 := hcr
          have hcr2 : ¬ cr - 1 = 0 := by omega
          have hcr3 : ¬ (cr : Int) - 1 = 0 := by omega
          rw [if_neg hcr] at hT
          go_wp2_with fail
          go_quiet (fail)
          go_wp2_with fail
          refine (hHS.out _).mono ?_
          rintro e w5 ⟨rfl, hb5'⟩
          have hb5 : Below wr.heap.size wr w5 := (bel_drewN (Below.refl _ wr) _).trans hb5'
          have hO4 := Lib.hid (own_below hO.out hb5)
          have hV4 : VB bl _ w5 := (hb5.block _ hwl).trans hV.out
          have hK4 := Lib.hid (hK.out.below hb5)
          have cv : w5.cell? ⟨bl, 0, none⟩ = some _ := cell_at hV4 0
          have hs5 := hb5.size
          clear hb5 hb5'
          go_wp2_with (at_builtin; refine wpList_append_src (by rfl) _ _ 164 (by rfl) w3.heap.size 47 j0 (.float .f64 0) 1 8 Tryz.underlying164 hj hy0 hy1 hy2 rfl (by decide) _ acc.length (Rl.cellsF acc) (by rfl) (World.ownsRow.alloc hO4.out _) _ 1 [.float .f64 m] (by rfl) rfl (src_new (alloc_new w5 _) _) (Rl.one_float _) (by unfold maxLen; omega) (by omega) (by simp; omega) ?_; intro v6 w6 hown hgrow; obtain ⟨a6, c6, h6⟩ := (own_sl hown).len; subst h6; have hV6 : VB bl _ w6 := (hgrow.block _ (by simp; omega) (fun e => by have := (hlo.out _ e.symm).1; omega)).trans (alloc_at _ hV4); have cf := free_at hV6 0; have cc := cell_at hV6 0; have hO6 := Lib.hid (Rl.ownF_snoc hown); have hK6 := Lib.hid ((hK4.out.alloc (.cells #[.float .f64 m] 47)).grown hgrow (fun j e hlt => by have := (hlo.out j e).1; omega)); clear hown hgrow)
          have hVf := Lib.hid (show VB bl (.slice a6 (acc.length + 1) c6) (w6.setCell ⟨bl, 0, none⟩ (.slice a6 (acc.length + 1) c6)) from (set_at hV6 0 _).trans rfl)
          have hKf := Lib.hid (hK6.out.setCell (p := ⟨bl, 0, none⟩) (fun _ => rfl) (.slice a6 (acc.length + 1) c6))
          have hOf := Lib.hid (show Rl.OwnF (w6.setCell ⟨bl, 0, none⟩ (.slice a6 (acc.length + 1) c6)) w3.heap.size (.slice a6 (acc.length + 1) c6) (acc ++ [m]) from Bd.own_setCell hO6.out (Nat.lt_of_lt_of_le hbl hsz3) _)
          go_roundw
          case rel => exact ⟨k + 1, M', acc ++ [m], _, by go_num, by omega, Lib.hid hT, hMc2, hVf, hOf, hab3, hac3, hKf⟩
          case measure => simp [intOf]; omega
    · obtain rfl : k = zs.length := by omega
      have hge : ¬ ((zs.length : Int) < ((someL zs).length : Nat)) := by omega
      rw [List.take_length] at hac
      go_wp2_with fail
      go_end0
      exact ⟨rfl, ⟨y, acc, hV.out, own_mono hO.out hsz3, hab.out, hac.out⟩, (Kept.of_below hb1.out).trans hK.out⟩
theorem takeRanks_ok (zs : List Nat) (hz : ∀ z ∈ zs, z < 2 * S) (hl : zs.length ≤ 400) (w : World) :
    Calls Tryz.prog 159 #[.string (str (ranksL zs)), .int .i64 (zs.length : Nat)] w fun e w' => (∃ y L, e = .returned (.tuple #[y, .int .i64 0]) ∧ Rl.Flts w' y L ∧ L.map canon = zs.map canon) ∧ Below w.heap.size w w' := by
  have hmf : ∀ (fn : Fn) (first cap : Array Value) (w : World), (Instr.makeFunc fn first cap).run Tryz.prog w = .ok (.func fn first cap) w := fun _ _ _ _ => rfl
  have hz' := Lib.hid hz
  clear hz
  have hcf : ∀ w1 a b c, (callFunc 209 #[a, b, c]).run Tryz.prog w1 = .ok (.enter 209 #[a, b, c]) w1 := fun _ _ _ _ => rfl
  have HG := Lib.hid (fun (W : World) (a b c : Value) R => guard_ok 209 #[a, b, c] W R (fun w1 => hcf w1 a b c))
  clear hcf
  go_enter Tryz.func159, Tryz.ntmps159
  go_wp2_with fail
  have e0 : (((w.alloc (Obj.cells #[Value.string (str (ranksL zs))] 9)).alloc (Obj.cells #[Value.int IntKind.i64 ↑zs.length] 3)).alloc (Obj.cells #[Value.slice none 0 0] 164)).heap.size = w.heap.size + 1 + 1 + 1 := by simp
  have e1 := alloc_at (.cells #[Value.slice none 0 0] 164) (alloc_at (.cells #[Value.int IntKind.i64 ↑zs.length] 3) (alloc_new w (.cells #[Value.string (str (ranksL zs))] 9)))
  have e2 := alloc_at (.cells #[Value.slice none 0 0] 164) (alloc_new_at (n := w.heap.size + 1) (w := w.alloc (.cells #[Value.string (str (ranksL zs))] 9)) (.cells #[Value.int IntKind.i64 ↑zs.length] 3) (by simp))
  have e3 := alloc_new_at (n := w.heap.size + 1 + 1) (w := (w.alloc (.cells #[Value.string (str (ranksL zs))] 9)).alloc (.cells #[Value.int IntKind.i64 ↑zs.length] 3)) (.cells #[Value.slice none 0 0] 164) (by simp)
  have e4 := (((Below.refl w.heap.size w).alloc (Nat.le_refl _) (.cells #[Value.string (str (ranksL zs))] 9)).alloc (by simp) (.cells #[Value.int IntKind.i64 ↑zs.length] 3)).alloc (by simp; omega) (.cells #[Value.slice none 0 0] 164)
  generalize ((w.alloc (Obj.cells #[Value.string (str (ranksL zs))] 9)).alloc (Obj.cells #[Value.int IntKind.i64 ↑zs.length] 3)).alloc (Obj.cells #[Value.slice none 0 0] 164) = W at *
  refine (HG.out W _ _ _ (fun w' => T1 zs (w.heap.size + 1 + 1) (W.heap.size + 1) w' ∧ Kept (· = w.heap.size + 1 + 1) W w') (fun w1 hb hs => ?_)).mono ?_
  · have g0 : w1.heap[w.heap.size + 1 + 1]? = _ := (hb.block _ (by omega)).trans e3
    refine (take1_ok zs hz'.out hl _ _ _ w1 (cell_at (below_at hb e1 (by omega)) 0) (cell_at (below_at hb e2 (by omega)) 0) g0).mono ?_
    rintro e w2 ⟨rfl, ⟨y, L, h1, h2, h3, h4⟩, hk⟩
    exact ⟨rfl, hk.block _ hs (by omega), ⟨y, L, h1, own_mono h2 hs, h3, h4⟩, (Kept.of_below hb).trans hk⟩
  · rintro e w1 ⟨rfl, w2, ⟨⟨y, L, h1, h2, h3, h4⟩, hk⟩, rfl⟩
    have hV : VB (w.heap.size + 1 + 1) y (w2.setCell ⟨W.heap.size, 0, none⟩ (.int .i64 0)) := set_other h1 (by simp; omega) _
    have hc := cell_at hV 0
    have hO := Lib.hid (Rl.OwnF.flts (Bd.own_setCell h2 (by show W.heap.size < _; omega) (.int .i64 0) : Rl.OwnF (w2.setCell ⟨W.heap.size, 0, none⟩ (.int .i64 0)) (W.heap.size + 1) y L) h3)
    have hB := Lib.hid (e4.trans (((hk.to_below (B := w.heap.size) (by omega) (fun k h => by omega)).setCell (p := ⟨W.heap.size, 0, none⟩) (by simp; omega) (.int .i64 0))))
    have h4' := Lib.hid h4
    clear h1 h2 h3 hk hV h4 e0 e1 e2 e3 e4 HG
    generalize w2.setCell ⟨W.heap.size, 0, none⟩ (.int .i64 0) = W5 at *
    go_wp2_with fail
    go_ret2
    exact ⟨⟨y, L, rfl, hO.out, h4'.out⟩, hB.out⟩
end Og
end
section
open Go.RowKit
namespace Mem
structure Fam (w : World) (B : Nat) (L : List (TypeId × Value × List Value)) : Prop where
  own : ∀ (i : Nat) p, L[i]? = some p → w.ownsRow B p.1 1 p.2.1 p.2.2.length p.2.2
  ap : ∀ (i j : Nat) p q, i ≠ j → L[i]? = some p → L[j]? = some q → Ap p.2.1 q.2.1
theorem ap_row {w : World} {B : Nat} {e : TypeId} {v : Value} {n : Nat} {xs : List Value} (h : w.ownsRow B e 1 v n xs) : ∀ k, v.ownBlock = some k → k < w.heap.size := fun k e => (h.lt k e).2
theorem Fam.nil (w : World) (B : Nat) (ts : List TypeId) : Fam w B (ts.map fun t => (t, .slice none 0 0, [])) := by
  refine ⟨fun i p h => ?_, fun i j p q _ hp _ => ?_⟩
  · rw [List.getElem?_map] at h
    obtain ⟨t, _, rfl⟩ := Option.map_eq_some_iff.1 h
    exact World.ownsRow_nil _ _ _ _
  · rw [List.getElem?_map] at hp
    obtain ⟨t, _, rfl⟩ := Option.map_eq_some_iff.1 hp
    exact ap_nil' _
theorem Fam.alloc {w : World} {B : Nat} {L} (h : Fam w B L) (o : Obj) : Fam (w.alloc o) B L := ⟨fun i p hp => (h.own i p hp).alloc o, h.ap⟩
theorem Fam.below {w w' : World} {B : Nat} {L} (h : Fam w B L) (hb : Below w.heap.size w w') : Fam w' B L := ⟨fun i p hp => own_below (h.own i p hp) hb, h.ap⟩
theorem Fam.drew {w : World} {B : Nat} {L} (h : Fam w B L) : Fam w.drew B L := h.below (Below.refl _ _).drew
theorem Fam.app {w w' : World} {B : Nat} {L : List (TypeId × Value × List Value)} (h : Fam w B L) {i : Nat} {e : TypeId} {v v' : Value} {xs : List Value} {x : Value} (hi : L[i]? = some (e, v, xs))
    (hO : w'.ownsRow B e 1 v' (xs.length + 1) (xs ++ [x])) (hg : w.grownBy w' v.ownBlock) (hn : Near w v v') : Fam w' B (L.set i (e, v', xs ++ [x])) := by
  have hlt := (List.getElem?_eq_some_iff.1 hi).1
  refine ⟨fun j p hp => ?_, fun j k p q hjk hp hq => ?_⟩
  · rw [List.getElem?_set] at hp
    by_cases hij : i = j
    · rw [if_pos hij, if_pos (hij ▸ hlt)] at hp
      obtain rfl := Option.some.inj hp
      rw [List.length_append, List.length_singleton]
      exact hO
    · rw [if_neg hij] at hp
      exact (h.ap j i p _ (fun e => hij e.symm) hp hi).kept (h.own j p hp) hg
  · rw [List.getElem?_set] at hp hq
    by_cases hij : i = j
    · rw [if_pos hij, if_pos (hij ▸ hlt)] at hp
      obtain rfl := Option.some.inj hp
      rw [if_neg (by omega)] at hq
      exact (Ap.near (h.ap k i q _ (by omega) hq hi) hn (ap_row (h.own k q hq))).symm
    · rw [if_neg hij] at hp
      by_cases hik : i = k
      · rw [if_pos hik, if_pos (hik ▸ hlt)] at hq
        obtain rfl := Option.some.inj hq
        exact Ap.near (h.ap j i p _ (by omega) hp hi) hn (ap_row (h.own j p hp))
      · rw [if_neg hik] at hq
        exact h.ap j k p q hjk hp hq
theorem fam_own {w : World} {B : Nat} {L : List (TypeId × Value × List Value)} (h : Fam w B L) {i : Nat} {e : TypeId} {v : Value} {xs : List Value} (hi : L[i]? = some (e, v, xs)) : w.ownsRow B e 1 v xs.length xs := h.own i _ hi
theorem second_new (w : World) (o o' : Obj) : ((w.alloc o).alloc o').heap[w.heap.size + 1]? = some o' := by
  have := alloc_new (w.alloc o) o'
  rw [World.size_alloc] at this
  exact this
theorem fam_other {w w' : World} {v : Value} (hg : w.grownBy w' v.ownBlock) {b : Nat} {o : Obj} (hb : w.heap[b]? = some o) (hne : v.ownBlock ≠ some b) : w'.heap[b]? = some o :=
  (hg.block b (lt_of_block hb) (fun e => hne e.symm)).trans hb
theorem fam_not {w : World} {B : Nat} {L : List (TypeId × Value × List Value)} (h : Fam w B L) {i : Nat} {e : TypeId} {v : Value} {xs : List Value} (hi : L[i]? = some (e, v, xs)) {b : Nat} {cs : Array Value} {t : TypeId} {f : Nat × Nat} (hb : w.heap[b]? = some (.cells cs t f)) (hne : e ≠ t) : v.ownBlock ≠ some b := fun e' => by
  rcases (h.own i _ hi).2 with h2 | ⟨g, cap, cur, ev, -, hh, -⟩
  · have h3 : v = .slice none 0 0 := h2.1
    rw [h3] at e'
    cases e'
  · have ev' : v = .slice (some ⟨g, 0, none⟩) xs.length cap := ev
    rw [ev'] at e'
    obtain rfl : g = b := Option.some.inj e'
    rw [hb] at hh
    cases hh
    exact hne rfl
theorem one_cell {v : Value} (h : v.oneCell' = true) : ∀ x ∈ [v], x.oneCell' = true := fun x hx => by
  rw [List.mem_singleton] at hx
  subst hx
  exact h
end Mem
end
section
open Go.RowKit
namespace Mr
open Mem Tp
theorem alloc_new_at {w : World} {n : Nat} (x : Obj) (h : w.heap.size = n) : (w.alloc x).heap[n]? = some x := by subst h; exact alloc_new w x
def nextV (o : Option Tm) : Value := match o with
  | none => .tuple #[tmV ⟨0, 0⟩, .bool false]
  | some t => .tuple #[tmV t, .bool true]
theorem top_eq (fl : Tm) (v : List Mk) : (fl.c :: v.map (·.cnt)).foldl max 0 = topM fl v := by
  unfold topM
  rw [List.foldl_cons, List.foldl_map]
theorem infoInt : (Tryz.prog.info? 3).map (fun i => (i.zero, i.size, i.bytes)) = some (some (.int .i64 0), 1, 8) := by kernel_rfl
theorem infoTime : (Tryz.prog.info? 24).map (fun i => (i.zero, i.size, i.bytes)) = some (some (.agg #[.int .i64 0, .int .i64 0]), 2, 16) := by kernel_rfl
theorem next_any (v : Value) (l : List Mk) (fl : Tm) (who : Int) (w : World) (hS : Mem.Mks w v l) (hl : l.length ≤ 4000) :
    Calls Tryz.prog 100 #[v, tmV fl, .int .i64 who] w fun e w' => e = .returned (nextV (nextM l fl who)) ∧ Below w.heap.size w w' := by
  obtain ⟨i0, hi, hz0, hz1, hz2⟩ := info_parts infoInt
  have htin : (Tryz.prog.info? 24).map (·.size) = some 2 := by obtain ⟨i1, hi1, -, h1, -⟩ := info_parts infoTime; rw [hi1]; simp [h1]
  obtain ⟨a, c, rfl⟩ := hS.len
  have HS := Lib.hid hS
  have HG := Lib.hid (fun (W : World) (u : Value) (h : Is W u (fl.c :: l.map (·.cnt))) => greatest_any u (fl.c :: l.map (·.cnt)) 0 W h (by simp; omega))
  rw [top_eq] at HG
  clear hS
  unfold tmV
  go_enter Tryz.func100, Tryz.ntmps100
  go_wp2_with fail
  have hb0 := Lib.hid ((((Below.refl w.heap.size w).alloc (Nat.le_refl _) (.cells #[.int .i64 fl.c, .int .i64 fl.r] 24)).alloc (by simp) (.cells #[.int .i64 0, .int .i64 0] 24)).alloc (by simp; omega) (.cells #[.int .i64 fl.c] 3))
  have hg1 : Hid ((((w.alloc (.cells #[.int .i64 fl.c, .int .i64 fl.r] 24)).alloc (.cells #[.int .i64 0, .int .i64 0] 24)).alloc (.cells #[.int .i64 fl.c] 3)).heap[w.heap.size + 1]? = some (.cells #[.int .i64 0, .int .i64 0] 24 (0, 0))) := Lib.hid (alloc_at _ (by
    have := alloc_new (w.alloc (.cells #[.int .i64 fl.c, .int .i64 fl.r] 24)) (.cells #[.int .i64 0, .int .i64 0] 24)
    simpa using this))
  have hg2 : (((w.alloc (.cells #[.int .i64 fl.c, .int .i64 fl.r] 24)).alloc (.cells #[.int .i64 0, .int .i64 0] 24)).alloc (.cells #[.int .i64 fl.c] 3)).heap[w.heap.size + 1 + 1]? = some (.cells #[.int .i64 fl.c] 3 (0, 0)) := by
    have := alloc_new ((w.alloc (.cells #[.int .i64 fl.c, .int .i64 fl.r] 24)).alloc (.cells #[.int .i64 0, .int .i64 0] 24)) (.cells #[.int .i64 fl.c] 3)
    simpa using this
  have hO0 : Hid ((((w.alloc (.cells #[.int .i64 fl.c, .int .i64 fl.r] 24)).alloc (.cells #[.int .i64 0, .int .i64 0] 24)).alloc (.cells #[.int .i64 fl.c] 3)).ownsRow (w.heap.size + 1 + 1) 3 1 (.slice (some ⟨w.heap.size + 1 + 1, 0, none⟩) 1 1) 1 [.int .i64 fl.c]) := Lib.hid ⟨rfl, .inr ⟨_, 1, _, rfl, Nat.le_refl _, hg2, Nat.le_refl _, by unfold maxLen; omega, rfl, rfl⟩⟩
  clear hg2
  generalize ((w.alloc (.cells #[.int .i64 fl.c, .int .i64 fl.r] 24)).alloc (.cells #[.int .i64 0, .int .i64 0] 24)).alloc (.cells #[.int .i64 fl.c] 3) = W at *
  go_loopw [8, 17] (fun o i wr => ∃ k : Nat, i = .int .i64 k ∧ k ≤ l.length ∧ Hid (wr.ownsRow (w.heap.size + 1 + 1) 3 1 o (k + 1) ((fl.c :: (l.take k).map (·.cnt)).map i64C)) ∧ Hid (Below w.heap.size w wr) ∧ Hid (wr.heap[w.heap.size + 1]? = some (.cells #[.int .i64 0, .int .i64 0] 24 (0, 0)))) (fun _ i _ => l.length - (intOf i).toNat)
  case atStart => exact ⟨0, rfl, by omega, hO0, hb0, hg1⟩
  case round =>
    clear hO0 hb0 hg1
    obtain ⟨k, rfl, hk, hO, hb, hg⟩ := hrel
    by_cases hlt : k < l.length
    · have hlt' : (k : Int) < (l.length : Nat) := by omega
      obtain ⟨x, hx⟩ := some_at hlt
      obtain ⟨b, off, rfl⟩ := HS.out.addr (by omega)
      obtain ⟨q0, q1⟩ := mk_at (HS.out.below hb.out) rfl hx
      have hsn : Hid ((fl.c :: (l.take k).map (·.cnt)).map i64C ++ [.int .i64 x.cnt] = (fl.c :: (l.take (k + 1)).map (·.cnt)).map i64C) := Lib.hid (by rw [take_snoc hx]; simp [i64C])
      have hwl := lt_of_block hg.out
      have hlo := Lib.hid hO.out.lt
      have hOx := Lib.hid (World.ownsRow.alloc hO.out (.cells #[.int .i64 x.rep, .int .i64 x.cnt] 112))
      have hbx := Lib.hid (hb.out.alloc (by omega) (.cells #[.int .i64 x.rep, .int .i64 x.cnt] 112))
      have hgx := Lib.hid (alloc_at (.cells #[.int .i64 x.rep, .int .i64 x.cnt] 112) hg.out)
      generalize (fl.c :: (l.take k).map (·.cnt)).map i64C = cs at *
      clear hx hO hb hg
      go_wp2_with (at_builtin; refine wpList_append_src (by rfl) _ _ 82 (by rfl) (w.heap.size + 1 + 1) 3 i0 _ 1 8 Tryz.underlying82 hi hz0 hz1 hz2 rfl (by decide) _ (k + 1) cs (by rfl) (World.ownsRow.alloc hOx.out _) _ 1 [.int .i64 x.cnt] (by rfl) rfl (src_new (alloc_new_at (n := wr.heap.size + 1) _ (by simp)) _) (by intro u hu; rw [List.mem_singleton.1 hu]; rfl) (by unfold maxLen; omega) (by omega) (by simp; omega) ?_; intro v5 w5 hown hgrow; replace hown := Lib.hid hown; replace hgrow := Lib.hid hgrow)
      have hO5 : Hid (w5.ownsRow (w.heap.size + 1 + 1) 3 1 v5 (k + 1 + 1) ((fl.c :: (l.take (k + 1)).map (·.cnt)).map i64C)) := Lib.hid (by rw [← hsn.out]; exact hown.out)
      have hb5 := Lib.hid ((hbx.out.alloc (by simp; omega) (.cells #[.int .i64 x.cnt] 3)).grown hgrow.out (by simp; omega) (fun j e => by have := (hlo.out _ e).1; omega))
      have hg5 : Hid (w5.heap[w.heap.size + 1]? = some (.cells #[.int .i64 0, .int .i64 0] 24 (0, 0))) := Lib.hid ((hgrow.out.block _ (by simp; omega) (fun e => by have := (hlo.out _ e.symm).1; omega)).trans (alloc_at _ hgx.out))
      go_roundw
      case rel => exact ⟨k + 1, by go_num, by omega, hO5, hb5, hg5⟩
      case measure => simp [intOf]; omega
    · obtain rfl : k = l.length := by omega
      have hge : ¬ ((l.length : Int) < (l.length : Nat)) := by omega
      rw [List.take_length] at hO
      have hI : Hid (Is wr _ (fl.c :: l.map (·.cnt))) := Lib.hid (by
        have := own_sl hO.out
        unfold Is
        rwa [List.length_cons, List.length_map])
      go_wp2_with fail
      refine (HG.out _ _ hI.out).mono ?_
      rintro e w3 ⟨rfl, rfl⟩
      have f0 := free_at hg.out 0
      have f1 := free_at hg.out 1
      have c0 : wr.cell? ⟨w.heap.size + 1, 0, none⟩ = some (.int .i64 0) := cell_at hg.out 0
      have c1 : wr.cell? ⟨w.heap.size + 1, 1, none⟩ = some (.int .i64 0) := cell_at hg.out 1
      have hN : nextM l fl who = if 4611686018427387903 ≤ topM fl l ∨ who < 1 ∨ 255 < who then none else some ⟨topM fl l + 1, who⟩ := rfl
      have ht0 : 0 ≤ topM fl l := by
        rw [← top_eq]
        have : ∀ (l : List Int) (x : Int), x ≤ l.foldl max x := by
          intro l
          induction l with
          | nil => intro x; simp
          | cons y l ih => intro x; rw [List.foldl_cons]; have := ih (max x y); omega
        exact this _ _
      generalize topM fl l = n at *
      have hfin : ∀ (x y : Int) (b : Bool) (tmps : Array Value), tmps.getD 6 undef = .pointer (some ⟨w.heap.size + 1, 0, none⟩) → tmps.getD 7 undef = .bool b →
          (results Tryz.f100 tmps).run Tryz.prog ((wr.setCell ⟨w.heap.size + 1, 0, none⟩ (.int .i64 x)).setCell ⟨w.heap.size + 1, 1, none⟩ (.int .i64 y)) = .ok (.tuple #[tmV ⟨x, y⟩, .bool b]) ((wr.setCell ⟨w.heap.size + 1, 0, none⟩ (.int .i64 x)).setCell ⟨w.heap.size + 1, 1, none⟩ (.int .i64 y)) := by
        intro x y b tmps h6 h7
        have hgf := set_at (set_at hg.out 0 (.int .i64 x)) 1 (.int .i64 y)
        have hl := run_loadVar_row (P := Tryz.prog) ((wr.setCell ⟨w.heap.size + 1, 0, none⟩ (.int .i64 x)).setCell ⟨w.heap.size + 1, 1, none⟩ (.int .i64 y)) (w.heap.size + 1) 24 24 #[.int .i64 x, .int .i64 y] (0, 0) _ hgf Tryz.underlying24 rfl (by rw [htin]; rfl)
        rw [results_cell_tmp rfl, h6, h7]
        simp only [asAddr, Sem.run_pure, Result.andThen_ok, hl]
        rfl
      have hbf := Lib.hid (fun (x y : Int) => (hb.out.setCell (p := ⟨w.heap.size + 1, 0, none⟩) (by show w.heap.size ≤ w.heap.size + 1; omega) (.int .i64 x)).setCell (p := ⟨w.heap.size + 1, 1, none⟩) (by show w.heap.size ≤ w.heap.size + 1; omega) (.int .i64 y))
      replace hfin := Lib.hid hfin
      replace hN := Lib.hid hN
      by_cases h1 : 4611686018427387903 ≤ n
      · have d1 := decide_eq_true h1
        have hr : Hid (nextM l fl who = none) := Lib.hid (by rw [hN.out, if_pos (by omega)])
        clear hN
        go_wp2_with fail
        refine bodyPost_ret (hfin.out 0 0 false _ rfl rfl) rfl ?_
        exact ⟨by rw [hr.out]; rfl, hbf.out _ _⟩
      · by_cases h2 : who < 1
        · have d1 := decide_eq_false h1
          have d2 := decide_eq_true h2
          have hr : Hid (nextM l fl who = none) := Lib.hid (by rw [hN.out, if_pos (by omega)])
          clear hN
          go_wp2_with fail
          refine bodyPost_ret (hfin.out 0 0 false _ rfl rfl) rfl ?_
          exact ⟨by rw [hr.out]; rfl, hbf.out _ _⟩
        · by_cases h3 : 255 < who
          · have d1 := decide_eq_false h1
            have d2 := decide_eq_false h2
            have d3 := decide_eq_true h3
            have hr : Hid (nextM l fl who = none) := Lib.hid (by rw [hN.out, if_pos (by omega)])
            clear hN
            go_wp2_with fail
            refine bodyPost_ret (hfin.out 0 0 false _ rfl rfl) rfl ?_
            exact ⟨by rw [hr.out]; rfl, hbf.out _ _⟩
          · have d1 := decide_eq_false h1
            have d2 := decide_eq_false h2
            have d3 := decide_eq_false h3
            have hw : IntKind.i64.wrap (n + 1) = n + 1 := by rw [IntKind.wrap_i64]; omega
            have hr : Hid (nextM l fl who = some ⟨n + 1, who⟩) := Lib.hid (by rw [hN.out, if_neg (by omega)])
            clear hN
            go_wp2_with fail
            refine bodyPost_ret (hfin.out (n + 1) who true _ rfl rfl) rfl ?_
            exact ⟨by rw [hr.out]; rfl, hbf.out _ _⟩
end Mr
end
section
open Go.RowKit
namespace Dl
open Mem Pk
def cellsI (l : List Int) : List Value := l.map (Value.int .i64)
theorem cellsI_append (l m : List Int) : cellsI (l ++ m) = cellsI l ++ cellsI m := by unfold cellsI; simp
def OwnI (w : World) (base : Nat) (v : Value) (l : List Int) : Prop := w.ownsRow base 3 1 v l.length (cellsI l)
theorem ownI_nil (w : World) (base : Nat) : OwnI w base (.slice none 0 0) [] := World.ownsRow_nil w base _ 1
theorem ownI_snoc {w : World} {base : Nat} {v : Value} {acc : List Int} {m : Int} (h : w.ownsRow base 3 1 v (acc.length + 1) (cellsI acc ++ [.int .i64 m])) : OwnI w base v (acc ++ [m]) := by
  unfold OwnI
  rw [cellsI_append, List.length_append, List.length_singleton]
  exact h
theorem one_int (m : Int) : ∀ x ∈ [Value.int .i64 m], x.oneCell' = true := fun x hx => by simp at hx; subst hx; rfl
theorem infoI : (Tryz.prog.info? 3).map (fun i => (i.zero, i.size, i.bytes)) = some (some (.int .i64 0), 1, 8) := by kernel_rfl
def I64 (n : Int) : Prop := -9223372036854775808 ≤ n ∧ n ≤ 9223372036854775807
theorem i64_wrap (n : Int) : I64 (wrap64 n) := by
  unfold I64 wrap64
  omega
theorem i64_zero : I64 0 := by unfold I64; omega
theorem OwnI.ints {w : World} {base : Nat} {v : Value} {l : List Int} (h : OwnI w base v l) (hb : ∀ n ∈ l, I64 n) : Opened.Ints .i64 w v l := by
  obtain ⟨h1, h2⟩ := h
  refine ⟨?_, fun n hn => hb n hn⟩
  rcases h2 with ⟨rfl, h0⟩ | ⟨g, cap, cur, rfl, hg, hh, hn, hm, hs, ht⟩
  · exact ⟨none, 0, by rw [h0], fun h => by omega⟩
  · refine ⟨_, cap, rfl, fun _ => ⟨g, 0, rfl, lt_of_block hh, fun j hj => ?_⟩⟩
    rw [cell_at hh]
    have e2 : (cellsI l)[j]? = some (.int .i64 (l.getD j 0)) := by unfold cellsI; simp [hj, List.getD]
    rw [← ht, List.getElem?_take_of_lt (by omega)] at e2
    rw [← e2]
    simp
theorem ints_nil (k : IntKind) (w : World) : Opened.Ints k w (.slice none 0 0) [] := ⟨⟨none, 0, rfl, fun h => by simp at h⟩, fun n hn => by simp at hn⟩
def subs (last : Int) : List Int → List Int
  | [] => []
  | n :: l => wrap64 (n - last) :: subs n l
def sums (acc : Int) : List Int → List Int
  | [] => []
  | x :: d => wrap64 (acc + x) :: sums (wrap64 (acc + x)) d
def enc (d : List Int) : List UInt8 := d.flatMap fun x => putL (zigN x)
theorem drop_here (zs : List Int) (k : Nat) (h : k < zs.length) : zs.drop k = zs[k]?.getD 0 :: zs.drop (k + 1) := by
  rw [List.drop_eq_getElem_cons h, List.getElem?_eq_getElem h]
  rfl
structure SumsAt (d : List Int) (k : Nat) (acc : Int) (out : List Int) : Prop where
  eq : sums 0 d = out ++ sums acc (d.drop k)
  len : out.length = k
  bound : ∀ n ∈ out, I64 n
  acc : I64 acc
theorem SumsAt.start (d : List Int) : SumsAt d 0 0 [] := ⟨rfl, rfl, fun _ h => by simp at h, i64_zero⟩
theorem SumsAt.next {d : List Int} {k : Nat} {acc : Int} {out : List Int} (h : SumsAt d k acc out) (hk : k < d.length) : SumsAt d (k + 1) (wrap64 (acc + d[k]?.getD 0)) (out ++ [wrap64 (acc + d[k]?.getD 0)]) := by
  refine ⟨?_, by rw [List.length_append, h.len]; rfl, fun n hn => ?_, i64_wrap _⟩
  · rw [h.eq, drop_here d k hk, List.append_assoc]; rfl
  · rw [List.mem_append, List.mem_singleton] at hn
    rcases hn with hn | rfl
    · exact h.bound n hn
    · exact i64_wrap _
theorem SumsAt.whole {d : List Int} {acc : Int} {out : List Int} (h : SumsAt d d.length acc out) : sums 0 d = out := by
  rw [h.eq, List.drop_eq_nil_of_le (Nat.le_refl _)]
  exact List.append_nil _
end Dl
end
section
open Go.RowKit
namespace Dl
open Mem Pk
theorem _root_.Go.RowKit.Below.grownI {w wr w3 : World} {v : Value} {n : Nat} {x : Obj} {xs : List Value} (hb : Below w.heap.size w wr) (hg : (wr.alloc x).grownBy w3 v.ownBlock) (hO : wr.ownsRow w.heap.size 3 1 v n xs) : Below w.heap.size w w3 :=
  (hb.alloc hb.size x).grown hg (by have := hb.size; simp; omega) (fun k e => (hO.lt k e).1)
theorem sums_any (v : Value) (d : List Int) (w : World) (hv : Opened.Ints .i64 w v d) (hl : d.length ≤ 100000) :
    Calls Tryz.prog 204 #[v] w fun e w' => (∃ r, e = .returned r ∧ Opened.Ints .i64 w' r (sums 0 d)) ∧ Below w.heap.size w w' := by
  obtain ⟨i0, hi, hz0, hz1, hz2⟩ := info_parts infoI
  obtain ⟨⟨a, cap, rfl, hcells⟩, hbound⟩ := hv
  have HC := Lib.hid hcells
  have HB := Lib.hid hbound
  clear hcells hbound
  go_enter Tryz.func204, Tryz.ntmps204
  go_wp2_with fail
  go_loopw [3, 4, 9] (fun r x i wr => ∃ (k : Nat) (acc : Int) (out : List Int), x = .int .i64 acc ∧ i = .int .i64 k ∧ k ≤ d.length ∧ Hid (SumsAt d k acc out) ∧ Hid (OwnI wr w.heap.size r out) ∧ Below w.heap.size w wr) (fun _ _ i _ => d.length - (intOf i).toNat)
  case atStart => exact ⟨0, 0, [], rfl, rfl, by omega, Lib.hid (SumsAt.start d), Lib.hid (ownI_nil _ _), Below.refl _ _⟩
  case round =>
    obtain ⟨k, acc, out, rfl, rfl, hk, hS, hO, hb⟩ := hrel
    by_cases hlt : k < d.length
    · obtain ⟨cb, off, rfl, hcb, hcell⟩ := HC.out (by omega)
      have hck : wr.cell? ⟨cb, off + k, none⟩ = some (.int .i64 (d.getD k 0)) := (hb.cell (p := ⟨cb, off + k, none⟩) hcb).trans (hcell k hlt)
      have hlt' : (k : Int) < d.length := by omega
      have hgd : d.getD k 0 = d[k]?.getD 0 := rfl
      rw [hgd] at hck
      have hS2 := Lib.hid (hS.out.next hlt)
      have hlen := hS.out.len
      clear hcell hgd hS hlt
      generalize d[k]?.getD 0 = c at *
      have hO' := hO.out
      unfold OwnI at hO'
      have hsz := hb.size
      go_wp2_with (at_builtin; refine wpList_append_own _ rfl _ _ 82 rfl w.heap.size 3 i0 (.int .i64 0) 1 8 Tryz.underlying82 hi hz0 hz1 hz2 rfl (by decide) _ _ _ rfl (hO'.alloc _) ⟨wr.heap.size, 0, none⟩ 1 1 [.int .i64 (wrap64 (acc + c))] rfl rfl (cell_one_new _ _ _) (one_int _) (by unfold maxLen; omega) (by omega) (by simp; omega) ?_; intro v' w3 hown hgrow _)
      have hO2 : OwnI w3 w.heap.size v' (out ++ [wrap64 (acc + c)]) := ownI_snoc hown
      have hB := hb.grownI hgrow hO'
      clear hown hgrow hO'
      go_wp2_with fail
      go_roundw
      case rel => exact ⟨k + 1, _, _, rfl, by go_num, by omega, hS2, Lib.hid hO2, hB⟩
      case measure => simp [intOf]; omega
    · obtain rfl : k = d.length := by omega
      have hge : decide (d.length < d.length) = false := decide_eq_false hlt
      have hr := hO.out.ints hS.out.bound
      rw [← hS.out.whole] at hr
      clear hlt hO hS HC HB
      go_wp2_with fail
      go_ret
      exact ⟨⟨_, rfl, hr⟩, hb⟩
end Dl
end
section
open Go.RowKit
namespace Dl
open Mem Pk
def rise : List Int → Bool
  | [] => true
  | a :: l => (match l with | [] => true | b :: _ => decide (a < b)) && rise l
theorem rise_short {l : List Int} (h : l.length ≤ 1) : rise l = true := by
  match l, h with
  | [], _ => rfl
  | [a], _ => rfl
theorem rise_step {l : List Int} {k : Nat} (h : k + 1 < l.length) : rise (l.drop k) = (decide (l[k]?.getD 0 < l[k + 1]?.getD 0) && rise (l.drop (k + 1))) := by
  rw [drop_here l k (by omega), drop_here l (k + 1) h]
  rfl
theorem same_upto {a b : List Int} {k : Nat} (hl : a.length = b.length) (h : a.take k = b.take k) (hk : k < a.length) (he : a[k]?.getD 0 = b[k]?.getD 0) : a.take (k + 1) = b.take (k + 1) := by
  have hb : k < b.length := by omega
  rw [List.getElem?_eq_getElem hk, List.getElem?_eq_getElem hb] at he
  rw [List.take_succ_eq_append_getElem hk, List.take_succ_eq_append_getElem hb, h]
  have he' : a[k] = b[k] := he
  rw [he']
theorem row_cell {k : IntKind} {w w' : World} {v : Value} {l : List Int} (h : Opened.Ints k w v l) (hb : Below w.heap.size w w') : ∃ (a : Option Addr) (cap : Nat), v = .slice a l.length cap ∧ (0 < l.length → ∃ b off, a = some ⟨b, off, none⟩ ∧ b < w.heap.size ∧ ∀ j, j < l.length → w'.cell? ⟨b, off + j, none⟩ = some (.int k (l[j]?.getD 0))) := by
  obtain ⟨⟨a, cap, e, hc⟩, _⟩ := h
  refine ⟨a, cap, e, fun h0 => ?_⟩
  obtain ⟨b, off, e1, e2, e3⟩ := hc h0
  exact ⟨b, off, e1, e2, fun j hj => (hb.cell (p := ⟨b, off + j, none⟩) e2).trans (e3 j hj)⟩
theorem same_any (va vb : Value) (a b : List Int) (w : World) (ha : Opened.Ints .i64 w va a) (hb : Opened.Ints .i64 w vb b) (hl : a.length ≤ 100000) :
    Calls Tryz.prog 35 #[va, vb] w fun e w' => e = .returned (.bool (decide (a = b))) ∧ Below w.heap.size w w' := by
  obtain ⟨⟨pa, ca, rfl, hca⟩, -⟩ := ha
  obtain ⟨⟨pb, cb, rfl, hcb⟩, -⟩ := hb
  have HA := Lib.hid hca
  have HB := Lib.hid hcb
  clear hca hcb
  by_cases hn : a.length = b.length
  · have HN := Lib.hid hn
    rw [← hn]
    clear hn
    go_enter Tryz.func35, Tryz.ntmps35
    go_wp2_with fail
    go_loopw [5] (fun i wr => ∃ k : Nat, i = .int .i64 k ∧ k ≤ a.length ∧ Hid (a.take k = b.take k) ∧ Below w.heap.size w wr) (fun i _ => a.length - (intOf i).toNat)
    case atStart => exact ⟨0, rfl, by omega, Lib.hid rfl, Below.refl _ _⟩
    case round =>
      obtain ⟨k, rfl, hk, hT, hb⟩ := hrel
      by_cases hlt : k < a.length
      · obtain ⟨ba, oa, rfl, hba, hcella⟩ := HA.out (by omega)
        obtain ⟨bb, ob, rfl, hbb, hcellb⟩ := HB.out (by have := HN.out; omega)
        have hc1 : wr.cell? ⟨ba, oa + k, none⟩ = some (.int .i64 (a[k]?.getD 0)) := (hb.cell (p := ⟨ba, oa + k, none⟩) hba).trans (hcella k hlt)
        have hc2 : wr.cell? ⟨bb, ob + k, none⟩ = some (.int .i64 (b[k]?.getD 0)) := (hb.cell (p := ⟨bb, ob + k, none⟩) hbb).trans (hcellb k (by have := HN.out; omega))
        have hlt' : (k : Int) < a.length := by omega
        have HT := Lib.hid (same_upto HN.out hT.out hlt)
        have HF : Hid (a = b → a[k]?.getD 0 = b[k]?.getD 0) := Lib.hid (fun h => by rw [h])
        clear hcella hcellb hlt hT
        generalize a[k]?.getD 0 = x at *
        generalize b[k]?.getD 0 = y at *
        by_cases he : x = y
        · subst he
          have HT2 := Lib.hid (HT.out rfl)
          clear HT HF
          have hne : (x != x) = false := by simp
          go_wp2_with fail
          go_region
          go_wp2_with fail
          go_roundw
          case rel => exact ⟨k + 1, by go_num, by omega, HT2, hb.drew⟩
          case measure => simp [intOf]; omega
        · have hd : decide (a = b) = false := decide_eq_false (fun h => he (HF.out h))
          have hne : (x != y) = true := by rw [bne_iff_ne]; exact he
          replace hd := Lib.hid hd
          clear HF HT he
          go_wp2_with fail
          go_region
          go_wp2_with fail
          go_ret
          exact ⟨by rw [hd.out]; rfl, hb.drew⟩
      · obtain rfl : k = a.length := by omega
        have hge : decide (a.length < a.length) = false := decide_eq_false hlt
        have hd : decide (a = b) = true := decide_eq_true (by
          have h1 := hT.out
          have h2 := HN.out
          rw [List.take_of_length_le (Nat.le_refl _), h2, List.take_of_length_le (Nat.le_refl _)] at h1
          exact h1)
        replace hd := Lib.hid hd
        clear hlt hT HA HB
        go_wp2_with fail
        go_ret
        exact ⟨by rw [hd.out]; rfl, hb⟩
  · have hd : decide (a = b) = false := decide_eq_false (fun h => hn (by rw [h]))
    have hne : ((a.length : Int) != (b.length : Int)) = true := by rw [bne_iff_ne]; omega
    rw [hd]
    clear hd hn
    go_enter Tryz.func35, Tryz.ntmps35
    go_wp2_with fail
    go_ret
    exact ⟨rfl, Below.refl _ _⟩
theorem rising_any (v : Value) (a : List Int) (w : World) (ha : Opened.Ints .i64 w v a) (hl : a.length ≤ 1000) :
    Calls Tryz.prog 198 #[v] w fun e w' => e = .returned (.bool (rise a)) ∧ Below w.heap.size w w' := by
  obtain ⟨⟨pa, ca, rfl, hca⟩, -⟩ := ha
  have HA := Lib.hid hca
  clear hca
  go_enter Tryz.func198, Tryz.ntmps198
  go_wp2_with fail
  go_loopw [3] (fun i wr => ∃ k : Nat, i = .int .i64 ((k + 1 : Nat) : Int) ∧ k ≤ a.length ∧ Hid (rise a = rise (a.drop k)) ∧ Below w.heap.size w wr) (fun i _ => a.length + 1 - (intOf i).toNat)
  case atStart => exact ⟨0, rfl, by omega, Lib.hid rfl, Below.refl _ _⟩
  case round =>
    obtain ⟨k, rfl, hk, hT, hb⟩ := hrel
    by_cases hlt : k + 1 < a.length
    · obtain ⟨ba, oa, rfl, hba, hcella⟩ := HA.out (by omega)
      have hc1 : wr.cell? ⟨ba, oa + k, none⟩ = some (.int .i64 (a[k]?.getD 0)) := (hb.cell (p := ⟨ba, oa + k, none⟩) hba).trans (hcella k (by omega))
      have hc2 : wr.cell? ⟨ba, oa + (k + 1), none⟩ = some (.int .i64 (a[k + 1]?.getD 0)) := (hb.cell (p := ⟨ba, oa + (k + 1), none⟩) hba).trans (hcella (k + 1) hlt)
      have hlt' : ((k + 1 : Nat) : Int) < a.length := by omega
      have hlt2 : (k : Int) < a.length := by omega
      have HS := Lib.hid (hT.out.trans (rise_step hlt))
      clear hcella hlt hT
      generalize a[k]?.getD 0 = x at *
      generalize a[k + 1]?.getD 0 = y at *
      by_cases he : x < y
      · have hd : decide (x < y) = true := decide_eq_true he
        rw [hd, Bool.true_and] at HS
        have hn : decide (y ≤ x) = false := decide_eq_false (by omega)
        clear hd he
        go_wp2_with fail
        go_region
        go_wp2_with fail
        go_roundw
        case rel => exact ⟨k + 1, by go_num, by omega, HS, hb.drew⟩
        case measure => simp [intOf]; omega
      · have hd : decide (x < y) = false := decide_eq_false he
        rw [hd, Bool.false_and] at HS
        have hn : decide (y ≤ x) = true := decide_eq_true (by omega)
        clear hd he
        go_wp2_with fail
        go_region
        go_wp2_with fail
        go_ret
        exact ⟨by rw [HS.out]; rfl, hb.drew⟩
    · have hR := Lib.hid (hT.out.trans (rise_short (by rw [List.length_drop]; omega)))
      have hge : decide (k + 1 < a.length) = false := decide_eq_false hlt
      have hge' : decide ((k : Int) + 1 < (a.length : Int)) = false := decide_eq_false (by omega)
      clear hlt hT HA
      go_wp2_with fail
      go_ret
      exact ⟨by rw [hR.out]; rfl, hb⟩
end Dl
end
section
open Go.RowKit
namespace Dl
open Mem Pk
theorem subs_length (l : List Int) : ∀ last, (subs last l).length = l.length := by
  induction l with
  | nil => intro _; rfl
  | cons n l ih => intro last; rw [subs, List.length_cons, List.length_cons, ih]
theorem subs_bound (l : List Int) : ∀ last, ∀ n ∈ subs last l, I64 n := by
  induction l with
  | nil => intro _ n h; simp [subs] at h
  | cons x l ih =>
    intro last n h
    rw [subs, List.mem_cons] at h
    rcases h with rfl | h
    · exact i64_wrap _
    · exact ih _ _ h
theorem enc_len (d : List Int) : (enc d).length ≤ 10 * d.length := by
  induction d with
  | nil => simp [enc]
  | cons n l ih =>
    have h1 : enc (n :: l) = putL (zigN n) ++ enc l := by unfold enc; simp
    rw [h1, List.length_append, List.length_cons]
    have := putL_length (zigN n)
    omega
theorem enc_snoc (d : List Int) (n : Int) : enc (d ++ [n]) = enc d ++ putL (zigN n) := by unfold enc; rw [List.flatMap_append]; simp
theorem take_next (zs : List Int) (k : Nat) (h : k < zs.length) : zs.take (k + 1) = zs.take k ++ [zs[k]?.getD 0] := by
  rw [List.take_succ_eq_append_getElem h, List.getElem?_eq_getElem h]
  rfl
end Dl
end
section
open Go.RowKit Go.Shelf
attribute [local go_sem] Oper.semAt_some
namespace Dl
open Mem Pk
theorem subs_get (l : List Int) : ∀ (a : Int) (k : Nat), k < l.length → (subs a l)[k]?.getD 0 = wrap64 (l[k]?.getD 0 - (if k = 0 then a else l[k - 1]?.getD 0)) := by
  induction l with
  | nil => intro a k h; simp at h
  | cons n l ih =>
    intro a k h
    cases k with
    | zero => rfl
    | succ k =>
      have e1 : (subs a (n :: l))[k + 1]?.getD 0 = (subs n l)[k]?.getD 0 := rfl
      have e2 : (n :: l)[k + 1]?.getD 0 = l[k]?.getD 0 := rfl
      rw [e1, e2, ih n k (by simpa using h)]
      cases k with
      | zero => simp
      | succ j => simp
theorem kept_cell {T : Nat → Prop} {w w' : World} {p : Addr} {v : Value} (h : Kept T w w') (hb : p.block < w.heap.size) (hT : ¬ T p.block) (hc : w.cell? p = some v) : w'.cell? p = some v :=
  (World.cell?_of_block (w := w) (h.block p.block hb hT)).trans hc
def Row (T : Nat → Prop) (w : World) (v : Value) (q : List Int) : Prop :=
  ∃ (a : Option Addr) (cap : Nat), v = .slice a q.length cap ∧ (0 < q.length → ∃ b off, a = some ⟨b, off, none⟩ ∧ b < w.heap.size ∧ ¬ T b ∧ ∀ j, j < q.length → w.cell? ⟨b, off + j, none⟩ = some (.int .i64 (q[j]?.getD 0)))
theorem Row.kept {T : Nat → Prop} {w w' : World} {v : Value} {q : List Int} (h : Row T w v q) (k : Kept T w w') : Row T w' v q := by
  obtain ⟨a, cap, e, hc⟩ := h
  refine ⟨a, cap, e, fun h0 => ?_⟩
  obtain ⟨b, off, e1, e2, e3, e4⟩ := hc h0
  exact ⟨b, off, e1, Nat.lt_of_lt_of_le e2 k.size, e3, fun j hj => kept_cell k e2 e3 (e4 j hj)⟩
theorem row_of {T : Nat → Prop} {w w' : World} {v : Value} {q : List Int} (h : Opened.Ints .i64 w v q) (hb : Below w.heap.size w w') (hT : ∀ k, k < w.heap.size → ¬ T k) : Row T w' v q := by
  obtain ⟨a, cap, e, hc⟩ := row_cell h hb
  refine ⟨a, cap, e, fun h0 => ?_⟩
  obtain ⟨b, off, e1, e2, e3⟩ := hc h0
  exact ⟨b, off, e1, Nat.lt_of_lt_of_le e2 hb.size, hT b e2, e3⟩
theorem deltas1_in (F : Fence) (n : Nat) (hf : F.fn 176) (hro : F.round = none) (hn : 1 ≤ n) (l Bs : Nat) (v : Value) (q : List Int) (T : Nat → Prop) (hq : q.length ≤ 1000) (J Jx : List Int → World → Prop)
    (hY : ∀ pre x W, I64 x → J pre W → pre.length < q.length → YieldAt F (n - 1) Tryz.prog l #[.int .i64 x] W fun e W' =>
      (e = .returned (.bool true) ∧ J (pre ++ [x]) W' ∧ Kept T W W') ∨ (e = .returned (.bool false) ∧ Jx (pre ++ [x]) W'))
    (W : World) (hbox : W.heap[Bs]? = some (.cells #[v] 82 (0, 0))) (hrow : Row T W v q) (h0 : J [] W) :
    CallsIn F n Tryz.prog 176 #[.func (.yield l) #[] #[], .pointer (some ⟨Bs, 0, none⟩)] W fun e W' => (∃ v, e = .returned v) ∧
      ((∃ ys, ys = subs 0 q ∧ J ys W') ∨ (∃ pre, (∃ k, k ≤ q.length ∧ pre = (subs 0 q).take k) ∧ Jx pre W')) := by
  have hb0 := cell_of_one hbox
  obtain ⟨a, cap, rfl, hcells⟩ := hrow
  have HC := Lib.hid hcells
  have hsl := subs_length q 0
  have HG := Lib.hid (subs_get q 0)
  obtain ⟨ys, hys⟩ : ∃ ys, subs 0 q = ys := ⟨_, rfl⟩
  rw [hys] at hsl HG
  replace hys := Lib.hid hys
  clear hcells
  refine callsIn_of_wp Tryz.func176 rfl hf ?_ hro
  simp only [Tryz.ntmps176, List.size_toArray, List.length_cons, List.length_nil, Nat.reduceAdd, Nat.reduceSub, Array.replicate_succ, Array.replicate_zero, List.push_toArray, List.append_toArray, List.nil_append, List.cons_append]
  gi_wp2
  gi_loopw [3, 8] (fun x i wr => ∃ (k : Nat) (la : Int), k ≤ q.length ∧ x = .int .i64 la ∧ i = .int .i64 k ∧ Hid (la = if k = 0 then 0 else q[k - 1]?.getD 0) ∧ J (ys.take k) wr ∧ Kept T W wr)
    (fun _ i _ => q.length - (intOf i).toNat)
  case atStart => exact ⟨0, 0, Nat.zero_le _, rfl, rfl, Lib.hid rfl, by rw [List.take_zero]; exact h0, Kept.refl _ _⟩
  case round =>
    obtain ⟨k, la, hk, rfl, rfl, hla, hJs, hnx⟩ := hrel
    by_cases hlt : k < q.length
    · obtain ⟨cb, off, rfl, hcb, hT, hcell⟩ := HC.out (by omega)
      have hcx : wr.cell? ⟨cb, off + k, none⟩ = some (.int .i64 (q[k]?.getD 0)) := kept_cell hnx hcb hT (hcell k hlt)
      have hg := HG.out k hlt
      rw [← hla.out] at hg
      have htk := Lib.hid (take_next ys k (by omega))
      obtain ⟨fn, tmps, assign, body, hy, hR⟩ := hY _ (ys[k]?.getD 0) wr (by rw [hg]; exact i64_wrap _) hJs (by rw [List.length_take]; omega)
      rw [hg] at hy
      have hlt' : (k : Int) < q.length := by omega
      replace hg := Lib.hid hg
      obtain ⟨c, hc⟩ : ∃ c, q[k]?.getD 0 = c := ⟨_, rfl⟩
      rw [hc] at hcx hg hy
      replace hc := Lib.hid hc
      clear hcell
      gi_wp2
      refine hR.mono ?_
      rintro e W3 (⟨rfl, hJ3, hk3⟩ | ⟨rfl, hJx3⟩)
      · gi_wp2
        go_roundw
        case rel => exact ⟨k + 1, c, by omega, rfl, by go_num, Lib.hid (by rw [if_neg (by omega)]; exact hc.out.symm), by rw [htk.out]; exact hJ3, hnx.trans hk3⟩
        case measure => simp [intOf] <;> omega
      · gi_wp2
        refine bodyPost_ret (results_none rfl _ _ _) rfl ?_
        exact ⟨⟨_, rfl⟩, .inr ⟨_, ⟨k + 1, by omega, by rw [hys.out]; exact htk.out.symm⟩, hJx3⟩⟩
    · obtain rfl : k = q.length := by omega
      have hge : decide (q.length < q.length) = false := decide_eq_false hlt
      have hnl : ¬ ((q.length : Int) < q.length) := by omega
      rw [List.take_of_length_le (by omega)] at hJs
      gi_wp2
      go_end0
      exact ⟨⟨_, rfl⟩, .inl (by rw [hys.out]; exact hJs)⟩
abbrev Num64 := { x : Int // I64 x }
theorem deltas_stopsB (F : Fence) (n : Nat) (hf : F.fn 176) (hro : F.round = none) (hn : 1 ≤ n) (Bs : Nat) (v : Value) (q : List Int) (T : Nat → Prop) (hq : q.length ≤ 1000) (w : World)
    (hbox : w.heap[Bs]? = some (.cells #[v] 82 (0, 0))) (hrow : Row T w v q) :
    SeqStopsK F n Tryz.prog 176 #[.pointer (some ⟨Bs, 0, none⟩)] (fun x : Num64 => #[Value.int .i64 x.1]) (Kept T) (fun ys => ys.map (fun x => x.1) = subs 0 q) (fun _ => True) q.length w :=
  fun l J Jx W hW _ _ hY h0 => (deltas1_in F n hf hro hn l Bs v q T hq (fun pre W => ∃ pre' : List Num64, pre'.map (fun x => x.1) = pre ∧ J pre' W) (fun _ W => ∃ pre' : List Num64, Jx pre' W) (fun pre x W hx hJ hlen => by
    obtain ⟨pre', rfl, hJ'⟩ := hJ
    obtain ⟨fn, tmps, assign, body, hy, hR⟩ := hY pre' ⟨x, hx⟩ W hJ' (by simpa using hlen)
    exact ⟨fn, tmps, assign, body, hy, hR.mono (fun e W' h => by
      rcases h with ⟨rfl, h1, h2⟩ | ⟨rfl, h1⟩
      · exact .inl ⟨rfl, ⟨pre' ++ [⟨x, hx⟩], by simp, h1⟩, h2⟩
      · exact .inr ⟨rfl, _, h1⟩)⟩) W (below_at hW hbox (lt_of_block hbox)) (hrow.kept (Kept.of_below hW)) ⟨[], rfl, h0⟩).mono (fun e W' h => ⟨h.1, by
        rcases h.2 with ⟨ys, rfl, pre', e1, h⟩ | ⟨pre, _, pre', h⟩
        · exact .inl ⟨pre', e1, h⟩
        · exact .inr ⟨pre', trivial, h⟩⟩)
theorem deltas_any (a : Option Addr) (len cap : Nat) (w : World) :
    Calls Tryz.prog 131 #[.slice a len cap] w fun e w' => e = .returned (.func (.func 176) #[] #[.pointer (some ⟨w.heap.size, 0, none⟩)]) ∧ w' = w.alloc (.cells #[.slice a len cap] 82) := by
  have hmf : ∀ (fn : Fn) (first cap : Array Value) (w : World), (Instr.makeFunc fn first cap).run Tryz.prog w = .ok (.func fn first cap) w := fun _ _ _ _ => rfl
  go_enter Tryz.func131, Tryz.ntmps131
  go_wp2_with fail
  go_ret
  exact ⟨rfl, rfl⟩
end Dl
end
section
open Go.RowKit Go.Shelf
attribute [local go_sem] Oper.semAt_some
namespace Dl
open Mem Pk
theorem kept_put {T : Nat → Prop} {W : World} {l : Nat} {o o' : Obj} (hT : T l) (_h : W.heap[l]? = some o) : Kept T W (W.putObj l o') :=
  (Kept.refl T W).grown (grownBy_putObj' W l o') (fun k e _ => by cases e; exact hT)
theorem own_cells {w : World} {base : Nat} {e : TypeId} {v : Value} {n : Nat} {xs : List Value} (h : w.ownsRow base e 1 v n xs) : ∀ (j : Nat) (o : Obj), v.ownBlock = some j → w.heap[j]? = some o → o.isCells = true := by
  intro j o hj ho
  rcases h.2 with ⟨rfl, _⟩ | ⟨g, cap, cur, rfl, _, hh, _⟩
  · cases hj
  · have e : g = j := by simpa [Value.ownBlock] using hj
    subst e
    rw [hh] at ho
    cases ho
    rfl
theorem own_setCell {w : World} {base : Nat} {e : TypeId} {v : Value} {n : Nat} {xs : List Value} (h : w.ownsRow base e 1 v n xs) {p : Addr} (hp : p.block < base) (u : Value) : (w.setCell p u).ownsRow base e 1 v n xs := by
  refine ⟨h.1, ?_⟩
  rcases h.2 with h2 | ⟨g, cap, cur, ev, hg, hh, r⟩
  · exact .inl h2
  · exact .inr ⟨g, cap, cur, ev, hg, set_other hh (by omega) _, r⟩
theorem own_slice {w : World} {base : Nat} {e : TypeId} {v : Value} {n : Nat} {xs : List Value} (h : w.ownsRow base e 1 v n xs) : ∃ b cap, v = .slice b n cap := by
  rcases h.2 with ⟨rfl, rfl⟩ | ⟨g, cap, cur, rfl, _⟩
  · exact ⟨none, 0, rfl⟩
  · exact ⟨_, cap, rfl⟩
end Dl
end
section
open Go.RowKit
namespace Dl
open Mem Pk
theorem own8_kept {T : Nat → Prop} {w w' : World} {B : Nat} {v : Value} {n : Nat} {xs : List Value} (k : Kept T w w') (h : w.ownsRow B 5 1 v n xs) (hT : ∀ k, B ≤ k → ¬ T k) : w'.ownsRow B 5 1 v n xs := by
  refine ⟨h.1, ?_⟩
  rcases h.2 with h2 | ⟨g, cap, cur, ev, hg, hh, r⟩
  · exact .inl h2
  · exact .inr ⟨g, cap, cur, ev, hg, k.at hh (hT g hg), r⟩
theorem infoB : (Tryz.prog.info? 143).map (·.size) = some 2 := by kernel_rfl
theorem liesB : liesAt Tryz.prog Tryz.prog.depth 143 (2 / Tryz.prog.cellsOf 143) 0 143 1 = true := by kernel_rfl
def bd (p v : Value) : Obj := .cells #[p, v] 143
theorem check_used (b : Nat) (v : Value) (w : World) (hb : w.heap[b]? = some (bd (.pointer (some ⟨b, 0, none⟩)) v)) :
    Calls Tryz.prog 126 #[.pointer (some ⟨b, 0, none⟩)] w fun e w' => e = .returned (.tuple #[]) ∧ w' = w := by
  have h0 : w.cell? ⟨b, 0, none⟩ = some (.pointer (some ⟨b, 0, none⟩)) := (cell_at hb 0).trans rfl
  have hne := fun (w : World) => Lib.run_neq_ptr_same (P := Tryz.prog) w (tp := 141) (te := 143) ⟨b, 0, none⟩ Tryz.underlying141 (Option.map_eq_some_iff.1 infoB).choose_spec.1
  go_enter Tryz.func126, Tryz.ntmps126
  go_wp2_with fail
  go_end0
  exact ⟨rfl, rfl⟩
theorem check_fresh (b : Nat) (v : Value) (w : World) (hb : w.heap[b]? = some (bd (.pointer none) v)) :
    Calls Tryz.prog 126 #[.pointer (some ⟨b, 0, none⟩)] w fun e w' => e = .returned (.tuple #[]) ∧ w' = w.setCell ⟨b, 0, none⟩ (.pointer (some ⟨b, 0, none⟩)) := by
  have h0 : w.cell? ⟨b, 0, none⟩ = some (.pointer none) := (cell_at hb 0).trans rfl
  have hf : w.frozen? ⟨b, 0, none⟩ = false := free_at hb 0
  have hsh : w.shape? b = some (143, 2) := by simp [World.shape?, hb, bd]
  obtain ⟨j, hj, hjs⟩ := Option.map_eq_some_iff.1 infoB
  have r1 := Lib.run_to_unsafe (P := Tryz.prog) w ⟨b, 0, none⟩ Tryz.underlying141 Tryz.underlying256 hj (by rw [hjs]; decide) hsh (Nat.zero_lt_succ 1)
  have r2 := run_callFunc_extern (P := Tryz.prog) Tryz.func173 (by kernel_rfl) (by kernel_rfl) (by kernel_rfl) (e := Extern.AbiNoEscape.same) (by kernel_rfl)
  have r3 := Lib.run_from_unsafe (P := Tryz.prog) w ⟨b, 0, none⟩ Tryz.underlying256 Tryz.underlying141 hj hsh liesB
  go_enter Tryz.func126, Tryz.ntmps126
  go_wp2
  rw [Lib.run_noEscape]
  simp only [Result.andThen]
  rw [Oper.upon_value]
  go_wp2
  go_end0
  exact ⟨rfl, rfl⟩
theorem check_any (b : Nat) (p v : Value) (hp : p = .pointer none ∨ p = .pointer (some ⟨b, 0, none⟩)) (w : World) (hb : w.heap[b]? = some (bd p v)) :
    Calls Tryz.prog 126 #[.pointer (some ⟨b, 0, none⟩)] w fun e w' => e = .returned (.tuple #[]) ∧ w'.heap[b]? = some (bd (.pointer (some ⟨b, 0, none⟩)) v) ∧ Kept (· = b) w w' ∧ KeepsOthers w w' := by
  rcases hp with rfl | rfl
  · refine (check_fresh b v w hb).mono ?_
    rintro e w' ⟨rfl, rfl⟩
    exact ⟨rfl, (set_at hb 0 _).trans rfl, (Kept.refl (· = b) w).setCell (p := ⟨b, 0, none⟩) (fun _ => rfl) _, KeepsOthers.setCell _ _ _⟩
  · refine (check_used b v w hb).mono ?_
    rintro e w' ⟨rfl, rfl⟩
    exact ⟨rfl, hb, Kept.refl _ _, KeepsOthers.refl _⟩
theorem wstr_any (b B : Nat) (p v : Value) (hp : p = .pointer none ∨ p = .pointer (some ⟨b, 0, none⟩)) (l : List UInt8) (s : ByteArray) (w : World) (hb : w.heap[b]? = some (bd p v)) (hO : Own8 w B v l) (hbB : b < B) (hBw : B ≤ w.heap.size) (hl : l.length ≤ 100000) (hs : s.size ≤ 100000) :
    Calls Tryz.prog 81 #[.pointer (some ⟨b, 0, none⟩), .string s] w fun e w' => e = .returned (.tuple #[.int .i64 s.size, .nilIface]) ∧ (∃ v', w'.heap[b]? = some (bd (.pointer (some ⟨b, 0, none⟩)) v') ∧ Own8 w' B v' (l ++ s.data.toList)) ∧ Kept (fun k => k = b ∨ B ≤ k) w w' ∧ KeepsOthers w w' := by
  obtain ⟨i0, hi, hz0, hz1, hz2⟩ := info_parts info8
  have HC := Lib.hid (check_any b p v hp w hb)
  have HB := Lib.hid hb
  clear hb hp
  go_enter Tryz.func81, Tryz.ntmps81
  go_wp2_with fail
  refine HC.out.mono ?_
  rintro e w1 ⟨rfl, hb1, k1, o1⟩
  have hO1 : w1.ownsRow B 5 1 v l.length (cells8 l) := own8_kept k1 hO (fun k hk h => by subst h; omega)
  have c0 : w1.cell? ⟨b, 0, none⟩ = some (.pointer (some ⟨b, 0, none⟩)) := (cell_at hb1 0).trans rfl
  have c1 : w1.cell? ⟨b, 1, none⟩ = some v := (cell_at hb1 1).trans rfl
  have hs1 := k1.size
  go_wp2_with (at_builtin; refine Lib.wpList_append_own_string _ rfl _ _ 76 9 rfl B 5 i0 Tryz.underlying76 Tryz.underlying9 hi hz0 hz1 hz2 _ _ _ rfl hO1 s rfl (by unfold maxLen; omega) (by omega) (by omega) ?_; intro v2 w2 hown hgrow _; obtain ⟨bx, cx, rfl⟩ := own_slice hown; have hb2 : w2.heap[b]? = some (bd (.pointer (some ⟨b, 0, none⟩)) v) := (hgrow.block b (lt_of_block hb1) (fun e => by have := (hO1.lt _ e.symm).1; omega)).trans hb1; have d0 : w2.cell? ⟨b, 0, none⟩ = some (.pointer (some ⟨b, 0, none⟩)) := (cell_at hb2 0).trans rfl; have d1 : w2.cell? ⟨b, 1, none⟩ = some v := (cell_at hb2 1).trans rfl; have f1 : w2.frozen? ⟨b, 1, none⟩ = false := free_at hb2 1)
  go_ret2
  have hKa : Kept (fun k => k = b ∨ B ≤ k) w w1 := k1.mono (fun i hi h => .inl h)
  refine ⟨rfl, ⟨_, (set_at hb2 1 _).trans rfl, ?_⟩, (hKa.grown hgrow (fun k er _ => .inr (hO1.lt k er).1)).setCell (p := ⟨b, 1, none⟩) (fun _ => .inl rfl) _, o1.trans ((KeepsOthers.of_grownBy hgrow (fun j o e h => own_cells hO1 j o e h)).trans (KeepsOthers.setCell _ _ _))⟩
  unfold Own8
  rw [cells8_append, List.length_append, size_list]
  exact own_setCell hown hbB _
end Dl
end
section
open Go.RowKit Go.Shelf
attribute [local go_sem] Oper.semAt_some
namespace Dl
open Mem Pk
theorem others_of_below {W W' : World} (h : Below W.heap.size W W') : KeepsOthers W W' := ⟨h.size, fun k _ hk _ => (h.block k (lt_of_block hk)).trans hk⟩
theorem own8_less {w : World} {B C : Nat} {v : Value} {l : List UInt8} (h : Own8 w B v l) (hC : C ≤ B) : Own8 w C v l := by
  refine ⟨h.1, ?_⟩
  rcases h.2 with h2 | ⟨g, cap, cur, ev, hg, hh, r⟩
  · exact .inl h2
  · exact .inr ⟨g, cap, cur, ev, Nat.le_trans hC hg, hh, r⟩
theorem builder_of {w : World} {b B : Nat} {p v : Value} {l : List UInt8} (hp : p = .pointer none ∨ p = .pointer (some ⟨b, 0, none⟩)) (hb : w.heap[b]? = some (bd p v)) (hO : Own8 w B v l) (hbB : b < B) : Lib.IsBuilder 143 5 b b (Lib.byteCells l) w := by
  have hO2 : w.ownsRow b 5 1 v (Lib.byteCells l).length (Lib.byteCells l) := by
    have h1 := own8_less hO (Nat.le_of_lt hbB)
    have e : (Lib.byteCells l).length = l.length := by unfold Lib.byteCells; simp
    rw [e]
    exact h1
  have hne : v.ownBlock ≠ some b := by
    rcases hO.2 with ⟨rfl, _⟩ | ⟨g, cap, cur, rfl, hg, _⟩
    · simp [Value.ownBlock]
    · simp [Value.ownBlock]; omega
  rcases hp with rfl | rfl
  · exact .inl ⟨Nat.le_refl _, v, hb, hO2, hne⟩
  · exact .inr ⟨Nat.le_refl _, v, hb, hO2, hne⟩
def bare (pre : List Num64) : List Int := pre.map (fun x => x.1)
theorem bare_snoc (pre : List Num64) (x : Num64) : bare (pre ++ [x]) = bare pre ++ [x.1] := by unfold bare; simp
theorem bare_length (pre : List Num64) : (bare pre).length = pre.length := by unfold bare; simp
def EncI (w : World) (B : Nat) (pre : List Num64) (W : World) : Prop :=
  ∃ p v, (p = .pointer none ∨ p = .pointer (some ⟨w.heap.size, 0, none⟩)) ∧ W.heap[w.heap.size]? = some (bd p v) ∧ Own8 W B v (enc (bare pre)) ∧ Below w.heap.size w W ∧ B ≤ W.heap.size
theorem encI_own {w : World} {B C : Nat} (hB : w.heap.size ≤ C) : OwnFrom C (EncI w B) := fun pre A D row hs hg hr => by
  obtain ⟨p, v, hp, h1, h2, h3, h4⟩ := hs
  have key : ∀ (k : Nat) (cs : Array Value) (t : TypeId) (f : Nat × Nat), A.heap[k]? = some (.cells cs t f) → D.heap[k]? = some (.cells cs t f) := fun k cs t f hk =>
    (hg.block k (lt_of_block hk) (fun er => by
      obtain ⟨_, o, ho, hc⟩ := hr k er.symm
      rw [hk] at ho
      cases ho
      cases hc)).trans hk
  refine ⟨p, v, hp, key _ _ _ _ h1, ⟨h2.1, ?_⟩, ⟨hg.os.trans h3.os, hg.tape.trans h3.tape, hg.output.trans h3.output, Nat.le_trans h3.size hg.size, fun k hk => (hg.block k (Nat.lt_of_lt_of_le hk h3.size) (fun er => ?_)).trans (h3.block k hk)⟩, Nat.le_trans h4 hg.size⟩
  · rcases h2.2 with h | ⟨g, cap, cur, ev, hg0, hh, r⟩
    · exact .inl h
    · exact .inr ⟨g, cap, cur, ev, hg0, key _ _ _ _ hh, r⟩
  · have := (hr k er.symm).1
    omega
theorem encode_in (v : Value) (d : List Int) (w : World) (hv : Opened.Ints .i64 w v d) (hl : d.length ≤ 1000) :
    CallsIn Fence.wide 3 Tryz.prog 95 #[v] w fun e w' => e = .returned (.string (str (enc (subs 0 d)))) ∧ Below w.heap.size w w' := by
  have HV := Lib.hid hv
  obtain ⟨⟨a, cap, rfl, -⟩, -⟩ := hv
  refine callsIn_of_wp_marks Tryz.func95 rfl trivial ?_ rfl
  simp only [Tryz.ntmps95, List.size_toArray, List.length_cons, List.length_nil, Nat.reduceAdd, Nat.reduceSub, Array.replicate_succ, Array.replicate_zero, List.push_toArray, List.append_toArray, List.nil_append, List.cons_append]
  gi_wp2_with fail
  refine ⟨trivial, ?_⟩
  refine CallsIn.mono (callsIn_wide.2 (deltas_any _ _ _ _)) ?_
  rintro e' w' ⟨rfl, rfl⟩
  gi_wp2_with fail
  obtain ⟨W2, hW⟩ : ∃ W2, (w.alloc (bd (.pointer none) (.slice none 0 0))).alloc (.cells #[.slice a d.length cap] 82) = W2 := ⟨_, rfl⟩
  have hz2 : W2.heap.size = w.heap.size + 2 := by rw [← hW]; simp
  have hbox : W2.heap[w.heap.size + 1]? = some (.cells #[.slice a d.length cap] 82 (0, 0)) := by
    rw [← hW]
    have := alloc_new (w.alloc (bd (.pointer none) (.slice none 0 0))) (.cells #[.slice a d.length cap] 82)
    rw [World.size_alloc] at this
    exact this
  have hbel0 : Below w.heap.size w W2 := by rw [← hW]; exact ((Below.refl _ w).alloc (Nat.le_refl _) _).alloc (by simp) _
  have hrow : Row (fun k => k = w.heap.size ∨ w.heap.size + 2 ≤ k) W2 (.slice a d.length cap) d := row_of HV.out hbel0 (fun k hk h => by omega)
  have hI0 : EncI w W2.heap.size [] W2 := ⟨.pointer none, .slice none 0 0, .inl rfl, by rw [← hW]; exact alloc_at _ (alloc_new w _), own8_nil _ _, hbel0, Nat.le_refl _⟩
  change Code.wpIn _ _ _ _ _ _ ((w.alloc (bd (.pointer none) (.slice none 0 0))).alloc (.cells #[.slice a d.length cap] 82))
  rw [hW]
  clear hW
  refine wpIn_rangeFunc_ownF rfl (by decide) (gf := 176) (lb := #[.pointer (some ⟨w.heap.size + 1, 0, none⟩)]) rfl trivial (enters_of Tryz.func176 (by kernel_rfl) rfl)
    (deltas_stopsB Fence.wide 2 trivial rfl (by decide) (w.heap.size + 1) _ d (fun k => k = w.heap.size ∨ w.heap.size + 2 ≤ k) hl W2 hbox hrow)
    (fun h k => h.trans k) (fun W l o o' hl h _ _ => kept_put (by rw [hz2] at hl; exact .inr hl) h) (Below.refl _ _) (fun _ => rfl)
    (EncI w W2.heap.size) (fun _ _ _ => False) (encI_own (by omega)) (fun _ _ _ _ _ hs _ _ => hs) hI0
    (fun x => { tmps := #[.slice a d.length cap, undef, .string ⟨#[]⟩, .pointer (some ⟨w.heap.size, 0, none⟩), .int .i64 x.1, .slice a d.length cap, .func (.func 176) #[] #[.pointer (some ⟨w.heap.size + 1, 0, none⟩)], .int .i64 x.1, undef, undef, undef, undef, undef], defers := [] }) ?assign ?body ?done ?stop
  case assign =>
    intro l x W K hK
    gi_wp2
    exact hK
  case body =>
    rintro l pre ⟨x, hx⟩ W ⟨p, v', hp, hq, hO, hbel, hBW⟩ hlen
    have hel : (enc (bare pre)).length ≤ 10000 := by have := enc_len (bare pre); rw [bare_length] at this; omega
    have hZ := Lib.hid (zig_lt hx.1 hx.2)
    have hpl := putL_length (zigN x)
    have hO1 := Lib.hid hO
    clear hO
    gi_wp2_with fail
    refine ⟨trivial, ?_⟩
    refine CallsIn.mono (CallsIn.inRound l (callsIn_wide.2 (zig_any x _ hx.1 hx.2))) ?_
    rintro e' w1 ⟨rfl, rfl⟩
    have HP := Lib.hid (fun W => put_any (zigN x) W hZ.out)
    gi_wp2_with fail
    refine ⟨trivial, ?_⟩
    refine CallsIn.mono (CallsIn.inRound l (callsIn_wide.2 (HP.out _))) ?_
    rintro e' w1 ⟨rfl, hb1⟩
    have hq1 := below_at hb1 hq (lt_of_block hq)
    have hO2 : Own8 w1 W2.heap.size v' (enc (bare pre)) := own8_kept (Kept.of_below (T := fun _ => False) hb1) hO1.out (fun _ _ h => h)
    have hs1 := hb1.size
    have HW := Lib.hid (wstr_any w.heap.size W2.heap.size p v' hp (enc (bare pre)) (str (putL (zigN x))) w1 hq1 hO2 (by omega) (by omega) (by omega) (by rw [str_size]; omega))
    gi_wp2_with fail
    refine ⟨trivial, ?_⟩
    refine CallsIn.mono (CallsIn.inRound l (callsIn_wide.2 HW.out)) ?_
    rintro e' w3 ⟨rfl, ⟨v3, hq3, hO3⟩, k3, o3⟩
    have hsz := hbel.size
    have k1 : Kept (fun k => k = w.heap.size ∨ w.heap.size + 2 ≤ k) W w1 := Kept.of_below hb1
    have kf := k1.trans (k3.mono (T' := fun k => k = w.heap.size ∨ w.heap.size + 2 ≤ k) (fun i hi h => by rcases h with h | h <;> omega))
    have hs3 := kf.size
    rw [str_data] at hO3
    gi_wp2_with fail
    exact ⟨(others_of_below hb1).trans o3, kf, _, v3, .inr rfl, hq3, by rw [bare_snoc, enc_snoc]; exact hO3, hbel.trans (kf.to_below hsz (fun k hk h => by rcases h with h | h <;> omega)), by omega⟩
  case done =>
    rintro D ys W hD hS hI hDD
    obtain ⟨p, v', hp, hq, hO, hbel, hBW⟩ := hI
    have hS' : bare ys = subs 0 d := hS
    rw [hS'] at hO
    have hsz := hbel.size
    have HS := Lib.hid (Tryz.Builder_String_any_k w.heap.size w.heap.size _ _ (Lib.IsBuilderF.of (builder_of hp hq hO (by omega))) hsz)
    replace hbel := Lib.hid hbel
    clear hq hO hI0 hrow hbox hbel0 hS hS'
    gi_wp2_with fail
    refine ⟨trivial, ?_⟩
    refine CallsIn.mono (callsIn_wide.2 HS.out) ?_
    rintro e' w4 ⟨rfl, -, hb4, ho4⟩
    have hD4 : w4.heap[D]? = some (.deferred (some [])) := ho4 D _ hDD (by intro h; cases h; omega) (by intro c fz h; cases h)
    have hbF : Below w.heap.size w (w4.putObj D (.deferred none)) := by
      have h1 := hbel.out.trans hb4
      have hg := grownBy_putObj' w4 D (.deferred none)
      exact ⟨hg.os.trans h1.os, hg.tape.trans h1.tape, hg.output.trans h1.output, Nat.le_trans h1.size hg.size, fun k hk => (hg.block k (Nat.lt_of_lt_of_le hk h1.size) (fun e => by cases e; omega)).trans (h1.block k hk)⟩
    replace hbF := Lib.hid hbF
    gi_wp2_with fail
    refine ⟨by simp, .inl ⟨_, _, rfl, run_takeDeferred hD4, ?_⟩⟩
    refine ⟨_, results_tmp rfl _ _ _, ?_, hbF.out⟩
    rfl
  case stop =>
    rintro D c pre W _ _ h _
    exact h.elim
theorem encode_any (v : Value) (d : List Int) (w : World) (hv : Opened.Ints .i64 w v d) (hl : d.length ≤ 1000) :
    Calls Tryz.prog 95 #[v] w fun e w' => e = .returned (.string (str (enc (subs 0 d)))) ∧ Below w.heap.size w w' :=
  callsIn_wide.1 (encode_in v d w hv hl)
end Dl
end
section
open Go.RowKit Go.Shelf
attribute [local go_sem] Fl.run_store_float
namespace Og
open Mem Tp Tr Mo Pk
def dEnc (l : List Int) : List UInt8 := Dl.enc (Dl.subs 0 l)
def opC (l : List Mv) : List Ck.Ch :=
  [(4, str (putL l.length)), (5, str (partL (dEnc (l.map (·.t.c))) ++ Rn.encRuns (l.map fun m => m.t.r.toNat))), (6, str (partL (dEnc (l.map (·.pa))) ++ dEnc (l.map (·.ch)))),
   (7, str (Dc.encDict (l.map (·.nm)))), (8, str (ranksL (l.map (·.rk))))]
theorem chs_of_block {W : World} {b : Nat} {l : List Ck.Ch} {n : Nat} (hb : W.heap[b]? = some (.cells (Ck.cellsC l).toArray 57 (0, 0))) (hn : l.length = n) (hok : ∀ c ∈ l, Ck.Ok c) : Ck.Chs W (.slice (some ⟨b, 0, none⟩) n n) l := by
  refine ⟨⟨_, n, by rw [hn], by omega, (fun e => by cases e), fun _ => ⟨b, 0, rfl, lt_of_block hb, fun j hj => ?_⟩⟩, hok⟩
  obtain ⟨e1, e2⟩ := Ck.cellsC_at l j hj
  rw [cell_at hb, cell_at hb, ← e1, ← e2]
  simp
theorem dEnc_len (l : List Int) : (dEnc l).length ≤ 10 * l.length := by
  have := Dl.enc_len (Dl.subs 0 l)
  rwa [Dl.subs_length] at this
theorem ranksL_len (zs : List Nat) : (ranksL zs).length ≤ 20 + 40 * zs.length := by
  unfold ranksL
  have h1 := partL_len (Fg.encFlags (someL zs))
  have h2 := Fg.encFlags_len (someL zs)
  have h3 := Rl.encR_len (restL zs) 0
  have h4 := restL_len zs
  rw [someL_len] at h2
  rw [List.length_append]
  omega
theorem opC_ok (l : List Mv) (hl : l.length ≤ 300) (hn : ∀ x ∈ l, oneM x = true) : ∀ c ∈ opC l, Ck.Ok c := by
  have h1 := dEnc_len (l.map (·.t.c))
  have h2 := Rn.encRuns_len (l.map fun m => m.t.r.toNat)
  have h3 := dEnc_len (l.map (·.pa))
  have h4 := dEnc_len (l.map (·.ch))
  have h5 : (Dc.encDict (l.map (·.nm))).length ≤ 10 + (10 + 64) * (l.map (·.nm)).length + 20 * (l.map (·.nm)).length := Dc.encDict_len (fun s hs => by
    obtain ⟨m, hm, rfl⟩ := List.mem_map.1 hs
    have := (Fo.oneR_in (Fo.oneM_in (hn m hm)).2).1
    unfold rowOf at this
    exact this.2.2.2.2)
  have h6 := ranksL_len (l.map (·.rk))
  have h7 := partL_len (dEnc (l.map (·.t.c)))
  have h8 := partL_len (dEnc (l.map (·.pa)))
  have h9 := putL_length l.length
  rw [List.length_map] at h1 h2 h3 h4 h5 h6
  intro c hc
  simp only [opC, List.mem_cons, List.not_mem_nil, or_false] at hc
  unfold Ck.Ok Ck.I64 maxLen
  rcases hc with rfl | rfl | rfl | rfl | rfl
  all_goals
    refine ⟨(by constructor <;> (dsimp only; omega)), ?_⟩
    dsimp only
    rw [str_size]
    try rw [List.length_append]
    omega
def colL (l : List Mv) (vc vr vp vh vn vk : Value) (k1 k2 k3 : Nat) : List (TypeId × Value × List Value) :=
  [(3, vc, (l.take k1).map fun m => i64C m.t.c), (120, vr, (l.take k1).map fun m => u64C m.t.r.toNat), (3, vp, (l.take k2).map fun m => i64C m.pa), (3, vh, (l.take k2).map fun m => i64C m.ch),
   (9, vn, (l.take k3).map fun m => strC m.nm), (47, vk, (l.take k3).map fun m => fltC m.rk)]
theorem encode_any (v : Value) (l : List Mv) (w : World) (hS : Mem.Mvs w v l) (hl : l.length ≤ 300) (hn : ∀ x ∈ l, oneM x = true) (hk : ∀ x ∈ l, x.rk < 2 * Fl.S) (hso : l.Pairwise (fun a b => bef a.t b.t = true)) :
    Calls Tryz.prog 48 #[v] w fun e w' => (∃ v', e = .returned (.tuple #[v', .int .i64 0]) ∧ Ck.Chs w' v' (opC l)) ∧ Below w.heap.size w w' := by
  obtain ⟨i0, hi, hz0, hz1, hz2⟩ := info_parts Mr.infoInt
  obtain ⟨i1, hi1, hy0, hy1, hy2⟩ := info_parts infoU
  obtain ⟨i2, hi2, hst0, hst1, hst2⟩ := info_parts infoS
  obtain ⟨i3, hi3, hv0, hv1, hv2⟩ := info_parts Rl.infoF
  have HM := Lib.hid (Mo.may_ok v l w hS (by omega) hn (fun x h => by have := (Fo.oneR_in (Fo.oneM_in (hn x h)).2).1; unfold rowOf at this; dsimp only at this; omega) (fun j a b h k => Fo.pw_adj hso j a b h k))
  obtain ⟨a, c, rfl⟩ := hS.len
  have HS := Lib.hid hS
  have HN := Lib.hid hn
  have HK := Lib.hid hk
  clear hS hn hk hso
  go_enter Tryz.func48, Tryz.ntmps48
  go_wp2_with fail
  refine HM.out.mono ?_
  rintro e w1 ⟨rfl, b1⟩
  have hF0 := Lib.hid (Fam.nil w1 w1.heap.size [3, 120, 3, 3, 9, 47])
  replace b1 := Lib.hid b1
  clear HM
  go_wp2_with fail
  go_loopw [4, 7, 5, 6, 8, 9, 17] (fun vc vr vp vh vn vk i wr => ∃ k : Nat, i = .int .i64 k ∧ k ≤ l.length ∧ Hid (Fam wr w1.heap.size (colL l vc vr vp vh vn vk k k k)) ∧ Hid (Below w1.heap.size w1 wr)) (fun _ _ _ _ _ _ i _ => l.length - (intOf i).toNat)
  case atStart => exact ⟨0, rfl, by omega, hF0, Lib.hid (Below.refl _ _)⟩
  case round =>
    clear hF0
    obtain ⟨k, rfl, hk, hF, hb⟩ := hrel
    by_cases hlt : k < l.length
    · have hlt' : (k : Int) < (l.length : Nat) := by omega
      obtain ⟨x, hx⟩ := some_at hlt
      obtain ⟨b, off, rfl⟩ := HS.out.addr (by omega)
      obtain ⟨q0, q1, q2, q3, q4, q5⟩ := mov_at (HS.out.below (b1.out.trans (hb.out.mono b1.out.size))) rfl hx
      have hxm := List.mem_of_getElem? hx
      have hsz := hb.out.size
      obtain ⟨hot, hor⟩ := Fo.oneM_in (HN.out x hxm)
      have hx1 := hot.2.2.1
      have hx2 := hot.2.2.2
      have hu0 : IntKind.u64.wrap x.t.r = (x.t.r.toNat : Int) := by rw [IntWalk.u64_in _ (by omega)]; omega
      have hc1 : (l.take (k + 1)).map (fun m => i64C m.t.c) = (l.take k).map (fun m => i64C m.t.c) ++ [.int .i64 x.t.c] := by rw [take_snoc hx, map_snoc]; rfl
      obtain ⟨rr, hrr⟩ : ∃ rr : Nat, x.t.r.toNat = rr := ⟨_, rfl⟩
      have hr1 : (l.take (k + 1)).map (fun m => u64C m.t.r.toNat) = (l.take k).map (fun m => u64C m.t.r.toNat) ++ [.int .u64 (rr : Int)] := by rw [take_snoc hx, map_snoc, ← hrr]; rfl
      have hp1 : (l.take (k + 1)).map (fun m => i64C m.pa) = (l.take k).map (fun m => i64C m.pa) ++ [.int .i64 x.pa] := by rw [take_snoc hx, map_snoc]; rfl
      have hh1 : (l.take (k + 1)).map (fun m => i64C m.ch) = (l.take k).map (fun m => i64C m.ch) ++ [.int .i64 x.ch] := by rw [take_snoc hx, map_snoc]; rfl
      have hn1 : (l.take (k + 1)).map (fun m => strC m.nm) = (l.take k).map (fun m => strC m.nm) ++ [.string x.nm] := by rw [take_snoc hx, map_snoc]; rfl
      have hk1 : (l.take (k + 1)).map (fun m => fltC m.rk) = (l.take k).map (fun m => fltC m.rk) ++ [.float .f64 x.rk] := by rw [take_snoc hx, map_snoc]; rfl
      have hu := Lib.hid (show IntKind.u64.wrap x.t.r = (rr : Int) by rw [hu0, hrr])
      clear hu0 hrr
      replace hc1 := Lib.hid hc1
      replace hr1 := Lib.hid hr1
      replace hp1 := Lib.hid hp1
      replace hh1 := Lib.hid hh1
      replace hn1 := Lib.hid hn1
      replace hk1 := Lib.hid hk1
      have hF' := Lib.hid (hF.out.alloc (.cells #[.int .i64 x.t.c, .int .i64 x.t.r, .int .i64 x.pa, .int .i64 x.ch, .string x.nm, .float .f64 x.rk] 49))
      have hx' := Lib.hid (alloc_new wr (.cells #[.int .i64 x.t.c, .int .i64 x.t.r, .int .i64 x.pa, .int .i64 x.ch, .string x.nm, .float .f64 x.rk] 49))
      have hb' := Lib.hid (hb.out.alloc hsz (.cells #[.int .i64 x.t.c, .int .i64 x.t.r, .int .i64 x.pa, .int .i64 x.ch, .string x.nm, .float .f64 x.rk] 49))
      clear hx hF hb
      go_upto_region 10 with fail
      obtain ⟨W0, hW0⟩ : ∃ W0, wr.alloc (.cells #[.int .i64 x.t.c, .int .i64 x.t.r, .int .i64 x.pa, .int .i64 x.ch, .string x.nm, .float .f64 x.rk] 49) = W0 := ⟨_, rfl⟩
      rw [hW0] at hF' hx' hb' ⊢
      clear hW0
      have hsz0 := hb'.out.size
      have hxl := lt_of_block hx'.out
      generalize wr.heap.size = g at *
      go_cut [4, 7] (fun v4 v7 wx => Hid (Fam wx w1.heap.size (colL l v4 v7 u5 u6 u8 u9 (k + 1) k k)) ∧ Hid (Below w1.heap.size w1 wx) ∧ Hid (wx.heap[g]? = some (.cells #[.int .i64 x.t.c, .int .i64 x.t.r, .int .i64 x.pa, .int .i64 x.ch, .string x.nm, .float .f64 x.rk] 49 (0, 0))))
      case first =>
        have cS : ∀ W : World, W.heap[g]? = some (.cells #[.int .i64 x.t.c, .int .i64 x.t.r, .int .i64 x.pa, .int .i64 x.ch, .string x.nm, .float .f64 x.rk] 49 (0, 0)) → Below w1.heap.size w1 W → W.cell? ⟨g, 0, none⟩ = some (.int .i64 x.t.c) ∧ W.cell? ⟨g, 1, none⟩ = some (.int .i64 x.t.r) ∧ W.heap[g]? = some (.cells #[.int .i64 x.t.c, .int .i64 x.t.r, .int .i64 x.pa, .int .i64 x.ch, .string x.nm, .float .f64 x.rk] 49 (0, 0)) ∧ Below w1.heap.size w1 W := fun W h1 h2 => ⟨cell_at h1 0, cell_at h1 1, h1, h2⟩
        replace cS := Lib.hid cS
        have hu' := hu.out
        go_region_held3 (fun W : World => W.cell? ⟨g, 0, none⟩ = some (.int .i64 x.t.c) ∧ W.cell? ⟨g, 1, none⟩ = some (.int .i64 x.t.r) ∧ W.heap[g]? = some (.cells #[.int .i64 x.t.c, .int .i64 x.t.r, .int .i64 x.pa, .int .i64 x.ch, .string x.nm, .float .f64 x.rk] 49 (0, 0)) ∧ Below w1.heap.size w1 W)
          (first | assumption | exact cS.out _ hx'.out hb'.out.drew | exact cS.out _ (alloc_at _ hx'.out) (hb'.out.alloc hsz0 _).drew | exact cS.out _ (alloc_at _ (alloc_at _ hx'.out)) ((hb'.out.alloc hsz0 _).alloc (by simp; omega) _).drew | (refine cS.out _ (alloc_at _ ?_) (Below.alloc ?_ ?_ _) <;> first | assumption | omega | (simp; omega)))
          ((first
              | (refine step_append_near (by rfl) (.tmp 21) (.tmp 25) 82 (by rfl) w1.heap.size 3 i0 _ 1 8 Tryz.underlying82 hi hz0 hz1 hz2 rfl (by decide) u4 ((l.take k).map fun m => i64C m.t.c).length ((l.take k).map fun m => i64C m.t.c) (by rfl) ?_ _ 1 1 [.int .i64 x.t.c] (by rfl) rfl ?_ (one_cell (v := .int .i64 x.t.c) rfl) (by unfold maxLen; first | omega | (simp; omega)) (by first | omega | (simp; omega)) (by assumption : _ ∧ _ ∧ _ ∧ Below w1.heap.size w1 _).2.2.2.size ?_; (exact fam_own (i := 0) (by first | exact (hF'.out.alloc _).drew | exact ((hF'.out.alloc _).alloc _).drew) rfl); (first | exact alloc_new _ _ | exact alloc_at _ (alloc_new _ _) | exact second_new _ _ _); intro v5 w5 hO5 hg5 hn5; obtain ⟨a5, k5, e5⟩ := (own_sl hO5.out).len; subst e5; have hF5 := Lib.hid (Fam.app (by first | exact (hF'.out.alloc _).drew | exact ((hF'.out.alloc _).alloc _).drew) (i := 0) rfl hO5.out hg5.out hn5.out); have hh5 : w5.heap[g]? = some (.cells #[.int .i64 x.t.c, .int .i64 x.t.r, .int .i64 x.pa, .int .i64 x.ch, .string x.nm, .float .f64 x.rk] 49 (0, 0)) := fam_other hg5.out (by assumption : _ ∧ _ ∧ _ ∧ Below w1.heap.size w1 _).2.2.1 (fun e' => fam_not (e := 3) (t := 49) (v := u4) hF'.out (i := 0) rfl hx'.out (by decide) e'); have hb5 : Below w1.heap.size w1 w5 := (by assumption : _ ∧ _ ∧ _ ∧ Below w1.heap.size w1 _).2.2.2.grown hg5.out (by assumption : _ ∧ _ ∧ _ ∧ Below w1.heap.size w1 _).2.2.2.size (fun j e => ((fam_own (e := 3) (v := u4) hF'.out (i := 0) rfl).lt _ e).1); have hS5 := cS.out w5 hh5 hb5; have hz5 := hb5.size; have hzg5 := hg5.out.size; (first | (have hq5 : w5.heap[W0.heap.size + 1]? = some (.cells #[.int .u64 (rr : Int)] 120 (0, 0)) := fam_other hg5.out (second_new _ _ _) (fun e => by have := ((fam_own (e := 3) (v := u4) hF'.out (i := 0) rfl).lt _ e).2; omega)) | (have hq5 : w5.heap[W0.heap.size]? = some (.cells #[.int .u64 (rr : Int)] 120 (0, 0)) := fam_other hg5.out (alloc_at _ (alloc_new _ _)) (fun e => by have := ((fam_own (e := 3) (v := u4) hF'.out (i := 0) rfl).lt _ e).2; omega)) | skip))
              | (refine step_append_near (by rfl) (.tmp 27) (.tmp 32) 162 (by rfl) w1.heap.size 120 i1 _ 1 8 Tryz.underlying162 hi1 hy0 hy1 hy2 rfl (by decide) u7 ((l.take k).map fun m => u64C m.t.r.toNat).length ((l.take k).map fun m => u64C m.t.r.toNat) (by rfl) ?_ _ 1 1 [.int .u64 (rr : Int)] (by rfl) rfl ?_ (one_cell (v := .int .u64 (rr : Int)) rfl) (by unfold maxLen; first | omega | (simp; omega)) (by first | omega | (simp; omega)) (by assumption : _ ∧ _ ∧ _ ∧ Below w1.heap.size w1 _).2.2.2.size ?_; (exact fam_own (i := 1) (by first | exact hF5.out | exact hF5.out.alloc _) rfl); (first | exact alloc_new _ _ | exact alloc_at _ (alloc_new _ _) | exact second_new _ _ _ | exact hq5); intro v6 w6 hO6 hg6 hn6; obtain ⟨a6, k6, e6⟩ := (own_sl hO6.out).len; subst e6; have hF6 := Lib.hid (Fam.app (by first | exact hF5.out | exact hF5.out.alloc _) (i := 1) rfl hO6.out hg6.out hn6.out); have hh6 : w6.heap[g]? = some (.cells #[.int .i64 x.t.c, .int .i64 x.t.r, .int .i64 x.pa, .int .i64 x.ch, .string x.nm, .float .f64 x.rk] 49 (0, 0)) := fam_other hg6.out (by assumption : _ ∧ _ ∧ _ ∧ Below w1.heap.size w1 _).2.2.1 (fun e' => fam_not (e := 120) (t := 49) (v := u7) hF'.out (i := 1) rfl hx'.out (by decide) e'); have hb6 : Below w1.heap.size w1 w6 := (by assumption : _ ∧ _ ∧ _ ∧ Below w1.heap.size w1 _).2.2.2.grown hg6.out (by assumption : _ ∧ _ ∧ _ ∧ Below w1.heap.size w1 _).2.2.2.size (fun j e => ((fam_own (e := 120) (v := u7) hF'.out (i := 1) rfl).lt _ e).1); have hS6 := cS.out w6 hh6 hb6; have hz6 := hb6.size; have hzg6 := hg6.out.size)))
        all_goals
          go_wp2_with fail
          go_meet
          refine ⟨?_, Lib.hid hb6, Lib.hid hh6⟩
          have hfin := hF6.out
          simp only [List.length_map, List.length_take, Nat.min_eq_left (Nat.le_of_lt hlt)] at hfin
          unfold colL at hfin
          simp only [List.set_cons_zero, List.set_cons_succ] at hfin
          rw [← hc1.out, ← hr1.out] at hfin
          exact Lib.hid hfin
      case rest =>
        clear hF' hx' hb' hsz0 hxl
        obtain ⟨hF', hb', hx'⟩ := hcut
        go_upto_region 11 with fail
        generalize wc = W0 at *
        have hsz0 := hb'.out.size
        have hxl := lt_of_block hx'.out
        go_cut [5, 6] (fun v5 v6 wx => Hid (Fam wx w1.heap.size (colL l u4 u7 v5 v6 u8 u9 (k + 1) (k + 1) k)) ∧ Hid (Below w1.heap.size w1 wx) ∧ Hid (wx.heap[g]? = some (.cells #[.int .i64 x.t.c, .int .i64 x.t.r, .int .i64 x.pa, .int .i64 x.ch, .string x.nm, .float .f64 x.rk] 49 (0, 0))))
        case first =>
          have cS : ∀ W : World, W.heap[g]? = some (.cells #[.int .i64 x.t.c, .int .i64 x.t.r, .int .i64 x.pa, .int .i64 x.ch, .string x.nm, .float .f64 x.rk] 49 (0, 0)) → Below w1.heap.size w1 W → W.cell? ⟨g, 2, none⟩ = some (.int .i64 x.pa) ∧ W.cell? ⟨g, 3, none⟩ = some (.int .i64 x.ch) ∧ W.heap[g]? = some (.cells #[.int .i64 x.t.c, .int .i64 x.t.r, .int .i64 x.pa, .int .i64 x.ch, .string x.nm, .float .f64 x.rk] 49 (0, 0)) ∧ Below w1.heap.size w1 W := fun W h1 h2 => ⟨cell_at h1 2, cell_at h1 3, h1, h2⟩
          replace cS := Lib.hid cS
          go_region_held3 (fun W : World => W.cell? ⟨g, 2, none⟩ = some (.int .i64 x.pa) ∧ W.cell? ⟨g, 3, none⟩ = some (.int .i64 x.ch) ∧ W.heap[g]? = some (.cells #[.int .i64 x.t.c, .int .i64 x.t.r, .int .i64 x.pa, .int .i64 x.ch, .string x.nm, .float .f64 x.rk] 49 (0, 0)) ∧ Below w1.heap.size w1 W)
            (first | assumption | exact cS.out _ hx'.out hb'.out.drew | exact cS.out _ (alloc_at _ hx'.out) (hb'.out.alloc hsz0 _).drew | exact cS.out _ (alloc_at _ (alloc_at _ hx'.out)) ((hb'.out.alloc hsz0 _).alloc (by simp; omega) _).drew | (refine cS.out _ (alloc_at _ ?_) (Below.alloc ?_ ?_ _) <;> first | assumption | omega | (simp; omega)))
            ((first
                | (refine step_append_near (by rfl) (.tmp 34) (.tmp 37) 82 (by rfl) w1.heap.size 3 i0 _ 1 8 Tryz.underlying82 hi hz0 hz1 hz2 rfl (by decide) u5 ((l.take k).map fun m => i64C m.pa).length ((l.take k).map fun m => i64C m.pa) (by rfl) ?_ _ 1 1 [.int .i64 x.pa] (by rfl) rfl ?_ (one_cell (v := .int .i64 x.pa) rfl) (by unfold maxLen; first | omega | (simp; omega)) (by first | omega | (simp; omega)) (by assumption : _ ∧ _ ∧ _ ∧ Below w1.heap.size w1 _).2.2.2.size ?_; (exact fam_own (i := 2) (by first | exact (hF'.out.alloc _).drew | exact ((hF'.out.alloc _).alloc _).drew) rfl); (first | exact alloc_new _ _ | exact alloc_at _ (alloc_new _ _) | exact second_new _ _ _); intro v5 w5 hO5 hg5 hn5; obtain ⟨a5, k5, e5⟩ := (own_sl hO5.out).len; subst e5; have hF5 := Lib.hid (Fam.app (by first | exact (hF'.out.alloc _).drew | exact ((hF'.out.alloc _).alloc _).drew) (i := 2) rfl hO5.out hg5.out hn5.out); have hh5 : w5.heap[g]? = some (.cells #[.int .i64 x.t.c, .int .i64 x.t.r, .int .i64 x.pa, .int .i64 x.ch, .string x.nm, .float .f64 x.rk] 49 (0, 0)) := fam_other hg5.out (by assumption : _ ∧ _ ∧ _ ∧ Below w1.heap.size w1 _).2.2.1 (fun e' => fam_not (e := 3) (t := 49) (v := u5) hF'.out (i := 2) rfl hx'.out (by decide) e'); have hb5 : Below w1.heap.size w1 w5 := (by assumption : _ ∧ _ ∧ _ ∧ Below w1.heap.size w1 _).2.2.2.grown hg5.out (by assumption : _ ∧ _ ∧ _ ∧ Below w1.heap.size w1 _).2.2.2.size (fun j e => ((fam_own (e := 3) (v := u5) hF'.out (i := 2) rfl).lt _ e).1); have hS5 := cS.out w5 hh5 hb5; have hz5 := hb5.size; have hzg5 := hg5.out.size; (first | (have hq5 : w5.heap[W0.heap.size + 1]? = some (.cells #[.int .i64 x.ch] 3 (0, 0)) := fam_other hg5.out (second_new _ _ _) (fun e => by have := ((fam_own (e := 3) (v := u5) hF'.out (i := 2) rfl).lt _ e).2; omega)) | (have hq5 : w5.heap[W0.heap.size]? = some (.cells #[.int .i64 x.ch] 3 (0, 0)) := fam_other hg5.out (alloc_at _ (alloc_new _ _)) (fun e => by have := ((fam_own (e := 3) (v := u5) hF'.out (i := 2) rfl).lt _ e).2; omega)) | skip))
                | (refine step_append_near (by rfl) (.tmp 39) (.tmp 42) 82 (by rfl) w1.heap.size 3 i0 _ 1 8 Tryz.underlying82 hi hz0 hz1 hz2 rfl (by decide) u6 ((l.take k).map fun m => i64C m.ch).length ((l.take k).map fun m => i64C m.ch) (by rfl) ?_ _ 1 1 [.int .i64 x.ch] (by rfl) rfl ?_ (one_cell (v := .int .i64 x.ch) rfl) (by unfold maxLen; first | omega | (simp; omega)) (by first | omega | (simp; omega)) (by assumption : _ ∧ _ ∧ _ ∧ Below w1.heap.size w1 _).2.2.2.size ?_; (exact fam_own (i := 3) (by first | exact hF5.out | exact hF5.out.alloc _) rfl); (first | exact alloc_new _ _ | exact alloc_at _ (alloc_new _ _) | exact second_new _ _ _ | exact hq5); intro v6 w6 hO6 hg6 hn6; obtain ⟨a6, k6, e6⟩ := (own_sl hO6.out).len; subst e6; have hF6 := Lib.hid (Fam.app (by first | exact hF5.out | exact hF5.out.alloc _) (i := 3) rfl hO6.out hg6.out hn6.out); have hh6 : w6.heap[g]? = some (.cells #[.int .i64 x.t.c, .int .i64 x.t.r, .int .i64 x.pa, .int .i64 x.ch, .string x.nm, .float .f64 x.rk] 49 (0, 0)) := fam_other hg6.out (by assumption : _ ∧ _ ∧ _ ∧ Below w1.heap.size w1 _).2.2.1 (fun e' => fam_not (e := 3) (t := 49) (v := u6) hF'.out (i := 3) rfl hx'.out (by decide) e'); have hb6 : Below w1.heap.size w1 w6 := (by assumption : _ ∧ _ ∧ _ ∧ Below w1.heap.size w1 _).2.2.2.grown hg6.out (by assumption : _ ∧ _ ∧ _ ∧ Below w1.heap.size w1 _).2.2.2.size (fun j e => ((fam_own (e := 3) (v := u6) hF'.out (i := 3) rfl).lt _ e).1); have hS6 := cS.out w6 hh6 hb6; have hz6 := hb6.size; have hzg6 := hg6.out.size)))
          all_goals
            go_wp2_with fail
            go_meet
            refine ⟨?_, Lib.hid hb6, Lib.hid hh6⟩
            have hfin := hF6.out
            simp only [List.length_map, List.length_take, Nat.min_eq_left (Nat.le_of_lt hlt)] at hfin
            unfold colL at hfin
            simp only [List.set_cons_zero, List.set_cons_succ] at hfin
            rw [← hp1.out, ← hh1.out] at hfin
            exact Lib.hid hfin
        case rest =>
          clear hF' hx' hb' hsz0 hxl
          obtain ⟨hF', hb', hx'⟩ := hcut
          go_upto_region 12 with fail
          generalize wc = W0 at *
          have hsz0 := hb'.out.size
          have hxl := lt_of_block hx'.out
          have cS : ∀ W : World, W.heap[g]? = some (.cells #[.int .i64 x.t.c, .int .i64 x.t.r, .int .i64 x.pa, .int .i64 x.ch, .string x.nm, .float .f64 x.rk] 49 (0, 0)) → Below w1.heap.size w1 W → W.cell? ⟨g, 4, none⟩ = some (.string x.nm) ∧ W.cell? ⟨g, 5, none⟩ = some (.float .f64 x.rk) ∧ W.heap[g]? = some (.cells #[.int .i64 x.t.c, .int .i64 x.t.r, .int .i64 x.pa, .int .i64 x.ch, .string x.nm, .float .f64 x.rk] 49 (0, 0)) ∧ Below w1.heap.size w1 W := fun W h1 h2 => ⟨cell_at h1 4, cell_at h1 5, h1, h2⟩
          replace cS := Lib.hid cS
          go_region_held3 (fun W : World => W.cell? ⟨g, 4, none⟩ = some (.string x.nm) ∧ W.cell? ⟨g, 5, none⟩ = some (.float .f64 x.rk) ∧ W.heap[g]? = some (.cells #[.int .i64 x.t.c, .int .i64 x.t.r, .int .i64 x.pa, .int .i64 x.ch, .string x.nm, .float .f64 x.rk] 49 (0, 0)) ∧ Below w1.heap.size w1 W)
            (first | assumption | exact cS.out _ hx'.out hb'.out.drew | exact cS.out _ (alloc_at _ hx'.out) (hb'.out.alloc hsz0 _).drew | exact cS.out _ (alloc_at _ (alloc_at _ hx'.out)) ((hb'.out.alloc hsz0 _).alloc (by simp; omega) _).drew | (refine cS.out _ (alloc_at _ ?_) (Below.alloc ?_ ?_ _) <;> first | assumption | omega | (simp; omega)))
            ((first
                | (refine step_append_near (by rfl) (.tmp 44) (.tmp 47) 163 (by rfl) w1.heap.size 9 i2 _ 1 16 Tryz.underlying163 hi2 hst0 hst1 hst2 rfl (by decide) u8 ((l.take k).map fun m => strC m.nm).length ((l.take k).map fun m => strC m.nm) (by rfl) ?_ _ 1 1 [.string x.nm] (by rfl) rfl ?_ (one_cell (v := .string x.nm) rfl) (by unfold maxLen; first | omega | (simp; omega)) (by first | omega | (simp; omega)) (by assumption : _ ∧ _ ∧ _ ∧ Below w1.heap.size w1 _).2.2.2.size ?_; (exact fam_own (i := 4) (by first | exact (hF'.out.alloc _).drew | exact ((hF'.out.alloc _).alloc _).drew) rfl); (first | exact alloc_new _ _ | exact alloc_at _ (alloc_new _ _) | exact second_new _ _ _); intro v5 w5 hO5 hg5 hn5; obtain ⟨a5, k5, e5⟩ := (own_sl hO5.out).len; subst e5; have hF5 := Lib.hid (Fam.app (by first | exact (hF'.out.alloc _).drew | exact ((hF'.out.alloc _).alloc _).drew) (i := 4) rfl hO5.out hg5.out hn5.out); have hh5 : w5.heap[g]? = some (.cells #[.int .i64 x.t.c, .int .i64 x.t.r, .int .i64 x.pa, .int .i64 x.ch, .string x.nm, .float .f64 x.rk] 49 (0, 0)) := fam_other hg5.out (by assumption : _ ∧ _ ∧ _ ∧ Below w1.heap.size w1 _).2.2.1 (fun e' => fam_not (e := 9) (t := 49) (v := u8) hF'.out (i := 4) rfl hx'.out (by decide) e'); have hb5 : Below w1.heap.size w1 w5 := (by assumption : _ ∧ _ ∧ _ ∧ Below w1.heap.size w1 _).2.2.2.grown hg5.out (by assumption : _ ∧ _ ∧ _ ∧ Below w1.heap.size w1 _).2.2.2.size (fun j e => ((fam_own (e := 9) (v := u8) hF'.out (i := 4) rfl).lt _ e).1); have hS5 := cS.out w5 hh5 hb5; have hz5 := hb5.size; have hzg5 := hg5.out.size; (first | (have hq5 : w5.heap[W0.heap.size + 1]? = some (.cells #[.float .f64 x.rk] 47 (0, 0)) := fam_other hg5.out (second_new _ _ _) (fun e => by have := ((fam_own (e := 9) (v := u8) hF'.out (i := 4) rfl).lt _ e).2; omega)) | (have hq5 : w5.heap[W0.heap.size]? = some (.cells #[.float .f64 x.rk] 47 (0, 0)) := fam_other hg5.out (alloc_at _ (alloc_new _ _)) (fun e => by have := ((fam_own (e := 9) (v := u8) hF'.out (i := 4) rfl).lt _ e).2; omega)) | skip))
                | (refine step_append_near (by rfl) (.tmp 49) (.tmp 52) 164 (by rfl) w1.heap.size 47 i3 _ 1 8 Tryz.underlying164 hi3 hv0 hv1 hv2 rfl (by decide) u9 ((l.take k).map fun m => fltC m.rk).length ((l.take k).map fun m => fltC m.rk) (by rfl) ?_ _ 1 1 [.float .f64 x.rk] (by rfl) rfl ?_ (one_cell (v := .float .f64 x.rk) rfl) (by unfold maxLen; first | omega | (simp; omega)) (by first | omega | (simp; omega)) (by assumption : _ ∧ _ ∧ _ ∧ Below w1.heap.size w1 _).2.2.2.size ?_; (exact fam_own (i := 5) (by first | exact hF5.out | exact hF5.out.alloc _) rfl); (first | exact alloc_new _ _ | exact alloc_at _ (alloc_new _ _) | exact second_new _ _ _ | exact hq5); intro v6 w6 hO6 hg6 hn6; obtain ⟨a6, k6, e6⟩ := (own_sl hO6.out).len; subst e6; have hF6 := Lib.hid (Fam.app (by first | exact hF5.out | exact hF5.out.alloc _) (i := 5) rfl hO6.out hg6.out hn6.out); have hh6 : w6.heap[g]? = some (.cells #[.int .i64 x.t.c, .int .i64 x.t.r, .int .i64 x.pa, .int .i64 x.ch, .string x.nm, .float .f64 x.rk] 49 (0, 0)) := fam_other hg6.out (by assumption : _ ∧ _ ∧ _ ∧ Below w1.heap.size w1 _).2.2.1 (fun e' => fam_not (e := 47) (t := 49) (v := u9) hF'.out (i := 5) rfl hx'.out (by decide) e'); have hb6 : Below w1.heap.size w1 w6 := (by assumption : _ ∧ _ ∧ _ ∧ Below w1.heap.size w1 _).2.2.2.grown hg6.out (by assumption : _ ∧ _ ∧ _ ∧ Below w1.heap.size w1 _).2.2.2.size (fun j e => ((fam_own (e := 47) (v := u9) hF'.out (i := 5) rfl).lt _ e).1); have hS6 := cS.out w6 hh6 hb6; have hz6 := hb6.size; have hzg6 := hg6.out.size)))
          all_goals
            have hfin := hF6.out
            simp only [List.length_map, List.length_take, Nat.min_eq_left (Nat.le_of_lt hlt)] at hfin
            unfold colL at hfin
            simp only [List.set_cons_zero, List.set_cons_succ] at hfin
            rw [← hn1.out, ← hk1.out] at hfin
            replace hfin := Lib.hid hfin
            replace hb6 := Lib.hid hb6
            clear cS hS6 hh6
            go_wp2_with fail
            go_roundw
            case rel => exact ⟨k + 1, by go_num, by omega, hfin, hb6⟩
            case measure => simp [intOf]; omega
    · -- THE END OF THE LOOP
      obtain rfl : k = l.length := by omega
      have hge : ¬ ((l.length : Int) < (l.length : Nat)) := by omega
      have e0 := (fam_own hF.out (i := 0) rfl)
      have e1 := (fam_own hF.out (i := 1) rfl)
      have e2 := (fam_own hF.out (i := 2) rfl)
      have e3 := (fam_own hF.out (i := 3) rfl)
      have e4 := (fam_own hF.out (i := 4) rfl)
      have e5 := (fam_own hF.out (i := 5) rfl)
      rw [List.take_length] at e0 e1 e2 e3 e4 e5
      have s0 : Is wr u4 (l.map (fun m : Mv => m.t.c)) := by have := own_sl e0; unfold Is; rw [List.length_map, List.map_map]; rw [List.length_map] at this; exact this
      have s1 : Us wr u7 (l.map fun m : Mv => m.t.r.toNat) := by have := own_sl e1; unfold Us; rw [List.length_map, List.map_map]; rw [List.length_map] at this; exact this
      have s2 : Is wr u5 (l.map (fun m : Mv => m.pa)) := by have := own_sl e2; unfold Is; rw [List.length_map, List.map_map]; rw [List.length_map] at this; exact this
      have s3 : Is wr u6 (l.map (fun m : Mv => m.ch)) := by have := own_sl e3; unfold Is; rw [List.length_map, List.map_map]; rw [List.length_map] at this; exact this
      have s4 : Strs wr u8 (l.map (fun m : Mv => m.nm)) := by have := own_sl e4; unfold Strs; rw [List.length_map, List.map_map]; rw [List.length_map] at this; exact this
      have s5 : Fs wr u9 (l.map (fun m : Mv => m.rk)) := by have := own_sl e5; unfold Fs; rw [List.length_map, List.map_map]; rw [List.length_map] at this; exact this
      have hin : ∀ x ∈ l, okT x.t ∧ (1 ≤ x.ch ∧ x.ch ≤ 2147483647 ∧ 0 ≤ x.pa ∧ x.pa ≤ 2147483647 ∧ x.nm.size ≤ 64) := fun x hx => by
        have h := Fo.oneM_in (HN.out x hx)
        have h2 := (Fo.oneR_in h.2).1
        exact ⟨h.1, h2⟩
      have hm : ∀ (f : Mv → Int), (∀ x ∈ l, -9223372036854775808 ≤ f x ∧ f x ≤ 9223372036854775807) → ∀ n ∈ l.map f, IntKind.i64.min ≤ n ∧ n ≤ IntKind.i64.max := fun f hf n hn => by
        obtain ⟨x, hx, rfl⟩ := List.mem_map.1 hn
        exact hf x hx
      have C1 := Lib.hid (fun (W : World) => put_any l.length W (by unfold W64; omega))
      have C2 := Lib.hid (fun (W : World) (h : Below wr.heap.size wr W) => Dl.encode_any u4 (l.map (fun m : Mv => m.t.c)) W (is_ints (s0.below h) (hm _ (fun x hx => by have := (hin x hx).1; unfold okT at this; omega))) (by rw [List.length_map]; omega))
      have C3 := Lib.hid (fun (W : World) => part_any (dEnc (l.map (fun m : Mv => m.t.c))) W (by have := dEnc_len (l.map (fun m : Mv => m.t.c)); rw [List.length_map] at this; omega))
      have C4 := Lib.hid (fun (W : World) (h : Below wr.heap.size wr W) => Rn.encode_any u7 (l.map fun m : Mv => m.t.r.toNat) W (s1.below h) (by rw [List.length_map]; omega) (fun n hn => by
        obtain ⟨x, hx, rfl⟩ := List.mem_map.1 hn
        have := (hin x hx).1
        unfold okT at this
        unfold W64
        omega))
      have C5 := Lib.hid (fun (W : World) (h : Below wr.heap.size wr W) => Dl.encode_any u5 (l.map (fun m : Mv => m.pa)) W (is_ints (s2.below h) (hm _ (fun x hx => by have := (hin x hx).2; omega))) (by rw [List.length_map]; omega))
      have C6 := Lib.hid (fun (W : World) => part_any (dEnc (l.map (fun m : Mv => m.pa))) W (by have := dEnc_len (l.map (fun m : Mv => m.pa)); rw [List.length_map] at this; omega))
      have C7 := Lib.hid (fun (W : World) (h : Below wr.heap.size wr W) => Dl.encode_any u6 (l.map (fun m : Mv => m.ch)) W (is_ints (s3.below h) (hm _ (fun x hx => by have := (hin x hx).2; omega))) (by rw [List.length_map]; omega))
      have C8 := Lib.hid (fun (W : World) (h : Below wr.heap.size wr W) => Dc.encode_any u8 (l.map (fun m : Mv => m.nm)) W (s4.below h) (by rw [List.length_map]; omega) (fun n hn => by
        obtain ⟨x, hx, rfl⟩ := List.mem_map.1 hn
        have := (hin x hx).2
        omega))
      have C9 := Lib.hid (fun (W : World) (h : Below wr.heap.size wr W) => putRanks_any u9 (l.map (fun m : Mv => m.rk)) W (s5.below h) (fun n hn => by
        obtain ⟨x, hx, rfl⟩ := List.mem_map.1 hn
        exact HK.out x hx) (by rw [List.length_map]; omega))
      have hA : Hid (str (partL (dEnc (l.map (fun m : Mv => m.t.c)))) ++ str (Rn.encRuns (l.map fun m : Mv => m.t.r.toNat)) = str (partL (dEnc (l.map (fun m : Mv => m.t.c))) ++ Rn.encRuns (l.map fun m : Mv => m.t.r.toNat))) := Lib.hid (Ck.str_append _ _)
      have hB : Hid (str (partL (dEnc (l.map (fun m : Mv => m.pa)))) ++ str (dEnc (l.map (fun m : Mv => m.ch))) = str (partL (dEnc (l.map (fun m : Mv => m.pa))) ++ dEnc (l.map (fun m : Mv => m.ch)))) := Lib.hid (Ck.str_append _ _)
      have hzA : ¬ 9223372036854775807 < (str (partL (dEnc (l.map (fun m : Mv => m.t.c))))).size + (str (Rn.encRuns (l.map fun m : Mv => m.t.r.toNat))).size := by
        have h1 := dEnc_len (l.map (fun m : Mv => m.t.c))
        have h2 := Rn.encRuns_len (l.map fun m : Mv => m.t.r.toNat)
        have h7 := partL_len (dEnc (l.map (fun m : Mv => m.t.c)))
        rw [List.length_map] at h1 h2
        rw [str_size, str_size]
        omega
      have hzB : ¬ 9223372036854775807 < (str (partL (dEnc (l.map (fun m : Mv => m.pa))))).size + (str (dEnc (l.map (fun m : Mv => m.ch)))).size := by
        have h1 := dEnc_len (l.map (fun m : Mv => m.pa))
        have h2 := dEnc_len (l.map (fun m : Mv => m.ch))
        have h7 := partL_len (dEnc (l.map (fun m : Mv => m.pa)))
        rw [List.length_map] at h1 h2
        rw [str_size, str_size]
        omega
      have hOC := Lib.hid (show opC l = [(4, str (putL l.length)), (5, str (partL (dEnc (l.map (fun m : Mv => m.t.c))) ++ Rn.encRuns (l.map fun m : Mv => m.t.r.toNat))), (6, str (partL (dEnc (l.map (fun m : Mv => m.pa))) ++ dEnc (l.map (fun m : Mv => m.ch)))), (7, str (Dc.encDict (l.map (fun m : Mv => m.nm)))), (8, str (ranksL (l.map (fun m : Mv => m.rk))))] from rfl)
      have hOk := Lib.hid (opC_ok l hl HN.out)
      rw [hOC.out] at hOk
      change Hid (∀ (W : World), Below wr.heap.size wr W → Calls _ _ _ _ fun e w' => e = .returned (.string (str (dEnc (l.map (fun m : Mv => m.t.c))))) ∧ _) at C2
      change Hid (∀ (W : World), Below wr.heap.size wr W → Calls _ _ _ _ fun e w' => e = .returned (.string (str (dEnc (l.map (fun m : Mv => m.pa))))) ∧ _) at C5
      change Hid (∀ (W : World), Below wr.heap.size wr W → Calls _ _ _ _ fun e w' => e = .returned (.string (str (dEnc (l.map (fun m : Mv => m.ch))))) ∧ _) at C7
      rw [← hA.out, ← hB.out] at hOk hOC
      have hwl : IntKind.u64.wrap (l.length : Int) = (l.length : Int) := IntWalk.u64_in _ (by omega)
      have B0 := Lib.hid (Below.refl wr.heap.size wr)
      have hbw := Lib.hid (b1.out.trans (hb.out.mono b1.out.size))
      clear e0 e1 e2 e3 e4 e5 s0 s1 s2 s3 s4 s5 hin hm hF hb hA hB
      generalize str (partL (dEnc (l.map (fun m : Mv => m.t.c)))) = x3 at *
      generalize str (dEnc (l.map (fun m : Mv => m.t.c))) = x2 at *
      generalize str (Rn.encRuns (l.map fun m : Mv => m.t.r.toNat)) = x4 at *
      generalize str (partL (dEnc (l.map (fun m : Mv => m.pa)))) = x6 at *
      generalize str (dEnc (l.map (fun m : Mv => m.pa))) = x5 at *
      generalize str (dEnc (l.map (fun m : Mv => m.ch))) = x7 at *
      generalize str (Dc.encDict (l.map (fun m : Mv => m.nm))) = x8 at *
      generalize str (ranksL (l.map (fun m : Mv => m.rk))) = x9 at *
      generalize str (putL l.length) = x1 at *
      go_wp2_with fail
      refine (C1.out _).mono ?_
      rintro e z1 ⟨rfl, y1⟩
      have B1 := Lib.hid (B0.out.trans (y1.mono B0.out.size))
      clear y1 B0 C1
      go_wp2_with fail
      refine (C2.out _ B1.out).mono ?_
      rintro e z2 ⟨rfl, y2⟩
      have B2 := Lib.hid (B1.out.trans (y2.mono B1.out.size))
      clear y2 B1 C2
      go_wp2_with fail
      refine (C3.out _).mono ?_
      rintro e z3 ⟨rfl, y3⟩
      have B3 := Lib.hid (B2.out.trans (y3.mono B2.out.size))
      clear y3 B2 C3
      go_wp2_with fail
      refine (C4.out _ B3.out).mono ?_
      rintro e z4 ⟨rfl, y4⟩
      have B4 := Lib.hid (B3.out.trans (y4.mono B3.out.size))
      clear y4 B3 C4
      go_wp2_with fail
      refine (C5.out _ B4.out).mono ?_
      rintro e z5 ⟨rfl, y5⟩
      have B5 := Lib.hid (B4.out.trans (y5.mono B4.out.size))
      clear y5 B4 C5
      go_wp2_with fail
      refine (C6.out _).mono ?_
      rintro e z6 ⟨rfl, y6⟩
      have B6 := Lib.hid (B5.out.trans (y6.mono B5.out.size))
      clear y6 B5 C6
      go_wp2_with fail
      refine (C7.out _ B6.out).mono ?_
      rintro e z7 ⟨rfl, y7⟩
      have B7 := Lib.hid (B6.out.trans (y7.mono B6.out.size))
      clear y7 B6 C7
      go_wp2_with fail
      refine (C8.out _ B7.out).mono ?_
      rintro e z8 ⟨rfl, y8⟩
      have B8 := Lib.hid (B7.out.trans (y8.mono B7.out.size))
      clear y8 B7 C8
      go_wp2_with fail
      refine (C9.out _ B8.out).mono ?_
      rintro e z9 ⟨rfl, y9⟩
      have B9 := Lib.hid (B8.out.trans (y9.mono B8.out.size))
      clear y9 B8 C9
      go_wp2_with fail
      go_ret2
      have hbz := hbw.out.trans (B9.out.mono hbw.out.size)
      rw [hOC.out]
      refine ⟨⟨_, rfl, chs_of_block (alloc_new _ _) rfl hOk.out⟩, hbz.alloc ?_ _⟩
      exact hbz.size
end Og
end
section
open Go.RowKit Go.Shelf
namespace Sn
open Mem Tp Tr Mo Pk Og
inductive Col where
  | cnt (n : Nat)
  | ints (l : List Int)
  | rks (l : List Nat)
  | pints (l : List Int)
  | pnms (l : List ByteArray)
def colB : Col → List UInt8
  | .cnt n => putL n
  | .ints l => dEnc l
  | .rks l => ranksL l
  | .pints l => partL (dEnc l)
  | .pnms l => partL (Dc.encDict l)
def IntsOk (l : List Int) : Prop := l.length ≤ 250 ∧ ∀ n ∈ l, -9223372036854775808 ≤ n ∧ n ≤ 9223372036854775807
def ColV (W : World) (u : Value) : Col → Prop
  | .cnt n => u = .iface 159 (.int .i64 n) ∧ n ≤ 9223372036854775807
  | .ints l => ∃ v, u = .iface 203 v ∧ Is W v l ∧ IntsOk l
  | .rks l => ∃ v, u = .iface 205 v ∧ Fs W v l ∧ l.length ≤ 250 ∧ ∀ z ∈ l, z < 2 * Fl.S
  | .pints l => ∃ v, u = .iface 207 (.agg #[.iface 203 v]) ∧ Is W v l ∧ IntsOk l
  | .pnms l => ∃ v, u = .iface 207 (.agg #[.iface 204 v]) ∧ Strs W v l ∧ l.length ≤ 250 ∧ ∀ s ∈ l, s.size ≤ 64
theorem ColV.below {W W' : World} {u : Value} {c : Col} (h : ColV W u c) (hb : Below W.heap.size W W') : ColV W' u c := by
  cases c with
  | cnt n => exact h
  | ints l => obtain ⟨v, h1, h2, h3⟩ := h; exact ⟨v, h1, Sl.below h2 hb, h3⟩
  | rks l => obtain ⟨v, h1, h2, h3⟩ := h; exact ⟨v, h1, Sl.below h2 hb, h3⟩
  | pints l => obtain ⟨v, h1, h2, h3⟩ := h; exact ⟨v, h1, Sl.below h2 hb, h3⟩
  | pnms l => obtain ⟨v, h1, h2, h3⟩ := h; exact ⟨v, h1, Sl.below h2 hb, h3⟩
theorem colB_len {W : World} {u : Value} {c : Col} (h : ColV W u c) : (colB c).length ≤ 24000 := by
  cases c with
  | cnt n => have := putL_length n; unfold colB; dsimp only; omega
  | ints l => obtain ⟨v, h1, h2, h3, h4⟩ := h; have := dEnc_len l; unfold colB; dsimp only; omega
  | rks l => obtain ⟨v, h1, h2, h3, h4⟩ := h; have := ranksL_len l; unfold colB; dsimp only; omega
  | pints l => obtain ⟨v, h1, h2, h3, h4⟩ := h; have := dEnc_len l; have := partL_len (dEnc l); unfold colB; dsimp only; omega
  | pnms l => obtain ⟨v, h1, h2, h3, h4⟩ := h; have := Dc.encDict_len h4; have := partL_len (Dc.encDict l); unfold colB; dsimp only; omega
theorem cnt_any (n : Nat) (w : World) (hn : n ≤ 9223372036854775807) :
    Calls Tryz.prog 258 #[.int .i64 n] w fun e w' => e = .returned (.string (str (putL n))) ∧ Below w.heap.size w w' := by
  have HP := Lib.hid (put_any n w (by unfold W64; omega))
  have hw1 : IntKind.u64.wrap (n : Int) = (n : Int) := IntWalk.u64_in _ (by omega)
  go_enter Tryz.func258, Tryz.ntmps258
  go_wp2_with fail
  refine HP.out.mono ?_
  rintro e w1 ⟨rfl, b1⟩
  replace b1 := Lib.hid b1
  go_wp2_with fail
  go_ret
  exact ⟨rfl, b1.out⟩
theorem ints_any (v : Value) (l : List Int) (w : World) (hv : Is w v l) (hl : IntsOk l) :
    Calls Tryz.prog 259 #[v] w fun e w' => e = .returned (.string (str (dEnc l))) ∧ Below w.heap.size w w' := by
  have HP := Lib.hid (Dl.encode_any v l w (is_ints hv hl.2) (by have := hl.1; omega))
  go_enter Tryz.func259, Tryz.ntmps259
  go_wp2_with fail
  refine HP.out.mono ?_
  rintro e w1 ⟨rfl, b1⟩
  replace b1 := Lib.hid b1
  go_wp2_with fail
  go_ret
  exact ⟨rfl, b1.out⟩
theorem names_any (v : Value) (l : List ByteArray) (w : World) (hv : Strs w v l) (hl : l.length ≤ 250) (hs : ∀ s ∈ l, s.size ≤ 64) :
    Calls Tryz.prog 260 #[v] w fun e w' => e = .returned (.string (str (Dc.encDict l))) ∧ Below w.heap.size w w' := by
  have HP := Lib.hid (Dc.encode_any v l w hv (by omega) (fun s h => by have := hs s h; omega))
  go_enter Tryz.func260, Tryz.ntmps260
  go_wp2_with fail
  refine HP.out.mono ?_
  rintro e w1 ⟨rfl, b1⟩
  replace b1 := Lib.hid b1
  go_wp2_with fail
  go_ret
  exact ⟨rfl, b1.out⟩
theorem ranks_any (v : Value) (l : List Nat) (w : World) (hv : Fs w v l) (hl : l.length ≤ 250) (hs : ∀ z ∈ l, z < 2 * Fl.S) :
    Calls Tryz.prog 261 #[v] w fun e w' => e = .returned (.string (str (ranksL l))) ∧ Below w.heap.size w w' := by
  have HP := Lib.hid (putRanks_any v l w hv hs (by omega))
  go_enter Tryz.func261, Tryz.ntmps261
  go_wp2_with fail
  refine HP.out.mono ?_
  rintro e w1 ⟨rfl, b1⟩
  replace b1 := Lib.hid b1
  go_wp2_with fail
  go_ret
  exact ⟨rfl, b1.out⟩
theorem inv_cnt (x : Value) (w : World) : (method 442 159 x "bonsai/snap.bytes").run Tryz.prog w = .ok (258, x) w := by kernel_rfl
theorem inv_ints (x : Value) (w : World) : (method 442 203 x "bonsai/snap.bytes").run Tryz.prog w = .ok (259, x) w := by kernel_rfl
theorem inv_names (x : Value) (w : World) : (method 442 204 x "bonsai/snap.bytes").run Tryz.prog w = .ok (260, x) w := by kernel_rfl
theorem inv_ranks (x : Value) (w : World) : (method 442 205 x "bonsai/snap.bytes").run Tryz.prog w = .ok (261, x) w := by kernel_rfl
theorem inv_part (x : Value) (w : World) : (method 442 207 x "bonsai/snap.bytes").run Tryz.prog w = .ok (262, x) w := by kernel_rfl
attribute [local go_sem] inv_cnt inv_ints inv_names inv_ranks inv_part
theorem pints_any (v : Value) (l : List Int) (w : World) (hv : Is w v l) (hl : IntsOk l) :
    Calls Tryz.prog 262 #[.agg #[.iface 203 v]] w fun e w' => e = .returned (.string (str (partL (dEnc l)))) ∧ Below w.heap.size w w' := by
  have hb0 := (Below.refl w.heap.size w).alloc (Nat.le_refl _) (.cells #[.iface 203 v] 207)
  have HP := Lib.hid (ints_any v l _ (hv.below hb0) hl)
  have HQ := Lib.hid (fun W => part_any (dEnc l) W (by have := dEnc_len l; have := hl.1; omega))
  replace hb0 := Lib.hid hb0
  go_enter Tryz.func262, Tryz.ntmps262
  go_wp2_with fail
  refine HP.out.mono ?_
  rintro e w1 ⟨rfl, b1⟩
  replace b1 := Lib.hid (hb0.out.trans (b1.mono (by simp)))
  clear HP
  go_wp2_with fail
  refine (HQ.out _).mono ?_
  rintro e w2 ⟨rfl, b2⟩
  replace b2 := Lib.hid (b1.out.trans (b2.mono b1.out.size))
  go_wp2_with fail
  go_ret
  exact ⟨rfl, b2.out⟩
theorem pnms_any (v : Value) (l : List ByteArray) (w : World) (hv : Strs w v l) (hl : l.length ≤ 250) (hs : ∀ s ∈ l, s.size ≤ 64) :
    Calls Tryz.prog 262 #[.agg #[.iface 204 v]] w fun e w' => e = .returned (.string (str (partL (Dc.encDict l)))) ∧ Below w.heap.size w w' := by
  have hb0 := (Below.refl w.heap.size w).alloc (Nat.le_refl _) (.cells #[.iface 204 v] 207)
  have HP := Lib.hid (names_any v l _ (hv.below hb0) hl hs)
  have HQ := Lib.hid (fun W => part_any (Dc.encDict l) W (by have := Dc.encDict_len hs; omega))
  replace hb0 := Lib.hid hb0
  go_enter Tryz.func262, Tryz.ntmps262
  go_wp2_with fail
  refine HP.out.mono ?_
  rintro e w1 ⟨rfl, b1⟩
  replace b1 := Lib.hid (hb0.out.trans (b1.mono (by simp)))
  clear HP
  go_wp2_with fail
  refine (HQ.out _).mono ?_
  rintro e w2 ⟨rfl, b2⟩
  replace b2 := Lib.hid (b1.out.trans (b2.mono b1.out.size))
  go_wp2_with fail
  go_ret
  exact ⟨rfl, b2.out⟩
theorem col_call {W : World} {u : Value} {c : Col} (h : ColV W u c) : ∃ t x f, u = .iface t x ∧ (∀ w, (method 442 t x "bonsai/snap.bytes").run Tryz.prog w = .ok (f, x) w) ∧ (∀ w, (callFunc f #[x]).run Tryz.prog w = .ok (.enter f #[x]) w) ∧
    Calls Tryz.prog f #[x] W fun e w' => e = .returned (.string (str (colB c))) ∧ Below W.heap.size W w' := by
  cases c with
  | cnt n => obtain ⟨rfl, h2⟩ := h; exact ⟨_, _, _, rfl, fun w => inv_cnt _ w, fun w => by simp [go_sem], cnt_any n W h2⟩
  | ints l => obtain ⟨v, rfl, h2, h3⟩ := h; exact ⟨_, _, _, rfl, fun w => inv_ints _ w, fun w => by simp [go_sem], ints_any v l W h2 h3⟩
  | rks l => obtain ⟨v, rfl, h2, h3, h4⟩ := h; exact ⟨_, _, _, rfl, fun w => inv_ranks _ w, fun w => by simp [go_sem], ranks_any v l W h2 h3 h4⟩
  | pints l => obtain ⟨v, rfl, h2, h3⟩ := h; exact ⟨_, _, _, rfl, fun w => inv_part _ w, fun w => by simp [go_sem], pints_any v l W h2 h3⟩
  | pnms l => obtain ⟨v, rfl, h2, h3, h4⟩ := h; exact ⟨_, _, _, rfl, fun w => inv_part _ w, fun w => by simp [go_sem], pnms_any v l W h2 h3 h4⟩
def colsB (cs : List Col) : List UInt8 := cs.flatMap colB
theorem put_ok (b n : Nat) (us : List Value) (cs : List Col) (w : World) (hn : us.length = n) (hc : cs.length = n) (hn5 : n ≤ 3 + 2) (hb : w.heap[b]? = some (.cells us.toArray 202 (0, 0))) (h : ∀ (k : Nat) u c, us[k]? = some u → cs[k]? = some c → ColV w u c) :
    Calls Tryz.prog 91 #[.slice (some ⟨b, 0, none⟩) n n] w fun e w' => e = .returned (.string (str (colsB cs))) ∧ Below w.heap.size w w' := by
  have hlt := lt_of_block hb
  have HB := Lib.hid hb
  have HC := Lib.hid h
  have hN := Lib.hid hn
  have hM := Lib.hid hc
  clear hb h hn hc
  go_enter Tryz.func91, Tryz.ntmps91
  go_wp2_with fail
  go_loopw [8] (fun i wr => ∃ k : Nat, i = .int .i64 k ∧ k ≤ n ∧ Hid (Ck.BAt w (colsB (cs.take k)) wr) ∧ Hid ((colsB (cs.take k)).length ≤ 24000 * k)) (fun i _ => n - (intOf i).toNat)
  case atStart => exact ⟨0, rfl, by omega, Lib.hid (Ck.BAt.start w), Lib.hid (by simp [colsB])⟩
  case round =>
    obtain ⟨k, rfl, hk, hB, hlen⟩ := hrel
    have hlen' := hlen.out
    by_cases hlt2 : k < n
    · have hlt' : (k : Int) < (n : Nat) := by omega
      obtain ⟨u, hu⟩ := some_at (show k < us.length by rw [hN.out]; exact hlt2)
      obtain ⟨c, hcc⟩ := some_at (show k < cs.length by rw [hM.out]; exact hlt2)
      have hV := (HC.out k u c hu hcc).below (hB.out.bel)
      have hcl := colB_len hV
      have hq : wr.cell? ⟨b, k, none⟩ = some u := block_cells (below_at hB.out.bel HB.out hlt) k u (by simpa using hu)
      obtain ⟨t, x, f, rfl, hm, hf, hCall⟩ := col_call hV
      have hnx : Hid (colsB (cs.take (k + 1)) = colsB (cs.take k) ++ colB c) := Lib.hid (by unfold colsB; rw [take_snoc hcc]; simp)
      replace hCall := Lib.hid hCall
      clear hu hcc hV hlen
      generalize colsB (cs.take k) = acc at *
      go_wp2_with fail
      refine hCall.out.mono ?_
      rintro e w1 ⟨rfl, b1⟩
      have hB1 := Lib.hid (hB.out.below b1)
      clear b1 hB hCall hm hf
      go_wp2_with fail
      refine (Ck.w_str hB1.out (str (colB c)) (by omega) (by rw [str_size]; omega)).mono ?_
      rintro e w5 ⟨rfl, hB5⟩
      rw [str_data, ← hnx.out] at hB5
      replace hB5 := Lib.hid hB5
      have hl5 := Lib.hid (show (colsB (cs.take (k + 1))).length ≤ 24000 * (k + 1) by rw [hnx.out, List.length_append]; omega)
      go_wp2_with fail
      go_roundw
      case rel => exact ⟨k + 1, by go_num, by omega, hB5, hl5⟩
      case measure => simp [intOf]; omega
    · obtain rfl : k = n := by omega
      have hge : ¬ ((k : Int) < (k : Nat)) := by omega
      rw [List.take_of_length_le (by rw [hM.out]; exact Nat.le_refl _)] at hB
      go_wp2_with fail
      refine (Ck.b_string hB.out).mono ?_
      rintro e w6 ⟨rfl, hb6⟩
      go_wp2_with fail
      go_ret
      exact ⟨rfl, hb6⟩
end Sn
end
section
open Go.RowKit
namespace Dl
open Mem Pk
def rdInts : Nat → ByteArray → Int → List Int × ByteArray × Int
  | 0, s, e => ([], s, e)
  | k + 1, s, e => (zagI (numN s e) :: (rdInts k (rest s (numK s e)) (numE s e)).1, (rdInts k (rest s (numK s e)) (numE s e)).2)
def decL (s : ByteArray) (n : Int) : List Int :=
  if n < 0 then [] else if (s.size : Int) < n then [] else if doneE (rdInts n.toNat s 0).2.1 (rdInts n.toNat s 0).2.2 = 0 then sums 0 (rdInts n.toNat s 0).1 else []
def decE (s : ByteArray) (n : Int) : Int :=
  if n < 0 then 1 else if (s.size : Int) < n then 2 else doneE (rdInts n.toNat s 0).2.1 (rdInts n.toNat s 0).2.2
structure RdAt (s : ByteArray) (N k : Nat) (t : ByteArray) (e : Int) (out : List Int) : Prop where
  eq : rdInts N s 0 = (out ++ (rdInts (N - k) t e).1, (rdInts (N - k) t e).2)
  len : out.length = k
  size : t.size ≤ s.size
  bound : ∀ n ∈ out, I64 n
theorem RdAt.start (s : ByteArray) (N : Nat) : RdAt s N 0 s 0 [] := ⟨rfl, rfl, Nat.le_refl _, fun _ h => by simp at h⟩
theorem RdAt.next {s t : ByteArray} {N k : Nat} {e : Int} {out : List Int} (h : RdAt s N k t e out) (hk : k < N) : RdAt s N (k + 1) (rest t (numK t e)) (numE t e) (out ++ [zagI (numN t e)]) := by
  have hN : N - k = (N - (k + 1)) + 1 := by omega
  refine ⟨?_, by rw [List.length_append, h.len]; rfl, ?_, fun n hn => ?_⟩
  · rw [h.eq, hN, rdInts, List.append_assoc]; rfl
  · rw [rest_size]; have := h.size; omega
  · rw [List.mem_append, List.mem_singleton] at hn
    rcases hn with hn | rfl
    · exact h.bound n hn
    · exact zag_bounds (numN_lt t e)
theorem RdAt.whole {s t : ByteArray} {N : Nat} {e : Int} {out : List Int} (h : RdAt s N N t e out) : rdInts N s 0 = (out, t, e) := by
  rw [h.eq, Nat.sub_self, rdInts, List.append_nil]
theorem ownI_kept {T : Nat → Prop} {w w' : World} {B : Nat} {v : Value} {l : List Int} (k : Kept T w w') (h : OwnI w B v l) (hT : ∀ k, B ≤ k → ¬ T k) : OwnI w' B v l := by
  refine ⟨h.1, ?_⟩
  rcases h.2 with h2 | ⟨g, cap, cur, ev, hg, hh, r⟩
  · exact .inl h2
  · exact .inr ⟨g, cap, cur, ev, hg, k.at hh (hT g hg), r⟩
theorem decode_any (s : ByteArray) (n : Int) (w : World) (hs : s.size ≤ 10000) :
    Calls Tryz.prog 153 #[.string s, .int .i64 n] w fun e w' => (∃ r, e = .returned (.tuple #[r, .int .i64 (decE s n)]) ∧ Opened.Ints .i64 w' r (decL s n)) ∧ Below w.heap.size w w' := by
  obtain ⟨i0, hi, hz0, hz1, hz2⟩ := info_parts infoI
  by_cases h0 : n < 0
  · have hE : Hid (decE s n = 1 ∧ decL s n = []) := Lib.hid (by unfold decE decL; rw [if_pos h0, if_pos h0]; exact ⟨rfl, rfl⟩)
    have hd : decide (n < 0) = true := decide_eq_true h0
    clear h0
    go_enter Tryz.func153, Tryz.ntmps153
    go_wp2_with fail
    go_ret2
    exact ⟨⟨.slice none 0 0, by rw [hE.out.1]; rfl, by rw [hE.out.2]; exact ints_nil _ _⟩, Below.refl _ _⟩
  · have hd : decide (n < 0) = false := decide_eq_false h0
    by_cases h1 : (s.size : Int) < n
    · have hE : Hid (decE s n = 2 ∧ decL s n = []) := Lib.hid (by unfold decE decL; rw [if_neg h0, if_neg h0, if_pos h1, if_pos h1]; exact ⟨rfl, rfl⟩)
      have hd1 : decide ((s.size : Int) < n) = true := decide_eq_true h1
      have hd2 : decide (n > (s.size : Int)) = true := decide_eq_true h1
      clear h0 h1
      go_enter Tryz.func153, Tryz.ntmps153
      go_wp2_with fail
      go_ret2
      exact ⟨⟨.slice none 0 0, by rw [hE.out.1]; rfl, by rw [hE.out.2]; exact ints_nil _ _⟩, Below.refl _ _⟩
    · have hEL : Hid (decE s n = doneE (rdInts n.toNat s 0).2.1 (rdInts n.toNat s 0).2.2 ∧ decL s n = if doneE (rdInts n.toNat s 0).2.1 (rdInts n.toNat s 0).2.2 = 0 then sums 0 (rdInts n.toNat s 0).1 else []) := Lib.hid (by unfold decE decL; rw [if_neg h0, if_neg h0, if_neg h1, if_neg h1]; exact ⟨rfl, rfl⟩)
      have hd1 : decide ((s.size : Int) < n) = false := decide_eq_false h1
      have hd2 : decide (n > (s.size : Int)) = false := decide_eq_false h1
      obtain ⟨N, rfl⟩ : ∃ N : Nat, n = (N : Int) := ⟨n.toNat, by omega⟩
      have hN : N ≤ s.size := by omega
      rw [Int.toNat_natCast] at hEL
      clear h0 h1
      go_enter Tryz.func153, Tryz.ntmps153
      go_wp2_with fail
      refine (new_any s _).mono ?_
      rintro e w' ⟨rfl, rfl⟩
      go_wp2_with fail
      have hA := alloc_new w (rd s 0)
      have hb0 : Below w.heap.size w (w.alloc (rd s 0)) := (Below.refl _ w).alloc (Nat.le_refl _) _
      have hz0' : (w.alloc (rd s 0)).heap.size = w.heap.size + 1 := by simp
      change Code.wp _ _ _ _ (w.alloc (rd s 0))
      generalize w.alloc (rd s 0) = w0 at *
      clear hd hd1 hd2
      go_loopw [7, 20] (fun v i wr => ∃ (k : Nat) (t : ByteArray) (e : Int) (out : List Int), i = .int .i64 k ∧ k ≤ N ∧ Hid (RdAt s N k t e out) ∧ Hid (wr.heap[w.heap.size]? = some (rd t e)) ∧ Hid (OwnI wr (w.heap.size + 1) v out) ∧ Below w.heap.size w wr ∧ w.heap.size + 1 ≤ wr.heap.size) (fun _ i _ => N - (intOf i).toNat)
      case atStart => exact ⟨0, s, 0, [], rfl, by omega, Lib.hid (RdAt.start s N), Lib.hid hA, Lib.hid (ownI_nil _ _), hb0, by omega⟩
      case round =>
        obtain ⟨k, t, e, out, rfl, hk, hR, hH, hO, hb, hz⟩ := hrel
        by_cases hlt : k < N
        · have hlt' : (k : Int) < (N : Int) := by omega
          have hnx := Lib.hid (hR.out.next hlt)
          have hlen := hR.out.len
          have hts := hR.out.size
          clear hlt hR
          have HI := Lib.hid (int_any w.heap.size t e wr hH.out (by omega))
          generalize zagI (numN t e) = c at *
          generalize rest t (numK t e) = t2 at *
          generalize numE t e = e2 at *
          go_wp2_with fail
          refine HI.out.mono ?_
          rintro e' w1 ⟨rfl, k1, k2⟩
          have hO1 : w1.ownsRow (w.heap.size + 1) 3 1 _ out.length (cellsI out) := ownI_kept k2 hO.out (fun k hk h => by subst h; omega)
          have hs1 := k2.size
          have hb1 := hb.trans (k2.to_below (B := w.heap.size) hb.size (fun k hk h => by omega))
          replace k1 := Lib.hid k1
          clear hO hH HI k2 hb
          go_wp2_with (at_builtin; refine wpList_append_own _ rfl _ _ 82 rfl (w.heap.size + 1) 3 i0 (.int .i64 0) 1 8 Tryz.underlying82 hi hz0 hz1 hz2 rfl (by decide) _ _ _ rfl (hO1.alloc _) ⟨w1.heap.size, 0, none⟩ 1 1 [.int .i64 c] rfl rfl (cell_one_new _ _ _) (one_int _) (by unfold maxLen; omega) (by omega) (by simp; omega) ?_; intro v' w3 hown hgrow _)
          have hO2 : OwnI w3 (w.heap.size + 1) v' (out ++ [c]) := ownI_snoc hown
          have hH3 : w3.heap[w.heap.size]? = some (rd t2 e2) := (hgrow.block _ (by simp; omega) (fun e => by have := (hO1.lt _ e.symm).1; omega)).trans (alloc_at _ k1.out)
          have hK3 : Kept (fun k => w.heap.size + 1 ≤ k) w1 w3 := ((Kept.refl _ w1).alloc _).grown hgrow (fun k er _ => (hO1.lt k er).1)
          have hB := hb1.trans (hK3.to_below (B := w.heap.size) hb1.size (fun k hk h => by omega))
          have hs3 := hK3.size
          clear hown hgrow hO1 hK3 k1
          go_wp2_with fail
          go_roundw
          case rel => exact ⟨k + 1, t2, e2, _, by go_num, by omega, hnx, Lib.hid hH3, Lib.hid hO2, hB, by omega⟩
          case measure => simp [intOf]; omega
        · obtain rfl : k = N := by omega
          have hge : decide (k < k) = false := decide_eq_false hlt
          have hw := Lib.hid hR.out.whole
          have hlen := hR.out.len
          have hI := Lib.hid (hO.out.ints hR.out.bound)
          clear hlt hR hO
          have hEL2 : decE s k = doneE t e ∧ decL s k = if doneE t e = 0 then sums 0 out else [] := by
            have h := hEL.out
            rw [hw.out] at h
            exact h
          clear hEL
          by_cases hc : doneE t e = 0
          · rw [hc, if_pos rfl] at hEL2
            have hE := Lib.hid hEL2
            have hne : (doneE t e != 0) = false := by rw [hc]; rfl
            clear hEL2 hc
            have HD := Lib.hid (done_any w.heap.size t e wr hH.out)
            generalize doneE t e = c at *
            go_wp2_with fail
            refine HD.out.mono ?_
            rintro e' w1 ⟨rfl, rfl⟩
            go_wp2_with fail
            refine (sums_any _ out _ hI.out (by omega)).mono ?_
            rintro e' w1 ⟨⟨r, rfl, hr⟩, hb2⟩
            replace hb2 := hb.trans (hb2.mono hb.size)
            go_wp2_with fail
            go_ret2
            refine ⟨⟨r, ?_, ?_⟩, hb2⟩
            · rw [hE.out.1]; rfl
            · rw [hE.out.2]; exact hr
          · rw [if_neg hc] at hEL2
            have hE := Lib.hid hEL2
            have hne : (doneE t e != 0) = true := by rw [bne_iff_ne]; exact hc
            clear hEL2 hc
            go_wp2_with fail
            refine (done_any w.heap.size t e _ hH.out).mono ?_
            rintro e' w1 ⟨rfl, rfl⟩
            go_wp2_with fail
            go_ret2
            refine ⟨⟨.slice none 0 0, ?_, ?_⟩, hb⟩
            · rw [hE.out.1]; rfl
            · rw [hE.out.2]; exact ints_nil _ _
end Dl
end
section
open Go.RowKit
namespace Dl
open Mem Pk
theorem there_back {a n : Int} (h : I64 n) : wrap64 (a + wrap64 (n - a)) = n := by
  unfold I64 at h
  unfold wrap64
  omega
theorem sums_subs (l : List Int) (h : ∀ n ∈ l, I64 n) : ∀ a, sums a (subs a l) = l := by
  induction l with
  | nil => intro a; rfl
  | cons n l ih =>
    intro a
    rw [subs, sums, there_back (h n List.mem_cons_self), ih (fun m hm => h m (List.mem_cons_of_mem _ hm))]
theorem head_num {t : ByteArray} {n : Nat} {l : List UInt8} (hn : n < W64) (h : t.data.toList = putL n ++ l) : numN t 0 = n ∧ numE t 0 = 0 ∧ (rest t (numK t 0)).data.toList = l := by
  have e := read_put hn l
  rw [← h] at e
  have e1 : numN t 0 = (numR t.data.toList).2.1 := rfl
  have e2 : numE t 0 = (numR t.data.toList).1 := rfl
  have e3 : numK t 0 = (numR t.data.toList).2.2 := rfl
  rw [e1, e2, rest_list, e3, e, h]
  exact ⟨rfl, rfl, by simp⟩
theorem enc_cons (n : Int) (l : List Int) : enc (n :: l) = putL (zigN n) ++ enc l := by unfold enc; simp
theorem rd_enc (d : List Int) (h : ∀ n ∈ d, I64 n) (t : List UInt8) : ∀ s : ByteArray, s.data.toList = enc d ++ t → ∃ s' : ByteArray, rdInts d.length s 0 = (d, s', 0) ∧ s'.data.toList = t := by
  induction d with
  | nil => intro s hs; exact ⟨s, rfl, hs⟩
  | cons n d ih =>
    intro s hs
    rw [enc_cons, List.append_assoc] at hs
    have hb := h n List.mem_cons_self
    obtain ⟨e1, e2, e3⟩ := head_num (zig_lt hb.1 hb.2) hs
    obtain ⟨s', e4, e5⟩ := ih (fun m hm => h m (List.mem_cons_of_mem _ hm)) _ e3
    refine ⟨s', ?_, e5⟩
    rw [List.length_cons, rdInts, e1, e2, e4, zag_zig]
theorem putL_one (n : Nat) : 1 ≤ (putL n).length := putL_pos n
theorem enc_ge (d : List Int) : d.length ≤ (enc d).length := by
  induction d with
  | nil => exact Nat.le_refl _
  | cons n d ih =>
    rw [enc_cons, List.length_append, List.length_cons]
    have := putL_one (zigN n)
    omega
theorem dec_enc {l : List Int} (h : ∀ n ∈ l, I64 n) : decE (str (enc (subs 0 l))) l.length = 0 ∧ decL (str (enc (subs 0 l))) l.length = l := by
  obtain ⟨s', e1, e2⟩ := rd_enc (subs 0 l) (subs_bound l 0) [] (str (enc (subs 0 l))) (by rw [str_data, List.append_nil])
  rw [subs_length] at e1
  have hz : s'.size = 0 := by rw [← size_list, e2]; rfl
  have hd : doneE s' 0 = 0 := by unfold doneE; rw [if_neg (fun h => h.2 hz)]
  have hle : ¬ (((str (enc (subs 0 l))).size : Int) < (l.length : Int)) := by
    have := enc_ge (subs 0 l)
    rw [subs_length] at this
    rw [str_size]
    omega
  have h0 : ¬ ((l.length : Int) < 0) := by omega
  unfold decE decL
  rw [if_neg h0, if_neg h0, if_neg hle, if_neg hle, Int.toNat_natCast, e1, hd, if_pos rfl, sums_subs l h]
  exact ⟨rfl, rfl⟩
end Dl
end
section
open Go.RowKit Go.Shelf
attribute [local go_sem] Fl.run_store_float
namespace Sn
open Mem Tp Tr Mo Pk Og
theorem map_map' {α β γ : Type} (f : β → γ) (g : α → β) (l : List α) : (l.map g).map f = l.map (fun x => f (g x)) := by rw [List.map_map]; rfl
theorem is_of {w : World} {B : Nat} {v : Value} {α : Type} {l : List α} {f : α → Int} (h : w.ownsRow B 3 1 v (l.map fun x => i64C (f x)).length (l.map fun x => i64C (f x))) : Is w v (l.map f) := by
  have := own_sl h
  unfold Is
  rw [map_map', List.length_map]
  rwa [List.length_map] at this
theorem strs_of {w : World} {B : Nat} {v : Value} {α : Type} {l : List α} {f : α → ByteArray} (h : w.ownsRow B 9 1 v (l.map fun x => strC (f x)).length (l.map fun x => strC (f x))) : Strs w v (l.map f) := by
  have := own_sl h
  unfold Strs
  rw [map_map', List.length_map]
  rwa [List.length_map] at this
theorem fs_of {w : World} {B : Nat} {v : Value} {α : Type} {l : List α} {f : α → Nat} (h : w.ownsRow B 47 1 v (l.map fun x => fltC (f x)).length (l.map fun x => fltC (f x))) : Fs w v (l.map f) := by
  have := own_sl h
  unfold Fs
  rw [map_map', List.length_map]
  rwa [List.length_map] at this
theorem ints_ok {α : Type} {l : List α} {f : α → Int} (hl : l.length ≤ 250) (hf : ∀ x ∈ l, -9223372036854775808 ≤ f x ∧ f x ≤ 9223372036854775807) : IntsOk (l.map f) :=
  ⟨by rw [List.length_map]; exact hl, fun n hn => by
    obtain ⟨x, hx, rfl⟩ := List.mem_map.1 hn
    exact hf x hx⟩
def colM (l : List Mk) (va vb : Value) (k : Nat) : List (TypeId × Value × List Value) :=
  [(3, va, (l.take k).map fun m => i64C m.rep), (3, vb, (l.take k).map fun m => i64C m.cnt)]
def colR (l : List Rw) (va vb vn vk : Value) (k1 k2 : Nat) : List (TypeId × Value × List Value) :=
  [(3, va, (l.take k1).map fun m => i64C m.ch), (3, vb, (l.take k1).map fun m => i64C m.pa), (9, vn, (l.take k2).map fun m => strC m.nm), (47, vk, (l.take k2).map fun m => fltC m.rk)]
def marksC (l : List Mk) : List Col := [.cnt l.length, .pints (l.map (·.rep)), .ints (l.map (·.cnt))]
def rowsC (l : List Rw) : List Col := [.cnt l.length, .pints (l.map (·.ch)), .pints (l.map (·.pa)), .pnms (l.map (·.nm)), .rks (l.map (·.rk))]
theorem putMarks_any (v : Value) (l : List Mk) (w : World) (hS : Mem.Mks w v l) (hl : l.length ≤ 250) (hn : ∀ x ∈ l, (-9223372036854775808 ≤ x.rep ∧ x.rep ≤ 9223372036854775807) ∧ -9223372036854775808 ≤ x.cnt ∧ x.cnt ≤ 9223372036854775807) :
    Calls Tryz.prog 93 #[v] w fun e w' => e = .returned (.string (str (colsB (marksC l)))) ∧ Below w.heap.size w w' := by
  obtain ⟨i0, hi, hz0, hz1, hz2⟩ := info_parts Mr.infoInt
  obtain ⟨a, c, rfl⟩ := hS.len
  have HS := Lib.hid hS
  have HN := Lib.hid hn
  have hF0 := Lib.hid (Fam.nil w w.heap.size [3, 3])
  clear hS hn
  go_enter Tryz.func93, Tryz.ntmps93
  go_wp2_with fail
  go_loopw [3, 4, 9] (fun va vb i wr => ∃ k : Nat, i = .int .i64 k ∧ k ≤ l.length ∧ Hid (Fam wr w.heap.size (colM l va vb k)) ∧ Hid (Below w.heap.size w wr)) (fun _ _ i _ => l.length - (intOf i).toNat)
  case atStart => exact ⟨0, rfl, by omega, hF0, Lib.hid (Below.refl _ _)⟩
  case round =>
    clear hF0
    obtain ⟨k, rfl, hk, hF, hb⟩ := hrel
    by_cases hlt : k < l.length
    · have hlt' : (k : Int) < (l.length : Nat) := by omega
      obtain ⟨x, hx⟩ := some_at hlt
      obtain ⟨b, off, rfl⟩ := HS.out.addr (by omega)
      obtain ⟨q0, q1⟩ := mk_at (HS.out.below hb.out) rfl hx
      have hsz := hb.out.size
      have hp1 : (l.take (k + 1)).map (fun m => i64C m.rep) = (l.take k).map (fun m => i64C m.rep) ++ [.int .i64 x.rep] := by rw [take_snoc hx, map_snoc]; rfl
      have hh1 : (l.take (k + 1)).map (fun m => i64C m.cnt) = (l.take k).map (fun m => i64C m.cnt) ++ [.int .i64 x.cnt] := by rw [take_snoc hx, map_snoc]; rfl
      replace hp1 := Lib.hid hp1
      replace hh1 := Lib.hid hh1
      have hF' := Lib.hid (hF.out.alloc (.cells #[.int .i64 x.rep, .int .i64 x.cnt] 112))
      have hx' := Lib.hid (alloc_new wr (.cells #[.int .i64 x.rep, .int .i64 x.cnt] 112))
      have hb' := Lib.hid (hb.out.alloc hsz (.cells #[.int .i64 x.rep, .int .i64 x.cnt] 112))
      clear hx hF hb
      go_upto_region 5 with fail
      obtain ⟨W0, hW0⟩ : ∃ W0, wr.alloc (.cells #[.int .i64 x.rep, .int .i64 x.cnt] 112) = W0 := ⟨_, rfl⟩
      rw [hW0] at hF' hx' hb' ⊢
      clear hW0
      have hsz0 := hb'.out.size
      have hxl := lt_of_block hx'.out
      generalize wr.heap.size = g at *
      have cS : ∀ W : World, W.heap[g]? = some (.cells #[.int .i64 x.rep, .int .i64 x.cnt] 112 (0, 0)) → Below w.heap.size w W → W.cell? ⟨g, 0, none⟩ = some (.int .i64 x.rep) ∧ W.cell? ⟨g, 1, none⟩ = some (.int .i64 x.cnt) ∧ W.heap[g]? = some (.cells #[.int .i64 x.rep, .int .i64 x.cnt] 112 (0, 0)) ∧ Below w.heap.size w W := fun W h1 h2 => ⟨cell_at h1 0, cell_at h1 1, h1, h2⟩
      replace cS := Lib.hid cS
      go_region_held3 (fun W : World => W.cell? ⟨g, 0, none⟩ = some (.int .i64 x.rep) ∧ W.cell? ⟨g, 1, none⟩ = some (.int .i64 x.cnt) ∧ W.heap[g]? = some (.cells #[.int .i64 x.rep, .int .i64 x.cnt] 112 (0, 0)) ∧ Below w.heap.size w W)
        (first | assumption | exact cS.out _ hx'.out hb'.out.drew | exact cS.out _ (alloc_at _ hx'.out) (hb'.out.alloc hsz0 _).drew | exact cS.out _ (alloc_at _ (alloc_at _ hx'.out)) ((hb'.out.alloc hsz0 _).alloc (by simp; omega) _).drew | (refine cS.out _ (alloc_at _ ?_) (Below.alloc ?_ ?_ _) <;> first | assumption | omega | (simp; omega)))
        ((first
            | (refine step_append_near (by rfl) (.tmp 13) (.tmp 16) 203 (by rfl) w.heap.size 3 i0 _ 1 8 Tryz.underlying203 hi hz0 hz1 hz2 rfl (by decide) u3 ((l.take k).map fun m => i64C m.rep).length ((l.take k).map fun m => i64C m.rep) (by rfl) ?_ _ 1 1 [.int .i64 x.rep] (by rfl) rfl ?_ (one_cell (v := .int .i64 x.rep) rfl) (by unfold maxLen; first | omega | (simp; omega)) (by first | omega | (simp; omega)) (by assumption : _ ∧ _ ∧ _ ∧ Below w.heap.size w _).2.2.2.size ?_; (exact fam_own (i := 0) (by first | exact (hF'.out.alloc _).drew | exact ((hF'.out.alloc _).alloc _).drew) rfl); (first | exact alloc_new _ _ | exact alloc_at _ (alloc_new _ _) | exact second_new _ _ _); intro v5 w5 hO5 hg5 hn5; obtain ⟨a5, k5, e5⟩ := (own_sl hO5.out).len; subst e5; have hF5 := Lib.hid (Fam.app (by first | exact (hF'.out.alloc _).drew | exact ((hF'.out.alloc _).alloc _).drew) (i := 0) rfl hO5.out hg5.out hn5.out); have hh5 : w5.heap[g]? = some (.cells #[.int .i64 x.rep, .int .i64 x.cnt] 112 (0, 0)) := fam_other hg5.out (by assumption : _ ∧ _ ∧ _ ∧ Below w.heap.size w _).2.2.1 (fun e' => fam_not (e := 3) (t := 112) (v := u3) hF'.out (i := 0) rfl hx'.out (by decide) e'); have hb5 : Below w.heap.size w w5 := (by assumption : _ ∧ _ ∧ _ ∧ Below w.heap.size w _).2.2.2.grown hg5.out (by assumption : _ ∧ _ ∧ _ ∧ Below w.heap.size w _).2.2.2.size (fun j e => ((fam_own (e := 3) (v := u3) hF'.out (i := 0) rfl).lt _ e).1); have hS5 := cS.out w5 hh5 hb5; have hz5 := hb5.size; have hzg5 := hg5.out.size; (first | (have hq5 : w5.heap[W0.heap.size + 1]? = some (.cells #[.int .i64 x.cnt] 3 (0, 0)) := fam_other hg5.out (second_new _ _ _) (fun e => by have := ((fam_own (e := 3) (v := u3) hF'.out (i := 0) rfl).lt _ e).2; omega)) | (have hq5 : w5.heap[W0.heap.size]? = some (.cells #[.int .i64 x.cnt] 3 (0, 0)) := fam_other hg5.out (alloc_at _ (alloc_new _ _)) (fun e => by have := ((fam_own (e := 3) (v := u3) hF'.out (i := 0) rfl).lt _ e).2; omega)) | skip))
            | (refine step_append_near (by rfl) (.tmp 18) (.tmp 21) 203 (by rfl) w.heap.size 3 i0 _ 1 8 Tryz.underlying203 hi hz0 hz1 hz2 rfl (by decide) u4 ((l.take k).map fun m => i64C m.cnt).length ((l.take k).map fun m => i64C m.cnt) (by rfl) ?_ _ 1 1 [.int .i64 x.cnt] (by rfl) rfl ?_ (one_cell (v := .int .i64 x.cnt) rfl) (by unfold maxLen; first | omega | (simp; omega)) (by first | omega | (simp; omega)) (by assumption : _ ∧ _ ∧ _ ∧ Below w.heap.size w _).2.2.2.size ?_; (exact fam_own (i := 1) (by first | exact hF5.out | exact hF5.out.alloc _) rfl); (first | exact alloc_new _ _ | exact alloc_at _ (alloc_new _ _) | exact second_new _ _ _ | exact hq5); intro v6 w6 hO6 hg6 hn6; obtain ⟨a6, k6, e6⟩ := (own_sl hO6.out).len; subst e6; have hF6 := Lib.hid (Fam.app (by first | exact hF5.out | exact hF5.out.alloc _) (i := 1) rfl hO6.out hg6.out hn6.out); have hh6 : w6.heap[g]? = some (.cells #[.int .i64 x.rep, .int .i64 x.cnt] 112 (0, 0)) := fam_other hg6.out (by assumption : _ ∧ _ ∧ _ ∧ Below w.heap.size w _).2.2.1 (fun e' => fam_not (e := 3) (t := 112) (v := u4) hF'.out (i := 1) rfl hx'.out (by decide) e'); have hb6 : Below w.heap.size w w6 := (by assumption : _ ∧ _ ∧ _ ∧ Below w.heap.size w _).2.2.2.grown hg6.out (by assumption : _ ∧ _ ∧ _ ∧ Below w.heap.size w _).2.2.2.size (fun j e => ((fam_own (e := 3) (v := u4) hF'.out (i := 1) rfl).lt _ e).1); have hS6 := cS.out w6 hh6 hb6; have hz6 := hb6.size; have hzg6 := hg6.out.size)))
      all_goals
        have hfin := hF6.out
        simp only [List.length_map, List.length_take, Nat.min_eq_left (Nat.le_of_lt hlt)] at hfin
        unfold colM at hfin
        simp only [List.set_cons_zero, List.set_cons_succ] at hfin
        rw [← hp1.out, ← hh1.out] at hfin
        replace hfin := Lib.hid hfin
        replace hb6 := Lib.hid hb6
        clear cS hS6 hh6
        go_wp2_with fail
        go_roundw
        case rel => exact ⟨k + 1, by go_num, by omega, hfin, hb6⟩
        case measure => simp [intOf]; omega
    · obtain rfl : k = l.length := by omega
      have hge : ¬ ((l.length : Int) < (l.length : Nat)) := by omega
      have e0 := (fam_own hF.out (i := 0) rfl)
      have e1 := (fam_own hF.out (i := 1) rfl)
      rw [List.take_length] at e0 e1
      have s0 := is_of e0
      have s1 := is_of e1
      have o0 : IntsOk (l.map (fun m : Mk => m.rep)) := ints_ok hl (fun x hx => (HN.out x hx).1)
      have o1 : IntsOk (l.map (fun m : Mk => m.cnt)) := ints_ok hl (fun x hx => (HN.out x hx).2)
      have HP := Lib.hid (fun (W : World) (h : Below wr.heap.size wr W) (b : Nat) (hb : W.heap[b]? = some (.cells [Value.iface 159 (.int .i64 (l.length : Nat)), .iface 207 (.agg #[.iface 203 u3]), .iface 203 u4].toArray 202 (0, 0))) =>
        put_ok b 3 _ (marksC l) W rfl rfl (by decide) hb (fun k u c hu hc => by
          match k, hu, hc with
          | 0, hu, hc => cases hu; cases hc; exact ⟨rfl, by omega⟩
          | 1, hu, hc => cases hu; cases hc; exact ⟨_, rfl, s0.below h, o0⟩
          | 2, hu, hc => cases hu; cases hc; exact ⟨_, rfl, s1.below h, o1⟩
          | k + 3, hu, hc => simp at hu))
      clear e0 e1 s0 s1 o0 o1 hF
      go_wp2_with fail
      refine (HP.out _ ((Below.refl _ _).alloc (Nat.le_refl _) _) _ (alloc_new _ _)).mono ?_
      rintro e w2 ⟨rfl, b2⟩
      have b3 := Lib.hid (hb.out.trans (((Below.refl wr.heap.size wr).alloc (Nat.le_refl _) (.cells #[Value.iface 159 (.int .i64 (l.length : Nat)), .iface 207 (.agg #[.iface 203 u3]), .iface 203 u4] 202)).trans (b2.mono (by simp)) |>.mono hb.out.size))
      clear b2
      go_wp2_with fail
      go_ret
      exact ⟨rfl, b3.out⟩
theorem putRows_any (v : Value) (l : List Rw) (w : World) (hS : Mem.Rows w v l) (hl : l.length ≤ 250) (hn : ∀ x ∈ l, oneR x = true) (hk : ∀ x ∈ l, x.rk < 2 * Fl.S) :
    Calls Tryz.prog 92 #[v] w fun e w' => e = .returned (.string (str (colsB (rowsC l)))) ∧ Below w.heap.size w w' := by
  obtain ⟨i0, hi, hz0, hz1, hz2⟩ := info_parts Mr.infoInt
  obtain ⟨i2, hi2, hst0, hst1, hst2⟩ := info_parts infoS
  obtain ⟨i3, hi3, hv0, hv1, hv2⟩ := info_parts Rl.infoF
  obtain ⟨a, c, rfl⟩ := hS.len
  have HS := Lib.hid hS
  have HN := Lib.hid hn
  have HK := Lib.hid hk
  have hF0 := Lib.hid (Fam.nil w w.heap.size [3, 3, 9, 47])
  clear hS hn hk
  go_enter Tryz.func92, Tryz.ntmps92
  go_wp2_with fail
  go_loopw [3, 4, 5, 6, 11] (fun va vb vn vk i wr => ∃ k : Nat, i = .int .i64 k ∧ k ≤ l.length ∧ Hid (Fam wr w.heap.size (colR l va vb vn vk k k)) ∧ Hid (Below w.heap.size w wr)) (fun _ _ _ _ i _ => l.length - (intOf i).toNat)
  case atStart => exact ⟨0, rfl, by omega, hF0, Lib.hid (Below.refl _ _)⟩
  case round =>
    clear hF0
    obtain ⟨k, rfl, hk, hF, hb⟩ := hrel
    by_cases hlt : k < l.length
    · have hlt' : (k : Int) < (l.length : Nat) := by omega
      obtain ⟨x, hx⟩ := some_at hlt
      obtain ⟨b, off, rfl⟩ := HS.out.addr (by omega)
      obtain ⟨q0, q1, q2, q3⟩ := row_at (HS.out.below hb.out) rfl hx
      have hsz := hb.out.size
      have hp1 : (l.take (k + 1)).map (fun m => i64C m.ch) = (l.take k).map (fun m => i64C m.ch) ++ [.int .i64 x.ch] := by rw [take_snoc hx, map_snoc]; rfl
      have hh1 : (l.take (k + 1)).map (fun m => i64C m.pa) = (l.take k).map (fun m => i64C m.pa) ++ [.int .i64 x.pa] := by rw [take_snoc hx, map_snoc]; rfl
      have hn1 : (l.take (k + 1)).map (fun m => strC m.nm) = (l.take k).map (fun m => strC m.nm) ++ [.string x.nm] := by rw [take_snoc hx, map_snoc]; rfl
      have hk1 : (l.take (k + 1)).map (fun m => fltC m.rk) = (l.take k).map (fun m => fltC m.rk) ++ [.float .f64 x.rk] := by rw [take_snoc hx, map_snoc]; rfl
      replace hp1 := Lib.hid hp1
      replace hh1 := Lib.hid hh1
      replace hn1 := Lib.hid hn1
      replace hk1 := Lib.hid hk1
      have hF' := Lib.hid (hF.out.alloc (.cells #[.int .i64 x.ch, .int .i64 x.pa, .string x.nm, .float .f64 x.rk] 96))
      have hx' := Lib.hid (alloc_new wr (.cells #[.int .i64 x.ch, .int .i64 x.pa, .string x.nm, .float .f64 x.rk] 96))
      have hb' := Lib.hid (hb.out.alloc hsz (.cells #[.int .i64 x.ch, .int .i64 x.pa, .string x.nm, .float .f64 x.rk] 96))
      clear hx hF hb
      go_upto_region 7 with fail
      obtain ⟨W0, hW0⟩ : ∃ W0, wr.alloc (.cells #[.int .i64 x.ch, .int .i64 x.pa, .string x.nm, .float .f64 x.rk] 96) = W0 := ⟨_, rfl⟩
      rw [hW0] at hF' hx' hb' ⊢
      clear hW0
      have hsz0 := hb'.out.size
      have hxl := lt_of_block hx'.out
      generalize wr.heap.size = g at *
      go_cut [3, 4] (fun v3 v4 wx => Hid (Fam wx w.heap.size (colR l v3 v4 u5 u6 (k + 1) k)) ∧ Hid (Below w.heap.size w wx) ∧ Hid (wx.heap[g]? = some (.cells #[.int .i64 x.ch, .int .i64 x.pa, .string x.nm, .float .f64 x.rk] 96 (0, 0))))
      case first =>
        have cS : ∀ W : World, W.heap[g]? = some (.cells #[.int .i64 x.ch, .int .i64 x.pa, .string x.nm, .float .f64 x.rk] 96 (0, 0)) → Below w.heap.size w W → W.cell? ⟨g, 0, none⟩ = some (.int .i64 x.ch) ∧ W.cell? ⟨g, 1, none⟩ = some (.int .i64 x.pa) ∧ W.heap[g]? = some (.cells #[.int .i64 x.ch, .int .i64 x.pa, .string x.nm, .float .f64 x.rk] 96 (0, 0)) ∧ Below w.heap.size w W := fun W h1 h2 => ⟨cell_at h1 0, cell_at h1 1, h1, h2⟩
        replace cS := Lib.hid cS
        go_region_held3 (fun W : World => W.cell? ⟨g, 0, none⟩ = some (.int .i64 x.ch) ∧ W.cell? ⟨g, 1, none⟩ = some (.int .i64 x.pa) ∧ W.heap[g]? = some (.cells #[.int .i64 x.ch, .int .i64 x.pa, .string x.nm, .float .f64 x.rk] 96 (0, 0)) ∧ Below w.heap.size w W)
          (first | assumption | exact cS.out _ hx'.out hb'.out.drew | exact cS.out _ (alloc_at _ hx'.out) (hb'.out.alloc hsz0 _).drew | exact cS.out _ (alloc_at _ (alloc_at _ hx'.out)) ((hb'.out.alloc hsz0 _).alloc (by simp; omega) _).drew | (refine cS.out _ (alloc_at _ ?_) (Below.alloc ?_ ?_ _) <;> first | assumption | omega | (simp; omega)))
          ((first
              | (refine step_append_near (by rfl) (.tmp 15) (.tmp 18) 203 (by rfl) w.heap.size 3 i0 _ 1 8 Tryz.underlying203 hi hz0 hz1 hz2 rfl (by decide) u3 ((l.take k).map fun m => i64C m.ch).length ((l.take k).map fun m => i64C m.ch) (by rfl) ?_ _ 1 1 [.int .i64 x.ch] (by rfl) rfl ?_ (one_cell (v := .int .i64 x.ch) rfl) (by unfold maxLen; first | omega | (simp; omega)) (by first | omega | (simp; omega)) (by assumption : _ ∧ _ ∧ _ ∧ Below w.heap.size w _).2.2.2.size ?_; (exact fam_own (i := 0) (by first | exact (hF'.out.alloc _).drew | exact ((hF'.out.alloc _).alloc _).drew) rfl); (first | exact alloc_new _ _ | exact alloc_at _ (alloc_new _ _) | exact second_new _ _ _); intro v5 w5 hO5 hg5 hn5; obtain ⟨a5, k5, e5⟩ := (own_sl hO5.out).len; subst e5; have hF5 := Lib.hid (Fam.app (by first | exact (hF'.out.alloc _).drew | exact ((hF'.out.alloc _).alloc _).drew) (i := 0) rfl hO5.out hg5.out hn5.out); have hh5 : w5.heap[g]? = some (.cells #[.int .i64 x.ch, .int .i64 x.pa, .string x.nm, .float .f64 x.rk] 96 (0, 0)) := fam_other hg5.out (by assumption : _ ∧ _ ∧ _ ∧ Below w.heap.size w _).2.2.1 (fun e' => fam_not (e := 3) (t := 96) (v := u3) hF'.out (i := 0) rfl hx'.out (by decide) e'); have hb5 : Below w.heap.size w w5 := (by assumption : _ ∧ _ ∧ _ ∧ Below w.heap.size w _).2.2.2.grown hg5.out (by assumption : _ ∧ _ ∧ _ ∧ Below w.heap.size w _).2.2.2.size (fun j e => ((fam_own (e := 3) (v := u3) hF'.out (i := 0) rfl).lt _ e).1); have hS5 := cS.out w5 hh5 hb5; have hz5 := hb5.size; have hzg5 := hg5.out.size; (first | (have hq5 : w5.heap[W0.heap.size + 1]? = some (.cells #[.int .i64 x.pa] 3 (0, 0)) := fam_other hg5.out (second_new _ _ _) (fun e => by have := ((fam_own (e := 3) (v := u3) hF'.out (i := 0) rfl).lt _ e).2; omega)) | (have hq5 : w5.heap[W0.heap.size]? = some (.cells #[.int .i64 x.pa] 3 (0, 0)) := fam_other hg5.out (alloc_at _ (alloc_new _ _)) (fun e => by have := ((fam_own (e := 3) (v := u3) hF'.out (i := 0) rfl).lt _ e).2; omega)) | skip))
              | (refine step_append_near (by rfl) (.tmp 20) (.tmp 23) 203 (by rfl) w.heap.size 3 i0 _ 1 8 Tryz.underlying203 hi hz0 hz1 hz2 rfl (by decide) u4 ((l.take k).map fun m => i64C m.pa).length ((l.take k).map fun m => i64C m.pa) (by rfl) ?_ _ 1 1 [.int .i64 x.pa] (by rfl) rfl ?_ (one_cell (v := .int .i64 x.pa) rfl) (by unfold maxLen; first | omega | (simp; omega)) (by first | omega | (simp; omega)) (by assumption : _ ∧ _ ∧ _ ∧ Below w.heap.size w _).2.2.2.size ?_; (exact fam_own (i := 1) (by first | exact hF5.out | exact hF5.out.alloc _) rfl); (first | exact alloc_new _ _ | exact alloc_at _ (alloc_new _ _) | exact second_new _ _ _ | exact hq5); intro v6 w6 hO6 hg6 hn6; obtain ⟨a6, k6, e6⟩ := (own_sl hO6.out).len; subst e6; have hF6 := Lib.hid (Fam.app (by first | exact hF5.out | exact hF5.out.alloc _) (i := 1) rfl hO6.out hg6.out hn6.out); have hh6 : w6.heap[g]? = some (.cells #[.int .i64 x.ch, .int .i64 x.pa, .string x.nm, .float .f64 x.rk] 96 (0, 0)) := fam_other hg6.out (by assumption : _ ∧ _ ∧ _ ∧ Below w.heap.size w _).2.2.1 (fun e' => fam_not (e := 3) (t := 96) (v := u4) hF'.out (i := 1) rfl hx'.out (by decide) e'); have hb6 : Below w.heap.size w w6 := (by assumption : _ ∧ _ ∧ _ ∧ Below w.heap.size w _).2.2.2.grown hg6.out (by assumption : _ ∧ _ ∧ _ ∧ Below w.heap.size w _).2.2.2.size (fun j e => ((fam_own (e := 3) (v := u4) hF'.out (i := 1) rfl).lt _ e).1); have hS6 := cS.out w6 hh6 hb6; have hz6 := hb6.size; have hzg6 := hg6.out.size)))
        all_goals
          go_wp2_with fail
          go_meet
          refine ⟨?_, Lib.hid hb6, Lib.hid hh6⟩
          have hfin := hF6.out
          simp only [List.length_map, List.length_take, Nat.min_eq_left (Nat.le_of_lt hlt)] at hfin
          unfold colR at hfin
          simp only [List.set_cons_zero, List.set_cons_succ] at hfin
          rw [← hp1.out, ← hh1.out] at hfin
          exact Lib.hid hfin
      case rest =>
        clear hF' hx' hb' hsz0 hxl
        obtain ⟨hF', hb', hx'⟩ := hcut
        go_upto_region 8 with fail
        generalize wc = W0 at *
        have hsz0 := hb'.out.size
        have hxl := lt_of_block hx'.out
        have cS : ∀ W : World, W.heap[g]? = some (.cells #[.int .i64 x.ch, .int .i64 x.pa, .string x.nm, .float .f64 x.rk] 96 (0, 0)) → Below w.heap.size w W → W.cell? ⟨g, 2, none⟩ = some (.string x.nm) ∧ W.cell? ⟨g, 3, none⟩ = some (.float .f64 x.rk) ∧ W.heap[g]? = some (.cells #[.int .i64 x.ch, .int .i64 x.pa, .string x.nm, .float .f64 x.rk] 96 (0, 0)) ∧ Below w.heap.size w W := fun W h1 h2 => ⟨cell_at h1 2, cell_at h1 3, h1, h2⟩
        replace cS := Lib.hid cS
        go_region_held3 (fun W : World => W.cell? ⟨g, 2, none⟩ = some (.string x.nm) ∧ W.cell? ⟨g, 3, none⟩ = some (.float .f64 x.rk) ∧ W.heap[g]? = some (.cells #[.int .i64 x.ch, .int .i64 x.pa, .string x.nm, .float .f64 x.rk] 96 (0, 0)) ∧ Below w.heap.size w W)
          (first | assumption | exact cS.out _ hx'.out hb'.out.drew | exact cS.out _ (alloc_at _ hx'.out) (hb'.out.alloc hsz0 _).drew | exact cS.out _ (alloc_at _ (alloc_at _ hx'.out)) ((hb'.out.alloc hsz0 _).alloc (by simp; omega) _).drew | (refine cS.out _ (alloc_at _ ?_) (Below.alloc ?_ ?_ _) <;> first | assumption | omega | (simp; omega)))
          ((first
              | (refine step_append_near (by rfl) (.tmp 25) (.tmp 28) 204 (by rfl) w.heap.size 9 i2 _ 1 16 Tryz.underlying204 hi2 hst0 hst1 hst2 rfl (by decide) u5 ((l.take k).map fun m => strC m.nm).length ((l.take k).map fun m => strC m.nm) (by rfl) ?_ _ 1 1 [.string x.nm] (by rfl) rfl ?_ (one_cell (v := .string x.nm) rfl) (by unfold maxLen; first | omega | (simp; omega)) (by first | omega | (simp; omega)) (by assumption : _ ∧ _ ∧ _ ∧ Below w.heap.size w _).2.2.2.size ?_; (exact fam_own (i := 2) (by first | exact (hF'.out.alloc _).drew | exact ((hF'.out.alloc _).alloc _).drew) rfl); (first | exact alloc_new _ _ | exact alloc_at _ (alloc_new _ _) | exact second_new _ _ _); intro v5 w5 hO5 hg5 hn5; obtain ⟨a5, k5, e5⟩ := (own_sl hO5.out).len; subst e5; have hF5 := Lib.hid (Fam.app (by first | exact (hF'.out.alloc _).drew | exact ((hF'.out.alloc _).alloc _).drew) (i := 2) rfl hO5.out hg5.out hn5.out); have hh5 : w5.heap[g]? = some (.cells #[.int .i64 x.ch, .int .i64 x.pa, .string x.nm, .float .f64 x.rk] 96 (0, 0)) := fam_other hg5.out (by assumption : _ ∧ _ ∧ _ ∧ Below w.heap.size w _).2.2.1 (fun e' => fam_not (e := 9) (t := 96) (v := u5) hF'.out (i := 2) rfl hx'.out (by decide) e'); have hb5 : Below w.heap.size w w5 := (by assumption : _ ∧ _ ∧ _ ∧ Below w.heap.size w _).2.2.2.grown hg5.out (by assumption : _ ∧ _ ∧ _ ∧ Below w.heap.size w _).2.2.2.size (fun j e => ((fam_own (e := 9) (v := u5) hF'.out (i := 2) rfl).lt _ e).1); have hS5 := cS.out w5 hh5 hb5; have hz5 := hb5.size; have hzg5 := hg5.out.size; (first | (have hq5 : w5.heap[W0.heap.size + 1]? = some (.cells #[.float .f64 x.rk] 47 (0, 0)) := fam_other hg5.out (second_new _ _ _) (fun e => by have := ((fam_own (e := 9) (v := u5) hF'.out (i := 2) rfl).lt _ e).2; omega)) | (have hq5 : w5.heap[W0.heap.size]? = some (.cells #[.float .f64 x.rk] 47 (0, 0)) := fam_other hg5.out (alloc_at _ (alloc_new _ _)) (fun e => by have := ((fam_own (e := 9) (v := u5) hF'.out (i := 2) rfl).lt _ e).2; omega)) | skip))
              | (refine step_append_near (by rfl) (.tmp 30) (.tmp 33) 205 (by rfl) w.heap.size 47 i3 _ 1 8 Tryz.underlying205 hi3 hv0 hv1 hv2 rfl (by decide) u6 ((l.take k).map fun m => fltC m.rk).length ((l.take k).map fun m => fltC m.rk) (by rfl) ?_ _ 1 1 [.float .f64 x.rk] (by rfl) rfl ?_ (one_cell (v := .float .f64 x.rk) rfl) (by unfold maxLen; first | omega | (simp; omega)) (by first | omega | (simp; omega)) (by assumption : _ ∧ _ ∧ _ ∧ Below w.heap.size w _).2.2.2.size ?_; (exact fam_own (i := 3) (by first | exact hF5.out | exact hF5.out.alloc _) rfl); (first | exact alloc_new _ _ | exact alloc_at _ (alloc_new _ _) | exact second_new _ _ _ | exact hq5); intro v6 w6 hO6 hg6 hn6; obtain ⟨a6, k6, e6⟩ := (own_sl hO6.out).len; subst e6; have hF6 := Lib.hid (Fam.app (by first | exact hF5.out | exact hF5.out.alloc _) (i := 3) rfl hO6.out hg6.out hn6.out); have hh6 : w6.heap[g]? = some (.cells #[.int .i64 x.ch, .int .i64 x.pa, .string x.nm, .float .f64 x.rk] 96 (0, 0)) := fam_other hg6.out (by assumption : _ ∧ _ ∧ _ ∧ Below w.heap.size w _).2.2.1 (fun e' => fam_not (e := 47) (t := 96) (v := u6) hF'.out (i := 3) rfl hx'.out (by decide) e'); have hb6 : Below w.heap.size w w6 := (by assumption : _ ∧ _ ∧ _ ∧ Below w.heap.size w _).2.2.2.grown hg6.out (by assumption : _ ∧ _ ∧ _ ∧ Below w.heap.size w _).2.2.2.size (fun j e => ((fam_own (e := 47) (v := u6) hF'.out (i := 3) rfl).lt _ e).1); have hS6 := cS.out w6 hh6 hb6; have hz6 := hb6.size; have hzg6 := hg6.out.size)))
        all_goals
          have hfin := hF6.out
          simp only [List.length_map, List.length_take, Nat.min_eq_left (Nat.le_of_lt hlt)] at hfin
          unfold colR at hfin
          simp only [List.set_cons_zero, List.set_cons_succ] at hfin
          rw [← hn1.out, ← hk1.out] at hfin
          replace hfin := Lib.hid hfin
          replace hb6 := Lib.hid hb6
          clear cS hS6 hh6
          go_wp2_with fail
          go_roundw
          case rel => exact ⟨k + 1, by go_num, by omega, hfin, hb6⟩
          case measure => simp [intOf]; omega
    · obtain rfl : k = l.length := by omega
      have hge : ¬ ((l.length : Int) < (l.length : Nat)) := by omega
      have e0 := (fam_own hF.out (i := 0) rfl)
      have e1 := (fam_own hF.out (i := 1) rfl)
      have e2 := (fam_own hF.out (i := 2) rfl)
      have e3 := (fam_own hF.out (i := 3) rfl)
      rw [List.take_length] at e0 e1 e2 e3
      have s0 := is_of e0
      have s1 := is_of e1
      have s2 := strs_of e2
      have s3 := fs_of e3
      have hin : ∀ x ∈ l, 1 ≤ x.ch ∧ x.ch ≤ 2147483647 ∧ 0 ≤ x.pa ∧ x.pa ≤ 2147483647 ∧ x.nm.size ≤ 64 := fun x hx => (Fo.oneR_in (HN.out x hx)).1
      have o0 : IntsOk (l.map (fun m : Rw => m.ch)) := ints_ok hl (fun x hx => by have := hin x hx; omega)
      have o1 : IntsOk (l.map (fun m : Rw => m.pa)) := ints_ok hl (fun x hx => by have := hin x hx; omega)
      have o2 : ∀ s ∈ l.map (fun m : Rw => m.nm), s.size ≤ 64 := fun s hs => by
        obtain ⟨x, hx, rfl⟩ := List.mem_map.1 hs
        exact (hin x hx).2.2.2.2
      have o3 : ∀ z ∈ l.map (fun m : Rw => m.rk), z < 2 * Fl.S := fun s hs => by
        obtain ⟨x, hx, rfl⟩ := List.mem_map.1 hs
        exact HK.out x hx
      have HP := Lib.hid (fun (W : World) (h : Below wr.heap.size wr W) (b : Nat) (hb : W.heap[b]? = some (.cells [Value.iface 159 (.int .i64 (l.length : Nat)), .iface 207 (.agg #[.iface 203 u3]), .iface 207 (.agg #[.iface 203 u4]), .iface 207 (.agg #[.iface 204 u5]), .iface 205 u6].toArray 202 (0, 0))) =>
        put_ok b 5 _ (rowsC l) W rfl rfl (by decide) hb (fun k u c hu hc => by
          match k, hu, hc with
          | 0, hu, hc => cases hu; cases hc; exact ⟨rfl, by omega⟩
          | 1, hu, hc => cases hu; cases hc; exact ⟨_, rfl, s0.below h, o0⟩
          | 2, hu, hc => cases hu; cases hc; exact ⟨_, rfl, s1.below h, o1⟩
          | 3, hu, hc => cases hu; cases hc; exact ⟨_, rfl, s2.below h, by rw [List.length_map]; exact hl, o2⟩
          | 4, hu, hc => cases hu; cases hc; exact ⟨_, rfl, s3.below h, by rw [List.length_map]; exact hl, o3⟩
          | k + 5, hu, hc => simp at hu))
      clear e0 e1 e2 e3 s0 s1 s2 s3 o0 o1 o2 o3 hin hF
      go_wp2_with fail
      refine (HP.out _ ((Below.refl _ _).alloc (Nat.le_refl _) _) _ (alloc_new _ _)).mono ?_
      rintro e w2 ⟨rfl, b2⟩
      have b3 := Lib.hid (hb.out.trans (((Below.refl wr.heap.size wr).alloc (Nat.le_refl _) (.cells #[Value.iface 159 (.int .i64 (l.length : Nat)), .iface 207 (.agg #[.iface 203 u3]), .iface 207 (.agg #[.iface 203 u4]), .iface 207 (.agg #[.iface 204 u5]), .iface 205 u6] 202)).trans (b2.mono (by simp)) |>.mono hb.out.size))
      clear b2
      go_wp2_with fail
      go_ret
      exact ⟨rfl, b3.out⟩
end Sn
end
section
open Go.RowKit Go.Shelf
namespace Sn
open Mem Tp Ck
theorem chs_sl {W : World} {v : Value} {l : List Ch} (h : Chs W v l) : Sl W v l.length (cellsC l) := by
  obtain ⟨⟨a, cap, rfl, h1, h2, h3⟩, -⟩ := h
  refine ⟨a, cap, rfl, h1, h2, fun h0 => ?_⟩
  obtain ⟨b, off, e1, e2, e3⟩ := h3 h0
  refine ⟨b, off, e1, e2, fun j u hu => ?_⟩
  have hj := (List.getElem?_eq_some_iff.1 hu).1
  rw [cellsC_length] at hj
  obtain ⟨q1, q2⟩ := e3 (j / 2) (by omega)
  obtain ⟨p1, p2⟩ := cellsC_at l (j / 2) (by omega)
  rcases Nat.mod_two_eq_zero_or_one j with hm | hm
  · rw [show j = j / 2 * 2 by omega] at hu ⊢
    rw [p1] at hu
    rw [← hu]
    exact q1
  · rw [show j = j / 2 * 2 + 1 by omega] at hu ⊢
    rw [p2] at hu
    rw [← hu, ← Nat.add_assoc]
    exact q2
theorem chs_src {W : World} {v : Value} {l : List Ch} (h : Chs W v l) : Mem.Src W v l.length (cellsC l) := sl_src (chs_sl h) (fun h0 => by rw [List.eq_nil_of_length_eq_zero h0]; rfl)
theorem grow_any (n : Nat) (w : World) (h0 : 0 < n) (hn : n ≤ 100) :
    Calls Tryz.prog 99 #[.slice none 0 0, .int .i64 n] w fun e w' => (∃ v', e = .returned v' ∧ w'.ownsRow w.heap.size 57 2 v' 0 []) ∧ Below w.heap.size w w' := by
  obtain ⟨i0, hi, hz0, hz1, hz2⟩ := info_parts infoC
  have hrz : ∀ ty, (Builtin.append_ #[53, 3] ty #[.slice none 0 0, .int .i64 n]).run Tryz.prog w = _ := fun ty =>
    Lib.run_append_nil_zeros w 53 3 ty 57 i0 _ .i64 .i64 Tryz.underlying53 Tryz.underlying3 hi hz0 n h0 (by rw [hz1]; omega) (by omega) (by rw [hz2]; omega)
  have hG1 := grownCap_ge w n 0 57
  have hG2 := grownCap_le_maxLen w n 0 57 (by unfold maxLen; omega)
  have hZ : (Builtin.zeroCells (.agg #[.int .i64 0, .string ByteArray.empty] : Value).cells n ++ Builtin.zeroCells (.agg #[.int .i64 0, .string ByteArray.empty] : Value).cells (grownCap w n 0 57 - n)).size = grownCap w n 0 57 * 2 := by
    rw [Array.size_append, size_zeroCells, size_zeroCells, show (.agg #[.int .i64 0, .string ByteArray.empty] : Value).cells.size = 2 from rfl]
    omega
  generalize Builtin.zeroCells (.agg #[.int .i64 0, .string ByteArray.empty] : Value).cells n ++ Builtin.zeroCells (.agg #[.int .i64 0, .string ByteArray.empty] : Value).cells (grownCap w n 0 57 - n) = Z at *
  generalize grownCap w n 0 57 = G at *
  have hO : Hid ((w.drew.alloc (.cells Z 57)).ownsRow w.heap.size 57 2 (.slice (some ⟨w.heap.size, 0, none⟩) 0 G) 0 []) := Lib.hid ⟨rfl, .inr ⟨w.heap.size, G, Z, rfl, Nat.le_refl _, alloc_new w.drew _, Nat.zero_le _, hG2, hZ, rfl⟩⟩
  have hb := Lib.hid ((Below.refl w.heap.size w).drew.alloc (Nat.le_refl _) (.cells Z 57))
  have hw1 : IntKind.i64.wrap (n : Int) = (n : Int) := by rw [IntKind.wrap_i64]; omega
  have hg0 : (0 : Int) < (n : Int) := by omega
  have hg1 : ¬ ((n : Int) < 0) := by omega
  have hG0 : ¬ G = 0 := by omega
  clear hi hz0 hz1 hz2 hG2 hZ
  go_enter Tryz.func99, Tryz.ntmps99
  go_wp2_with (at_builtin; refine Lib.wpList_append_run w (by rfl) _ _ 53 3 (by rfl) (.slice none 0 0) (.int .i64 n) (by rfl) (by rfl) _ _ (hrz _) ?_)
  go_ret
  exact ⟨⟨_, rfl, hO.out⟩, hb.out⟩
theorem concat_any (b : Nat) (v1 v2 : Value) (l1 l2 : List Ch) (w : World) (hb : w.heap[b]? = some (.cells #[v1, v2] 53 (0, 0))) (h1 : Chs w v1 l1) (h2 : Chs w v2 l2) (n1 : l1.length ≤ 50) (n2 : l2.length ≤ 50) (n0 : 0 < l1.length + l2.length) :
    Calls Tryz.prog 49 #[.slice (some ⟨b, 0, none⟩) 2 2] w fun e w' => (∃ v', e = .returned v' ∧ Chs w' v' (l1 ++ l2)) ∧ Below w.heap.size w w' := by
  obtain ⟨i0, hi, hz0, hz1, hz2⟩ := info_parts infoC
  have HG := Lib.hid (grow_any (l1.length + l2.length) w n0 (by omega))
  rw [Int.natCast_add] at HG
  have hok := Lib.hid (fun c (h : c ∈ l1 ++ l2) => (List.mem_append.1 h).elim (fun h => h1.bound c h) (fun h => h2.bound c h))
  have hlt := lt_of_block hb
  have S1 := Lib.hid (fun (W : World) (h : Below w.heap.size w W) => chs_src (chs_below h1 h))
  have S2 := Lib.hid (fun (W : World) (h : Below w.heap.size w W) => chs_src (chs_below h2 h))
  have K : ∀ W, Below w.heap.size w W → W.cell? ⟨b, 0, none⟩ = some v1 ∧ W.cell? ⟨b, 1, none⟩ = some v2 := fun W h => ⟨cell_at (below_at h hb hlt) 0, cell_at (below_at h hb hlt) 1⟩
  obtain ⟨a1, c1, rfl⟩ := (chs_sl h1).len
  obtain ⟨a2, c2, rfl⟩ := (chs_sl h2).len
  obtain ⟨q1, q2⟩ := K w (Below.refl _ _)
  replace K := Lib.hid K
  have hlen1 := cellsC_length l1
  have hlen2 := cellsC_length l2
  have hlen3 := cellsC_length (l1 ++ l2)
  have hcat : Hid (cellsC l1 ++ cellsC l2 = cellsC (l1 ++ l2)) := Lib.hid (cellsC_append l1 l2).symm
  have hw1 : IntKind.i64.wrap (l1.length : Int) = (l1.length : Int) := by rw [IntKind.wrap_i64]; omega
  have hw2 : IntKind.i64.wrap ((l1.length : Int) + (l2.length : Int)) = (l1.length : Int) + (l2.length : Int) := by rw [IntKind.wrap_i64]; omega
  have hp1 : ¬ ((l1.length : Int) < 0) := by omega
  have hp2 : ¬ ((l1.length : Int) + (l2.length : Int) < 0) := by omega
  clear h1 h2 hb
  go_enter Tryz.func49, Tryz.ntmps49
  go_wp2_with fail
  refine wp_loop_rounds 3 ?_
  rw [rounds_succ]
  go_wp2_with fail
  rw [rounds_succ]
  go_wp2_with fail
  rw [rounds_succ]
  go_wp2_with fail
  refine HG.out.mono ?_
  rintro e z1 ⟨⟨v', rfl, hO⟩, y1⟩
  obtain ⟨a3, k3, e3⟩ := (own_sl hO).len
  subst e3
  obtain ⟨p1, p2⟩ := K.out z1 y1
  have hsz1 := y1.size
  replace hO := Lib.hid hO
  replace y1 := Lib.hid y1
  clear q1 q2 HG
  go_wp2_with fail
  refine wp_loop_rounds 3 ?_
  rw [rounds_succ]
  go_wp2_with (at_builtin; refine wpList_append_src (by rfl) _ _ 53 (by rfl) w.heap.size 57 i0 _ 2 24 Tryz.underlying53 hi hz0 hz1 hz2 rfl (by decide) _ 0 ([]) (by rfl) hO.out _ l1.length (cellsC l1) (by rfl) (by omega) (S1.out _ y1.out) (ones_ch _) (by unfold maxLen; omega) (by omega) (by omega) ?_; intro v5 w5 hown hgrow; obtain ⟨a5, k5, e5⟩ := (own_sl hown).len; subst e5; have hO5 := Lib.hid hown; have hb5 := Lib.hid (y1.out.grown hgrow y1.out.size (fun j e => (hO.out.lt j e).1)); clear hown hgrow)
  have hs5 := hb5.out.size
  have hO5' := hO5.out
  simp only [Nat.zero_add, List.nil_append] at hO5'
  replace hO5' := Lib.hid hO5'
  clear hO5
  rw [rounds_succ]
  obtain ⟨r1, r2⟩ := K.out w5 hb5.out
  clear p1 p2
  go_wp2_with (at_builtin; refine wpList_append_src (by rfl) _ _ 53 (by rfl) w.heap.size 57 i0 _ 2 24 Tryz.underlying53 hi hz0 hz1 hz2 rfl (by decide) _ l1.length (cellsC l1) (by rfl) hO5'.out _ l2.length (cellsC l2) (by rfl) (by omega) (S2.out _ hb5.out) (ones_ch _) (by unfold maxLen; omega) (by omega) (by omega) ?_; intro v6 w6 hown hgrow; obtain ⟨a6, k6, e6⟩ := (own_sl hown).len; subst e6; have hO6 := Lib.hid hown; have hb6 := Lib.hid (hb5.out.grown hgrow hb5.out.size (fun j e => (hO5'.out.lt j e).1)); clear hown hgrow)
  rw [rounds_succ]
  go_wp2_with fail
  go_ret
  refine ⟨⟨_, rfl, ?_⟩, hb6.out⟩
  refine OwnC.chs (base := w.heap.size) ?_ hok.out
  have := hO6.out
  rw [hcat.out] at this
  unfold OwnC
  rw [List.length_append]
  exact this
end Sn
end
section
open Go.RowKit Go.Shelf
attribute [local go_sem] Fl.run_store_float
namespace Sn
open Mem Tp Tr Mo Fo
def sepC (r : Rp) : List Ck.Ch := [(1, str (colsB [.cnt r.fl.c.toNat, .cnt r.fl.r.toNat])), (2, str (colsB (rowsC r.base))), (3, str (colsB (marksC r.mks)))]
def RkR (r : Rp) : Prop := (∀ x ∈ r.base, x.rk < 2 * Fl.S) ∧ ∀ m ∈ r.log, m.rk < 2 * Fl.S
theorem fl_nat {r : Rp} (h : WfR r) : 0 ≤ r.fl.c ∧ r.fl.c ≤ 4611686018427387903 ∧ 0 ≤ r.fl.r ∧ r.fl.r ≤ 255 := by
  rcases h.fl with h | h
  · rw [h]; decide
  · have := h.1; unfold okT at this; omega
theorem sep_ok {r : Rp} (h : WfR r) : ∀ c ∈ sepC r, Ck.Ok c := by
  have h1 := h.len
  have h2 := h.mlen
  have hsz : ∀ cs : List Col, (∀ c ∈ cs, (colB c).length ≤ 24000) → (colsB cs).length ≤ 24000 * cs.length := by
    intro cs
    induction cs with
    | nil => intro _; simp [colsB]
    | cons c cs ih =>
      intro hc
      have := ih (fun c h => hc c (List.mem_cons_of_mem _ h))
      have := hc c (List.mem_cons_self ..)
      unfold colsB at *
      rw [List.flatMap_cons, List.length_append, List.length_cons]
      omega
  have q1 : (colsB [Col.cnt r.fl.c.toNat, .cnt r.fl.r.toNat]).length ≤ 24000 * 2 := hsz _ (fun c hc => by
    simp only [List.mem_cons, List.not_mem_nil, or_false] at hc
    rcases hc with rfl | rfl
    all_goals
      unfold colB
      dsimp only
      refine Nat.le_trans (Pk.putL_length _) (by omega))
  have hb : r.base.length ≤ 250 := by omega
  have q2 : (colsB (rowsC r.base)).length ≤ 24000 * 5 := hsz (rowsC r.base) (fun c hc => by
    simp only [rowsC, List.mem_cons, List.not_mem_nil, or_false] at hc
    rcases hc with rfl | rfl | rfl | rfl | rfl
    · have := Pk.putL_length r.base.length; unfold colB; dsimp only; omega
    · have u1 := Og.dEnc_len (r.base.map (·.ch)); have u2 := Og.partL_len (Og.dEnc (r.base.map (·.ch))); rw [List.length_map] at u1; unfold colB; dsimp only; omega
    · have u1 := Og.dEnc_len (r.base.map (·.pa)); have u2 := Og.partL_len (Og.dEnc (r.base.map (·.pa))); rw [List.length_map] at u1; unfold colB; dsimp only; omega
    · have h5 : ∀ s ∈ r.base.map (fun x : Rw => x.nm), s.size ≤ 64 := fun s hs => by
        obtain ⟨x, hx, rfl⟩ := List.mem_map.1 hs
        exact (oneR_in (h.one x hx)).1.2.2.2.2
      have u1 := Dc.encDict_len h5; have u2 := Og.partL_len (Dc.encDict (r.base.map (fun x : Rw => x.nm))); rw [List.length_map] at u1; unfold colB; dsimp only; omega
    · have := Og.ranksL_len (r.base.map (·.rk)); rw [List.length_map] at this; unfold colB; dsimp only; omega)
  have q3 : (colsB (marksC r.mks)).length ≤ 24000 * 3 := hsz (marksC r.mks) (fun c hc => by
    simp only [marksC, List.mem_cons, List.not_mem_nil, or_false] at hc
    rcases hc with rfl | rfl | rfl
    · have := Pk.putL_length r.mks.length; unfold colB; dsimp only; omega
    · have u1 := Og.dEnc_len (r.mks.map (·.rep)); have u2 := Og.partL_len (Og.dEnc (r.mks.map (·.rep))); rw [List.length_map] at u1; unfold colB; dsimp only; omega
    · have := Og.dEnc_len (r.mks.map (·.cnt)); rw [List.length_map] at this; unfold colB; dsimp only; omega)
  intro c hc
  simp only [sepC, List.mem_cons, List.not_mem_nil, or_false] at hc
  unfold Ck.Ok Ck.I64 maxLen
  rcases hc with rfl | rfl | rfl
  all_goals
    refine ⟨(by constructor <;> (dsimp only; omega)), ?_⟩
    dsimp only
    rw [str_size]
    omega
theorem encode_any (vb vl vm : Value) (r : Rp) (w : World) (hR : RepW w vb vl vm r) (hW : WfR r) (hk : RkR r) :
    Calls Tryz.prog 47 #[repV vb r.fl vl vm] w fun e w' => (∃ v', e = .returned (.tuple #[v', .int .i64 0]) ∧ Ck.Chs w' v' (sepC r)) ∧ Below w.heap.size w w' := by
  have h1 := hW.len
  have h2 := hW.mlen
  obtain ⟨f1, f2, f3, f4⟩ := fl_nat hW
  have hb0 := (Below.refl w.heap.size w).alloc (Nat.le_refl _) (.cells #[vb, .int .i64 r.fl.c, .int .i64 r.fl.r, vl, vm] 34)
  have g0 := alloc_new w (.cells #[vb, .int .i64 r.fl.c, .int .i64 r.fl.r, vl, vm] 34)
  obtain ⟨W0, hW0⟩ : ∃ W0, w.alloc (.cells #[vb, .int .i64 r.fl.c, .int .i64 r.fl.r, vl, vm] 34) = W0 := ⟨_, rfl⟩
  have hR0 := hR.below hb0
  rw [hW0] at hb0 g0 hR0
  have hl0 := lt_of_block g0
  have HA := Lib.hid (Tr.may_ok vb r.base W0 hR0.b (by omega) hW.one (fun x h => by have := (oneR_in (hW.one x h)).1; omega) (fun j a b h k => pw_adj hW.rise j a b h k) (rise_nodup hW.rise) (fun x h => oneR_r (hW.one x h)) hW.acyc)
  have HC := Lib.hid (fun (W : World) (h : Below W0.heap.size W0 W) => Mr.may_ok vm r.mks W (hR0.below h).m (by omega) hW.mks)
  obtain ⟨nc, hnc⟩ : ∃ nc : Nat, r.fl.c = (nc : Int) := ⟨r.fl.c.toNat, by omega⟩
  obtain ⟨nr, hnr⟩ : ∃ nr : Nat, r.fl.r = (nr : Int) := ⟨r.fl.r.toNat, by omega⟩
  have HP := Lib.hid (fun (W : World) (b : Nat) (hb : W.heap[b]? = some (.cells [Value.iface 159 (.int .i64 (nc : Int)), .iface 159 (.int .i64 (nr : Int))].toArray 202 (0, 0))) =>
    put_ok b 2 _ [.cnt r.fl.c.toNat, .cnt r.fl.r.toNat] W rfl rfl (by decide) hb (fun k u c hu hc => by
      match k, hu, hc with
      | 0, hu, hc => cases hu; cases hc; exact ⟨by rw [hnc]; rfl, by omega⟩
      | 1, hu, hc => cases hu; cases hc; exact ⟨by rw [hnr]; rfl, by omega⟩
      | k + 2, hu, hc => simp at hu))
  have HRw := Lib.hid (fun (W : World) (h : Below W0.heap.size W0 W) => putRows_any vb r.base W (hR0.below h).b (by omega) hW.one hk.1)
  have HMk := Lib.hid (fun (W : World) (h : Below W0.heap.size W0 W) => putMarks_any vm r.mks W (hR0.below h).m (by omega) (fun x hx => by have := hW.mks.1 x hx; omega))
  have hOC := Lib.hid (show sepC r = [(1, str (colsB [.cnt r.fl.c.toNat, .cnt r.fl.r.toNat])), (2, str (colsB (rowsC r.base))), (3, str (colsB (marksC r.mks)))] from rfl)
  have hOk := Lib.hid (sep_ok hW)
  rw [hOC.out] at hOk
  obtain ⟨a1, k1, e1⟩ := hR.b.len
  obtain ⟨a3, k3, e3⟩ := hR.m.len
  subst e1 e3
  rw [hnc, hnr] at g0
  have K : ∀ W, Below W0.heap.size W0 W → W.cell? ⟨w.heap.size, 0, none⟩ = some (.slice a1 r.base.length k1) ∧ W.cell? ⟨w.heap.size, 1, none⟩ = some (.int .i64 (nc : Int)) ∧ W.cell? ⟨w.heap.size, 2, none⟩ = some (.int .i64 (nr : Int)) ∧ W.cell? ⟨w.heap.size, 4, none⟩ = some (.slice a3 r.mks.length k3) ∧ Below W0.heap.size W0 W := fun W h =>
    ⟨cell_at (below_at h g0 hl0) 0, cell_at (below_at h g0 hl0) 1, cell_at (below_at h g0 hl0) 2, cell_at (below_at h g0 hl0) 4, h⟩
  replace K := Lib.hid K
  have c0 : W0.cell? ⟨w.heap.size, 0, none⟩ = some (.slice a1 r.base.length k1) := cell_at g0 0
  replace hb0 := Lib.hid hb0
  replace hW0 := Lib.hid hW0
  have hg1 : ¬ ((nc : Int) < 0) := by omega
  have hg2 : ¬ ((nr : Int) < 0) := by omega
  clear hR hR0 hW hk g0
  unfold repV
  rw [hnc, hnr]
  generalize str (colsB [Col.cnt r.fl.c.toNat, .cnt r.fl.r.toNat]) = x1 at *
  generalize str (colsB (rowsC r.base)) = x2 at *
  generalize str (colsB (marksC r.mks)) = x3 at *
  replace hnc := Lib.hid hnc
  replace hnr := Lib.hid hnr
  rw [hnc.out, hnr.out] at hW0
  clear f1 f2 f3 f4
  go_enter Tryz.func47, Tryz.ntmps47
  go_wp2_with fail
  rw [hW0.out]
  refine HA.out.mono ?_
  rintro e w1 ⟨rfl, b1⟩
  obtain ⟨c0, c1, c2, c4, -⟩ := K.out w1 b1
  replace b1 := Lib.hid b1
  clear hW0 HA
  go_wp2_with fail
  refine (HC.out _ b1.out).mono ?_
  rintro e w2 ⟨rfl, b2⟩
  replace b2 := Lib.hid (b1.out.trans (b2.mono b1.out.size))
  clear c0 c1 c2 c4 b1 HC
  obtain ⟨c0, c1, c2, c4, -⟩ := K.out w2 b2.out
  go_upto_region 3 with fail
  have hs2 := b2.out.size
  go_region_held3 (fun W : World => W.cell? ⟨w.heap.size, 0, none⟩ = some (.slice a1 r.base.length k1) ∧ W.cell? ⟨w.heap.size, 1, none⟩ = some (.int .i64 (nc : Int)) ∧ W.cell? ⟨w.heap.size, 2, none⟩ = some (.int .i64 (nr : Int)) ∧ W.cell? ⟨w.heap.size, 4, none⟩ = some (.slice a3 r.mks.length k3) ∧ Below W0.heap.size W0 W)
    (first | assumption | exact K.out _ b2.out.drew | exact K.out _ (b2.out.alloc hs2 _).drew | exact K.out _ b5.out | exact K.out _ b6.out | exact K.out _ b7.out | exact K.out _ (b7.out.alloc (by have := b7.out.size; omega) _))
    ((first
      | (go_at_call 91; (refine (HP.out (World.drew (w2.alloc _)) _ (alloc_new w2 _)).mono ?_); rintro e w5 ⟨rfl, b5⟩; replace b5 := Lib.hid ((b2.out.alloc hs2 _).drew.trans (b5.mono (by show W0.heap.size ≤ (w2.alloc _).heap.size; simp; omega))))
      | (go_at_call 92; (refine (HRw.out _ b5.out).mono ?_); rintro e w6 ⟨rfl, b6⟩; replace b6 := Lib.hid (b5.out.trans (b6.mono b5.out.size)))
      | (go_at_call 93; (refine (HMk.out _ b6.out).mono ?_); rintro e w7 ⟨rfl, b7⟩; replace b7 := Lib.hid (b6.out.trans (b7.mono b6.out.size)))))
  all_goals
    go_wp2_with fail
    go_ret2
    have hbz := hb0.out.trans (b7.out.mono hb0.out.size)
    rw [hOC.out]
    exact ⟨⟨_, rfl, Og.chs_of_block (alloc_new _ _) rfl hOk.out⟩, hbz.alloc hbz.size _⟩
end Sn
end
section
open Go.RowKit Go.Shelf
attribute [local go_sem] Fl.run_store_float
namespace St
open Mem Tp Tr Mo Fo Sn
def allC (r : Rp) : List Ck.Ch := sepC r ++ Og.opC r.log
theorem chunks_any (vb vl vm : Value) (r : Rp) (w : World) (hR : RepW w vb vl vm r) (hW : WfR r) (hk : RkR r) :
    Calls Tryz.prog 21 #[repV vb r.fl vl vm] w fun e w' => (∃ v', e = .returned (.tuple #[v', .int .i64 0]) ∧ Ck.Chs w' v' (allC r)) ∧ Below w.heap.size w w' := by
  have h1 := hW.len
  have hb0 := (Below.refl w.heap.size w).alloc (Nat.le_refl _) (.cells #[vb, .int .i64 r.fl.c, .int .i64 r.fl.r, vl, vm] 34)
  have g0 := alloc_new w (.cells #[vb, .int .i64 r.fl.c, .int .i64 r.fl.r, vl, vm] 34)
  obtain ⟨W0, hW0⟩ : ∃ W0, w.alloc (.cells #[vb, .int .i64 r.fl.c, .int .i64 r.fl.r, vl, vm] 34) = W0 := ⟨_, rfl⟩
  have hR0 := hR.below hb0
  rw [hW0] at hb0 g0 hR0
  have hl0 := lt_of_block g0
  have HM := Lib.hid (Fo.may_ok vb vl vm r W0 hR0 hW)
  have HE := Lib.hid (fun (W : World) (h : Below W0.heap.size W0 W) => Sn.encode_any vb vl vm r W (hR0.below h) hW hk)
  have HO := Lib.hid (fun (W : World) (h : Below W0.heap.size W0 W) => Og.encode_any vl r.log W (hR0.below h).l (by omega) hW.lone hk.2 hW.lrise)
  have HC := Lib.hid (fun (b : Nat) (v1 v2 : Value) (W : World) hb h1 h2 => concat_any b v1 v2 (sepC r) (Og.opC r.log) W hb h1 h2 (by show 3 ≤ 50; decide) (by show 5 ≤ 50; decide) (by show 0 < 3 + 5; decide))
  obtain ⟨a1, k1, e1⟩ := hR.b.len
  obtain ⟨a2, k2, e2⟩ := hR.l.len
  obtain ⟨a3, k3, e3⟩ := hR.m.len
  subst e1 e2 e3
  have K : ∀ W, Below W0.heap.size W0 W → W.heap[w.heap.size]? = some (.cells #[.slice a1 r.base.length k1, .int .i64 r.fl.c, .int .i64 r.fl.r, .slice a2 r.log.length k2, .slice a3 r.mks.length k3] 34 (0, 0)) := fun W h => below_at h g0 hl0
  replace K := Lib.hid K
  have c0 : W0.cell? ⟨w.heap.size, 0, none⟩ = some (.slice a1 r.base.length k1) := cell_at g0 0
  have c1 : W0.cell? ⟨w.heap.size, 1, none⟩ = some (.int .i64 r.fl.c) := cell_at g0 1
  have c2 : W0.cell? ⟨w.heap.size, 2, none⟩ = some (.int .i64 r.fl.r) := cell_at g0 2
  have c3 : W0.cell? ⟨w.heap.size, 3, none⟩ = some (.slice a2 r.log.length k2) := cell_at g0 3
  have c4 : W0.cell? ⟨w.heap.size, 4, none⟩ = some (.slice a3 r.mks.length k3) := cell_at g0 4
  replace hb0 := Lib.hid hb0
  replace hW0 := Lib.hid hW0
  clear hR hR0 hW hk g0
  unfold repV at HM HE ⊢
  go_enter Tryz.func21, Tryz.ntmps21
  go_wp2_with fail
  rw [hW0.out]
  refine HM.out.mono ?_
  rintro e w1 ⟨rfl, b1⟩
  clear c0 c1 c2 c3 c4
  have c0 : w1.cell? ⟨w.heap.size, 0, none⟩ = some (.slice a1 r.base.length k1) := cell_at (K.out _ b1) 0
  have c1 : w1.cell? ⟨w.heap.size, 1, none⟩ = some (.int .i64 r.fl.c) := cell_at (K.out _ b1) 1
  have c2 : w1.cell? ⟨w.heap.size, 2, none⟩ = some (.int .i64 r.fl.r) := cell_at (K.out _ b1) 2
  have c3 : w1.cell? ⟨w.heap.size, 3, none⟩ = some (.slice a2 r.log.length k2) := cell_at (K.out _ b1) 3
  have c4 : w1.cell? ⟨w.heap.size, 4, none⟩ = some (.slice a3 r.mks.length k3) := cell_at (K.out _ b1) 4
  replace b1 := Lib.hid b1
  clear hW0 HM
  go_wp2_with fail
  refine (HE.out _ b1.out).mono ?_
  rintro e w2 ⟨⟨v2, rfl, hC2⟩, b2⟩
  replace b2 := b1.out.trans (b2.mono b1.out.size)
  clear c0 c1 c2 c3 c4
  have c3 : w2.cell? ⟨w.heap.size, 3, none⟩ = some (.slice a2 r.log.length k2) := cell_at (K.out _ b2) 3
  obtain ⟨a5, k5, e5⟩ := (chs_sl hC2).len
  subst e5
  replace b2 := Lib.hid b2
  replace hC2 := Lib.hid hC2
  clear b1 HE
  go_wp2_with fail
  refine (HO.out _ b2.out).mono ?_
  rintro e w3 ⟨⟨v3, rfl, hC3⟩, b3⟩
  have hC23 := Lib.hid (Ck.chs_below hC2.out b3)
  obtain ⟨a6, k6, e6⟩ := (chs_sl hC3).len
  subst e6
  replace b3 := Lib.hid (b2.out.trans (b3.mono b2.out.size))
  replace hC3 := Lib.hid hC3
  clear b2 HO hC2 c3
  go_wp2_with fail
  have bz := (Below.refl w3.heap.size w3).alloc (Nat.le_refl _) (.cells #[.slice a5 (sepC r).length k5, .slice a6 (Og.opC r.log).length k6] 53)
  refine (HC.out _ _ _ _ (alloc_new w3 _) (Ck.chs_below hC23.out bz) (Ck.chs_below hC3.out bz)).mono ?_
  rintro e w4 ⟨⟨v4, rfl, hC4⟩, b4⟩
  have b5 := Lib.hid (b3.out.trans ((bz.trans (b4.mono (by simp))).mono b3.out.size))
  replace hC4 := Lib.hid hC4
  clear b4 bz
  go_wp2_with fail
  go_ret2
  exact ⟨⟨_, rfl, hC4.out⟩, hb0.out.trans (b5.out.mono hb0.out.size)⟩
def fileS (r : Rp) : ByteArray := Ck.joinS 2 (allC r)
theorem size_one (c : Ck.Ch) : c.2.size ≤ (Ck.oneL c).length := by
  unfold Ck.oneL Ck.sealL
  rw [List.length_append, List.length_append, List.length_append, size_list]
  omega
theorem join_all {r : Rp} (hf : ((allC r).flatMap Ck.oneL).length ≤ 90000) : Ck.joinE 2 (allC r) = 0 := by
  have hs : ∀ c ∈ allC r, ¬ 1048576 < c.2.size := fun c hc => by
    have h1 := Ck.one_in hc
    have h2 := size_one c
    omega
  have key : ∀ (l : List Ck.Ch) (last : Int), (∀ c ∈ l, ¬ 1048576 < c.2.size) → (l.map (·.1)).Pairwise (· < ·) → (∀ c ∈ l, last < c.1 ∧ c.1 ≤ 255) → Ck.joinGo last l = 0 := by
    intro l
    induction l with
    | nil => intro _ _ _ _; rfl
    | cons c l ih =>
      intro last h1 h2 h3
      have h4 := h3 c (List.mem_cons_self ..)
      rw [Ck.joinGo, if_neg (by omega), if_neg (h1 c (List.mem_cons_self ..))]
      rw [List.map_cons, List.pairwise_cons] at h2
      exact ih c.1 (fun d hd => h1 d (List.mem_cons_of_mem _ hd)) h2.2 (fun d hd => ⟨h2.1 d.1 (List.mem_map_of_mem hd), (h3 d (List.mem_cons_of_mem _ hd)).2⟩)
  have hk : (allC r).map (·.1) = [1, 2, 3, 4, 5, 6, 7, 8] := rfl
  unfold Ck.joinE
  rw [if_neg (by decide)]
  refine key _ _ hs (by rw [hk]; decide) (fun c hc => ?_)
  have : c.1 ∈ (allC r).map (·.1) := List.mem_map_of_mem hc
  rw [hk] at this
  simp only [List.mem_cons, List.not_mem_nil, or_false] at this
  omega
theorem save_any (vb vl vm : Value) (r : Rp) (w : World) (hR : RepW w vb vl vm r) (hW : WfR r) (hk : RkR r) (hf : ((allC r).flatMap Ck.oneL).length ≤ 90000) :
    Calls Tryz.prog 17 #[repV vb r.fl vl vm] w fun e w' => e = .returned (.tuple #[.string (fileS r), .int .i64 0]) ∧ Below w.heap.size w w' := by
  have hb0 := (Below.refl w.heap.size w).alloc (Nat.le_refl _) (.cells #[vb, .int .i64 r.fl.c, .int .i64 r.fl.r, vl, vm] 34)
  have g0 := alloc_new w (.cells #[vb, .int .i64 r.fl.c, .int .i64 r.fl.r, vl, vm] 34)
  obtain ⟨W0, hW0⟩ : ∃ W0, w.alloc (.cells #[vb, .int .i64 r.fl.c, .int .i64 r.fl.r, vl, vm] 34) = W0 := ⟨_, rfl⟩
  have hR0 := hR.below hb0
  rw [hW0] at hb0 g0 hR0
  have HC := Lib.hid (chunks_any vb vl vm r W0 hR0 hW hk)
  have HJ := Lib.hid (fun (v : Value) (W : World) (h : Ck.Chs W v (allC r)) => Ck.join_any 2 v (allC r) W h hf (by show 8 ≤ 90000; decide))
  have hJ := join_all hf
  have hV : Hid (Ck.joinV 2 (allC r) = .tuple #[.string (fileS r), .int .i64 0]) := Lib.hid (by unfold Ck.joinV fileS; rw [hJ])
  rw [hV.out] at HJ
  obtain ⟨a1, k1, e1⟩ := hR.b.len
  obtain ⟨a2, k2, e2⟩ := hR.l.len
  obtain ⟨a3, k3, e3⟩ := hR.m.len
  subst e1 e2 e3
  have c0 : W0.cell? ⟨w.heap.size, 0, none⟩ = some (.slice a1 r.base.length k1) := cell_at g0 0
  have c1 : W0.cell? ⟨w.heap.size, 1, none⟩ = some (.int .i64 r.fl.c) := cell_at g0 1
  have c2 : W0.cell? ⟨w.heap.size, 2, none⟩ = some (.int .i64 r.fl.r) := cell_at g0 2
  have c3 : W0.cell? ⟨w.heap.size, 3, none⟩ = some (.slice a2 r.log.length k2) := cell_at g0 3
  have c4 : W0.cell? ⟨w.heap.size, 4, none⟩ = some (.slice a3 r.mks.length k3) := cell_at g0 4
  replace hb0 := Lib.hid hb0
  replace hW0 := Lib.hid hW0
  clear hR hR0 hW hk g0 hf hJ hV
  generalize fileS r = s at *
  unfold repV at HC ⊢
  go_enter Tryz.func17, Tryz.ntmps17
  go_wp2_with fail
  rw [hW0.out]
  refine HC.out.mono ?_
  rintro e w2 ⟨⟨v2, rfl, hC2⟩, b2⟩
  obtain ⟨a5, k5, e5⟩ := (chs_sl hC2).len
  subst e5
  have HJ2 := Lib.hid (HJ.out _ w2 hC2)
  have b3 := Lib.hid (hb0.out.trans (b2.mono hb0.out.size))
  clear b2 hC2 HC HJ c0 c1 c2 c3 c4 hW0
  go_wp2_with fail
  refine HJ2.out.mono ?_
  rintro e w3 ⟨rfl, b4⟩
  have b5 := Lib.hid (b3.out.trans (b4.mono b3.out.size))
  clear b4
  go_wp2_with fail
  go_ret2
  exact ⟨rfl, b5.out⟩
end St
end
section
open Go.RowKit Go.Shelf
attribute [local go_sem] Fl.run_store_float
namespace Og
open Mem Tp Tr Mo Pk
def Rd (W : World) (v : Value) (n : Nat) (cs : List Value) : Prop :=
  ∃ (a : Option Addr) (cap : Nat), v = .slice a n cap ∧ (0 < n → ∃ b off, a = some ⟨b, off, none⟩ ∧ b < W.heap.size ∧ ∀ j u, cs[j]? = some u → W.cell? ⟨b, off + j, none⟩ = some u)
theorem Rd.below {W W' : World} {v : Value} {n : Nat} {cs : List Value} (h : Rd W v n cs) (hb : Below W.heap.size W W') : Rd W' v n cs := by
  obtain ⟨a, cap, e, h3⟩ := h
  refine ⟨a, cap, e, fun h0 => ?_⟩
  obtain ⟨b, off, e1, e2, e3⟩ := h3 h0
  exact ⟨b, off, e1, Nat.lt_of_lt_of_le e2 hb.size, fun j u hu => (hb.cell (p := ⟨b, off + j, none⟩) e2).trans (e3 j u hu)⟩
theorem rd_sl {W : World} {v : Value} {n : Nat} {cs : List Value} (h : Sl W v n cs) : Rd W v n cs := by
  obtain ⟨a, cap, e, h1, h2, h3⟩ := h
  exact ⟨a, cap, e, h3⟩
theorem rd_ints {W : World} {v : Value} {l : List Int} (h : Opened.Ints .i64 W v l) : Rd W v l.length (l.map i64C) := by
  obtain ⟨⟨a, cap, rfl, h1⟩, -⟩ := h
  refine ⟨a, cap, rfl, fun h0 => ?_⟩
  obtain ⟨b, off, e, hlt, hcc⟩ := h1 h0
  refine ⟨b, off, e, hlt, fun j u hu => ?_⟩
  rw [List.getElem?_map] at hu
  obtain ⟨x, hx, rfl⟩ := Option.map_eq_some_iff.1 hu
  have := hcc j (List.getElem?_eq_some_iff.1 hx).1
  rw [this]
  simp [i64C, List.getD, hx]
theorem rd_flts {W : World} {v : Value} {l : List Nat} (h : Rl.Flts W v l) : Rd W v l.length (l.map fltC) := by
  obtain ⟨⟨a, cap, rfl, h1, h2⟩, -⟩ := h
  refine ⟨a, cap, rfl, fun h0 => ?_⟩
  obtain ⟨b, off, e, hlt, hcc⟩ := h2 h0
  refine ⟨b, off, e, hlt, fun j u hu => ?_⟩
  rw [List.getElem?_map] at hu
  obtain ⟨x, hx, rfl⟩ := Option.map_eq_some_iff.1 hu
  have := hcc j (List.getElem?_eq_some_iff.1 hx).1
  rw [this]
  simp [fltC, hx]
theorem rd_at {W W' : World} {v : Value} {n : Nat} {cs : List Value} {bl : Nat} {a0 : Option Addr} {n0 c0 : Nat} {t : TypeId} (h : Rd W v n cs) (hv : W.heap[bl]? = some (.cells #[.slice a0 n0 c0] t (0, 0))) (hk : Kept (· = bl) W W') {k : Nat} {u : Value} (hu : cs[k]? = some u) (hns : ∀ a n c, u ≠ .slice a n c) (hkn : k < n) :
    ∃ b off cap, v = .slice (some ⟨b, off, none⟩) n cap ∧ W'.cell? ⟨b, off + k, none⟩ = some u := by
  obtain ⟨a, cap, e, h3⟩ := h
  obtain ⟨b, off, e1, e2, e3⟩ := h3 (by omega)
  have hc := e3 k u hu
  have hne : b ≠ bl := by
    rintro rfl
    rw [cell_at hv] at hc
    cases hj : off + k with
    | zero => rw [hj] at hc; simp at hc; exact hns _ _ _ hc.symm
    | succ j => rw [hj] at hc; simp at hc
  refine ⟨b, off, cap, by rw [e, e1], ?_⟩
  simp only [World.cell?] at hc ⊢
  rw [hk.block b e2 hne]
  exact hc
theorem decD {l : List Int} (h : ∀ n ∈ l, -9223372036854775808 ≤ n ∧ n ≤ 9223372036854775807) (hl : l.length ≤ 900) (w : World) :
    Calls Tryz.prog 153 #[.string (str (dEnc l)), .int .i64 (l.length : Nat)] w fun e w' => (∃ r, e = .returned (.tuple #[r, .int .i64 0]) ∧ Rd w' r l.length (l.map i64C)) ∧ Below w.heap.size w w' := by
  have hd := Dl.dec_enc (l := l) h
  have hl2 := dEnc_len l
  refine (Dl.decode_any (str (dEnc l)) (l.length : Nat) w (by rw [str_size]; omega)).mono ?_
  rintro e w' ⟨⟨r, he, hr⟩, hb⟩
  unfold dEnc at he hr
  rw [hd.1] at he
  rw [hd.2] at hr
  exact ⟨⟨r, he, rd_ints hr⟩, hb⟩
def nrmM (m : Mv) : Mv := { m with rk := Fl.canon m.rk }
def nrmR (r : Rw) : Rw := { r with rk := Fl.canon r.rk }
def withRk (l : List Mv) (L : List Nat) : List Mv := List.zipWith (fun m k => { m with rk := k }) l L
theorem withRk_len {l : List Mv} {L : List Nat} (h : L.length = l.length) : (withRk l L).length = l.length := by unfold withRk; rw [List.length_zipWith, h, Nat.min_self]
theorem withRk_at {l : List Mv} {L : List Nat} {k : Nat} {x : Mv} {z : Nat} (hx : l[k]? = some x) (hz : L[k]? = some z) : (withRk l L)[k]? = some { x with rk := z } := by
  unfold withRk
  rw [List.getElem?_zipWith, hx, hz]
theorem withRk_nrm {L : List Nat} : ∀ {l : List Mv}, L.map Fl.canon = (l.map (fun m => m.rk)).map Fl.canon → (withRk l L).map nrmM = l.map nrmM := by
  induction L with
  | nil =>
    intro l h
    cases l with
    | nil => rfl
    | cons m l => simp at h
  | cons z L ih =>
    intro l h
    cases l with
    | nil => simp at h
    | cons m l =>
      simp only [List.map_cons, List.cons.injEq] at h
      show nrmM { m with rk := z } :: (withRk l L).map nrmM = _
      rw [ih h.2, List.map_cons]
      unfold nrmM
      simp only
      rw [h.1]
theorem withRk_mem {l : List Mv} {L : List Nat} {m : Mv} (h : m ∈ withRk l L) : (∃ x ∈ l, m = { x with rk := m.rk }) ∧ m.rk ∈ L := by
  unfold withRk at h
  rw [List.mem_iff_getElem?] at h
  obtain ⟨k, hk⟩ := h
  rw [List.getElem?_zipWith] at hk
  cases h1 : l[k]? with
  | none => rw [h1] at hk; simp at hk
  | some x =>
    cases h2 : L[k]? with
    | none => rw [h1, h2] at hk; simp at hk
    | some z =>
      rw [h1, h2] at hk
      simp only [Option.some.injEq] at hk
      subst hk
      exact ⟨⟨x, List.mem_of_getElem? h1, rfl⟩, List.mem_of_getElem? h2⟩
theorem withRk_t {L : List Nat} : ∀ {l : List Mv}, L.length = l.length → (withRk l L).map (fun m => m.t) = l.map (fun m => m.t) := by
  induction L with
  | nil =>
    intro l h
    cases l with
    | nil => rfl
    | cons m l => simp at h
  | cons z L ih =>
    intro l h
    cases l with
    | nil => simp at h
    | cons m l =>
      show m.t :: (withRk l L).map (fun m => m.t) = _
      rw [ih (by simpa using h)]
      rfl
def VM (b : Nat) (v : Value) (W : World) : Prop := W.heap[b]? = some (.cells #[v] 25 (0, 0))
end Og
end
section
open Go.RowKit Go.Shelf
namespace Sn
open Mem Tp Tr Mo Pk Og
def BB (b : Nat) (s : ByteArray) (n : Nat) (W : World) : Prop := W.heap[b]? = some (.cells #[.string s, .int .i64 (n : Int), .int .i64 0] 277 (0, 0))
theorem rd_bb {W W' : World} {v : Value} {m n b : Nat} {cs : List Value} {s s' : ByteArray} (h : Rd W v m cs) (hb : BB b s n W) (hb' : BB b s' n W') (hk : Kept (· = b) W W') (hns : (∀ u ∈ cs, ∀ t, u ≠ .string t) ∨ s' = s) : Rd W' v m cs := by
  obtain ⟨a, cap, e, h3⟩ := h
  refine ⟨a, cap, e, fun h0 => ?_⟩
  obtain ⟨g, off, e1, e2, e3⟩ := h3 h0
  refine ⟨g, off, e1, Nat.lt_of_lt_of_le e2 hk.size, fun j u hu => ?_⟩
  have hc := e3 j u hu
  by_cases hg : g = b
  · subst hg
    rw [cell_at hb] at hc
    rw [cell_at hb']
    rcases hns with h | h
    · cases hj : off + j with
      | zero =>
        rw [hj] at hc
        simp at hc
        exact absurd hc.symm (h u (List.mem_of_getElem? hu) s)
      | succ i =>
        rw [hj] at hc
        simpa using hc
    · rw [h]
      exact hc
  · simp only [World.cell?] at hc ⊢
    rw [hk.block g e2 hg]
    exact hc
theorem open_ok (n most : Nat) (t : List UInt8) (w : World) (hn : n ≤ most) (hm : most ≤ 4000) (ht : t.length ≤ 100000) :
    Calls Tryz.prog 191 #[.string (str (putL n ++ t)), .int .u64 (most : Nat)] w fun e w' => (∃ g, e = .returned (.pointer (some ⟨g, 0, none⟩)) ∧ w.heap.size ≤ g ∧ BB g (str t) n w') ∧ Below w.heap.size w w' := by
  have hend := Dc.str_tail (putL n) t rfl
  have hsz : (str (putL n ++ t)).size = (putL n).length + t.length := by rw [str_size, List.length_append]
  have hpl := putL_length n
  obtain ⟨S, hS⟩ : ∃ S, str (putL n ++ t) = S := ⟨_, rfl⟩
  have hS0 := Lib.hid hS
  rw [hS] at hend hsz ⊢
  have hn0 : (0 : Int) ≤ ((putL n).length : Int) := by omega
  generalize (putL n).length = T at *
  have hT1 : (T : Int) ≤ (S.size : Nat) := by omega
  have hT2 : T ≤ S.size := by omega
  have hsub : (S.size : Int) - (t.length : Nat) = (T : Int) := by omega
  have hsub2 : IntKind.i64.wrap (T : Int) = (T : Int) := IntWalk.i64_in _ (by omega)
  have hq1 : decide (most < n) = false := decide_eq_false (by omega)
  have hq2 : decide ((most : Int) < (n : Int)) = false := decide_eq_false (by omega)
  have hq4 : IntKind.i64.wrap (n : Int) = (n : Int) := IntWalk.i64_in _ (by omega)
  replace hsz := Lib.hid hsz
  replace hsub := Lib.hid hsub
  replace hsub2 := Lib.hid hsub2
  have hend2 := Lib.hid hend
  clear hS hend
  go_enter Tryz.func191, Tryz.ntmps191
  go_wp2_with fail
  refine (new_any _ _).mono ?_
  rintro e w1 ⟨rfl, hw1⟩
  have hB := Lib.hid (show RB w.heap.size (putL n ++ t) w1 by rw [hw1, ← hS0.out]; exact RB.new _ _)
  have hb := Lib.hid (show Below w.heap.size w w1 by rw [hw1]; exact (Below.refl _ _).alloc (Nat.le_refl _) _)
  have hwl := lt_of_block hB.out
  clear hw1
  go_wp2_with fail
  refine (rb_num hB.out (by unfold W64; omega) (by omega)).mono ?_
  rintro e w2 ⟨rfl, hB2, k2⟩
  have hb2 := Lib.hid (hb.out.trans (k2.to_below (B := w.heap.size) (by omega) (fun i hi h => by omega)))
  replace hB2 := Lib.hid hB2
  have hs2 := k2.size
  clear k2 hB hb
  go_wp2_with fail
  refine (rb_err hB2.out).mono ?_
  rintro e w3 ⟨rfl, rfl⟩
  go_wp2_with fail
  refine (rb_left hB2.out).mono ?_
  rintro e w3 ⟨rfl, rfl⟩
  have h1 := hsub.out
  have h2 := hsub2.out
  have h3 := hend2.out
  have hbf := Lib.hid (hb2.out.alloc (Nat.le_trans (Nat.le_of_lt hwl) hs2) (.cells #[.string (str t), .int .i64 (n : Int), .int .i64 0] 277))
  have hng := Lib.hid (alloc_new w2 (.cells #[.string (str t), .int .i64 (n : Int), .int .i64 0] 277))
  generalize htt : str t = tt at *
  replace htt := Lib.hid htt
  go_wp2_with fail
  go_ret
  exact ⟨⟨_, rfl, Nat.le_trans (Nat.le_of_lt hwl) hs2, by rw [htt.out]; exact hng.out⟩, hbf.out⟩
theorem next_int (b n : Nat) (x y : List UInt8) (f : Nat) (pc : Value) (m : Nat) (cs : List Value) (w : World) (hB : BB b (str (partL x ++ y)) n w) (hl : x.length + y.length ≤ 100000)
    (E : ∀ w1, (callFunc f #[.string (str x), pc]).run Tryz.prog w1 = .ok (.enter f #[.string (str x), pc]) w1)
    (F : ∀ w1, Kept (· = b) w w1 → BB b (str y) n w1 → Calls Tryz.prog f #[.string (str x), pc] w1 fun e w' => (∃ r, e = .returned (.tuple #[r, .int .i64 0]) ∧ Rd w' r m cs) ∧ Below w1.heap.size w1 w') :
    Calls Tryz.prog 193 #[.pointer (some ⟨b, 0, none⟩), .func (.func f) #[] #[pc]] w fun e w' => (∃ r, e = .returned r ∧ Rd w' r m cs) ∧ BB b (str y) n w' ∧ Kept (· = b) w w' := by
  have HC := Lib.hid (Cut_ok x y w hl)
  have hlt := lt_of_block hB
  have c0 := (show w.cell? ⟨b, 0, none⟩ = some (.string (str (partL x ++ y))) from cell_at hB 0)
  have c2 := (show w.cell? ⟨b, 2, none⟩ = some (.int .i64 0) from cell_at hB 2)
  have HB := Lib.hid hB
  have HF := Lib.hid F
  clear hB F
  generalize str (partL x ++ y) = s0 at *
  generalize str x = sx at *
  generalize hsy : str y = sy at *
  replace hsy := Lib.hid hsy
  go_enter Tryz.func193, Tryz.ntmps193
  go_wp2_with fail
  refine HC.out.mono ?_
  rintro e w1 ⟨rfl, b1⟩
  have hB1 : w1.heap[b]? = some (.cells #[.string s0, .int .i64 (n : Int), .int .i64 0] 277 (0, 0)) := below_at b1 HB.out hlt
  have d0 := (show w1.cell? ⟨b, 0, none⟩ = some (.string s0) from cell_at hB1 0)
  have d2 := (show w1.cell? ⟨b, 2, none⟩ = some (.int .i64 0) from cell_at hB1 2)
  have f0 : w1.frozen? ⟨b, 0, none⟩ = false := free_at hB1 0
  have f2 : w1.frozen? ⟨b, 2, none⟩ = false := free_at hB1 2
  obtain ⟨W2, hW2⟩ : ∃ W2, (w1.setCell ⟨b, 0, none⟩ (.string sy)).setCell ⟨b, 2, none⟩ (.int .i64 0) = W2 := ⟨_, rfl⟩
  have hB2 : BB b sy n W2 := by
    rw [← hW2]
    exact (set_at (set_at hB1 0 (.string sy)) 2 (.int .i64 0)).trans rfl
  have k2 : Kept (· = b) w W2 := by
    rw [← hW2]
    exact Kept.setCell (T := fun k => k = b) (Kept.setCell (T := fun k => k = b) ((Kept.refl _ w).below b1) (p := ⟨b, 0, none⟩) (fun _ => rfl) _) (p := ⟨b, 2, none⟩) (fun _ => rfl) _
  have HF2 := Lib.hid (HF.out W2 k2 hB2)
  have g2 := (show W2.cell? ⟨b, 2, none⟩ = some (.int .i64 0) from cell_at hB2 2)
  replace hB2 := Lib.hid hB2
  replace k2 := Lib.hid k2
  replace hW2 := Lib.hid hW2
  clear c0 c2 HC b1 hB1
  go_wp2_with fail
  rw [hW2.out]
  refine HF2.out.mono ?_
  rintro e w3 ⟨⟨r, rfl, hr⟩, b3⟩
  have hB3 : w3.heap[b]? = some (.cells #[.string sy, .int .i64 (n : Int), .int .i64 0] 277 (0, 0)) := below_at b3 hB2.out (lt_of_block hB2.out)
  have e2 := (show w3.cell? ⟨b, 2, none⟩ = some (.int .i64 0) from cell_at hB3 2)
  have f3 : w3.frozen? ⟨b, 2, none⟩ = false := free_at hB3 2
  obtain ⟨W4, hW4⟩ : ∃ W4, w3.setCell ⟨b, 2, none⟩ (.int .i64 0) = W4 := ⟨_, rfl⟩
  have hB4 : BB b sy n W4 := by
    rw [← hW4]
    exact (set_at hB3 2 (.int .i64 0)).trans rfl
  have k34 : Kept (· = b) w3 W4 := by
    rw [← hW4]
    exact Kept.setCell (T := fun k => k = b) (Kept.refl _ w3) (p := ⟨b, 2, none⟩) (fun _ => rfl) _
  have hr4 := Lib.hid (rd_bb hr hB3 hB4 k34 (.inr rfl))
  have k4 := Lib.hid ((k2.out.below b3).trans k34)
  replace hB4 := Lib.hid hB4
  replace hW4 := Lib.hid hW4
  obtain ⟨ar, cr, er, -⟩ := hr
  subst er
  clear d0 d2 f0 f2 g2 hB3 b3 HF2 k34 hW2
  go_wp2_with fail
  rw [hW4.out]
  go_ret
  exact ⟨⟨_, rfl, hr4.out⟩, by first | exact hB4.out | (rw [hsy.out]; exact hB4.out), k4.out⟩
theorem next_str (b n : Nat) (x y : List UInt8) (f : Nat) (pc : Value) (m : Nat) (cs : List Value) (w : World) (hB : BB b (str (partL x ++ y)) n w) (hl : x.length + y.length ≤ 100000)
    (E : ∀ w1, (callFunc f #[.string (str x), pc]).run Tryz.prog w1 = .ok (.enter f #[.string (str x), pc]) w1)
    (F : ∀ w1, Kept (· = b) w w1 → BB b (str y) n w1 → Calls Tryz.prog f #[.string (str x), pc] w1 fun e w' => (∃ r, e = .returned (.tuple #[r, .int .i64 0]) ∧ Rd w' r m cs) ∧ Below w1.heap.size w1 w') :
    Calls Tryz.prog 194 #[.pointer (some ⟨b, 0, none⟩), .func (.func f) #[] #[pc]] w fun e w' => (∃ r, e = .returned r ∧ Rd w' r m cs) ∧ BB b (str y) n w' ∧ Kept (· = b) w w' := by
  have HC := Lib.hid (Cut_ok x y w hl)
  have hlt := lt_of_block hB
  have c0 := (show w.cell? ⟨b, 0, none⟩ = some (.string (str (partL x ++ y))) from cell_at hB 0)
  have c2 := (show w.cell? ⟨b, 2, none⟩ = some (.int .i64 0) from cell_at hB 2)
  have HB := Lib.hid hB
  have HF := Lib.hid F
  clear hB F
  generalize str (partL x ++ y) = s0 at *
  generalize str x = sx at *
  generalize hsy : str y = sy at *
  replace hsy := Lib.hid hsy
  go_enter Tryz.func194, Tryz.ntmps194
  go_wp2_with fail
  refine HC.out.mono ?_
  rintro e w1 ⟨rfl, b1⟩
  have hB1 : w1.heap[b]? = some (.cells #[.string s0, .int .i64 (n : Int), .int .i64 0] 277 (0, 0)) := below_at b1 HB.out hlt
  have d0 := (show w1.cell? ⟨b, 0, none⟩ = some (.string s0) from cell_at hB1 0)
  have d2 := (show w1.cell? ⟨b, 2, none⟩ = some (.int .i64 0) from cell_at hB1 2)
  have f0 : w1.frozen? ⟨b, 0, none⟩ = false := free_at hB1 0
  have f2 : w1.frozen? ⟨b, 2, none⟩ = false := free_at hB1 2
  obtain ⟨W2, hW2⟩ : ∃ W2, (w1.setCell ⟨b, 0, none⟩ (.string sy)).setCell ⟨b, 2, none⟩ (.int .i64 0) = W2 := ⟨_, rfl⟩
  have hB2 : BB b sy n W2 := by
    rw [← hW2]
    exact (set_at (set_at hB1 0 (.string sy)) 2 (.int .i64 0)).trans rfl
  have k2 : Kept (· = b) w W2 := by
    rw [← hW2]
    exact Kept.setCell (T := fun k => k = b) (Kept.setCell (T := fun k => k = b) ((Kept.refl _ w).below b1) (p := ⟨b, 0, none⟩) (fun _ => rfl) _) (p := ⟨b, 2, none⟩) (fun _ => rfl) _
  have HF2 := Lib.hid (HF.out W2 k2 hB2)
  have g2 := (show W2.cell? ⟨b, 2, none⟩ = some (.int .i64 0) from cell_at hB2 2)
  replace hB2 := Lib.hid hB2
  replace k2 := Lib.hid k2
  replace hW2 := Lib.hid hW2
  clear c0 c2 HC b1 hB1
  go_wp2_with fail
  rw [hW2.out]
  refine HF2.out.mono ?_
  rintro e w3 ⟨⟨r, rfl, hr⟩, b3⟩
  have hB3 : w3.heap[b]? = some (.cells #[.string sy, .int .i64 (n : Int), .int .i64 0] 277 (0, 0)) := below_at b3 hB2.out (lt_of_block hB2.out)
  have e2 := (show w3.cell? ⟨b, 2, none⟩ = some (.int .i64 0) from cell_at hB3 2)
  have f3 : w3.frozen? ⟨b, 2, none⟩ = false := free_at hB3 2
  obtain ⟨W4, hW4⟩ : ∃ W4, w3.setCell ⟨b, 2, none⟩ (.int .i64 0) = W4 := ⟨_, rfl⟩
  have hB4 : BB b sy n W4 := by
    rw [← hW4]
    exact (set_at hB3 2 (.int .i64 0)).trans rfl
  have k34 : Kept (· = b) w3 W4 := by
    rw [← hW4]
    exact Kept.setCell (T := fun k => k = b) (Kept.refl _ w3) (p := ⟨b, 2, none⟩) (fun _ => rfl) _
  have hr4 := Lib.hid (rd_bb hr hB3 hB4 k34 (.inr rfl))
  have k4 := Lib.hid ((k2.out.below b3).trans k34)
  replace hB4 := Lib.hid hB4
  replace hW4 := Lib.hid hW4
  obtain ⟨ar, cr, er, -⟩ := hr
  subst er
  clear d0 d2 f0 f2 g2 hB3 b3 HF2 k34 hW2
  go_wp2_with fail
  rw [hW4.out]
  go_ret
  exact ⟨⟨_, rfl, hr4.out⟩, by first | exact hB4.out | (rw [hsy.out]; exact hB4.out), k4.out⟩
theorem last_int (b n : Nat) (y : List UInt8) (f : Nat) (pc : Value) (R : Value → World → Prop) (hR : ∀ r W W', R r W → BB b (str y) n W → BB b (str y) n W' → Kept (· = b) W W' → R r W') (hRs : ∀ r W, R r W → ∃ a n c, r = .slice a n c) (w : World) (hB : BB b (str y) n w)
    (E : ∀ w1, (callFunc f #[.string (str y), pc]).run Tryz.prog w1 = .ok (.enter f #[.string (str y), pc]) w1)
    (F : ∀ w1, Kept (· = b) w w1 → BB b (str y) n w1 → Calls Tryz.prog f #[.string (str y), pc] w1 fun e w' => (∃ r, e = .returned (.tuple #[r, .int .i64 0]) ∧ R r w') ∧ Below w1.heap.size w1 w') :
    Calls Tryz.prog 200 #[.pointer (some ⟨b, 0, none⟩), .func (.func f) #[] #[pc]] w fun e w' => (∃ r, e = .returned r ∧ R r w') ∧ BB b (str y) n w' ∧ Kept (· = b) w w' := by
  have HR := Lib.hid hR
  have HRs := Lib.hid hRs
  have c0 := (show w.cell? ⟨b, 0, none⟩ = some (.string (str y)) from cell_at hB 0)
  have c2 := (show w.cell? ⟨b, 2, none⟩ = some (.int .i64 0) from cell_at hB 2)
  have HB := Lib.hid hB
  have HF2 := Lib.hid (F w (Kept.refl _ _) hB)
  clear hB F hR hRs
  generalize hsy : str y = sy at *
  replace hsy := Lib.hid hsy
  go_enter Tryz.func200, Tryz.ntmps200
  go_wp2_with fail
  refine HF2.out.mono ?_
  rintro e w3 ⟨⟨r, rfl, hr⟩, b3⟩
  have hB3 : w3.heap[b]? = some (.cells #[.string sy, .int .i64 (n : Int), .int .i64 0] 277 (0, 0)) := below_at b3 HB.out (lt_of_block HB.out)
  have e2 := (show w3.cell? ⟨b, 2, none⟩ = some (.int .i64 0) from cell_at hB3 2)
  have f3 : w3.frozen? ⟨b, 2, none⟩ = false := free_at hB3 2
  obtain ⟨W4, hW4⟩ : ∃ W4, w3.setCell ⟨b, 2, none⟩ (.int .i64 0) = W4 := ⟨_, rfl⟩
  have hB4 : BB b sy n W4 := by
    rw [← hW4]
    exact (set_at hB3 2 (.int .i64 0)).trans rfl
  have k34 : Kept (· = b) w3 W4 := by
    rw [← hW4]
    exact Kept.setCell (T := fun k => k = b) (Kept.refl _ w3) (p := ⟨b, 2, none⟩) (fun _ => rfl) _
  have hr4 := Lib.hid (HR.out r w3 W4 hr hB3 hB4 k34)
  have k4 := Lib.hid (((Kept.refl (· = b) w).below b3).trans k34)
  replace hB4 := Lib.hid hB4
  replace hW4 := Lib.hid hW4
  obtain ⟨ar, nr, cr, er⟩ := HRs.out r w3 hr
  subst er
  clear c0 c2 hB3 b3 HF2 k34
  go_wp2_with fail
  rw [hW4.out]
  go_ret
  exact ⟨⟨_, rfl, hr4.out⟩, by first | exact hB4.out | (rw [hsy.out]; exact hB4.out), k4.out⟩
theorem last_flt (b n : Nat) (y : List UInt8) (f : Nat) (pc : Value) (R : Value → World → Prop) (hR : ∀ r W W', R r W → BB b (str y) n W → BB b (str y) n W' → Kept (· = b) W W' → R r W') (hRs : ∀ r W, R r W → ∃ a n c, r = .slice a n c) (w : World) (hB : BB b (str y) n w)
    (E : ∀ w1, (callFunc f #[.string (str y), pc]).run Tryz.prog w1 = .ok (.enter f #[.string (str y), pc]) w1)
    (F : ∀ w1, Kept (· = b) w w1 → BB b (str y) n w1 → Calls Tryz.prog f #[.string (str y), pc] w1 fun e w' => (∃ r, e = .returned (.tuple #[r, .int .i64 0]) ∧ R r w') ∧ Below w1.heap.size w1 w') :
    Calls Tryz.prog 196 #[.pointer (some ⟨b, 0, none⟩), .func (.func f) #[] #[pc]] w fun e w' => (∃ r, e = .returned r ∧ R r w') ∧ BB b (str y) n w' ∧ Kept (· = b) w w' := by
  have HR := Lib.hid hR
  have HRs := Lib.hid hRs
  have c0 := (show w.cell? ⟨b, 0, none⟩ = some (.string (str y)) from cell_at hB 0)
  have c2 := (show w.cell? ⟨b, 2, none⟩ = some (.int .i64 0) from cell_at hB 2)
  have HB := Lib.hid hB
  have HF2 := Lib.hid (F w (Kept.refl _ _) hB)
  clear hB F hR hRs
  generalize hsy : str y = sy at *
  replace hsy := Lib.hid hsy
  go_enter Tryz.func196, Tryz.ntmps196
  go_wp2_with fail
  refine HF2.out.mono ?_
  rintro e w3 ⟨⟨r, rfl, hr⟩, b3⟩
  have hB3 : w3.heap[b]? = some (.cells #[.string sy, .int .i64 (n : Int), .int .i64 0] 277 (0, 0)) := below_at b3 HB.out (lt_of_block HB.out)
  have e2 := (show w3.cell? ⟨b, 2, none⟩ = some (.int .i64 0) from cell_at hB3 2)
  have f3 : w3.frozen? ⟨b, 2, none⟩ = false := free_at hB3 2
  obtain ⟨W4, hW4⟩ : ∃ W4, w3.setCell ⟨b, 2, none⟩ (.int .i64 0) = W4 := ⟨_, rfl⟩
  have hB4 : BB b sy n W4 := by
    rw [← hW4]
    exact (set_at hB3 2 (.int .i64 0)).trans rfl
  have k34 : Kept (· = b) w3 W4 := by
    rw [← hW4]
    exact Kept.setCell (T := fun k => k = b) (Kept.refl _ w3) (p := ⟨b, 2, none⟩) (fun _ => rfl) _
  have hr4 := Lib.hid (HR.out r w3 W4 hr hB3 hB4 k34)
  have k4 := Lib.hid (((Kept.refl (· = b) w).below b3).trans k34)
  replace hB4 := Lib.hid hB4
  replace hW4 := Lib.hid hW4
  obtain ⟨ar, nr, cr, er⟩ := HRs.out r w3 hr
  subst er
  clear c0 c2 hB3 b3 HF2 k34
  go_wp2_with fail
  rw [hW4.out]
  go_ret
  exact ⟨⟨_, rfl, hr4.out⟩, by first | exact hB4.out | (rw [hsy.out]; exact hB4.out), k4.out⟩
theorem tm1 (p b n : Nat) (s0 : ByteArray) (l : List Int) (w : World) (hp : w.heap[p]? = some (.cells #[.pointer (some ⟨b, 0, none⟩)] 274 (0, 0))) (hB : BB b s0 n w) (hn : l.length = n) (hb : ∀ n ∈ l, -9223372036854775808 ≤ n ∧ n ≤ 9223372036854775807) (hl : l.length ≤ 900) :
    Calls Tryz.prog 199 #[.string (str (dEnc l)), .pointer (some ⟨p, 0, none⟩)] w fun e w' => (∃ r, e = .returned (.tuple #[r, .int .i64 0]) ∧ Rd w' r l.length (l.map i64C)) ∧ Below w.heap.size w w' := by
  subst hn
  have HD := Lib.hid (decD hb hl w)
  have c0 := (show w.cell? ⟨p, 0, none⟩ = some (.pointer (some ⟨b, 0, none⟩)) from cell_at hp 0)
  have c1 := (show w.cell? ⟨b, 1, none⟩ = some (.int .i64 (l.length : Nat)) from cell_at hB 1)
  generalize (str (dEnc l)) = s at *
  go_enter Tryz.func199, Tryz.ntmps199
  go_wp2_with fail
  refine HD.out.mono ?_
  rintro e w1 ⟨⟨r, rfl, hr⟩, b1⟩
  replace b1 := Lib.hid b1
  replace hr := Lib.hid hr
  obtain ⟨ar, cr, er, -⟩ := hr.out
  subst er
  clear HD
  go_wp2_with fail
  go_ret2
  exact ⟨⟨_, rfl, hr.out⟩, b1.out⟩
theorem tr1 (p b n : Nat) (s0 : ByteArray) (l : List Int) (w : World) (hp : w.heap[p]? = some (.cells #[.pointer (some ⟨b, 0, none⟩)] 274 (0, 0))) (hB : BB b s0 n w) (hn : l.length = n) (hb : ∀ n ∈ l, -9223372036854775808 ≤ n ∧ n ≤ 9223372036854775807) (hl : l.length ≤ 900) :
    Calls Tryz.prog 192 #[.string (str (dEnc l)), .pointer (some ⟨p, 0, none⟩)] w fun e w' => (∃ r, e = .returned (.tuple #[r, .int .i64 0]) ∧ Rd w' r l.length (l.map i64C)) ∧ Below w.heap.size w w' := by
  subst hn
  have HD := Lib.hid (decD hb hl w)
  have c0 := (show w.cell? ⟨p, 0, none⟩ = some (.pointer (some ⟨b, 0, none⟩)) from cell_at hp 0)
  have c1 := (show w.cell? ⟨b, 1, none⟩ = some (.int .i64 (l.length : Nat)) from cell_at hB 1)
  generalize (str (dEnc l)) = s at *
  go_enter Tryz.func192, Tryz.ntmps192
  go_wp2_with fail
  refine HD.out.mono ?_
  rintro e w1 ⟨⟨r, rfl, hr⟩, b1⟩
  replace b1 := Lib.hid b1
  replace hr := Lib.hid hr
  obtain ⟨ar, cr, er, -⟩ := hr.out
  subst er
  clear HD
  go_wp2_with fail
  go_ret2
  exact ⟨⟨_, rfl, hr.out⟩, b1.out⟩
theorem tr2 (p b n : Nat) (s0 : ByteArray) (l : List ByteArray) (w : World) (hp : w.heap[p]? = some (.cells #[.pointer (some ⟨b, 0, none⟩)] 274 (0, 0))) (hB : BB b s0 n w) (hn : l.length = n) (hb : ∀ s ∈ l, s.size ≤ 64 ∧ Wd.validU s = true) (hl : l.length ≤ 400) :
    Calls Tryz.prog 195 #[.string (str (Dc.encDict l)), .pointer (some ⟨p, 0, none⟩)] w fun e w' => (∃ r, e = .returned (.tuple #[r, .int .i64 0]) ∧ Rd w' r l.length (l.map strC)) ∧ Below w.heap.size w w' := by
  subst hn
  have HD := Lib.hid (Dc.decode_any l w hl hb)
  have c0 := (show w.cell? ⟨p, 0, none⟩ = some (.pointer (some ⟨b, 0, none⟩)) from cell_at hp 0)
  have c1 := (show w.cell? ⟨b, 1, none⟩ = some (.int .i64 (l.length : Nat)) from cell_at hB 1)
  generalize (str (Dc.encDict l)) = s at *
  go_enter Tryz.func195, Tryz.ntmps195
  go_wp2_with fail
  refine HD.out.mono ?_
  rintro e w1 ⟨⟨r, rfl, hr⟩, b1⟩
  replace b1 := Lib.hid b1
  replace hr := Lib.hid (rd_sl hr)
  obtain ⟨ar, cr, er, -⟩ := hr.out
  subst er
  clear HD
  go_wp2_with fail
  go_ret2
  exact ⟨⟨_, rfl, hr.out⟩, b1.out⟩
theorem tr3 (p b n : Nat) (s0 : ByteArray) (l : List Nat) (w : World) (hp : w.heap[p]? = some (.cells #[.pointer (some ⟨b, 0, none⟩)] 274 (0, 0))) (hB : BB b s0 n w) (hn : l.length = n) (hb : ∀ z ∈ l, z < 2 * Fl.S) (hl : l.length ≤ 400) :
    Calls Tryz.prog 197 #[.string (str (ranksL l)), .pointer (some ⟨p, 0, none⟩)] w fun e w' => (∃ r L, e = .returned (.tuple #[r, .int .i64 0]) ∧ Rl.Flts w' r L ∧ L.map Fl.canon = l.map Fl.canon) ∧ Below w.heap.size w w' := by
  subst hn
  have HD := Lib.hid (takeRanks_ok l hb hl w)
  have c0 := (show w.cell? ⟨p, 0, none⟩ = some (.pointer (some ⟨b, 0, none⟩)) from cell_at hp 0)
  have c1 := (show w.cell? ⟨b, 1, none⟩ = some (.int .i64 (l.length : Nat)) from cell_at hB 1)
  generalize (str (ranksL l)) = s at *
  go_enter Tryz.func197, Tryz.ntmps197
  go_wp2_with fail
  refine HD.out.mono ?_
  rintro e w1 ⟨⟨r, L, rfl, hr, hc⟩, b1⟩
  replace b1 := Lib.hid b1
  obtain ⟨ar, cr, er, -⟩ := hr.val
  subst er
  replace hr := Lib.hid hr
  replace hc := Lib.hid hc
  clear HD
  go_wp2_with fail
  go_ret2
  exact ⟨⟨_, L, rfl, hr.out, hc.out⟩, b1.out⟩
end Sn
end
section
open Go.RowKit Go.Shelf
attribute [local go_sem] Fl.run_store_float
namespace Sn
open Mem Tp Tr Mo Pk Og
theorem enterTM (args : Array Value) (w : World) : (callFunc 199 args).run Tryz.prog w = .ok (.enter 199 args) w := by simp [go_sem]
theorem marks_eq (l : List Mk) : colsB (marksC l) = putL l.length ++ (partL (dEnc (l.map (fun m : Mk => m.rep))) ++ dEnc (l.map (fun m : Mk => m.cnt))) := by
  unfold colsB marksC
  simp only [List.flatMap_cons, List.flatMap_nil, List.append_nil]
  rfl
theorem rd_slice {W : World} {v : Value} {n : Nat} {cs : List Value} (h : Rd W v n cs) : ∃ a n c, v = .slice a n c := by
  obtain ⟨a, cap, e, -⟩ := h
  exact ⟨a, n, cap, e⟩
theorem rd_cell {W : World} {v : Value} {n : Nat} {cs : List Value} (h : Rd W v n cs) {k : Nat} {u : Value} (hu : cs[k]? = some u) (hk : k < n) : ∃ b off cap, v = .slice (some ⟨b, off, none⟩) n cap ∧ b < W.heap.size ∧ W.cell? ⟨b, off + k, none⟩ = some u := by
  obtain ⟨a, cap, e, h3⟩ := h
  obtain ⟨b, off, e1, e2, e3⟩ := h3 (by omega)
  exact ⟨b, off, cap, by rw [e, e1], e2, e3 k u hu⟩
theorem takeMarks_ok (l : List Mk) (w : World) (hl : l.length ≤ 250) (hok : Mr.okMks l) :
    Calls Tryz.prog 147 #[.string (str (colsB (marksC l)))] w fun e w' => (∃ v, e = .returned (.tuple #[v, .int .i64 0]) ∧ Mem.Mks w' v l ∧ ∀ k, v.ownBlock = some k → w.heap.size ≤ k ∧ k < w'.heap.size) ∧ Below w.heap.size w w' := by
  obtain ⟨j0, hj, hy0, hy1, hy2⟩ := info_parts infoMk
  have hm : ∀ (f : Mk → Int), (∀ x ∈ l, -9223372036854775808 ≤ f x ∧ f x ≤ 9223372036854775807) → ∀ n ∈ l.map f, -9223372036854775808 ≤ n ∧ n ≤ 9223372036854775807 := fun f hf n hn => by
    obtain ⟨x, hx, rfl⟩ := List.mem_map.1 hn
    exact hf x hx
  have hlm : ∀ (f : Mk → Int), (l.map f).length = l.length := fun f => List.length_map ..
  have hz1 := dEnc_len (l.map (fun m : Mk => m.rep))
  have hz2 := dEnc_len (l.map (fun m : Mk => m.cnt))
  have hz3 := partL_len (dEnc (l.map (fun m : Mk => m.rep)))
  rw [hlm] at hz1 hz2
  have hb1 := hm (fun m : Mk => m.rep) (fun x hx => by have := hok.1 x hx; omega)
  have hb2 := hm (fun m : Mk => m.cnt) (fun x hx => by have := hok.1 x hx; omega)
  have HOp := Lib.hid (open_ok l.length 255 (partL (dEnc (l.map (fun m : Mk => m.rep))) ++ dEnc (l.map (fun m : Mk => m.cnt))) w (by omega) (by decide) (by rw [List.length_append]; omega))
  have HN := Lib.hid (fun (p b : Nat) (W : World) (hp : W.heap[p]? = some (.cells #[.pointer (some ⟨b, 0, none⟩)] 274 (0, 0))) (hB : BB b (str (partL (dEnc (l.map (fun m : Mk => m.rep))) ++ dEnc (l.map (fun m : Mk => m.cnt)))) l.length W) (hne : p ≠ b) =>
    next_int b l.length (dEnc (l.map (fun m : Mk => m.rep))) (dEnc (l.map (fun m : Mk => m.cnt))) 199 (.pointer (some ⟨p, 0, none⟩)) l.length ((l.map (fun m : Mk => m.rep)).map i64C) W hB (by omega) (fun w1 => enterTM _ w1)
      (fun w1 hk hb => by
        have := tm1 p b l.length _ (l.map (fun m : Mk => m.rep)) w1 (hk.at hp hne) hb (hlm _) hb1 (by rw [hlm]; omega)
        rw [hlm] at this
        exact this))
  have HL := Lib.hid (fun (p b : Nat) (W : World) (hp : W.heap[p]? = some (.cells #[.pointer (some ⟨b, 0, none⟩)] 274 (0, 0))) (hB : BB b (str (dEnc (l.map (fun m : Mk => m.cnt)))) l.length W) (hne : p ≠ b) =>
    last_int b l.length (dEnc (l.map (fun m : Mk => m.cnt))) 199 (.pointer (some ⟨p, 0, none⟩)) (fun r W => Rd W r l.length ((l.map (fun m : Mk => m.cnt)).map i64C)) (fun r A B h1 h2 h3 h4 => rd_bb h1 h2 h3 h4 (.inr rfl)) (fun r A h => rd_slice h) W hB (fun w1 => enterTM _ w1)
      (fun w1 hk hb => by
        have := tm1 p b l.length _ (l.map (fun m : Mk => m.cnt)) w1 (hk.at hp hne) hb (hlm _) hb2 (by rw [hlm]; omega)
        rw [hlm] at this
        exact this))
  have hOk := Lib.hid hok
  rw [marks_eq]
  clear hok hm hlm hz1 hz2 hz3 hb1 hb2
  generalize str (putL l.length ++ (partL (dEnc (l.map (fun m : Mk => m.rep))) ++ dEnc (l.map (fun m : Mk => m.cnt)))) = s0 at *
  generalize str (partL (dEnc (l.map (fun m : Mk => m.rep))) ++ dEnc (l.map (fun m : Mk => m.cnt))) = s1 at *
  generalize str (dEnc (l.map (fun m : Mk => m.cnt))) = s2 at *
  have hmf : ∀ (fn : Fn) (first cap : Array Value) (w : World), (Instr.makeFunc fn first cap).run Tryz.prog w = .ok (.func fn first cap) w := fun _ _ _ _ => rfl
  go_enter Tryz.func147, Tryz.ntmps147
  go_wp2_with fail
  refine HOp.out.mono ?_
  rintro e w1 ⟨⟨g, rfl, hg, hB⟩, b1⟩
  have hgl := lt_of_block hB
  have hB1 : BB g s1 l.length (w1.alloc (.cells #[.pointer (some ⟨g, 0, none⟩)] 274)) := alloc_at _ hB
  have hp1 := alloc_new w1 (.cells #[.pointer (some ⟨g, 0, none⟩)] 274)
  have b2 := b1.alloc b1.size (.cells #[.pointer (some ⟨g, 0, none⟩)] 274)
  have hs1 := b1.size
  have hne : w1.heap.size ≠ g := by omega
  obtain ⟨W2, hW2⟩ : ∃ W2, w1.alloc (.cells #[.pointer (some ⟨g, 0, none⟩)] 274) = W2 := ⟨_, rfl⟩
  rw [hW2] at hB1 hp1 b2
  have hs2 : W2.heap.size = w1.heap.size + 1 := by rw [← hW2]; simp
  replace hW2 := Lib.hid hW2
  clear hB b1
  go_upto_region 3 with fail
  rw [hW2.out]
  generalize w1.heap.size = p at *
  have K : ∀ W : World, W.heap[p]? = some (.cells #[.pointer (some ⟨g, 0, none⟩)] 274 (0, 0)) → Below w.heap.size w W → W.cell? ⟨p, 0, none⟩ = some (.pointer (some ⟨g, 0, none⟩)) ∧ W.heap[p]? = some (.cells #[.pointer (some ⟨g, 0, none⟩)] 274 (0, 0)) ∧ Below w.heap.size w W := fun W h1 h2 => ⟨cell_at h1 0, h1, h2⟩
  replace K := Lib.hid K
  replace hB1 := Lib.hid hB1
  replace hp1 := Lib.hid hp1
  replace b2 := Lib.hid b2
  clear hW2 HOp hmf
  go_region_held3 (fun W : World => W.cell? ⟨p, 0, none⟩ = some (.pointer (some ⟨g, 0, none⟩)) ∧ W.heap[p]? = some (.cells #[.pointer (some ⟨g, 0, none⟩)] 274 (0, 0)) ∧ Below w.heap.size w W)
    (first | assumption | exact K.out _ hp1.out b2.out.drew | exact K.out _ hp5.out b5.out | exact K.out _ hp6.out b6.out)
    ((first
      | (go_at_call 193; (refine (HN.out p g _ (show (World.drew W2).heap[p]? = _ from hp1.out) (show BB g s1 l.length W2.drew from hB1.out) hne).mono ?_); rintro e w5 ⟨⟨r1, rfl, hr1⟩, hB5, k5⟩; have hp5 := Lib.hid (k5.at (show (World.drew W2).heap[p]? = _ from hp1.out) hne); have b5 := Lib.hid (b2.out.drew.trans (k5.to_below (B := w.heap.size) (Nat.le_trans b2.out.size (Nat.le_refl _)) (fun i hi e => by omega))); replace hr1 := Lib.hid hr1; replace hB5 := Lib.hid hB5; clear k5; obtain ⟨a5, n5, c5, e5⟩ := rd_slice hr1.out; subst e5)
      | (go_at_call 200; (refine (HL.out p g _ hp5.out hB5.out hne).mono ?_); rintro e w6 ⟨⟨r2, rfl, hr2⟩, hB6, k6⟩; have hr16 := Lib.hid (rd_bb hr1.out hB5.out hB6 k6 (.inr rfl)); have hp6 := Lib.hid (k6.at hp5.out hne); have b6 := Lib.hid (b5.out.trans (k6.to_below (B := w.heap.size) b5.out.size (fun i hi e => by omega))); replace hr2 := Lib.hid hr2; replace hB6 := Lib.hid hB6; clear k6; obtain ⟨a6, n6, c6, e6⟩ := rd_slice hr2.out; subst e6)))
  all_goals
    obtain ⟨f1, f2, -⟩ := K.out w6 hp6.out b6.out
    have g1 := (show w6.cell? ⟨g, 1, none⟩ = some (.int .i64 (l.length : Nat)) from cell_at hB6.out 1)
    have g2 := (show w6.cell? ⟨g, 2, none⟩ = some (.int .i64 0) from cell_at hB6.out 2)
    clear HN HL K f2 hB1 hp1 b2 hp5 b5 hB5 hr1 hp6 hB6 hne
    go_wp2_with fail
    go_loopw [8, 32] (fun v i wr => ∃ k : Nat, i = .int .i64 k ∧ k ≤ l.length ∧ Hid (wr.ownsRow w6.heap.size 112 2 v k ((l.take k).flatMap mkC)) ∧ Hid (Below w6.heap.size w6 wr)) (fun _ i _ => l.length - (intOf i).toNat)
    case atStart => exact ⟨0, rfl, by omega, Lib.hid (World.ownsRow_nil _ _ _ _), Lib.hid (Below.refl _ _)⟩
    case round =>
      obtain ⟨k, rfl, hk, hO, hb⟩ := hrel
      by_cases hlt : k < l.length
      · have hlt' : (k : Int) < (l.length : Nat) := by omega
        obtain ⟨x, hx⟩ := some_at hlt
        obtain ⟨d1, o1, p1, e1, hd1, q1⟩ := rd_cell (hr16.out) (k := k) (u := .int .i64 x.rep) (by rw [List.map_map, List.getElem?_map, hx]; rfl) hlt
        obtain ⟨d2, o2, p2, e2, hd2, q2⟩ := rd_cell (hr2.out) (k := k) (u := .int .i64 x.cnt) (by rw [List.map_map, List.getElem?_map, hx]; rfl) hlt
        simp only [Value.slice.injEq] at e1 e2
        obtain ⟨rfl, rfl, rfl⟩ := e1
        obtain ⟨rfl, rfl, rfl⟩ := e2
        have KS : ∀ W, Below w6.heap.size w6 W → W.cell? ⟨d1, o1 + k, none⟩ = some (.int .i64 x.rep) ∧ W.cell? ⟨d2, o2 + k, none⟩ = some (.int .i64 x.cnt) ∧ Below w6.heap.size w6 W := fun W h => ⟨(h.cell (p := ⟨d1, o1 + k, none⟩) hd1).trans q1, (h.cell (p := ⟨d2, o2 + k, none⟩) hd2).trans q2, h⟩
        replace KS := Lib.hid KS
        have hwk := Lib.hid (take_snoc hx)
        have hsz := hb.out.size
        obtain ⟨av, cv, ev⟩ := (own_sl hO.out).len
        subst ev
        have hOa := Lib.hid ((hO.out.alloc (.cells #[.int .i64 x.rep, .int .i64 x.cnt] 112)))
        clear hx q1 q2
        go_upto_region 10 with fail
        go_region_held3 (fun W : World => W.cell? ⟨d1, o1 + k, none⟩ = some (.int .i64 x.rep) ∧ W.cell? ⟨d2, o2 + k, none⟩ = some (.int .i64 x.cnt) ∧ Below w6.heap.size w6 W)
          (first | assumption | exact KS.out _ hb.out.drew | exact KS.out _ (hb.out.alloc hsz _).drew)
          ((refine step_append_src (by rfl) (.tmp 35) (.tmp 45) 32 (by rfl) w6.heap.size 112 j0 _ 2 16 Tryz.underlying32 hj hy0 hy1 hy2 rfl (by decide) _ k ((l.take k).flatMap mkC) (by rfl) ?_ _ 1 (mkC x) (by rfl) (mkC_len _) ?_ (mkC_one _) (by unfold maxLen; omega) (by omega) (by simp; omega) ?_; exact own_below hOa.out (Below.refl _ _).drew; exact src_new (alloc_new wr _) _; intro v5 w5 hown5 hgrow5; obtain ⟨a5', k5', e5'⟩ := (own_sl hown5).len; subst e5'; have hO5 := Lib.hid hown5; have hb5 := Lib.hid ((hb.out.alloc hsz (.cells #[.int .i64 x.rep, .int .i64 x.cnt] 112)).drew.grown hgrow5 (by simp; omega) (fun j e => (hO.out.lt j e).1)); have hS5 := KS.out _ hb5.out; clear hown5 hgrow5))
        all_goals
          have hO6 : Hid (w5.ownsRow w6.heap.size 112 2 (.slice a5' (k + 1) k5') (k + 1) ((l.take (k + 1)).flatMap mkC)) := Lib.hid (by rw [hwk.out, flat_snoc]; exact hO5.out)
          clear KS hS5
          go_wp2_with fail
          go_roundw
          case rel => exact ⟨k + 1, by go_num, by omega, hO6, hb5⟩
          case measure => simp [intOf]; omega
      · obtain rfl : k = l.length := by omega
        have hge : ¬ ((l.length : Int) < (l.length : Nat)) := by omega
        rw [List.take_length] at hO
        have hMy := Lib.hid (Mr.may_ok u8 l wr (own_sl hO.out) (by omega) hOk.out)
        have hlo := Lib.hid hO.out.lt
        have hs6 := b6.out.size
        obtain ⟨av, cv, ev⟩ := (own_sl hO.out).len
        subst ev
        go_wp2_with fail
        refine hMy.out.mono ?_
        rintro e z ⟨rfl, bz⟩
        have hOz := Lib.hid (own_below hO.out bz)
        have bf := Lib.hid (b6.out.trans ((hb.out.trans (bz.mono hb.out.size)).mono hs6))
        clear bz
        go_wp2_with fail
        go_ret2
        exact ⟨⟨_, rfl, own_sl hOz.out, fun k e => by have := hOz.out.lt k e; omega⟩, bf.out⟩
end Sn
end
section
namespace Og
open Tp Mo
def withRkR (l : List Rw) (L : List Nat) : List Rw := List.zipWith (fun m k => { m with rk := k }) l L
theorem withRkR_len {l : List Rw} {L : List Nat} (h : L.length = l.length) : (withRkR l L).length = l.length := by unfold withRkR; rw [List.length_zipWith, h, Nat.min_self]
theorem withRkR_at {l : List Rw} {L : List Nat} {k : Nat} {x : Rw} {z : Nat} (hx : l[k]? = some x) (hz : L[k]? = some z) : (withRkR l L)[k]? = some { x with rk := z } := by
  unfold withRkR
  rw [List.getElem?_zipWith, hx, hz]
theorem withRkR_nrm {L : List Nat} : ∀ {l : List Rw}, L.map Fl.canon = (l.map (fun m => m.rk)).map Fl.canon → (withRkR l L).map nrmR = l.map nrmR := by
  induction L with
  | nil =>
    intro l h
    cases l with
    | nil => rfl
    | cons m l => simp at h
  | cons z L ih =>
    intro l h
    cases l with
    | nil => simp at h
    | cons m l =>
      simp only [List.map_cons, List.cons.injEq] at h
      show nrmR { m with rk := z } :: (withRkR l L).map nrmR = _
      rw [ih h.2, List.map_cons]
      unfold nrmR
      simp only
      rw [h.1]
theorem withRkR_mem {l : List Rw} {L : List Nat} {m : Rw} (h : m ∈ withRkR l L) : (∃ x ∈ l, m = { x with rk := m.rk }) ∧ m.rk ∈ L := by
  unfold withRkR at h
  rw [List.mem_iff_getElem?] at h
  obtain ⟨k, hk⟩ := h
  rw [List.getElem?_zipWith] at hk
  cases h1 : l[k]? with
  | none => rw [h1] at hk; simp at hk
  | some x =>
    cases h2 : L[k]? with
    | none => rw [h1, h2] at hk; simp at hk
    | some z =>
      rw [h1, h2] at hk
      simp only [Option.some.injEq] at hk
      subst hk
      exact ⟨⟨x, List.mem_of_getElem? h1, rfl⟩, List.mem_of_getElem? h2⟩
def EqR (l l' : List Rw) : Prop := l'.map nrmR = l.map nrmR ∧ ∀ x ∈ l', x.rk < 2 * Fl.S
theorem nrm_len {l l' : List Rw} (h : l'.map nrmR = l.map nrmR) : l'.length = l.length := by have := congrArg List.length h; simpa using this
theorem nrm_at {l l' : List Rw} (h : l'.map nrmR = l.map nrmR) {k : Nat} {x : Rw} (hx : l'[k]? = some x) : ∃ y, l[k]? = some y ∧ nrmR x = nrmR y := by
  have h1 : (l'.map nrmR)[k]? = some (nrmR x) := by rw [List.getElem?_map, hx]; rfl
  rw [h, List.getElem?_map] at h1
  obtain ⟨y, hy, e⟩ := Option.map_eq_some_iff.1 h1
  exact ⟨y, hy, e.symm⟩
theorem nrm_mem {l l' : List Rw} (h : l'.map nrmR = l.map nrmR) {x : Rw} (hx : x ∈ l') : ∃ y ∈ l, nrmR x = nrmR y := by
  obtain ⟨k, hk⟩ := List.getElem?_of_mem hx
  obtain ⟨y, hy, e⟩ := nrm_at h hk
  exact ⟨y, List.mem_of_getElem? hy, e⟩
theorem nrm_ch {x y : Rw} (h : nrmR x = nrmR y) : x.ch = y.ch := show (nrmR x).ch = (nrmR y).ch by rw [h]
theorem nrm_pa {x y : Rw} (h : nrmR x = nrmR y) : x.pa = y.pa := show (nrmR x).pa = (nrmR y).pa by rw [h]
theorem one_nrm (x : Rw) : Tr.oneR (nrmR x) = Tr.oneR x := rfl
theorem one_eq {x y : Rw} (h : nrmR x = nrmR y) : Tr.oneR x = Tr.oneR y := by rw [← one_nrm x, ← one_nrm y, h]
theorem up_nrm (l : List Rw) (x : Int) : up (l.map nrmR) x = up l x := by
  unfold up
  rw [List.find?_map, Option.map_map]
  rfl
theorem chain_nrm (l : List Rw) : ∀ (n : Nat) (x : Int), chain (l.map nrmR) n x = chain l n x
  | 0, _ => rfl
  | n + 1, x => by
    rw [chain, chain, up_nrm]
    cases up l x with
    | none => rfl
    | some p => simp only; rw [chain_nrm l n p]
theorem above_nrm (l : List Rw) (a b : Int) : above (l.map nrmR) a b = above l a b := by
  unfold above
  rw [List.length_map, chain_nrm]
theorem above_eq {l l' : List Rw} (h : l'.map nrmR = l.map nrmR) (a b : Int) : above l' a b = above l a b := by rw [← above_nrm l', h, above_nrm]
theorem ch_eq {l l' : List Rw} (h : l'.map nrmR = l.map nrmR) : l'.map (·.ch) = l.map (·.ch) := by
  have := congrArg (List.map (fun r : Rw => r.ch)) h
  rw [List.map_map, List.map_map] at this
  exact this
theorem rise_eq {l l' : List Rw} (h : l'.map nrmR = l.map nrmR) (hr : l.Pairwise (fun a b => a.ch < b.ch)) : l'.Pairwise (fun a b => a.ch < b.ch) := by
  have h1 : (l.map (·.ch)).Pairwise (· < ·) := List.pairwise_map.2 hr
  rw [← ch_eq h] at h1
  exact List.pairwise_map.1 h1
end Og
end
section
open Go.RowKit Go.Shelf
attribute [local go_sem] Fl.run_store_float
namespace Sn
open Mem Tp Tr Mo Pk Og
theorem enterTR1 (args : Array Value) (w : World) : (callFunc 192 args).run Tryz.prog w = .ok (.enter 192 args) w := by simp [go_sem]
theorem enterTR2 (args : Array Value) (w : World) : (callFunc 195 args).run Tryz.prog w = .ok (.enter 195 args) w := by simp [go_sem]
theorem enterTR3 (args : Array Value) (w : World) : (callFunc 197 args).run Tryz.prog w = .ok (.enter 197 args) w := by simp [go_sem]
theorem rows_eq (l : List Rw) : colsB (rowsC l) = putL l.length ++ (partL (dEnc (l.map (fun m : Rw => m.ch))) ++ (partL (dEnc (l.map (fun m : Rw => m.pa))) ++ (partL (Dc.encDict (l.map (fun m : Rw => m.nm))) ++ ranksL (l.map (fun m : Rw => m.rk))))) := by
  unfold colsB rowsC
  simp only [List.flatMap_cons, List.flatMap_nil, List.append_nil]
  rfl
theorem ints_rd {W : World} {v : Value} {l : List Int} (h : Rd W v l.length (l.map i64C)) (hb : ∀ n ∈ l, IntKind.i64.min ≤ n ∧ n ≤ IntKind.i64.max) : Opened.Ints .i64 W v l := by
  obtain ⟨a, cap, rfl, h3⟩ := h
  refine ⟨⟨a, cap, rfl, fun h0 => ?_⟩, hb⟩
  obtain ⟨b, off, e, hlt, hc⟩ := h3 h0
  refine ⟨b, off, e, hlt, fun j hj => hc j _ ?_⟩
  rw [List.getElem?_map, List.getElem?_eq_getElem hj]
  simp [i64C, List.getD, List.getElem?_eq_getElem hj]
theorem rise_true : ∀ {l : List Int}, l.Pairwise (· < ·) → Dl.rise l = true
  | [], _ => rfl
  | a :: l, h => by
    rw [List.pairwise_cons] at h
    have ih := rise_true h.2
    cases l with
    | nil => rfl
    | cons b l =>
      show (decide (a < b) && Dl.rise (b :: l)) = true
      rw [ih, Bool.and_true]
      exact decide_eq_true (h.1 b (List.mem_cons_self ..))
theorem takeRows_ok (l : List Rw) (w : World) (hl : l.length ≤ 250) (hone : ∀ x ∈ l, oneR x = true) (hk : ∀ x ∈ l, x.rk < 2 * Fl.S) (hrise : l.Pairwise (fun a b => a.ch < b.ch)) (hac : ∀ x ∈ l, above l x.ch x.ch = false) :
    Calls Tryz.prog 146 #[.string (str (colsB (rowsC l)))] w fun e w' => (∃ v l', e = .returned (.tuple #[v, .int .i64 0]) ∧ Mem.Rows w' v l' ∧ EqR l l' ∧ ∀ k, v.ownBlock = some k → w.heap.size ≤ k ∧ k < w'.heap.size) ∧ Below w.heap.size w w' := by
  obtain ⟨j0, hj, hy0, hy1, hy2⟩ := info_parts infoRow
  have hin : ∀ x ∈ l, (1 ≤ x.ch ∧ x.ch ≤ 2147483647 ∧ 0 ≤ x.pa ∧ x.pa ≤ 2147483647 ∧ x.nm.size ≤ 64) ∧ Wd.validU x.nm = true := fun x hx => Fo.oneR_in (hone x hx)
  have hm : ∀ (f : Rw → Int), (∀ x ∈ l, -9223372036854775808 ≤ f x ∧ f x ≤ 9223372036854775807) → ∀ n ∈ l.map f, -9223372036854775808 ≤ n ∧ n ≤ 9223372036854775807 := fun f hf n hn => by
    obtain ⟨x, hx, rfl⟩ := List.mem_map.1 hn
    exact hf x hx
  have hlm : ∀ {β : Type} (f : Rw → β), (l.map f).length = l.length := fun f => List.length_map ..
  have hz1 := dEnc_len (l.map (fun m : Rw => m.ch))
  have hz2 := dEnc_len (l.map (fun m : Rw => m.pa))
  have hb3 : ∀ s ∈ l.map (fun m : Rw => m.nm), s.size ≤ 64 ∧ Wd.validU s = true := fun s hs => by
    obtain ⟨x, hx, rfl⟩ := List.mem_map.1 hs
    have := hin x hx
    exact ⟨by omega, this.2⟩
  have hz3 := Dc.encDict_len (fun s hs => (hb3 s hs).1)
  have hz4 := ranksL_len (l.map (fun m : Rw => m.rk))
  have hp1 := partL_len (dEnc (l.map (fun m : Rw => m.ch)))
  have hp2 := partL_len (dEnc (l.map (fun m : Rw => m.pa)))
  have hp3 := partL_len (Dc.encDict (l.map (fun m : Rw => m.nm)))
  rw [hlm] at hz1 hz2 hz3 hz4
  have hb1 := hm (fun m : Rw => m.ch) (fun x hx => by have := (hin x hx).1; omega)
  have hb2 := hm (fun m : Rw => m.pa) (fun x hx => by have := (hin x hx).1; omega)
  have hb4 : ∀ z ∈ l.map (fun m : Rw => m.rk), z < 2 * Fl.S := fun s hs => by
    obtain ⟨x, hx, rfl⟩ := List.mem_map.1 hs
    exact hk x hx
  obtain ⟨T4, hT4⟩ : ∃ T, ranksL (l.map (fun m : Rw => m.rk)) = T := ⟨_, rfl⟩
  obtain ⟨T3, hT3⟩ : ∃ T, partL (Dc.encDict (l.map (fun m : Rw => m.nm))) ++ T4 = T := ⟨_, rfl⟩
  obtain ⟨T2, hT2⟩ : ∃ T, partL (dEnc (l.map (fun m : Rw => m.pa))) ++ T3 = T := ⟨_, rfl⟩
  obtain ⟨T1, hT1⟩ : ∃ T, partL (dEnc (l.map (fun m : Rw => m.ch))) ++ T2 = T := ⟨_, rfl⟩
  have hl4 : T4.length ≤ 20 + 40 * l.length := by rw [← hT4]; exact hz4
  have hl3 : T3.length = (partL (Dc.encDict (l.map (fun m : Rw => m.nm)))).length + T4.length := by rw [← hT3, List.length_append]
  have hl2 : T2.length = (partL (dEnc (l.map (fun m : Rw => m.pa)))).length + T3.length := by rw [← hT2, List.length_append]
  have hl1 : T1.length = (partL (dEnc (l.map (fun m : Rw => m.ch)))).length + T2.length := by rw [← hT1, List.length_append]
  have HOp := Lib.hid (open_ok l.length 2000 T1 w (by omega) (by decide) (by omega))
  have HN1 := Lib.hid (fun (p b : Nat) (W : World) (hp : W.heap[p]? = some (.cells #[.pointer (some ⟨b, 0, none⟩)] 274 (0, 0))) (hB : BB b (str T1) l.length W) (hne : p ≠ b) =>
    next_int b l.length (dEnc (l.map (fun m : Rw => m.ch))) T2 192 (.pointer (some ⟨p, 0, none⟩)) l.length ((l.map (fun m : Rw => m.ch)).map i64C) W (by rw [hT1]; exact hB) (by omega) (fun w1 => enterTR1 _ w1)
      (fun w1 hk hb => by
        have := tr1 p b l.length _ (l.map (fun m : Rw => m.ch)) w1 (hk.at hp hne) hb (hlm _) hb1 (by rw [hlm]; omega)
        rw [hlm] at this
        exact this))
  have HN2 := Lib.hid (fun (p b : Nat) (W : World) (hp : W.heap[p]? = some (.cells #[.pointer (some ⟨b, 0, none⟩)] 274 (0, 0))) (hB : BB b (str T2) l.length W) (hne : p ≠ b) =>
    next_int b l.length (dEnc (l.map (fun m : Rw => m.pa))) T3 192 (.pointer (some ⟨p, 0, none⟩)) l.length ((l.map (fun m : Rw => m.pa)).map i64C) W (by rw [hT2]; exact hB) (by omega) (fun w1 => enterTR1 _ w1)
      (fun w1 hk hb => by
        have := tr1 p b l.length _ (l.map (fun m : Rw => m.pa)) w1 (hk.at hp hne) hb (hlm _) hb2 (by rw [hlm]; omega)
        rw [hlm] at this
        exact this))
  have HN3 := Lib.hid (fun (p b : Nat) (W : World) (hp : W.heap[p]? = some (.cells #[.pointer (some ⟨b, 0, none⟩)] 274 (0, 0))) (hB : BB b (str T3) l.length W) (hne : p ≠ b) =>
    next_str b l.length (Dc.encDict (l.map (fun m : Rw => m.nm))) T4 195 (.pointer (some ⟨p, 0, none⟩)) l.length ((l.map (fun m : Rw => m.nm)).map strC) W (by rw [hT3]; exact hB) (by omega) (fun w1 => enterTR2 _ w1)
      (fun w1 hk hb => by
        have := tr2 p b l.length _ (l.map (fun m : Rw => m.nm)) w1 (hk.at hp hne) hb (hlm _) hb3 (by rw [hlm]; omega)
        rw [hlm] at this
        exact this))
  have HL := Lib.hid (fun (p b : Nat) (W : World) (hp : W.heap[p]? = some (.cells #[.pointer (some ⟨b, 0, none⟩)] 274 (0, 0))) (hB : BB b (str T4) l.length W) (hne : p ≠ b) =>
    last_flt b l.length T4 197 (.pointer (some ⟨p, 0, none⟩)) (fun r W => ∃ L : List Nat, Rd W r l.length (L.map fltC) ∧ (∀ z ∈ L, z < 2 * Fl.S) ∧ L.map Fl.canon = (l.map (fun m : Rw => m.rk)).map Fl.canon) (fun r A B h1 h2 h3 h4 => by
        obtain ⟨L, q1, q2, q3⟩ := h1
        exact ⟨L, rd_bb q1 h2 h3 h4 (.inr rfl), q2, q3⟩) (fun r A h => by
        obtain ⟨L, q1, -⟩ := h
        exact rd_slice q1) W hB (fun w1 => enterTR3 _ w1)
      (fun w1 hk hb => by
        have := tr3 p b l.length _ (l.map (fun m : Rw => m.rk)) w1 (hk.at hp hne) hb (hlm _) hb4 (by rw [hlm]; omega)
        rw [hT4] at this
        refine this.mono ?_
        rintro e w2 ⟨⟨r, L, he, hf, hc⟩, hb⟩
        have hll : L.length = l.length := by have := congrArg List.length hc; rw [List.length_map, List.length_map, List.length_map] at this; exact this
        exact ⟨⟨r, he, L, by have := rd_flts hf; rwa [hll] at this, hf.bound, hc⟩, hb⟩))
  have HRs := Lib.hid (fun (v : Value) (W : World) (h : Rd W v l.length ((l.map (fun m : Rw => m.ch)).map i64C)) => Dl.rising_any v (l.map (fun m : Rw => m.ch)) W (ints_rd (by rw [hlm]; exact h) hb1) (by rw [hlm]; omega))
  rw [rise_true (l := l.map (fun m : Rw => m.ch)) (List.pairwise_map.2 hrise)] at HRs
  rw [rows_eq, hT4, hT3, hT2, hT1]
  have HIN := Lib.hid hin
  have H1 := Lib.hid hone
  have H2 := Lib.hid hrise
  have H3 := Lib.hid hac
  clear hone hrise hac hin hk hm hlm hz1 hz2 hz3 hz4 hp1 hp2 hp3 hb1 hb2 hb3 hb4 hl1 hl2 hl3 hl4 hT1 hT2 hT3 hT4
  generalize str (putL l.length ++ T1) = s0 at *
  have hmf : ∀ (fn : Fn) (first cap : Array Value) (w : World), (Instr.makeFunc fn first cap).run Tryz.prog w = .ok (.func fn first cap) w := fun _ _ _ _ => rfl
  go_enter Tryz.func146, Tryz.ntmps146
  go_wp2_with fail
  refine HOp.out.mono ?_
  rintro e w1 ⟨⟨g, rfl, hg, hB⟩, b1⟩
  have hgl := lt_of_block hB
  have hB1 : BB g (str T1) l.length (w1.alloc (.cells #[.pointer (some ⟨g, 0, none⟩)] 274)) := alloc_at _ hB
  have hp1 := alloc_new w1 (.cells #[.pointer (some ⟨g, 0, none⟩)] 274)
  have b2 := b1.alloc b1.size (.cells #[.pointer (some ⟨g, 0, none⟩)] 274)
  have hs1 := b1.size
  have hne : w1.heap.size ≠ g := by omega
  obtain ⟨W2, hW2⟩ : ∃ W2, w1.alloc (.cells #[.pointer (some ⟨g, 0, none⟩)] 274) = W2 := ⟨_, rfl⟩
  rw [hW2] at hB1 hp1 b2
  have hs2 : W2.heap.size = w1.heap.size + 1 := by rw [← hW2]; simp
  replace hW2 := Lib.hid hW2
  clear hB b1
  go_upto_region 3 with fail
  rw [hW2.out]
  generalize w1.heap.size = p at *
  have K : ∀ W : World, W.heap[p]? = some (.cells #[.pointer (some ⟨g, 0, none⟩)] 274 (0, 0)) → Below w.heap.size w W → W.cell? ⟨p, 0, none⟩ = some (.pointer (some ⟨g, 0, none⟩)) ∧ W.heap[p]? = some (.cells #[.pointer (some ⟨g, 0, none⟩)] 274 (0, 0)) ∧ Below w.heap.size w W := fun W h1 h2 => ⟨cell_at h1 0, h1, h2⟩
  replace K := Lib.hid K
  replace hB1 := Lib.hid hB1
  replace hp1 := Lib.hid hp1
  replace b2 := Lib.hid b2
  have hI1 := Lib.hid (fun (u : Value) (h : u ∈ (l.map (fun m : Rw => m.ch)).map i64C) (t : ByteArray) => (show u ≠ .string t by obtain ⟨x, -, rfl⟩ := List.mem_map.1 h; intro e; cases e))
  have hI2 := Lib.hid (fun (u : Value) (h : u ∈ (l.map (fun m : Rw => m.pa)).map i64C) (t : ByteArray) => (show u ≠ .string t by obtain ⟨x, -, rfl⟩ := List.mem_map.1 h; intro e; cases e))
  clear hW2 HOp
  go_region_held3 (fun W : World => W.cell? ⟨p, 0, none⟩ = some (.pointer (some ⟨g, 0, none⟩)) ∧ W.heap[p]? = some (.cells #[.pointer (some ⟨g, 0, none⟩)] 274 (0, 0)) ∧ Below w.heap.size w W)
    (first | assumption | exact K.out _ hp1.out b2.out.drew | exact K.out _ hp6.out b6.out | exact K.out _ hp5.out b5.out)
    ((first
      | (go_at_call 193; (refine (HN2.out p g _ hp5.out hB5.out hne).mono ?_); rintro e w6 ⟨⟨r2, rfl, hr2⟩, hB6, k6⟩; have hr16 := Lib.hid (rd_bb hr1.out hB5.out hB6 k6 (.inl hI1.out)); have hp6 := Lib.hid (k6.at hp5.out hne); have b6 := Lib.hid (b5.out.trans (k6.to_below (B := w.heap.size) b5.out.size (fun i hi e => by omega))); replace hr2 := Lib.hid hr2; replace hB6 := Lib.hid hB6; clear k6; obtain ⟨a6, n6, c6, e6⟩ := rd_slice hr2.out; subst e6)
      | (go_at_call 193; (refine (HN1.out p g _ (show (World.drew W2).heap[p]? = _ from hp1.out) (show BB g (str T1) l.length W2.drew from hB1.out) hne).mono ?_); rintro e w5 ⟨⟨r1, rfl, hr1⟩, hB5, k5⟩; have hp5 := Lib.hid (k5.at (show (World.drew W2).heap[p]? = _ from hp1.out) hne); have b5 := Lib.hid (b2.out.drew.trans (k5.to_below (B := w.heap.size) (Nat.le_trans b2.out.size (Nat.le_refl _)) (fun i hi e => by omega))); replace hr1 := Lib.hid hr1; replace hB5 := Lib.hid hB5; clear k5; obtain ⟨a5, n5, c5, e5⟩ := rd_slice hr1.out; subst e5)))
  all_goals
    have f6 := (K.out w6 hp6.out b6.out).1
    have H3' := Lib.hid (HN3.out p g w6 hp6.out hB6.out hne)
    clear HN1 HN2 HN3 hr1 hB1 hB5 hp1 b2 hp5 b5
    go_wp2_with fail
    refine H3'.out.mono ?_
    rintro e w7 ⟨⟨r3, rfl, hr3⟩, hB7, k7⟩
    have hr17 := Lib.hid (rd_bb hr16.out hB6.out hB7 k7 (.inl hI1.out))
    have hr27 := Lib.hid (rd_bb hr2.out hB6.out hB7 k7 (.inl hI2.out))
    have hp7 := Lib.hid (k7.at hp6.out hne)
    have b7 := Lib.hid (b6.out.trans (k7.to_below (B := w.heap.size) b6.out.size (fun i hi e => by omega)))
    obtain ⟨a7, n7, c7, e7⟩ := rd_slice hr3
    subst e7
    replace hr3 := Lib.hid hr3
    replace hB7 := Lib.hid hB7
    have f7 := (K.out w7 hp7.out b7.out).1
    have H4' := Lib.hid (HL.out p g w7 hp7.out hB7.out hne)
    clear H3' HL f6 hr16 hr2 hB6 hp6 b6 k7
    go_wp2_with fail
    refine H4'.out.mono ?_
    rintro e w8 ⟨⟨r4, rfl, L, hr4, hLb, hLc⟩, hB8, k8⟩
    have hr18 := Lib.hid (rd_bb hr17.out hB7.out hB8 k8 (.inr rfl))
    have hr28 := Lib.hid (rd_bb hr27.out hB7.out hB8 k8 (.inr rfl))
    have hr38 := Lib.hid (rd_bb hr3.out hB7.out hB8 k8 (.inr rfl))
    have hp8 := k8.at hp7.out hne
    have b8 := Lib.hid (b7.out.trans (k8.to_below (B := w.heap.size) b7.out.size (fun i hi e => by omega)))
    have hLl : L.length = l.length := by have := congrArg List.length hLc; rw [List.length_map, List.length_map, List.length_map] at this; exact this
    obtain ⟨a8, n8, c8, e8⟩ := rd_slice hr4
    subst e8
    have f8 := (K.out w8 hp8 b8.out).1
    have g1 := (show w8.cell? ⟨g, 1, none⟩ = some (.int .i64 (l.length : Nat)) from cell_at hB8 1)
    have g2 := (show w8.cell? ⟨g, 2, none⟩ = some (.int .i64 0) from cell_at hB8 2)
    replace hr4 := Lib.hid hr4
    replace hLb := Lib.hid hLb
    replace hLc := Lib.hid hLc
    clear H4' f7 hr17 hr27 hr3 hB7 hp7 b7 k8 hB8 hp8 K hI1 hI2 hne hmf
    go_wp2_with fail
    have hWl := Lib.hid (withRkR_len hLl)
    go_loopw [10, 41] (fun v i wr => ∃ k : Nat, i = .int .i64 k ∧ k ≤ l.length ∧ Hid (wr.ownsRow w8.heap.size 96 4 v k (((withRkR l L).take k).flatMap rowC)) ∧ Hid (Below w8.heap.size w8 wr)) (fun _ i _ => l.length - (intOf i).toNat)
    case atStart => exact ⟨0, rfl, by omega, Lib.hid (World.ownsRow_nil _ _ _ _), Lib.hid (Below.refl _ _)⟩
    case round =>
      obtain ⟨k, rfl, hk, hO, hb⟩ := hrel
      by_cases hlt : k < l.length
      · have hlt' : (k : Int) < (l.length : Nat) := by omega
        obtain ⟨x, hx⟩ := some_at hlt
        obtain ⟨z, hz⟩ := some_at (show k < L.length by omega)
        have hxm := List.mem_of_getElem? hx
        have hin := HIN.out x hxm
        obtain ⟨d1, o1, p1, e1, hd1, q1⟩ := rd_cell (hr18.out.below hb.out) (k := k) (u := .int .i64 x.ch) (by rw [List.map_map, List.getElem?_map, hx]; rfl) hlt
        obtain ⟨d2, o2, p2, e2, hd2, q2⟩ := rd_cell (hr28.out.below hb.out) (k := k) (u := .int .i64 x.pa) (by rw [List.map_map, List.getElem?_map, hx]; rfl) hlt
        obtain ⟨d3, o3, p3, e3, hd3, q3⟩ := rd_cell (hr38.out.below hb.out) (k := k) (u := .string x.nm) (by rw [List.map_map, List.getElem?_map, hx]; rfl) hlt
        obtain ⟨d4, o4, p4, e4, hd4, q4⟩ := rd_cell (hr4.out.below hb.out) (k := k) (u := .float .f64 z) (by rw [List.getElem?_map, hz]; rfl) hlt
        simp only [Value.slice.injEq] at e1 e2 e3 e4
        obtain ⟨rfl, rfl, rfl⟩ := e1
        obtain ⟨rfl, rfl, rfl⟩ := e2
        obtain ⟨rfl, rfl, rfl⟩ := e3
        obtain ⟨rfl, rfl, rfl⟩ := e4
        have hwk := Lib.hid (take_snoc (withRkR_at hx hz))
        have hone : oneR { x with rk := z } = true := H1.out x hxm
        have HO := Lib.hid (fun W => Tr.one_any { x with rk := z } W (by show x.nm.size ≤ 100000; omega))
        rw [hone] at HO
        unfold rowV at HO
        dsimp only at HO
        have hszr := hb.out.size
        have hlo := Lib.hid hO.out.lt
        have qa1 := fun o => (((Below.refl wr.heap.size wr).alloc (Nat.le_refl _) o).cell (p := ⟨d1, o1 + k, none⟩) hd1).trans q1
        have qa2 := fun o => (((Below.refl wr.heap.size wr).alloc (Nat.le_refl _) o).cell (p := ⟨d2, o2 + k, none⟩) hd2).trans q2
        have qa3 := fun o => (((Below.refl wr.heap.size wr).alloc (Nat.le_refl _) o).cell (p := ⟨d3, o3 + k, none⟩) hd3).trans q3
        have qa4 := fun o => (((Below.refl wr.heap.size wr).alloc (Nat.le_refl _) o).cell (p := ⟨d4, o4 + k, none⟩) hd4).trans q4
        clear hx hz hxm hin hone
        go_upto_region 12 with fail
        go_cut [12] (fun v12 wx => ∃ g, v12 = .pointer (some ⟨g, 0, none⟩) ∧ wr.heap.size ≤ g ∧ Hid (wx.heap[g]? = some (.cells #[.int .i64 x.ch, .int .i64 x.pa, .string x.nm, .float .f64 z] 96 (0, 0))) ∧ Hid (Below wr.heap.size wr wx))
        case first =>
          go_region
          all_goals
            go_wp2_with fail
            go_meet
            exact ⟨_, rfl, Nat.le_refl _, Lib.hid (alloc_new wr _), Lib.hid ((Below.refl _ _).alloc (Nat.le_refl _) _).drew⟩
        case rest =>
          obtain ⟨gx, rfl, hgx, hgx1, hbx⟩ := hcut
          clear q1 q2 q3 q4 qa1 qa2 qa3 qa4
          have e0 := (show wc.cell? ⟨gx, 0, none⟩ = some (.int .i64 x.ch) from cell_at hgx1.out 0)
          have e1 := (show wc.cell? ⟨gx, 1, none⟩ = some (.int .i64 x.pa) from cell_at hgx1.out 1)
          have e2 := (show wc.cell? ⟨gx, 2, none⟩ = some (.string x.nm) from cell_at hgx1.out 2)
          have e3 := (show wc.cell? ⟨gx, 3, none⟩ = some (.float .f64 z) from cell_at hgx1.out 3)
          go_wp2_with fail
          refine (HO.out _).mono ?_
          rintro e w2 ⟨rfl, b2⟩
          clear e0 e1 e2 e3
          have hb3 := hbx.out.trans (b2.mono hbx.out.size)
          have hgx2 := below_at b2 hgx1.out (lt_of_block hgx1.out)
          have e0 := (show w2.cell? ⟨gx, 0, none⟩ = some (.int .i64 x.ch) from cell_at hgx2 0)
          have e1 := (show w2.cell? ⟨gx, 1, none⟩ = some (.int .i64 x.pa) from cell_at hgx2 1)
          have e2 := (show w2.cell? ⟨gx, 2, none⟩ = some (.string x.nm) from cell_at hgx2 2)
          have e3 := (show w2.cell? ⟨gx, 3, none⟩ = some (.float .f64 z) from cell_at hgx2 3)
          have hO2 := Lib.hid (own_below hO.out hb3)
          have hbb := Lib.hid (hb.out.trans (hb3.mono hszr))
          have hs2 := hb3.size
          obtain ⟨ay, cy, ey⟩ := (own_sl hO2.out).len
          subst ey
          clear b2 hb3 hgx2 hO HO hgx1 hbx hb
          go_wp2_with (at_builtin; refine wpList_append_src (by rfl) _ _ 31 (by rfl) w8.heap.size 96 j0 _ 4 40 Tryz.underlying31 hj hy0 hy1 hy2 rfl (by decide) _ k (((withRkR l L).take k).flatMap rowC) (by rfl) (World.ownsRow.alloc hO2.out _) _ 1 (rowC { x with rk := z }) (by rfl) (rowC_len _) (src_new (alloc_new w2 _) _) (rowC_one _) (by unfold maxLen; omega) (by omega) (by simp; omega) ?_; intro v5 w5 hown5 hgrow5; obtain ⟨a5, k5, e5'⟩ := (own_sl hown5).len; subst e5'; have hO5 := Lib.hid hown5; have hb5 := Lib.hid ((hbb.out.alloc (by omega) (.cells #[.int .i64 x.ch, .int .i64 x.pa, .string x.nm, .float .f64 z] 96)).grown hgrow5 (by simp; omega) (fun j e => (hO2.out.lt j e).1)); clear hown5 hgrow5)
          have hOf : Hid (w5.ownsRow w8.heap.size 96 4 (.slice a5 (k + 1) k5) (k + 1) (((withRkR l L).take (k + 1)).flatMap rowC)) := Lib.hid (by
            rw [hwk.out, flat_snoc]
            exact hO5.out)
          go_roundw
          case rel => exact ⟨k + 1, by go_num, by omega, hOf, hb5⟩
          case measure => simp [intOf]; omega
      · obtain rfl : k = l.length := by omega
        have hge : ¬ ((l.length : Int) < (l.length : Nat)) := by omega
        rw [List.take_of_length_le (by rw [hWl.out]; exact Nat.le_refl _)] at hO
        have hEq := withRkR_nrm hLc.out
        have hRw : Mem.Rows wr u10 (withRkR l L) := by
          have := own_sl hO.out
          unfold Mem.Rows
          rw [hWl.out]
          exact this
        have hone' : ∀ x ∈ withRkR l L, oneR x = true := fun x hx => by
          obtain ⟨y, hy, e⟩ := nrm_mem hEq hx
          rw [one_eq e]
          exact H1.out y hy
        have hrs' := rise_eq hEq H2.out
        have hac' : ∀ x ∈ withRkR l L, above (withRkR l L) x.ch x.ch = false := fun x hx => by
          obtain ⟨y, hy, e⟩ := nrm_mem hEq hx
          rw [above_eq hEq, nrm_ch e]
          exact H3.out y hy
        have HMy := Lib.hid (fun (W : World) (h : Below wr.heap.size wr W) => Tr.may_ok u10 (withRkR l L) W (hRw.below h) (by rw [hWl.out]; omega) hone' (fun x h => by have := (Fo.oneR_in (hone' x h)).1; omega) (fun j a b h k => Fo.pw_adj hrs' j a b h k) (Fo.rise_nodup hrs') (fun x h => Fo.oneR_r (hone' x h)) hac')
        have HR1 := Lib.hid (HRs.out _ wr (hr18.out.below hb.out))
        have hEq' : Hid (EqR l (withRkR l L)) := Lib.hid ⟨hEq, fun m h => hLb.out _ (withRkR_mem h).2⟩
        have hs8 := b8.out.size
        replace hRw := Lib.hid hRw
        obtain ⟨av, cv, ev⟩ := (own_sl hO.out).len
        subst ev
        clear hEq hone' hrs' hac' HRs
        go_wp2_with fail
        refine HR1.out.mono ?_
        rintro e z1 ⟨rfl, bz⟩
        have HM1 := Lib.hid (HMy.out z1 bz)
        replace bz := Lib.hid bz
        clear HMy HR1
        go_wp2_with fail
        refine HM1.out.mono ?_
        rintro e z2 ⟨rfl, bz2⟩
        replace bz2 := Lib.hid (bz.out.trans (bz2.mono bz.out.size))
        clear bz HM1
        have hOz := Lib.hid (own_below hO.out bz2.out)
        have bf := Lib.hid (b8.out.trans ((hb.out.trans (bz2.out.mono hb.out.size)).mono hs8))
        have hRz := Lib.hid (hRw.out.below bz2.out)
        go_wp2_with fail
        go_ret2
        exact ⟨⟨_, _, rfl, hRz.out, hEq'.out, fun k e => by have := hOz.out.lt k e; omega⟩, bf.out⟩
end Sn
end
end Go.Proofs.YtnlijlknjhkoaaaGreat
