/-
  WALKS: (*strings.Builder).WriteByte; a chunk's bytes, by package chunk and by the document. Conditions: texts of at most 2 million bytes.
-/
import Derived.Test.YtpccenaieeggmaaChunkPlain
import Derived.Test.YtpccenaieeggmaaChunkShelf
namespace Go.Proofs.Ytpccenaieeggmaa
open Go.RowKit Go.Shelf
namespace Ck
open Mem Pk Bd

set_option maxRecDepth 100000 in
set_option maxHeartbeats 1000000 in
theorem wbyte_any (b B : Nat) (p v : Value) (hp : p = .pointer none ∨ p = .pointer (some ⟨b, 0, none⟩)) (l : List UInt8) (c : UInt8) (w : World) (hb : w.heap[b]? = some (bd p v)) (hO : Own8 w B v l) (hbB : b < B) (hBw : B ≤ w.heap.size) (hl : l.length ≤ 100000) :
    Calls Try.prog 22 #[.pointer (some ⟨b, 0, none⟩), .int .u8 (c.toNat : Int)] w fun e w' => e = .returned .nilIface ∧ (∃ v', w'.heap[b]? = some (bd (.pointer (some ⟨b, 0, none⟩)) v') ∧ Own8 w' B v' (l ++ [c])) ∧ Kept (fun k => k = b ∨ B ≤ k) w w' := by
  obtain ⟨i0, hi, hz0, hz1, hz2⟩ := info_parts info8
  have HC := Lib.hid (check_any b p v hp w hb)
  clear hb hp
  go_enter Try.func22, Try.ntmps22
  go_wp2_with fail
  refine HC.out.mono ?_
  rintro e w1 ⟨rfl, hb1, k1, -⟩
  have hO1 : w1.ownsRow B 5 1 v l.length (cells8 l) := own8_kept k1 hO (fun k hk h => by subst h; omega)
  have c0 : w1.cell? ⟨b, 0, none⟩ = some (.pointer (some ⟨b, 0, none⟩)) := (cell_at hb1 0).trans rfl
  have c1 : w1.cell? ⟨b, 1, none⟩ = some v := (cell_at hb1 1).trans rfl
  have hs1 := k1.size
  go_wp2_with (at_builtin; refine wpList_append_own _ rfl _ _ 42 rfl B 5 i0 (.int .u8 0) 1 1 Try.underlying42 hi hz0 hz1 hz2 rfl (by decide) _ _ _ rfl (hO1.alloc _) ⟨w1.heap.size, 0, none⟩ 1 1 [.int .u8 (c.toNat : Int)] rfl rfl (cell_one_new _ _ _) (fun x hx => by simp at hx; subst hx; rfl) (by unfold maxLen; omega) (by omega) (by simp; omega) ?_; intro v2 w2 hown hgrow _; obtain ⟨bx, cx, rfl⟩ := own_slice hown; have hb2 : w2.heap[b]? = some (bd (.pointer (some ⟨b, 0, none⟩)) v) := (hgrow.block b (by simp; omega) (fun e => by have := (hO1.lt _ e.symm).1; omega)).trans (alloc_at _ hb1); have d0 : w2.cell? ⟨b, 0, none⟩ = some (.pointer (some ⟨b, 0, none⟩)) := (cell_at hb2 0).trans rfl; have d1 : w2.cell? ⟨b, 1, none⟩ = some v := (cell_at hb2 1).trans rfl; have f1 : w2.frozen? ⟨b, 1, none⟩ = false := free_at hb2 1)
  go_ret
  have hKa : Kept (fun k => k = b ∨ B ≤ k) w (w1.alloc (.cells #[.int .u8 (c.toNat : Int)] 5)) := (k1.mono (fun i hi h => .inl h)).alloc _
  refine ⟨rfl, ⟨_, (set_at hb2 1 _).trans rfl, ?_⟩, (hKa.grown hgrow (fun k er _ => .inr (hO1.lt k er).1)).setCell (p := ⟨b, 1, none⟩) (fun _ => .inl rfl) _⟩
  unfold Own8
  rw [cells8_append, List.length_append, List.length_singleton]
  exact own_setCell hown hbB _

theorem str_append (l m : List UInt8) : str l ++ str m = str (l ++ m) := ext_list (by
  rw [str_data, ByteArray.data_append, Array.toList_append, str_data, str_data])
theorem str_append' (s : ByteArray) (m : List UInt8) : s ++ str m = str (s.data.toList ++ m) := by
  have := str_append s.data.toList m
  rw [str_of] at this
  exact this
theorem str_cat (l : List UInt8) (s : ByteArray) : str l ++ s = str (l ++ s.data.toList) := by
  have := str_append l s.data.toList
  rw [str_of] at this
  exact this
theorem fix_len (n : Nat) : (fixL n).length = 8 := fixL_length n
theorem str_take (l : List UInt8) (k : Nat) : (str l).extract 0 k = str (l.take k) := ext_list (by rw [head_list, str_data, str_data])
theorem more_lt (l : List UInt8) : Crc.more 0 l < 4294967296 := Crc.more_lt (by decide) l
theorem more_64 (l : List UInt8) : Crc.more 0 l < W64 := Nat.lt_trans (more_lt l) (by decide)

set_option maxRecDepth 100000 in
set_option maxHeartbeats 1000000 in
theorem sealed_any (s : ByteArray) (w : World) (hs : s.size ≤ 4000000) :
    Calls Try.prog 24 #[.string s] w fun e w' => e = .returned (.string (str (sealL s.data.toList))) ∧ Below w.heap.size w w' := by
  have HS := Lib.hid (Crc.sum_any s w (by unfold maxLen; omega))
  have hm := more_lt s.data.toList
  have HF := Lib.hid (fun w => fixed_any (Crc.more 0 s.data.toList) w (more_64 _))
  have hz : (str (fixL (Crc.more 0 s.data.toList))).size = 8 := by rw [str_size, fix_len]
  have HT := Lib.hid (str_take (fixL (Crc.more 0 s.data.toList)) 4)
  have hz4 : (str ((fixL (Crc.more 0 s.data.toList)).take 4)).size = 4 := by rw [str_size, List.length_take, fix_len]; rfl
  have HA := Lib.hid (str_append' s ((fixL (Crc.more 0 s.data.toList)).take 4))
  have HL : Hid (sealL s.data.toList = s.data.toList ++ (fixL (Crc.more 0 s.data.toList)).take 4) := Lib.hid rfl
  generalize Crc.more 0 s.data.toList = M at *
  go_enter Try.func24, Try.ntmps24
  go_wp2_with fail
  refine HS.out.mono ?_
  rintro e w1 ⟨rfl, hb⟩
  go_wp2_with fail
  refine (HF.out _).mono ?_
  rintro e w2 ⟨rfl, hb2⟩
  replace hb := hb.trans (hb2.mono hb.size)
  have hT := HT.out
  go_wp2_with fail
  go_ret
  exact ⟨by rw [HA.out, HL.out]; rfl, hb⟩

/-- a chunk as a value. -/
def vCh (c : Ch) : Value := .agg #[.int .i64 c.1, .string c.2]
theorem own8_one {w : World} {g base : Nat} {b : UInt8} (hg : base ≤ g) (h : w.heap[g]? = some (.cells #[.int .u8 (b.toNat : Int)] 5)) : Own8 w base (.slice (some ⟨g, 0, none⟩) 1 1) [b] := by
  refine ⟨rfl, .inr ⟨g, 1, _, rfl, hg, h, Nat.le_refl _, by decide, rfl, ?_⟩⟩
  rfl
theorem conv_one {w : World} {g : Nat} {b : UInt8} (h : w.heap[g]? = some (.cells #[.int .u8 (b.toNat : Int)] 5)) : (convert 42 9 (.slice (some ⟨g, 0, none⟩) 1 1)).run Try.prog w = .ok (.string (str [b])) w := own8_string (own8_one (Nat.zero_le _) h)
theorem b8_val (k : Int) : k % 256 = ((b8 k).toNat : Int) := by
  unfold b8
  rw [UInt8.toNat_ofNat', Nat.mod_eq_of_lt (by omega)]
  omega

/-- the worlds in which the chunk's cells are there. -/
def OneS (b : Nat) (k : Int) (s : ByteArray) (w1 W : World) : Prop := W.cell? ⟨b, 0, none⟩ = some (.int .i64 k) ∧ W.cell? ⟨b, 1, none⟩ = some (.string s) ∧ Below (b + 1) w1 W

set_option maxRecDepth 100000 in
set_option maxHeartbeats 2000000 in
theorem one_any (c : Ch) (w : World) (hz : c.2.size ≤ 2000000) :
    Calls Try.prog 14 #[vCh c] w fun e w' => e = .returned (.string (str (oneL c))) ∧ Below w.heap.size w w' := by
  obtain ⟨k, s⟩ := c
  simp only at hz
  have hb8 := b8_val k
  have hR : str (sealL (str [b8 k] ++ str (putL s.size) ++ s).data.toList) = str (oneL (k, s)) := by rw [str_append, str_cat, str_data]; rfl
  have hp1 := putL_length s.size
  have hz2 : (str (putL s.size)).size ≤ 10 := by rw [str_size]; exact hp1
  have hz1 : (str [b8 k]).size = 1 := rfl
  have HP := Lib.hid (fun W => put_any s.size W (Nat.lt_of_le_of_lt hz (by decide)))
  have HS := Lib.hid (fun W => sealed_any (str [b8 k] ++ str (putL s.size) ++ s) W (by rw [ByteArray.size_append, ByteArray.size_append]; omega))
  rw [hR] at HS
  clear hR
  have hbv : IntKind.u8.wrap k = ((b8 k).toNat : Int) := hb8
  unfold vCh
  generalize str (oneL (k, s)) = R at *
  generalize b8 k = B at *
  go_enter Try.func14, Try.ntmps14
  go_wp2_with fail
  obtain ⟨w1, hw1⟩ : ∃ w1, w.alloc (.cells #[.int .i64 k, .string s] 32) = w1 := ⟨_, rfl⟩
  have hsz : w1.heap.size = w.heap.size + 1 := by rw [← hw1]; simp
  have hk1 : w1.heap[w.heap.size]? = some (.cells #[.int .i64 k, .string s] 32) := by rw [← hw1]; exact alloc_new w _
  have hb1 : Below w.heap.size w w1 := by rw [← hw1]; exact (Below.refl _ _).alloc (Nat.le_refl _) _
  rw [hw1]
  have HSS : Hid (∀ W, Below (w.heap.size + 1) w1 W → OneS w.heap.size k s w1 W) := Lib.hid (fun W h => ⟨(h.cell (p := ⟨w.heap.size, 0, none⟩) (by simp)).trans (cell_at hk1 0), (h.cell (p := ⟨w.heap.size, 1, none⟩) (by simp)).trans (cell_at hk1 1), h⟩)
  clear hw1
  have HP2 : Hid (∀ W, OneS w.heap.size k s w1 W → Calls Try.prog 25 #[.int .u64 (s.size : Nat)] W fun e W' => e = .returned (.string (str (putL s.size))) ∧ OneS w.heap.size k s w1 W' ∧ Below W.heap.size W W') := Lib.hid (fun W h => (HP.out W).mono fun e W' h2 => ⟨h2.1, HSS.out _ (h.2.2.trans (h2.2.mono (by have := h.2.2.size; omega))), h2.2⟩)
  have HCV : ∀ W : World, (convert 42 9 (.slice (some ⟨W.heap.size, 0, none⟩) 1 1)).run Try.prog (W.alloc (.cells #[.int .u8 (B.toNat : Int)] 5)) = .ok (.string (str [B])) (W.alloc (.cells #[.int .u8 (B.toNat : Int)] 5)) := fun W => conv_one (alloc_new W _)
  have hn1 : (w1.alloc (.cells #[.int .u8 (B.toNat : Int)] 5)).drew.heap[w.heap.size + 1]? = some (.cells #[.int .u8 (B.toNat : Int)] 5) := by rw [← hsz]; exact alloc_new w1 _
  have hcv := conv_one hn1
  have hws : IntKind.u64.wrap (s.size : Int) = (s.size : Int) := IntWalk.u64_in _ (by omega)
  have y1 : ¬ 9223372036854775807 < 1 + (str (putL s.size)).size := by omega
  have y2 : ¬ 9223372036854775807 < 1 + (str (putL s.size)).size + s.size := by omega
  have HS2 : Hid (∀ W, OneS w.heap.size k s w1 W → Calls Try.prog 24 #[.string (str [B] ++ str (putL s.size) ++ s)] W fun e W' => e = .returned (.string R) ∧ OneS w.heap.size k s w1 W') := Lib.hid (fun W h => (HS.out W).mono fun e W' h2 => ⟨h2.1, HSS.out _ (h.2.2.trans (h2.2.mono (by have := h.2.2.size; omega)))⟩)
  have hS0 := HSS.out _ (Below.refl _ w1).drew
  have hHB := Lib.hid hb1
  clear hb1 hk1 hp1
  unfold OneS at *
  refine wp_region_held_drew (S := fun W => W.cell? ⟨w.heap.size, 0, none⟩ = some (.int .i64 k) ∧ W.cell? ⟨w.heap.size, 1, none⟩ = some (.string s) ∧ Below (w.heap.size + 1) w1 W) (by kernel_rfl) ?_ (fun hHeld => ?_)
  · exact hS0
  refine wpAnyH_take (i := 0) (oi := _) (v := ?_) rfl (by kernel_rfl) (by kernel_rfl) (by kernel_rfl) (fun _ _ _ h => h) (Or.inl ⟨by rfl, ?_⟩) (by assumption) ?_
  rotate_left
  · intro w hSw; (try dsimp only at hSw); go_simp; (try with_reducible rfl)
  (try simp only [Act.put]); (try simp only [List.setIfInBounds_toArray]); (try simp only [List.set_cons_succ]); (try simp only [List.set_cons_zero])
  refine wpAnyH_take (i := 1) (oi := _) (v := ?_) rfl (by kernel_rfl) (by kernel_rfl) (by kernel_rfl) (fun _ _ _ h => h) (Or.inl ⟨by rfl, ?_⟩) (by assumption) ?_
  rotate_left
  · intro w hSw; (try dsimp only at hSw); go_simp; (try with_reducible rfl)
  (try simp only [Act.put]); (try simp only [List.setIfInBounds_toArray]); (try simp only [List.set_cons_succ]); (try simp only [List.set_cons_zero])
  refine wpAnyH_take (i := 2) (oi := _) (v := ?_) rfl (by kernel_rfl) (by kernel_rfl) (by kernel_rfl) (fun _ _ _ h => h) (Or.inl ⟨by rfl, ?_⟩) (by assumption) ?_
  rotate_left
  · intro w hSw; (try dsimp only at hSw); go_simp; (try with_reducible rfl)
  (try simp only [Act.put]); (try simp only [List.setIfInBounds_toArray]); (try simp only [List.set_cons_succ]); (try simp only [List.set_cons_zero])
  refine wpAnyH_take (i := 5) (oi := _) (v := ?_) rfl (by kernel_rfl) (by kernel_rfl) (by kernel_rfl) (fun _ _ _ h => h) (Or.inl ⟨by rfl, ?_⟩) (by assumption) ?_
  rotate_left
  · intro w hSw; (try dsimp only at hSw); go_simp; (try with_reducible rfl)
  (try simp only [Act.put]); (try simp only [List.setIfInBounds_toArray]); (try simp only [List.set_cons_succ]); (try simp only [List.set_cons_zero])
  refine wpAnyH_take (i := 6) (oi := _) (v := ?_) rfl (by kernel_rfl) (by kernel_rfl) (by kernel_rfl) (fun _ _ _ h => h) (Or.inl ⟨by rfl, ?_⟩) (by assumption) ?_
  rotate_left
  · intro w hSw; (try dsimp only at hSw); go_simp; (try with_reducible rfl)
  (try simp only [Act.put]); (try simp only [List.setIfInBounds_toArray]); (try simp only [List.set_cons_succ]); (try simp only [List.set_cons_zero])
  refine wpAnyH_take (i := 7) (oi := _) (v := ?_) rfl (by kernel_rfl) (by kernel_rfl) (by kernel_rfl) (fun _ _ _ h => h) (Or.inl ⟨by rfl, ?_⟩) (by assumption) ?_
  rotate_left
  · intro w hSw; (try dsimp only at hSw); go_simp; (try with_reducible rfl)
  (try simp only [Act.put]); (try simp only [List.setIfInBounds_toArray]); (try simp only [List.set_cons_succ]); (try simp only [List.set_cons_zero])
  refine wpAnyH_take (i := 8) (oi := _) (v := ?_) rfl (by kernel_rfl) (by kernel_rfl) (by kernel_rfl) (fun _ _ _ h => h) (Or.inl ⟨by rfl, ?_⟩) (by assumption) ?_
  rotate_left
  · intro w hSw; (try dsimp only at hSw); go_simp; (try with_reducible rfl)
  (try simp only [Act.put]); (try simp only [List.setIfInBounds_toArray]); (try simp only [List.set_cons_succ]); (try simp only [List.set_cons_zero])
  refine wpAnyH_take (i := 11) (oi := _) (v := ?_) rfl (by kernel_rfl) (by kernel_rfl) (by kernel_rfl) (fun _ _ _ h => h) (Or.inl ⟨by rfl, ?_⟩) (by assumption) ?_
  rotate_left
  · intro w hSw; (try dsimp only at hSw); go_simp; (try with_reducible rfl)
  (try simp only [Act.put]); (try simp only [List.setIfInBounds_toArray]); (try simp only [List.set_cons_succ]); (try simp only [List.set_cons_zero])
  refine wpAnyH_take (i := 12) (oi := _) (v := ?_) rfl (by kernel_rfl) (by kernel_rfl) (by kernel_rfl) (fun _ _ _ h => h) (Or.inl ⟨by rfl, ?_⟩) (by assumption) ?_
  rotate_left
  · intro w hSw; (try dsimp only at hSw); go_simp; (try with_reducible rfl)
  (try simp only [Act.put]); (try simp only [List.setIfInBounds_toArray]); (try simp only [List.set_cons_succ]); (try simp only [List.set_cons_zero])
  refine wpAnyH_ready (rs := [3, 9]) (by kernel_rfl) (by simp) ?_
  refine AllReadyH.cons (o := _) rfl (fun K hK => ?_) ?_
  · go_simp
    refine hK.out _ _ ?_ (fun hHeld => ?_)
    · first | exact HSS.out _ ((Below.refl _ w1).alloc (by omega) _).drew | (refine HSS.out _ (Below.alloc ?_ ?_ _); exact (by assumption : _ ∧ _ ∧ Below (w.heap.size + 1) w1 _).2.2; have := (by assumption : _ ∧ _ ∧ Below (w.heap.size + 1) w1 _).2.2.size; omega)
    clear hK K
    (try simp only [Act.put]); (try simp only [List.setIfInBounds_toArray]); (try simp only [List.set_cons_succ]); (try simp only [List.set_cons_zero])
    refine wpAnyH_ready (rs := [4, 9]) (by kernel_rfl) (by simp) ?_
    refine AllReadyH.cons (o := _) rfl (fun K hK => ?_) ?_
    · go_simp
      refine hK.out _ _ ?_ (fun hHeld => ?_)
      · assumption
      clear hK K
      (try simp only [Act.put]); (try simp only [List.setIfInBounds_toArray]); (try simp only [List.set_cons_succ]); (try simp only [List.set_cons_zero])
      refine wpAnyH_ready (rs := [9]) (by kernel_rfl) (by simp) ?_
      refine AllReadyH.cons (o := _) rfl (fun K hK => ?_) ?_
      · go_simp; go_at_call 25; refine (HP2.out _ (by assumption)).mono ?_; rintro e' W' ⟨rfl, hS', hk'⟩; (try have hcv2 := conv_one ((hk'.block (w.heap.size + 1) (by simp; omega)).trans hn1)); go_wp2_with fail
        refine hK.out _ _ ?_ (fun hHeld => ?_)
        · assumption
        clear hK K
        (try simp only [Act.put]); (try simp only [List.setIfInBounds_toArray]); (try simp only [List.set_cons_succ]); (try simp only [List.set_cons_zero])
        refine wpAnyH_take (i := 10) (oi := _) (v := ?_) rfl (by kernel_rfl) (by kernel_rfl) (by kernel_rfl) (fun _ _ _ h => h) (Or.inl ⟨by rfl, ?_⟩) (by assumption) ?_
        rotate_left
        · intro w hSw; (try dsimp only at hSw); go_simp; (try with_reducible rfl)
        (try simp only [Act.put]); (try simp only [List.setIfInBounds_toArray]); (try simp only [List.set_cons_succ]); (try simp only [List.set_cons_zero])
        refine wpAnyH_take (i := 13) (oi := _) (v := ?_) rfl (by kernel_rfl) (by kernel_rfl) (by kernel_rfl) (fun _ _ _ h => h) (Or.inl ⟨by rfl, ?_⟩) (by assumption) ?_
        rotate_left
        · intro w hSw; (try dsimp only at hSw); go_simp; (try with_reducible rfl)
        (try simp only [Act.put]); (try simp only [List.setIfInBounds_toArray]); (try simp only [List.set_cons_succ]); (try simp only [List.set_cons_zero])
        refine wpAnyH_ready (rs := [14]) (by kernel_rfl) (by simp) ?_
        refine AllReadyH.cons (o := _) rfl (fun K hK => ?_) ?_
        · go_simp; go_at_call 24; refine (HS2.out _ (by assumption)).mono ?_; rintro e' W' ⟨rfl, hS'⟩; go_wp2_with fail
          refine hK.out _ _ ?_ (fun hHeld => ?_)
          · assumption
          clear hK K
          (try simp only [Act.put]); (try simp only [List.setIfInBounds_toArray]); (try simp only [List.set_cons_succ]); (try simp only [List.set_cons_zero])
          refine wpAnyH_ready (rs := [15]) (by kernel_rfl) (by simp) ?_
          refine AllReadyH.cons (o := _) rfl (fun K hK => ?_) ?_
          · go_simp
            refine hK.out _ _ ?_ (fun hHeld => ?_)
            · assumption
            clear hK K
            (try simp only [Act.put]); (try simp only [List.setIfInBounds_toArray]); (try simp only [List.set_cons_succ]); (try simp only [List.set_cons_zero])
            refine wpAnyH_done (by kernel_rfl) ?_ _
            go_wp2_with fail
            go_ret
            exact ⟨rfl, hHB.out.trans (hS'.2.2.mono (by omega))⟩
          exact AllReadyH.nil
        exact AllReadyH.nil
      exact AllReadyH.nil
    refine AllReadyH.cons (o := _) rfl (fun K hK => ?_) ?_
    · go_simp; go_at_call 25; refine (HP2.out _ (by assumption)).mono ?_; rintro e' W' ⟨rfl, hS', hk'⟩; (try have hcv2 := conv_one ((hk'.block (w.heap.size + 1) (by simp; omega)).trans hn1)); go_wp2_with fail
      refine hK.out _ _ ?_ (fun hHeld => ?_)
      · assumption
      clear hK K
      (try simp only [Act.put]); (try simp only [List.setIfInBounds_toArray]); (try simp only [List.set_cons_succ]); (try simp only [List.set_cons_zero])
      refine wpAnyH_ready (rs := [4]) (by kernel_rfl) (by simp) ?_
      refine AllReadyH.cons (o := _) rfl (fun K hK => ?_) ?_
      · go_simp
        refine hK.out _ _ ?_ (fun hHeld => ?_)
        · assumption
        clear hK K
        (try simp only [Act.put]); (try simp only [List.setIfInBounds_toArray]); (try simp only [List.set_cons_succ]); (try simp only [List.set_cons_zero])
        refine wpAnyH_take (i := 10) (oi := _) (v := ?_) rfl (by kernel_rfl) (by kernel_rfl) (by kernel_rfl) (fun _ _ _ h => h) (Or.inl ⟨by rfl, ?_⟩) (by assumption) ?_
        rotate_left
        · intro w hSw; (try dsimp only at hSw); go_simp; (try with_reducible rfl)
        (try simp only [Act.put]); (try simp only [List.setIfInBounds_toArray]); (try simp only [List.set_cons_succ]); (try simp only [List.set_cons_zero])
        refine wpAnyH_take (i := 13) (oi := _) (v := ?_) rfl (by kernel_rfl) (by kernel_rfl) (by kernel_rfl) (fun _ _ _ h => h) (Or.inl ⟨by rfl, ?_⟩) (by assumption) ?_
        rotate_left
        · intro w hSw; (try dsimp only at hSw); go_simp; (try with_reducible rfl)
        (try simp only [Act.put]); (try simp only [List.setIfInBounds_toArray]); (try simp only [List.set_cons_succ]); (try simp only [List.set_cons_zero])
        refine wpAnyH_ready (rs := [14]) (by kernel_rfl) (by simp) ?_
        refine AllReadyH.cons (o := _) rfl (fun K hK => ?_) ?_
        · go_simp; go_at_call 24; refine (HS2.out _ (by assumption)).mono ?_; rintro e' W' ⟨rfl, hS'⟩; go_wp2_with fail
          refine hK.out _ _ ?_ (fun hHeld => ?_)
          · assumption
          clear hK K
          (try simp only [Act.put]); (try simp only [List.setIfInBounds_toArray]); (try simp only [List.set_cons_succ]); (try simp only [List.set_cons_zero])
          refine wpAnyH_ready (rs := [15]) (by kernel_rfl) (by simp) ?_
          refine AllReadyH.cons (o := _) rfl (fun K hK => ?_) ?_
          · go_simp
            refine hK.out _ _ ?_ (fun hHeld => ?_)
            · assumption
            clear hK K
            (try simp only [Act.put]); (try simp only [List.setIfInBounds_toArray]); (try simp only [List.set_cons_succ]); (try simp only [List.set_cons_zero])
            refine wpAnyH_done (by kernel_rfl) ?_ _
            go_wp2_with fail
            go_ret
            exact ⟨rfl, hHB.out.trans (hS'.2.2.mono (by omega))⟩
          exact AllReadyH.nil
        exact AllReadyH.nil
      exact AllReadyH.nil
    exact AllReadyH.nil
  refine AllReadyH.cons (o := _) rfl (fun K hK => ?_) ?_
  · go_simp; go_at_call 25; refine (HP2.out _ (by assumption)).mono ?_; rintro e' W' ⟨rfl, hS', hk'⟩; (try have hcv2 := conv_one ((hk'.block (w.heap.size + 1) (by simp; omega)).trans hn1)); go_wp2_with fail
    refine hK.out _ _ ?_ (fun hHeld => ?_)
    · assumption
    clear hK K
    (try simp only [Act.put]); (try simp only [List.setIfInBounds_toArray]); (try simp only [List.set_cons_succ]); (try simp only [List.set_cons_zero])
    refine wpAnyH_ready (rs := [3]) (by kernel_rfl) (by simp) ?_
    refine AllReadyH.cons (o := _) rfl (fun K hK => ?_) ?_
    · go_simp
      refine hK.out _ _ ?_ (fun hHeld => ?_)
      · first | exact HSS.out _ ((Below.refl _ w1).alloc (by omega) _).drew | (refine HSS.out _ (Below.alloc ?_ ?_ _); exact (by assumption : _ ∧ _ ∧ Below (w.heap.size + 1) w1 _).2.2; have := (by assumption : _ ∧ _ ∧ Below (w.heap.size + 1) w1 _).2.2.size; omega)
      clear hK K
      (try simp only [Act.put]); (try simp only [List.setIfInBounds_toArray]); (try simp only [List.set_cons_succ]); (try simp only [List.set_cons_zero])
      refine wpAnyH_ready (rs := [4]) (by kernel_rfl) (by simp) ?_
      refine AllReadyH.cons (o := _) rfl (fun K hK => ?_) ?_
      · go_simp
        refine hK.out _ _ ?_ (fun hHeld => ?_)
        · assumption
        clear hK K
        (try simp only [Act.put]); (try simp only [List.setIfInBounds_toArray]); (try simp only [List.set_cons_succ]); (try simp only [List.set_cons_zero])
        refine wpAnyH_take (i := 10) (oi := _) (v := ?_) rfl (by kernel_rfl) (by kernel_rfl) (by kernel_rfl) (fun _ _ _ h => h) (Or.inl ⟨by rfl, ?_⟩) (by assumption) ?_
        rotate_left
        · intro w hSw; (try dsimp only at hSw); go_simp; (try with_reducible rfl)
        (try simp only [Act.put]); (try simp only [List.setIfInBounds_toArray]); (try simp only [List.set_cons_succ]); (try simp only [List.set_cons_zero])
        refine wpAnyH_take (i := 13) (oi := _) (v := ?_) rfl (by kernel_rfl) (by kernel_rfl) (by kernel_rfl) (fun _ _ _ h => h) (Or.inl ⟨by rfl, ?_⟩) (by assumption) ?_
        rotate_left
        · intro w hSw; (try dsimp only at hSw); go_simp; (try with_reducible rfl)
        (try simp only [Act.put]); (try simp only [List.setIfInBounds_toArray]); (try simp only [List.set_cons_succ]); (try simp only [List.set_cons_zero])
        refine wpAnyH_ready (rs := [14]) (by kernel_rfl) (by simp) ?_
        refine AllReadyH.cons (o := _) rfl (fun K hK => ?_) ?_
        · go_simp; go_at_call 24; refine (HS2.out _ (by assumption)).mono ?_; rintro e' W' ⟨rfl, hS'⟩; go_wp2_with fail
          refine hK.out _ _ ?_ (fun hHeld => ?_)
          · assumption
          clear hK K
          (try simp only [Act.put]); (try simp only [List.setIfInBounds_toArray]); (try simp only [List.set_cons_succ]); (try simp only [List.set_cons_zero])
          refine wpAnyH_ready (rs := [15]) (by kernel_rfl) (by simp) ?_
          refine AllReadyH.cons (o := _) rfl (fun K hK => ?_) ?_
          · go_simp
            refine hK.out _ _ ?_ (fun hHeld => ?_)
            · assumption
            clear hK K
            (try simp only [Act.put]); (try simp only [List.setIfInBounds_toArray]); (try simp only [List.set_cons_succ]); (try simp only [List.set_cons_zero])
            refine wpAnyH_done (by kernel_rfl) ?_ _
            go_wp2_with fail
            go_ret
            exact ⟨rfl, hHB.out.trans (hS'.2.2.mono (by omega))⟩
          exact AllReadyH.nil
        exact AllReadyH.nil
      exact AllReadyH.nil
    exact AllReadyH.nil
  exact AllReadyH.nil

end Ck
end Go.Proofs.Ytpccenaieeggmaa
