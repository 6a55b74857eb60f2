/-
  WALKS: what package crc computes (More, Sum, bit, squared, times, Zeros, Combine). Conditions: the numbers are of their kinds; a pointer leads to a matrix of whole rows.
-/
import Derived.Test.YtmhlnfijghfngaaCrcRef
import Derived.KernelRfl
import Derived.Deep.WholeRow
import Derived.Deep.QuietTactic
import Derived.BigQuiet
namespace Go.Proofs.Ytmhlnfijghfngaa
open Go.RowKit
namespace Crc

theorem size42 : (Try.prog.info? 42).map (·.size) = some 32 := by kernel_rfl

/-- rows as cells. -/
def arr (l : List Nat) : Array Value := (l.map fun (x : Nat) => Value.int .u32 (x : Int)).toArray
theorem arr_one (l : List Nat) : (arr l).all (·.oneCell') = true := by
  unfold arr
  simp [Value.oneCell']
theorem arr_size (l : List Nat) : (arr l).size = l.length := by simp [arr]
theorem arr_get (l : List Nat) (j : Nat) (h : j < l.length) : (arr l)[j]? = some (.int .u32 (l.getD j 0 : Nat)) := by
  simp [arr, h]
theorem arr_set (l : List Nat) (j x : Nat) : (arr l).setIfInBounds j (.int .u32 (x : Int)) = arr (l.set j x) := by
  simp only [arr, List.setIfInBounds_toArray]
  congr 1
  rw [List.map_set]

/-- block b is a matrix of these rows. -/
def Mat (b : Nat) (l : List Nat) (w : World) : Prop := w.heap[b]? = some (.cells (arr l) 42 (0, 0))
theorem Mat.cell {b : Nat} {l : List Nat} {w : World} (h : Mat b l w) (j : Nat) (hj : j < l.length) : w.cell? ⟨b, j, none⟩ = some (.int .u32 (l.getD j 0 : Nat)) := by
  rw [cell_of_row w b j _ _ _ h, arr_get l j hj]
theorem Mat.frozen {b : Nat} {l : List Nat} {w : World} (h : Mat b l w) (j : Nat) : w.frozen? ⟨b, j, none⟩ = false := frozen_of_row w b j _ _ h
theorem Mat.set {b : Nat} {l : List Nat} {w : World} (h : Mat b l w) (j x : Nat) : Mat b (l.set j x) (w.setCell ⟨b, j, none⟩ (.int .u32 (x : Int))) := by
  unfold Mat
  rw [heap_setCell_same w b j _ _ _ h, arr_set]
theorem Mat.lt {b : Nat} {l : List Nat} {w : World} (h : Mat b l w) : b < w.heap.size := lt_of_block h
theorem Mat.below {b B : Nat} {l : List Nat} {w w' : World} (h : Mat b l w) (hb : Below B w w') (hlt : b < B) : Mat b l w' := (hb.block b hlt).trans h
theorem Mat.other {b c : Nat} {l : List Nat} {w : World} (h : Mat b l w) (j : Nat) (v : Value) (hne : b ≠ c) : Mat b l (w.setCell ⟨c, j, none⟩ v) :=
  (heap_setCell_other w ⟨c, j, none⟩ b v hne).trans h
theorem Mat.drewN {b : Nat} {l : List Nat} {w : World} (h : Mat b l w) (n : Nat) : Mat b l (w.drewN n) := h

/-! ### More, Sum -/
theorem neg_low {x : Nat} (_hx : x < lid) : bits .and .u32 3988292384 (-(bits .and .u32 (x : Int) 1) % 4294967296) = (if x % 2 = 1 then (poly : Int) else 0) := by
  have e : bits .and .u32 (x : Int) 1 = ((x % 2 : Nat) : Int) := by
    have := u32_and_nat x 1 _hx (by decide)
    rw [Nat.and_one_is_mod] at this
    exact this
  rw [e]
  by_cases h : x % 2 = 1
  · rw [if_pos h, h]; decide +kernel
  · have h0 : x % 2 = 0 := by omega
    rw [if_neg h, h0]; decide +kernel

theorem bit1_mask {x : Nat} (hx : x < lid) : bits .xor .u32 ((x : Int) / 2) (if x % 2 = 1 then (poly : Int) else 0) = ((bit1 x : Nat) : Int) := by
  have hl : x / 2 < lid := by unfold lid at *; omega
  unfold bit1
  by_cases h : x % 2 = 1
  · rw [if_pos h, if_pos h]
    exact xor32 hl poly_lt
  · rw [if_neg h, if_neg h]
    have := xor32 hl (show 0 < lid by decide)
    rw [Nat.xor_zero] at this
    exact this

/-- '[]byte(s)': a new row of its bytes. -/
theorem bytes_of (w : World) (s : ByteArray) : ∃ (C : Array Value) (cap : Nat), (convert 9 32 (.string s)).run Try.prog w = .ok (.slice (some ⟨w.heap.size, 0, none⟩) s.size cap) (w.drew.alloc (.cells C 5 (C.size, C.size + 1))) ∧
    ∀ j (h : j < s.size), C[j]? = some (.int .u8 (s[j].toNat : Int)) := by
  refine ⟨_, _, run_bytes_of_string w 9 32 5 s Try.underlying9 Try.underlying32 Try.underlying5, fun j h => ?_⟩
  have h' : j < s.data.size := h
  unfold bytesRow
  rw [Array.getElem?_append_left (by simpa using h'), Array.getElem?_map, Array.getElem?_eq_getElem h']
  rfl

set_option maxHeartbeats 400000 in
theorem more_any (a : Nat) (s : ByteArray) (w : World) (ha : a < lid) (hs : s.size ≤ maxLen) :
    Calls Try.prog 11 #[.int .u32 a, .string s] w fun e w' => e = .returned (.int .u32 (more a s.data.toList : Nat)) ∧ Below w.heap.size w w' := by
  unfold maxLen at hs
  have HX := Lib.hid (xorAll ha)
  have hca := xor_lt ha all_lt
  have ha' : a < 4294967296 := ha
  obtain ⟨C, cap, hconv, HC⟩ := bytes_of w s
  replace HC := Lib.hid HC
  go_enter Try.func11, Try.ntmps11
  go_wp2
  clear hconv
  go_loop [5, 13] (fun x i => ∃ k : Nat, k ≤ s.size ∧ i = .int .i64 k ∧ x = .int .u32 (feed (a ^^^ all) (s.data.toList.take k) : Nat)) (fun _ i => s.size - (intOf i).toNat)
  case atStart => exact ⟨0, Nat.zero_le _, rfl, by rw [HX.out]; rfl⟩
  case round =>
    obtain ⟨k, hk, rfl, rfl⟩ := hrel
    have hl := feed_lt hca (s.data.toList.take k)
    by_cases hlt : k < s.size
    · have HS := Lib.hid (show feed (a ^^^ all) (s.data.toList.take (k + 1)) = bitN 8 (feed (a ^^^ all) (s.data.toList.take k) ^^^ s[k].toNat) by rw [take_snoc s k hlt, feed_snoc])
      generalize feed (a ^^^ all) (s.data.toList.take k) = X at *
      have hb := s[k].toNat_lt
      have hcell : (w.alloc (.cells C 5 (C.size, C.size + 1))).cell? ⟨w.heap.size, k, none⟩ = some (.int .u8 (s[k].toNat : Int)) := by
        rw [World.cell?_alloc_mark, HC.out k hlt]
      generalize s[k].toNat = B at *
      have HXB := Lib.hid (xor32 hl (show B < lid by unfold lid; omega))
      have hXB := xor_lt hl (show B < lid by unfold lid; omega)
      have hl' : X < 4294967296 := hl
      go_wp2
      go_loop [5, 21] (fun x i => ∃ j : Nat, j ≤ 8 ∧ i = .int .i64 j ∧ x = .int .u32 (bitN j (X ^^^ B) : Nat)) (fun _ i => 8 - (intOf i).toNat)
      case atStart => exact ⟨0, by omega, rfl, by rw [HXB.out]; rfl⟩
      case round =>
        obtain ⟨j, hj, rfl, rfl⟩ := hrel
        have hY := bitN_lt hXB j
        by_cases hj8 : j < 8
        · have HJ := Lib.hid (show bitN (j + 1) (X ^^^ B) = bit1 (bitN j (X ^^^ B)) from rfl)
          generalize bitN j (X ^^^ B) = Y at *
          have HN := Lib.hid (neg_low hY)
          have HO := Lib.hid (bit1_mask hY)
          have hY' : Y < 4294967296 := hY
          go_wp2
          go_round
          case rel => exact ⟨j + 1, by omega, by go_num, by rw [HN.out, HO.out, HJ.out]⟩
          case measure => simp [intOf]; omega
        · have hj8 : j = 8 := by omega
          subst hj8
          generalize bitN 8 (X ^^^ B) = Y at *
          go_wp2
          go_round
          case rel => exact ⟨k + 1, by omega, by go_num, by rw [HS.out]⟩
          case measure => simp [intOf]; omega
    · have HT := Lib.hid (List.take_of_length_le (show s.data.toList.length ≤ k by simp; omega))
      have HM := Lib.hid (show more a s.data.toList = feed (a ^^^ all) (s.data.toList.take k) ^^^ all by rw [HT.out]; rfl)
      generalize feed (a ^^^ all) (s.data.toList.take k) = X at *
      have HY := Lib.hid (xorAll hl)
      go_wp2
      go_ret
      exact ⟨ret_u32 (by rw [HM.out, HY.out]), (Below.refl _ _).drew.alloc (Nat.le_refl _) _⟩

set_option maxHeartbeats 400000 in
theorem sum_any (s : ByteArray) (w : World) (hs : s.size ≤ maxLen) :
    Calls Try.prog 9 #[.string s] w fun e w' => e = .returned (.int .u32 (more 0 s.data.toList : Nat)) ∧ Below w.heap.size w w' := by
  go_enter Try.func9, Try.ntmps9
  go_wp2_with (go_at_call 11; refine (more_any 0 _ _ (by decide) hs).mono ?_; rintro e w' ⟨rfl, hb⟩)
  go_ret
  exact ⟨rfl, hb⟩

/-! ### a matrix's times -/
theorem times_take (l : List Nat) : ∀ (k c : Nat), k < l.length → times (l.take (k + 1)) c = times (l.take k) c ^^^ (if c / 2 ^ k % 2 = 1 then l.getD k 0 else 0) := by
  induction l with
  | nil => intro k c h; exact absurd h (by simp)
  | cons r m ih =>
    intro k c h
    cases k with
    | zero => show (if c % 2 = 1 then r else 0) ^^^ 0 = 0 ^^^ _; rw [Nat.xor_zero, Nat.zero_xor, Nat.pow_zero, Nat.div_one]; rfl
    | succ k =>
      show (if c % 2 = 1 then r else 0) ^^^ times (m.take (k + 1)) (c / 2) = ((if c % 2 = 1 then r else 0) ^^^ times (m.take k) (c / 2)) ^^^ _
      rw [ih k _ (by simpa using h), Nat.xor_assoc, Nat.div_div_eq_div_mul, Nat.pow_succ, Nat.mul_comm (2 ^ k) 2]
      rfl
theorem times_take_lt {l : List Nat} (hl : ∀ r ∈ l, r < lid) (k c : Nat) : times (l.take k) c < lid := times_lt (fun r hr => hl r (List.mem_of_mem_take hr)) c

theorem and_one32 {x : Nat} (hx : x < lid) : bits .and .u32 (x : Int) 1 = ((x % 2 : Nat) : Int) := by
  have := u32_and_nat x 1 hx (by decide)
  rw [Nat.and_one_is_mod] at this
  exact this

set_option maxHeartbeats 400000 in
theorem times_any (b : Nat) (l : List Nat) (c : Nat) (w : World) (hm : Mat b l w) (hlen : l.length = 32) (hl : ∀ r ∈ l, r < lid) (hc : c < lid) :
    Calls Try.prog 20 #[.pointer (some ⟨b, 0, none⟩), .int .u32 c] w fun e w' => e = .returned (.int .u32 (times l c : Nat)) ∧ w = w' := by
  have HM := Lib.hid hm
  clear hm
  replace hlen := Lib.hid hlen
  go_enter Try.func20, Try.ntmps20
  go_wp2
  go_loop [1, 5, 9] (fun x o i => ∃ k : Nat, k ≤ 32 ∧ i = .int .i64 k ∧ x = .int .u32 (c / 2 ^ k : Nat) ∧ o = .int .u32 (times (l.take k) c : Nat)) (fun _ _ i => 32 - (intOf i).toNat)
  case atStart => exact ⟨0, by omega, rfl, by rw [Nat.pow_zero, Nat.div_one], rfl⟩
  case round =>
    obtain ⟨k, hk, rfl, rfl, rfl⟩ := hrel
    have hX : c / 2 ^ k < lid := Nat.lt_of_le_of_lt (Nat.div_le_self _ _) hc
    by_cases hlt : k < 32
    · have HS := Lib.hid (times_take l k c (by rw [hlen.out]; exact hlt))
      have HD := Lib.hid (show c / 2 ^ (k + 1) = c / 2 ^ k / 2 by rw [Nat.div_div_eq_div_mul, Nat.pow_succ])
      have hT := times_take_lt hl k c
      have hcell := HM.out.cell k (by rw [hlen.out]; exact hlt)
      have hr : l.getD k 0 < lid := hl _ (by rw [List.getD_eq_getElem?_getD, List.getElem?_eq_getElem (by rw [hlen.out]; exact hlt)]; exact List.getElem_mem _)
      generalize c / 2 ^ k = X at *
      generalize times (l.take k) c = T at *
      generalize l.getD k 0 = R at *
      have hX' : X < 4294967296 := hX
      have HA := and_one32 hX
      have HO := Lib.hid (xor32 hT hr)
      by_cases h1 : X % 2 = 1
      · have h1' : (((X % 2 : Nat) : Int) != 0) = true := by rw [bne_iff_ne]; omega
        replace HS := Lib.hid (HS.out.trans (by rw [if_pos h1]))
        replace h1 := Lib.hid h1
        go_wp2
        go_round
        case rel => exact ⟨k + 1, by omega, by go_num, by rw [HD.out]; rfl, by rw [HO.out, HS.out]⟩
        case measure => simp [intOf]; omega
      · have h1' : (((X % 2 : Nat) : Int) != 0) = false := by rw [bne_eq_false_iff_eq]; omega
        replace HS := Lib.hid (HS.out.trans (by rw [if_neg h1, Nat.xor_zero]))
        replace h1 := Lib.hid h1
        go_wp2
        go_round
        case rel => exact ⟨k + 1, by omega, by go_num, by rw [HD.out]; rfl, by rw [HS.out]⟩
        case measure => simp [intOf]; omega
    · have hk : k = 32 := by omega
      subst hk
      have HT := Lib.hid (List.take_of_length_le (show l.length ≤ 32 by rw [hlen.out]; omega))
      rw [HT.out]
      go_wp2
      go_ret
      exact ⟨rfl, rfl⟩

/-! ### one bit's matrix, and the squared one -/
def row1 : List Nat := poly :: List.replicate 31 0
theorem built42 : Try.prog.built 42 [(0, .int .u32 3988292384)] = some (arr row1) := by kernel_rfl
section
variable {P : Program}
theorem wpList_build_as {ops : Array Oper} {rest : List Oper} {o : Oper} {a : Act} {w : World} {Q : Exit → Act → World → Prop} (hg : o.guard = none) (t : TypeId) (parts : Array (Nat × Operand)) (ho : o.op = .build t parts)
    (cs : Array Value) (ps : List (Nat × Value)) (hp : (parts.map fun (i, x) => (i, a.eval x)).toList = ps) (hf : P.built t ps = some cs)
    (h : wpList P ops Q rest (a.put o.dst (.agg cs)) w) : wpList P ops Q (o :: rest) a w := by
  subst hp
  refine wpList_build hg t parts ho (by rw [hf]; rfl) ?_
  rw [hf]
  exact h
end

/-- the first i rows; behind them noughts. -/
def part (m : List Nat) (i : Nat) : List Nat := m.take i ++ List.replicate (32 - i) 0
theorem part_length {m : List Nat} (h : m.length = 32) {i : Nat} (hi : i ≤ 32) : (part m i).length = 32 := by
  unfold part
  rw [List.length_append, List.length_take, List.length_replicate]
  omega
theorem part_set {m : List Nat} (h : m.length = 32) {i : Nat} (hi : i < 32) : (part m i).set i (m.getD i 0) = part m (i + 1) := by
  unfold part
  rw [List.set_append_right _ _ (by rw [List.length_take]; omega), List.length_take, show i - min i m.length = 0 by omega, show 32 - i = (32 - (i + 1)) + 1 by omega, List.replicate_succ, List.set_cons_zero]
  rw [List.take_succ_eq_append_getElem (by omega), List.append_assoc, List.singleton_append, List.getD_eq_getElem?_getD, List.getElem?_eq_getElem (by omega)]
  rfl
theorem part_all {m : List Nat} (h : m.length = 32) : part m 32 = m := by
  unfold part
  rw [List.take_of_length_le (by omega)]
  simp
theorem part_one : part (mat 1) 1 = row1 := by decide +kernel
theorem mat_one (i : Nat) (h1 : 1 ≤ i) (h : i < 32) : (mat 1).getD i 0 = 2 ^ (i - 1) := by
  rw [mat_get 1 i h]
  show bit1 (2 ^ i) = _
  rw [show 2 ^ i = 2 * 2 ^ (i - 1) from by rw [Nat.mul_comm, ← Nat.pow_succ]; congr 1; omega, bit1_even]

theorem two_pow (k : Nat) (h1 : 1 ≤ k) (h : k < 32) : (2 : Int) ^ (k - 1) % 4294967296 = (((mat 1).getD k 0 : Nat) : Int) := by
  have hlt : 2 ^ (k - 1) < 4294967296 := Nat.pow_lt_pow_right (m := k - 1) (n := 32) (by decide) (by omega)
  have e : ((2 : Int) ^ (k - 1)) = ((2 ^ (k - 1) : Nat) : Int) := by simp
  rw [mat_one k h1 h, e]
  generalize 2 ^ (k - 1) = x at *
  omega

set_option maxHeartbeats 400000 in
theorem bit_any (w : World) :
    Calls Try.prog 18 #[] w fun e w' => e = .returned (.pointer (some ⟨w.heap.size, 0, none⟩)) ∧ Mat w.heap.size (mat 1) w' ∧ Below w.heap.size w w' ∧ w.heap.size < w'.heap.size := by
  go_enter Try.func18, Try.ntmps18
  go_wp2_with (first | (refine wpList_build_as rfl 42 #[(0, Operand.const (.int .u32 3988292384))] rfl (arr row1) [(0, .int .u32 3988292384)] (by simp [Act.eval]) built42 ?_) | (refine wpList_store_row rfl 42 (.tmp 1) (.tmp 3) rfl w.heap.size (arr row1) rfl rfl 42 _ (heap_alloc_last w _) size42 rfl (arr_one _) ?_; rw [World.setRow_alloc_new]))
  go_loopw [2] (fun i wr => ∃ k : Nat, 1 ≤ k ∧ k ≤ 32 ∧ i = .int .i64 k ∧ Mat w.heap.size (part (mat 1) k) wr ∧ Below w.heap.size w wr ∧ w.heap.size < wr.heap.size) (fun i _ => 32 - (intOf i).toNat)
  case atStart => exact ⟨1, by omega, by omega, rfl, by rw [part_one]; exact heap_alloc_last w _, (Below.refl _ _).alloc (Nat.le_refl _) _, by simp⟩
  case round =>
    obtain ⟨k, hk1, hk, rfl, hm, hb, hz⟩ := hrel
    have HM := Lib.hid hm
    clear hm
    by_cases hlt : k < 32
    · have hf := HM.out.frozen k
      have hc := HM.out.cell k (by rw [part_length (mat_length 1) hk]; exact hlt)
      have HV := Lib.hid (two_pow k hk1 hlt)
      go_wp2
      go_roundw
      case rel =>
        rw [HV.out]
        refine ⟨k + 1, by omega, by omega, by go_num, ?_, hb.setCell (Nat.le_refl _) _, by simpa using hz⟩
        rw [← part_set (mat_length 1) hlt]
        exact HM.out.set k _
      case measure => simp [intOf]; omega
    · have hk32 : k = 32 := by omega
      subst hk32
      rw [part_all (mat_length 1)] at HM
      go_wp2
      go_ret
      exact ⟨rfl, HM.out, hb, hz⟩

set_option maxHeartbeats 400000 in
theorem squared_any (b : Nat) (k : Nat) (w : World) (hm : Mat b (mat k) w) :
    Calls Try.prog 19 #[.pointer (some ⟨b, 0, none⟩)] w fun e w' => e = .returned (.pointer (some ⟨w.heap.size, 0, none⟩)) ∧ Mat w.heap.size (mat (k + k)) w' ∧ Below w.heap.size w w' ∧ w.heap.size < w'.heap.size := by
  have hbl := hm.lt
  have HM := Lib.hid hm
  clear hm
  go_enter Try.func19, Try.ntmps19
  go_wp2
  go_loopw [10] (fun i wr => ∃ j : Nat, j ≤ 32 ∧ i = .int .i64 j ∧ Mat w.heap.size (part (mat (k + k)) j) wr ∧ Below w.heap.size w wr ∧ w.heap.size < wr.heap.size) (fun i _ => 32 - (intOf i).toNat)
  case atStart => exact ⟨0, by omega, rfl, by show (w.alloc _).heap[w.heap.size]? = _; rw [heap_alloc_last]; rfl, (Below.refl _ _).alloc (Nat.le_refl _) _, by simp⟩
  case round =>
    obtain ⟨j, hj, rfl, hp, hb, hz⟩ := hrel
    have HP := Lib.hid hp
    clear hp
    have HMr := Lib.hid (HM.out.below hb hbl)
    by_cases hlt : j < 32
    · have hc := HMr.out.cell j (by rw [mat_length]; exact hlt)
      have hf := HP.out.frozen j
      have hcw := HP.out.cell j (by rw [part_length (mat_length _) hj]; exact hlt)
      have hRlt := mat_get_lt k j hlt
      have HQ := Lib.hid (squared_get k j hlt)
      have HPS := Lib.hid (part_set (mat_length (k + k)) hlt)
      generalize (mat k).getD j 0 = R at *
      generalize (mat (k + k)).getD j 0 = S at *
      go_wp2
      go_quiet (fail)
      go_wp2_with fail
      refine (times_any b (mat k) R _ (HMr.out.drewN _) (mat_length k) (mat_lt k) hRlt).mono ?_
      rintro e w' ⟨rfl, rfl⟩
      rw [HQ.out]
      go_wp2
      go_roundw
      case rel =>
        refine ⟨j + 1, by omega, by go_num, ?_, (below_drewN hb _).setCell (Nat.le_refl _) _, by simpa using hz⟩
        rw [← HPS.out]
        exact (HP.out.drewN _).set j S
      case measure => simp [intOf]; omega
    · have hj32 : j = 32 := by omega
      subst hj32
      rw [part_all (mat_length _)] at HP
      go_wp2
      go_ret
      exact ⟨rfl, HP.out, hb, hz⟩

/-! ### noughts -/
theorem i64_and1 (n : Int) : bits .and .i64 n 1 = n % 2 := by
  have h1 : (BitVec.ofInt 64 1).toNat = 2 ^ 1 - 1 := by decide
  have key : (BitVec.ofInt 64 n &&& BitVec.ofInt 64 1).toNat = (n % ((2 ^ 64 : Nat) : Int)).toNat % 2 ^ 1 := by
    rw [BitVec.toNat_and, BitVec.toNat_ofInt, h1, Nat.and_two_pow_sub_one_eq_mod]
  show IntKind.i64.wrap ((BitVec.ofInt 64 n &&& BitVec.ofInt 64 1).toNat : Nat) = n % 2
  rw [key, IntKind.wrap_i64]
  omega

theorem mod_pow_succ (n t : Nat) : n % 2 ^ (t + 1) = n % 2 ^ t + 2 ^ t * (n / 2 ^ t % 2) := by
  rw [Nat.pow_succ, Nat.mod_mul]

theorem zeros_odd (c n t : Nat) (h : n / 2 ^ t % 2 = 1) : bitN (8 * 2 ^ t) (bitN (8 * (n % 2 ^ t)) c) = bitN (8 * (n % 2 ^ (t + 1))) c := by
  rw [← bitN_add, mod_pow_succ, h, Nat.mul_one]
  congr 1
  omega
theorem zeros_even (c n t : Nat) (h : ¬ n / 2 ^ t % 2 = 1) : bitN (8 * (n % 2 ^ t)) c = bitN (8 * (n % 2 ^ (t + 1))) c := by
  have h0 : n / 2 ^ t % 2 = 0 := by omega
  rw [mod_pow_succ, h0]
  rfl
theorem double_pow (t : Nat) : 8 * 2 ^ t + 8 * 2 ^ t = 8 * 2 ^ (t + 1) := by rw [Nat.pow_succ]; omega

set_option maxHeartbeats 400000 in
theorem zeros_any (c : Nat) (n : Int) (w : World) (hc : c < lid) (hn : -9223372036854775808 ≤ n ∧ n ≤ 9223372036854775807) :
    Calls Try.prog 13 #[.int .u32 c, .int .i64 n] w fun e w' => e = .returned (.int .u32 (zeros c n : Nat)) ∧ Below w.heap.size w w' := by
  by_cases h1 : n < 1
  · have HZ := Lib.hid (show zeros c n = c by unfold zeros; rw [show n.toNat = 0 by omega]; rfl)
    go_enter Try.func13, Try.ntmps13
    go_wp2
    go_ret
    exact ⟨by rw [HZ.out]; rfl, Below.refl _ _⟩
  · obtain ⟨m, rfl⟩ := Int.eq_ofNat_of_zero_le (show 0 ≤ n by omega)
    go_enter Try.func13, Try.ntmps13
    go_wp2_with fail
    refine (bit_any _).mono ?_
    rintro e w1 ⟨rfl, hm1, hb1, hz1⟩
    replace hm1 := Lib.hid hm1
    go_wp2_with fail
    refine (squared_any _ 1 _ hm1.out).mono ?_
    rintro e w2 ⟨rfl, hm2, hb2, hz2⟩
    replace hm2 := Lib.hid hm2
    go_wp2_with fail
    refine (squared_any _ 2 _ hm2.out).mono ?_
    rintro e w3 ⟨rfl, hm3, hb3, hz3⟩
    replace hm3 := Lib.hid hm3
    go_wp2_with fail
    refine (squared_any _ 4 _ hm3.out).mono ?_
    rintro e w4 ⟨rfl, hm4, hb4, hz4⟩
    replace hm4 := Lib.hid hm4
    have hbelow : Below w.heap.size w w4 := hb1.trans ((hb2.mono (by omega)).trans ((hb3.mono (by omega)).trans (hb4.mono (by omega))))
    have hz : w.heap.size ≤ w4.heap.size := by omega
    clear hb1 hb2 hb3 hb4
    go_wp2_with fail
    go_loopw [0, 1, 5] (fun x i p wr => ∃ t b : Nat, i = .int .i64 (m / 2 ^ t : Nat) ∧ x = .int .u32 (bitN (8 * (m % 2 ^ t)) c : Nat) ∧ p = .pointer (some ⟨b, 0, none⟩) ∧ Mat b (mat (8 * 2 ^ t)) wr ∧ Below w.heap.size w wr) (fun _ i _ _ => (intOf i).toNat)
    case atStart => exact ⟨0, w3.heap.size, by rw [Nat.pow_zero, Nat.div_one], by rw [Nat.pow_zero, Nat.mod_one]; rfl, rfl, hm4.out, hbelow⟩
    case round =>
      obtain ⟨t, b, rfl, rfl, rfl, hm, hb⟩ := hrel
      replace hm := Lib.hid hm
      have hX := bitN_lt hc (8 * (m % 2 ^ t))
      have HD := Lib.hid (show m / 2 ^ (t + 1) = m / 2 ^ t / 2 by rw [Nat.div_div_eq_div_mul, Nat.pow_succ])
      have HO := Lib.hid (zeros_odd c m t)
      have HE := Lib.hid (zeros_even c m t)
      have HT := Lib.hid (times_mat (8 * 2 ^ t) hX)
      have HP := Lib.hid (double_pow t)
      by_cases hp : 0 < m / 2 ^ t
      · have hA := i64_and1 ((m / 2 ^ t : Nat) : Int)
        have hle : m / 2 ^ t ≤ m := Nat.div_le_self _ _
        generalize bitN (8 * (m % 2 ^ t)) c = X at *
        generalize m / 2 ^ t = N at *
        have hlx := mat_lt (8 * 2 ^ t)
        by_cases ho : N % 2 = 1
        · have h1' : ((N : Int) % 2 != 0) = true := by rw [bne_iff_ne]; omega
          replace HO := Lib.hid (HO.out ho)
          clear ho HE
          go_wp2_with fail
          refine (times_any b _ X _ hm.out (mat_length _) hlx hX).mono ?_
          rintro e w5 ⟨rfl, rfl⟩
          rw [HT.out, HO.out]
          go_wp2_with fail
          refine (squared_any b _ _ hm.out).mono ?_
          rintro e w6 ⟨rfl, hm6, hb6, hz6⟩
          replace hm6 := Lib.hid hm6
          go_wp2_with fail
          go_roundw
          case rel => exact ⟨t + 1, wr.heap.size, by rw [HD.out]; rfl, rfl, rfl, by rw [← HP.out]; exact hm6.out, hb.trans (hb6.mono hb.size)⟩
          case measure => simp [intOf]; omega
        · have h1' : ((N : Int) % 2 != 0) = false := by rw [bne_eq_false_iff_eq]; omega
          replace HE := Lib.hid (HE.out ho)
          clear ho HO
          go_wp2_with fail
          refine (squared_any b _ _ hm.out).mono ?_
          rintro e w6 ⟨rfl, hm6, hb6, hz6⟩
          replace hm6 := Lib.hid hm6
          go_wp2_with fail
          go_roundw
          case rel => exact ⟨t + 1, wr.heap.size, by rw [HD.out]; rfl, by rw [← HE.out], rfl, by rw [← HP.out]; exact hm6.out, hb.trans (hb6.mono hb.size)⟩
          case measure => simp [intOf]; omega
      · have HZ := Lib.hid (show zeros c (m : Int) = bitN (8 * (m % 2 ^ t)) c by
          unfold zeros
          have h0 : m / 2 ^ t = 0 := Nat.eq_zero_of_not_pos hp
          rw [Int.toNat_natCast, Nat.mod_eq_of_lt ((Nat.div_eq_zero_iff_lt (Nat.two_pow_pos t)).1 h0)])
        generalize bitN (8 * (m % 2 ^ t)) c = X at *
        generalize m / 2 ^ t = N at *
        go_wp2_with fail
        go_ret
        exact ⟨by rw [HZ.out]; rfl, hb⟩

set_option maxHeartbeats 400000 in
theorem combine_any (a b : Nat) (n : Int) (w : World) (ha : a < lid) (hb : b < lid) (hn : -9223372036854775808 ≤ n ∧ n ≤ 9223372036854775807) :
    Calls Try.prog 15 #[.int .u32 a, .int .u32 b, .int .i64 n] w fun e w' => e = .returned (.int .u32 (zeros a n ^^^ b : Nat)) ∧ Below w.heap.size w w' := by
  have HX := Lib.hid (xor32 (zeros_lt ha n) hb)
  go_enter Try.func15, Try.ntmps15
  go_wp2_with (go_at_call 13; refine (zeros_any _ _ _ ha hn).mono ?_; rintro e w' ⟨rfl, hb⟩)
  go_ret
  exact ⟨ret_u32 HX.out, hb⟩

end Crc
end Go.Proofs.Ytmhlnfijghfngaa
