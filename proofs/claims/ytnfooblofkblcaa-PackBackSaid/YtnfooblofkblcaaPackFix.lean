/-
  WALKS: eight bytes read as a number: by slices.Backward, an iterator over a slice. Conditions: the reader is one, or nil.
-/
import Derived.RangeFuncBox
import Derived.RangeFuncLeaves
import Derived.Shelf.Abstract
import Derived.OwnWalkIn
import Derived.TacticsInMore
import Derived.LoopNIn
import Derived.LoopIn
import Derived.Test.YtnfooblofkblcaaPackNum
namespace Go.Proofs.Ytnfooblofkblcaa
open Go.RowKit Go.Shelf
namespace Pk
open Mem
attribute [local go_sem] Oper.semAt_some

/-- what has come when k rounds are over. -/
def upto {α : Type} (f : Nat → α) (k : Nat) : List α := (List.range k).map f
theorem upto_succ {α : Type} (f : Nat → α) (k : Nat) : upto f (k + 1) = upto f k ++ [f k] := by simp [upto, List.range_succ]
theorem upto_length {α : Type} (f : Nat → α) (k : Nat) : (upto f k).length = k := by simp [upto]

/-- the j-th that slices.Backward hands on: where it stands, and the byte. -/
def backAt (s : ByteArray) (j : Nat) : Nat × UInt8 := (s.size - 1 - j, s.data.toList[s.size - 1 - j]?.getD 0)

theorem bytesRow_get (s : ByteArray) (cap j : Nat) (hj : j < s.size) : (bytesRow s cap)[j]? = some (.int .u8 ((s.data.toList[j]?.getD 0).toNat : Int)) := by
  rw [bytesRow_at s cap j hj]
  have : s.data.toList[j]? = some s.data[j] := by rw [List.getElem?_eq_getElem (by simpa using hj)]; rfl
  rw [this]
  rfl

set_option maxRecDepth 100000 in
set_option maxHeartbeats 2000000 in
theorem back1_in (F : Fence) (n : Nat) (hf : F.fn 38) (hro : F.round = none) (hn : 1 ≤ n) (l Bs b cap : Nat) (fz : Nat × Nat) (s : ByteArray) (T : Nat → Prop) (hb : ¬ T b) (hBs : ¬ T Bs) (hs : s.size ≤ 140737488351232) (J Jx : List (Nat × UInt8) → World → Prop)
    (hY : ∀ pre x W, J pre W → pre.length < s.size → YieldAt F (n - 1) Try.prog l #[.int .i64 (x.1 : Int), .int .u8 (x.2.toNat : Int)] W fun e W' =>
      (e = .returned (.bool true) ∧ J (pre ++ [x]) W' ∧ Kept T W W') ∨ (e = .returned (.bool false) ∧ Jx (pre ++ [x]) W'))
    (W : World) (hbox : W.heap[Bs]? = some (.cells #[.slice (some ⟨b, 0, none⟩) s.size cap] 44 (0, 0))) (hrow : W.heap[b]? = some (.cells (bytesRow s cap) 5 fz)) (h0 : J [] W) :
    CallsIn F n Try.prog 38 #[.func (.yield l) #[] #[], .pointer (some ⟨Bs, 0, none⟩)] W fun e W' => (∃ v, e = .returned v) ∧
      ((∃ ys, ys = upto (backAt s) s.size ∧ J ys W') ∨ (∃ pre, (∃ k, k ≤ s.size ∧ pre = upto (backAt s) k) ∧ Jx pre W')) := by
  have hb0 := cell_of_one hbox
  refine callsIn_of_wp Try.func38 rfl hf ?_ hro
  simp only [Try.ntmps38, List.size_toArray, List.length_cons, List.length_nil, Nat.reduceAdd, Nat.reduceSub, Array.replicate_succ, Array.replicate_zero, List.push_toArray, List.append_toArray, List.nil_append, List.cons_append]
  gi_wp2
  gi_loopw [3] (fun i wr => ∃ k : Nat, k ≤ s.size ∧ i = .int .i64 ((s.size : Int) - 1 - k) ∧ J (upto (backAt s) k) wr ∧ Kept T W wr)
    (fun i _ => (intOf i + 1).toNat)
  case atStart => exact ⟨0, Nat.zero_le _, by simp, h0, Kept.refl _ _⟩
  case round =>
    obtain ⟨k, hk, rfl, hJs, hnx⟩ := hrel
    by_cases hlt : k < s.size
    · obtain ⟨fn, tmps, assign, body, hy, hR⟩ := hY _ (backAt s k) wr hJs (by rw [upto_length]; exact hlt)
      unfold backAt at hy
      dsimp only at hy
      have hbx := cell_of_one (hnx.at hbox hBs)
      have hcx : wr.cell? ⟨b, s.size - 1 - k, none⟩ = some (.int .u8 ((s.data.toList[s.size - 1 - k]?.getD 0).toNat : Int)) := by
        rw [cell_at (hnx.at hrow hb), bytesRow_get s cap _ (by omega)]
      have hi : (s.size : Int) - 1 - k = ((s.size - 1 - k : Nat) : Int) := by omega
      have hj : s.size - 1 - k < s.size := by omega
      rw [hi]
      generalize (s.data.toList[s.size - 1 - k]?.getD 0).toNat = x at hy hcx
      have HI := Lib.hid hi
      clear hi
      have hj0 : (0 : Int) ≤ ((s.size - 1 - k : Nat) : Int) := by omega
      generalize s.size - 1 - k = j at *
      gi_wp2
      refine hR.mono ?_
      rintro e W3 (⟨rfl, hJ3, hk3⟩ | ⟨rfl, hJx3⟩)
      · gi_wp2
        go_roundw
        case rel => exact ⟨k + 1, by omega, by first | (congr 1; done) | (congr 1; have := HI.out; omega), by rw [upto_succ]; exact hJ3, hnx.trans hk3⟩
        case measure => simp [intOf] <;> omega
      · gi_wp2
        refine bodyPost_ret (results_none rfl _ _ _) rfl ?_
        exact ⟨⟨_, rfl⟩, .inr ⟨_, ⟨k + 1, by omega, (upto_succ _ _).symm⟩, hJx3⟩⟩
    · obtain rfl : k = s.size := by omega
      have hm : (s.size : Int) - 1 - s.size = -1 := by omega
      rw [hm]
      clear hm
      gi_wp2
      go_end0
      exact ⟨⟨_, rfl⟩, .inl ⟨_, rfl, hJs⟩⟩

theorem back_stops (F : Fence) (n : Nat) (hf : F.fn 38) (hro : F.round = none) (hn : 1 ≤ n) (Bs b cap : Nat) (fz : Nat × Nat) (s : ByteArray) (T : Nat → Prop) (hb : ¬ T b) (hBs : ¬ T Bs) (hs : s.size ≤ 140737488351232) (w : World)
    (hbox : w.heap[Bs]? = some (.cells #[.slice (some ⟨b, 0, none⟩) s.size cap] 44 (0, 0))) (hrow : w.heap[b]? = some (.cells (bytesRow s cap) 5 fz)) :
    SeqStopsK F n Try.prog 38 #[.pointer (some ⟨Bs, 0, none⟩)] (fun x : Nat × UInt8 => #[Value.int .i64 (x.1 : Int), Value.int .u8 (x.2.toNat : Int)]) (Kept T) (fun ys => ys = upto (backAt s) s.size) (fun pre => ∃ k, k ≤ s.size ∧ pre = upto (backAt s) k) s.size w :=
  fun l J Jx W hW _ _ hY h0 => back1_in F n hf hro hn l Bs b cap fz s T hb hBs hs J Jx hY W (below_at hW hbox (lt_of_block hbox)) (below_at hW hrow (lt_of_block hrow)) h0

/-! ### Fix -/
def vals (pre : List (Nat × UInt8)) : Nat := pre.foldl (fun u x => u * 256 + x.2.toNat) 0
theorem vals_snoc (pre : List (Nat × UInt8)) (x : Nat × UInt8) : vals (pre ++ [x]) = vals pre * 256 + x.2.toNat := by unfold vals; rw [List.foldl_append]; rfl
theorem fold_lt (l : List (Nat × UInt8)) : ∀ u : Nat, l.foldl (fun u x => u * 256 + x.2.toNat) u < (u + 1) * 256 ^ l.length := by
  induction l with
  | nil => intro u; simp
  | cons x t ih =>
    intro u
    have h := ih (u * 256 + x.2.toNat)
    have hx := UInt8.toNat_lt x.2
    rw [List.foldl_cons, List.length_cons, Nat.pow_succ]
    have h2 : (u * 256 + x.2.toNat + 1) * 256 ^ t.length ≤ ((u + 1) * 256) * 256 ^ t.length := Nat.mul_le_mul_right _ (by omega)
    have h3 : (u + 1) * (256 ^ t.length * 256) = ((u + 1) * 256) * 256 ^ t.length := by rw [Nat.mul_comm (256 ^ t.length) 256, ← Nat.mul_assoc]
    rw [h3]
    exact Nat.lt_of_lt_of_le h h2
theorem vals_lt (pre : List (Nat × UInt8)) : vals pre < 256 ^ pre.length := by
  have := fold_lt pre 0
  rw [Nat.zero_add, Nat.one_mul] at this
  exact this
theorem fixN_upto (s : ByteArray) (k : Nat) (hk : k ≤ s.size) : vals (upto (backAt s) k) = fixN (s.data.toList.drop (s.size - k)) := by
  induction k with
  | zero => rw [Nat.sub_zero, List.drop_eq_nil_of_le (by rw [size_list]; exact Nat.le_refl _)]; rfl
  | succ k ih =>
    rw [upto_succ, vals_snoc, ih (by omega)]
    have hd : s.data.toList.drop (s.size - (k + 1)) = s.data.toList[s.size - (k + 1)]'(by rw [size_list]; omega) :: s.data.toList.drop (s.size - (k + 1) + 1) := List.drop_eq_getElem_cons (by rw [size_list]; omega)
    rw [hd, fixN, show s.size - (k + 1) + 1 = s.size - k from by omega]
    have e : (backAt s k).2 = s.data.toList[s.size - (k + 1)]'(by rw [size_list]; omega) := by
      unfold backAt
      dsimp only
      rw [show s.size - 1 - k = s.size - (k + 1) from by omega, List.getElem?_eq_getElem (by rw [size_list]; omega)]
      rfl
    rw [e]
    omega
theorem fixN_vals (s : ByteArray) : vals (upto (backAt s) s.size) = fixN s.data.toList := by
  rw [fixN_upto s s.size (Nat.le_refl _), Nat.sub_self]
  rfl

/-- what Fix answers. -/
def fixV (s : ByteArray) (e : Int) : Nat := fixN (takeS s e 8).data.toList
set_option maxRecDepth 100000 in
theorem or_byte {u x : Nat} (hx : x < 256) (hu : u * 256 + x < 18446744073709551616) : bits .or .u64 (IntKind.u64.wrap ((u : Int) * 256)) (x : Int) = ((u * 256 + x : Nat) : Int) := by
  have e : IntKind.u64.wrap ((u : Int) * 256) = ((u * 256 : Nat) : Int) := (IntKind.wrap_u64 _).trans (by omega)
  rw [e, u64_or_nat _ _ (by omega) (by omega)]
  have := Nat.two_pow_add_eq_or_of_lt (show x < 2 ^ 8 by omega) u
  rw [Nat.mul_comm] at this
  rw [← this]
theorem takeS_size (s : ByteArray) (e n : Int) : (takeS s e n).size = takeK s e n := by
  unfold takeS takeK
  rw [← size_list, head_list, List.length_take, size_list]
  split <;> omega
theorem take8 (s : ByteArray) (e : Int) : (takeS s e 8).size ≤ 8 := by
  rw [takeS_size]
  unfold takeK
  split
  · exact Nat.le_refl _
  · omega

set_option maxRecDepth 100000 in
theorem backward_any (a : Option Addr) (len cap : Nat) (w : World) :
    Calls Try.prog 35 #[.slice a len cap] w fun e w' => e = .returned (.func (.func 38) #[] #[.pointer (some ⟨w.heap.size, 0, none⟩)]) ∧ w' = w.alloc (.cells #[.slice a len cap] 44) := by
  have hmf : ∀ (fn : Fn) (first cap : Array Value) (w : World), (Instr.makeFunc fn first cap).run Try.prog w = .ok (.func fn first cap) w := fun _ _ _ _ => rfl
  go_enter Try.func35, Try.ntmps35
  go_wp2_with fail
  go_ret
  exact ⟨rfl, rfl⟩

theorem kept_put {T : Nat → Prop} {W : World} {l : Nat} {o o' : Obj} (hT : T l) (_h : W.heap[l]? = some o) : Kept T W (W.putObj l o') :=
  (Kept.refl T W).grown (grownBy_putObj' W l o') (fun k e _ => by cases e; exact hT)

/-- what holds at the head of each round of Fix. -/
def FixI (w : World) (b q : Nat) (r : Obj) (pre : List (Nat × UInt8)) (W : World) : Prop :=
  W.heap[q]? = some (.cells #[.int .u64 (vals pre)] 22 (0, 0)) ∧ W.heap[b]? = some r ∧ Kept (· = b) w W
theorem fixI_own {w : World} {b q B : Nat} {s : ByteArray} {e : Int} (hB : w.heap.size ≤ B) : OwnFrom B (FixI w b q (rd s e)) := fun pre A C row hs hg hr => by
  obtain ⟨h1, h2, h3⟩ := hs
  have key : ∀ (k : Nat) (cs : Array Value) (t : TypeId) (f : Nat × Nat), A.heap[k]? = some (.cells cs t f) → C.heap[k]? = some (.cells cs t f) := fun k cs t f hk =>
    (hg.block k (lt_of_block hk) (fun er => by
      obtain ⟨_, o, ho, hc⟩ := hr k er.symm
      rw [hk] at ho
      cases ho
      cases hc)).trans hk
  exact ⟨key _ _ _ _ h1, key _ _ _ _ h2, h3.grown hg (fun k er hk => by have := (hr k er).1; omega)⟩

set_option maxRecDepth 100000 in
set_option maxHeartbeats 2000000 in
theorem fix_in (b : Nat) (s : ByteArray) (e : Int) (w : World) (hb : w.heap[b]? = some (rd s e)) :
    CallsIn Fence.wide 3 Try.prog 23 #[.pointer (some ⟨b, 0, none⟩)] w fun e' w' => e' = .returned (.int .u64 (fixV s e : Nat)) ∧ w'.heap[b]? = some (rd (rest s (takeK s e 8)) (takeE s e 8)) ∧ Kept (· = b) w w' := by
  have hlt := lt_of_block hb
  have hb1 := alloc_at (.cells #[.int .u64 0] 22) hb
  have HT := Lib.hid (fun w h => take_any b s e 8 w h)
  have h8 := take8 s e
  unfold fixV
  generalize takeS s e 8 = t at *
  generalize rest s (takeK s e 8) = s' at *
  generalize takeE s e 8 = e2 at *
  have hconv := fun (w : World) => run_bytes_of_string (P := Try.prog) w 9 44 5 t Try.underlying9 Try.underlying44 Try.underlying5
  refine callsIn_of_wp_marks Try.func23 rfl trivial ?_ rfl
  simp only [Try.ntmps23, List.size_toArray, List.length_cons, List.length_nil, Nat.reduceAdd, Nat.reduceSub, Array.replicate_succ, Array.replicate_zero, List.push_toArray, List.append_toArray, List.nil_append, List.cons_append]
  gi_wp2_with fail
  refine ⟨trivial, ?_⟩
  refine CallsIn.mono (callsIn_wide.2 (HT.out _ hb1)) ?_
  rintro e' w1 ⟨rfl, k1, k2⟩
  gi_wp2_with fail
  refine ⟨trivial, ?_⟩
  refine CallsIn.mono (callsIn_wide.2 (backward_any _ _ _ _)) ?_
  rintro e' w' ⟨rfl, rfl⟩
  have hq1 := k2.at (alloc_new w (.cells #[.int .u64 0] 22)) (Nat.ne_of_gt hlt)
  have hz1 : w.heap.size + 1 ≤ w1.heap.size := by have := k2.size; simpa using this
  gi_wp2_with fail
  obtain ⟨cap, hcap⟩ : ∃ cap, grownCap w1 t.size 0 5 = cap := ⟨_, rfl⟩
  rw [hcap]
  clear hcap
  have hK1 : Kept (· = b) w w1 := ((Kept.refl (· = b) w).alloc (.cells #[.int .u64 0] 22)).trans k2
  obtain ⟨W2, hW⟩ : ∃ W2, ((w1.alloc (.cells (bytesRow t cap) 5 ((bytesRow t cap).size, (bytesRow t cap).size + 1))).alloc (.cells #[.slice (some ⟨w1.heap.size, 0, none⟩) t.size cap] 44)).drew = W2 := ⟨_, rfl⟩
  have hz2 : W2.heap.size = w1.heap.size + 2 := by rw [← hW]; simp
  have hrow : W2.heap[w1.heap.size]? = some (.cells (bytesRow t cap) 5 ((bytesRow t cap).size, (bytesRow t cap).size + 1)) := by
    rw [← hW]; exact alloc_at _ (alloc_new w1 _)
  have hbox : W2.heap[w1.heap.size + 1]? = some (.cells #[.slice (some ⟨w1.heap.size, 0, none⟩) t.size cap] 44 (0, 0)) := by
    rw [← hW]
    have := alloc_new (w1.alloc (.cells (bytesRow t cap) 5 ((bytesRow t cap).size, (bytesRow t cap).size + 1))) (.cells #[.slice (some ⟨w1.heap.size, 0, none⟩) t.size cap] 44)
    rw [World.size_alloc] at this
    exact this
  have hI0 : FixI w b w.heap.size (rd s' e2) [] W2 := by
    rw [← hW]
    exact ⟨alloc_at _ (alloc_at _ hq1), alloc_at _ (alloc_at _ k1), ((hK1.alloc _).alloc _).drew⟩
  rw [hW]
  clear hW hK1 k1 k2 hq1 hconv
  refine wpIn_rangeFunc_ownF rfl (by decide) (gf := 38) (lb := #[.pointer (some ⟨w1.heap.size + 1, 0, none⟩)]) rfl trivial (enters_of Try.func38 (by kernel_rfl) rfl)
    (back_stops Fence.wide 2 trivial rfl (by decide) (w1.heap.size + 1) w1.heap.size cap _ t (fun k => k = w.heap.size ∨ w1.heap.size + 2 ≤ k) (by omega) (by omega) (by omega) W2 hbox hrow)
    (fun h k => h.trans k) (fun W l o o' hl h _ _ => kept_put (by rw [hz2] at hl; exact .inr hl) h) (Below.refl _ _) (fun _ => rfl)
    (FixI w b w.heap.size (rd s' e2)) (fun _ _ _ => False) (fixI_own (by omega)) (fun _ _ _ _ _ hs _ _ => hs) hI0
    (fun x => { tmps := #[.pointer (some ⟨b, 0, none⟩), undef, .int .u64 0, .pointer (some ⟨w.heap.size, 0, none⟩), undef, .int .u8 (x.2.toNat : Int), .pointer (some ⟨b, 0, none⟩), .string t, .slice (some ⟨w1.heap.size, 0, none⟩) t.size cap, .func (.func 38) #[] #[.pointer (some ⟨w1.heap.size + 1, 0, none⟩)], .int .i64 (x.1 : Int), .int .u8 (x.2.toNat : Int), undef, undef, undef, undef, undef, undef], defers := [] }) ?assign ?body ?done ?stop
  case assign =>
    intro l x W K hK
    gi_wp2
    exact hK
  case body =>
    rintro l pre x W ⟨hq, hbb, hK⟩ hlen
    have hc := cell_of_one hq
    have hf := free_of_one hq
    have hlt2 : vals pre * 256 + x.2.toNat < 18446744073709551616 := by
      rw [← vals_snoc]
      refine Nat.lt_of_lt_of_le (vals_lt _) ?_
      rw [List.length_append, List.length_singleton]
      have : (256 : Nat) ^ (pre.length + 1) ≤ 256 ^ 8 := Nat.pow_le_pow_right (by decide) (by omega)
      exact this
    have hx := UInt8.toNat_lt x.2
    have hor := or_byte (u := vals pre) (x := x.2.toNat) hx hlt2
    have hv := vals_snoc pre x
    have HV := Lib.hid hv
    have hbne : b ≠ w.heap.size := Nat.ne_of_lt hlt
    rw [← hv] at hor
    clear hv hlt2
    generalize x.2.toNat = y at *
    gi_wp2
    exact ⟨KeepsOthers.setCell _ _ _, (Kept.refl _ W).setCell (p := ⟨w.heap.size, 0, none⟩) (fun _ => .inl rfl) _, one_setCell hq, set_other hbb hbne _, hK.setCell (p := ⟨w.heap.size, 0, none⟩) (fun h => absurd h (Nat.lt_irrefl _)) _⟩
  case done =>
    rintro D ys W hD rfl ⟨hq, hbb, hK⟩ hDD
    have hc := cell_of_one hq
    rw [fixN_vals] at hc
    have hbb' : (W.putObj D (.deferred none)).heap[b]? = some (rd s' e2) := (World.putObj_heap_other (by omega)).trans hbb
    have hK' : Kept (· = b) w (W.putObj D (.deferred none)) := hK.grown (grownBy_putObj' W D _) (fun k e hk => by cases e; omega)
    replace hbb' := Lib.hid hbb'
    clear hq hbb hI0 hrow hbox
    gi_wp2
    refine ⟨by simp, .inl ⟨_, _, rfl, run_takeDeferred hDD, ?_⟩⟩
    exact ⟨_, results_tmp rfl _ _ _, rfl, hbb', hK'⟩
  case stop =>
    rintro D c pre W _ _ h _
    exact h.elim

theorem fix_any (b : Nat) (s : ByteArray) (e : Int) (w : World) (hb : w.heap[b]? = some (rd s e)) :
    Calls Try.prog 23 #[.pointer (some ⟨b, 0, none⟩)] w fun e' w' => e' = .returned (.int .u64 (fixV s e : Nat)) ∧ w'.heap[b]? = some (rd (rest s (takeK s e 8)) (takeE s e 8)) ∧ Kept (· = b) w w' :=
  callsIn_wide.1 (fix_in b s e w hb)

end Pk
end Go.Proofs.Ytnfooblofkblcaa
