/-
  WALKS: package delta's Encode. Conditions: lists of at most 1000 numbers.
-/
import Derived.Test.YtlpleikcgikpoaaDeltaBuild
import Derived.Test.YtlpleikcgikpoaaDeltaShelf
import Derived.RangeFuncCalls
namespace Go.Proofs.Ytlpleikcgikpoaa
open Go.RowKit Go.Shelf
attribute [local go_sem] Oper.semAt_some
namespace Dl
open Mem Pk

theorem others_of_below {W W' : World} (h : Below W.heap.size W W') : KeepsOthers W W' := ⟨h.size, fun k _ hk _ => (h.block k (lt_of_block hk)).trans hk⟩
theorem own8_less {w : World} {B C : Nat} {v : Value} {l : List UInt8} (h : Own8 w B v l) (hC : C ≤ B) : Own8 w C v l := by
  refine ⟨h.1, ?_⟩
  rcases h.2 with h2 | ⟨g, cap, cur, ev, hg, hh, r⟩
  · exact .inl h2
  · exact .inr ⟨g, cap, cur, ev, Nat.le_trans hC hg, hh, r⟩
theorem builder_of {w : World} {b B : Nat} {p v : Value} {l : List UInt8} (hp : p = .pointer none ∨ p = .pointer (some ⟨b, 0, none⟩)) (hb : w.heap[b]? = some (bd p v)) (hO : Own8 w B v l) (hbB : b < B) : Lib.IsBuilder 43 5 b b (Lib.byteCells l) w := by
  have hO2 : w.ownsRow b 5 1 v (Lib.byteCells l).length (Lib.byteCells l) := by
    have h1 := own8_less hO (Nat.le_of_lt hbB)
    have e : (Lib.byteCells l).length = l.length := by unfold Lib.byteCells; simp
    rw [e]
    exact h1
  have hne : v.ownBlock ≠ some b := by
    rcases hO.2 with ⟨rfl, _⟩ | ⟨g, cap, cur, rfl, hg, _⟩
    · simp [Value.ownBlock]
    · simp [Value.ownBlock]; omega
  rcases hp with rfl | rfl
  · exact .inl ⟨Nat.le_refl _, v, hb, hO2, hne⟩
  · exact .inr ⟨Nat.le_refl _, v, hb, hO2, hne⟩

/-- the numbers, bare. -/
def bare (pre : List Num64) : List Int := pre.map (fun x => x.1)
theorem bare_snoc (pre : List Num64) (x : Num64) : bare (pre ++ [x]) = bare pre ++ [x.1] := by unfold bare; simp
theorem bare_length (pre : List Num64) : (bare pre).length = pre.length := by unfold bare; simp
/-- what holds at the head of each round of Encode. -/
def EncI (w : World) (B : Nat) (pre : List Num64) (W : World) : Prop :=
  ∃ p v, (p = .pointer none ∨ p = .pointer (some ⟨w.heap.size, 0, none⟩)) ∧ W.heap[w.heap.size]? = some (bd p v) ∧ Own8 W B v (enc (bare pre)) ∧ Below w.heap.size w W ∧ B ≤ W.heap.size
theorem encI_own {w : World} {B C : Nat} (hB : w.heap.size ≤ C) : OwnFrom C (EncI w B) := fun pre A D row hs hg hr => by
  obtain ⟨p, v, hp, h1, h2, h3, h4⟩ := hs
  have key : ∀ (k : Nat) (cs : Array Value) (t : TypeId) (f : Nat × Nat), A.heap[k]? = some (.cells cs t f) → D.heap[k]? = some (.cells cs t f) := fun k cs t f hk =>
    (hg.block k (lt_of_block hk) (fun er => by
      obtain ⟨_, o, ho, hc⟩ := hr k er.symm
      rw [hk] at ho
      cases ho
      cases hc)).trans hk
  refine ⟨p, v, hp, key _ _ _ _ h1, ⟨h2.1, ?_⟩, ⟨hg.os.trans h3.os, hg.tape.trans h3.tape, hg.output.trans h3.output, Nat.le_trans h3.size hg.size, fun k hk => (hg.block k (Nat.lt_of_lt_of_le hk h3.size) (fun er => ?_)).trans (h3.block k hk)⟩, Nat.le_trans h4 hg.size⟩
  · rcases h2.2 with h | ⟨g, cap, cur, ev, hg0, hh, r⟩
    · exact .inl h
    · exact .inr ⟨g, cap, cur, ev, hg0, key _ _ _ _ hh, r⟩
  · have := (hr k er.symm).1
    omega

set_option maxRecDepth 100000 in
set_option maxHeartbeats 4000000 in
theorem encode_in (v : Value) (d : List Int) (w : World) (hv : Opened.Ints .i64 w v d) (hl : d.length ≤ 1000) :
    CallsIn Fence.wide 3 Try.prog 14 #[v] w fun e w' => e = .returned (.string (str (enc (subs 0 d)))) ∧ Below w.heap.size w w' := by
  have HV := Lib.hid hv
  obtain ⟨⟨a, cap, rfl, -⟩, -⟩ := hv
  refine callsIn_of_wp_marks Try.func14 rfl trivial ?_ rfl
  simp only [Try.ntmps14, List.size_toArray, List.length_cons, List.length_nil, Nat.reduceAdd, Nat.reduceSub, Array.replicate_succ, Array.replicate_zero, List.push_toArray, List.append_toArray, List.nil_append, List.cons_append]
  gi_wp2_with fail
  refine ⟨trivial, ?_⟩
  refine CallsIn.mono (callsIn_wide.2 (deltas_any _ _ _ _)) ?_
  rintro e' w' ⟨rfl, rfl⟩
  gi_wp2_with fail
  obtain ⟨W2, hW⟩ : ∃ W2, (w.alloc (bd (.pointer none) (.slice none 0 0))).alloc (.cells #[.slice a d.length cap] 22) = W2 := ⟨_, rfl⟩
  have hz2 : W2.heap.size = w.heap.size + 2 := by rw [← hW]; simp
  have hbox : W2.heap[w.heap.size + 1]? = some (.cells #[.slice a d.length cap] 22 (0, 0)) := by
    rw [← hW]
    have := alloc_new (w.alloc (bd (.pointer none) (.slice none 0 0))) (.cells #[.slice a d.length cap] 22)
    rw [World.size_alloc] at this
    exact this
  have hbel0 : Below w.heap.size w W2 := by rw [← hW]; exact ((Below.refl _ w).alloc (Nat.le_refl _) _).alloc (by simp) _
  have hrow : Row (fun k => k = w.heap.size ∨ w.heap.size + 2 ≤ k) W2 (.slice a d.length cap) d := row_of HV.out hbel0 (fun k hk h => by omega)
  have hI0 : EncI w W2.heap.size [] W2 := ⟨.pointer none, .slice none 0 0, .inl rfl, by rw [← hW]; exact alloc_at _ (alloc_new w _), own8_nil _ _, hbel0, Nat.le_refl _⟩
  change Code.wpIn _ _ _ _ _ _ ((w.alloc (bd (.pointer none) (.slice none 0 0))).alloc (.cells #[.slice a d.length cap] 22))
  rw [hW]
  clear hW
  refine wpIn_rangeFunc_ownF rfl (by decide) (gf := 32) (lb := #[.pointer (some ⟨w.heap.size + 1, 0, none⟩)]) rfl trivial (enters_of Try.func32 (by kernel_rfl) rfl)
    (deltas_stopsB Fence.wide 2 trivial rfl (by decide) (w.heap.size + 1) _ d (fun k => k = w.heap.size ∨ w.heap.size + 2 ≤ k) hl W2 hbox hrow)
    (fun h k => h.trans k) (fun W l o o' hl h _ _ => kept_put (by rw [hz2] at hl; exact .inr hl) h) (Below.refl _ _) (fun _ => rfl)
    (EncI w W2.heap.size) (fun _ _ _ => False) (encI_own (by omega)) (fun _ _ _ _ _ hs _ _ => hs) hI0
    (fun x => { tmps := #[.slice a d.length cap, undef, .string ⟨#[]⟩, .pointer (some ⟨w.heap.size, 0, none⟩), .int .i64 x.1, .slice a d.length cap, .func (.func 32) #[] #[.pointer (some ⟨w.heap.size + 1, 0, none⟩)], .int .i64 x.1, undef, undef, undef, undef, undef], defers := [] }) ?assign ?body ?done ?stop
  case assign =>
    intro l x W K hK
    gi_wp2
    exact hK
  case body =>
    rintro l pre ⟨x, hx⟩ W ⟨p, v', hp, hq, hO, hbel, hBW⟩ hlen
    have hel : (enc (bare pre)).length ≤ 10000 := by have := enc_len (bare pre); rw [bare_length] at this; omega
    have hZ := Lib.hid (zig_lt hx.1 hx.2)
    have hpl := putL_length (zigN x)
    have hO1 := Lib.hid hO
    clear hO
    gi_wp2_with fail
    refine ⟨trivial, ?_⟩
    refine CallsIn.mono (CallsIn.inRound l (callsIn_wide.2 (zig_any x _ hx.1 hx.2))) ?_
    rintro e' w1 ⟨rfl, rfl⟩
    have HP := Lib.hid (fun W => put_any (zigN x) W hZ.out)
    gi_wp2_with fail
    refine ⟨trivial, ?_⟩
    refine CallsIn.mono (CallsIn.inRound l (callsIn_wide.2 (HP.out _))) ?_
    rintro e' w1 ⟨rfl, hb1⟩
    have hq1 := below_at hb1 hq (lt_of_block hq)
    have hO2 : Own8 w1 W2.heap.size v' (enc (bare pre)) := own8_kept (Kept.of_below (T := fun _ => False) hb1) hO1.out (fun _ _ h => h)
    have hs1 := hb1.size
    have HW := Lib.hid (wstr_any w.heap.size W2.heap.size p v' hp (enc (bare pre)) (str (putL (zigN x))) w1 hq1 hO2 (by omega) (by omega) (by omega) (by rw [str_size]; omega))
    gi_wp2_with fail
    refine ⟨trivial, ?_⟩
    refine CallsIn.mono (CallsIn.inRound l (callsIn_wide.2 HW.out)) ?_
    rintro e' w3 ⟨rfl, ⟨v3, hq3, hO3⟩, k3, o3⟩
    have hsz := hbel.size
    have k1 : Kept (fun k => k = w.heap.size ∨ w.heap.size + 2 ≤ k) W w1 := Kept.of_below hb1
    have kf := k1.trans (k3.mono (T' := fun k => k = w.heap.size ∨ w.heap.size + 2 ≤ k) (fun i hi h => by rcases h with h | h <;> omega))
    have hs3 := kf.size
    rw [str_data] at hO3
    gi_wp2_with fail
    exact ⟨(others_of_below hb1).trans o3, kf, _, v3, .inr rfl, hq3, by rw [bare_snoc, enc_snoc]; exact hO3, hbel.trans (kf.to_below hsz (fun k hk h => by rcases h with h | h <;> omega)), by omega⟩
  case done =>
    rintro D ys W hD hS hI hDD
    obtain ⟨p, v', hp, hq, hO, hbel, hBW⟩ := hI
    have hS' : bare ys = subs 0 d := hS
    rw [hS'] at hO
    have hsz := hbel.size
    have HS := Lib.hid (Try.Builder_String_any_k w.heap.size w.heap.size _ _ (Lib.IsBuilderF.of (builder_of hp hq hO (by omega))) hsz)
    replace hbel := Lib.hid hbel
    clear hq hO hI0 hrow hbox hbel0 hS hS'
    gi_wp2_with fail
    refine ⟨trivial, ?_⟩
    refine CallsIn.mono (callsIn_wide.2 HS.out) ?_
    rintro e' w4 ⟨rfl, -, hb4, ho4⟩
    have hD4 : w4.heap[D]? = some (.deferred (some [])) := ho4 D _ hDD (by intro h; cases h; omega) (by intro c fz h; cases h)
    have hbF : Below w.heap.size w (w4.putObj D (.deferred none)) := by
      have h1 := hbel.out.trans hb4
      have hg := grownBy_putObj' w4 D (.deferred none)
      exact ⟨hg.os.trans h1.os, hg.tape.trans h1.tape, hg.output.trans h1.output, Nat.le_trans h1.size hg.size, fun k hk => (hg.block k (Nat.lt_of_lt_of_le hk h1.size) (fun e => by cases e; omega)).trans (h1.block k hk)⟩
    replace hbF := Lib.hid hbF
    gi_wp2_with fail
    refine ⟨by simp, .inl ⟨_, _, rfl, run_takeDeferred hD4, ?_⟩⟩
    refine ⟨_, results_tmp rfl _ _ _, ?_, hbF.out⟩
    rfl
  case stop =>
    rintro D c pre W _ _ h _
    exact h.elim

theorem encode_any (v : Value) (d : List Int) (w : World) (hv : Opened.Ints .i64 w v d) (hl : d.length ≤ 1000) :
    Calls Try.prog 14 #[v] w fun e w' => e = .returned (.string (str (enc (subs 0 d)))) ∧ Below w.heap.size w w' :=
  callsIn_wide.1 (encode_in v d w hv hl)

end Dl
end Go.Proofs.Ytlpleikcgikpoaa
