/-
  WALK: the law ChunkJoins. No condition.
-/
import Derived.Test.YtpccenaieeggmaaChunkLive
import Derived.Test.YtpccenaieeggmaaOpen
import Derived.ProofKit
import Derived.Deep.RegionHeld3
namespace Go.Proofs.Ytpccenaieeggmaa
open Go.RowKit Go.Shelf Go.ChangeShapes Go.WideShapes Go.ChangeAt
namespace Ck
open Mem Pk Bd

theorem one_small {c : Ch} (h : c.2.size ≤ 200) : (oneL c).length ≤ 215 := by
  unfold oneL sealL
  have := putL_length c.2.size
  have := fix_len (Crc.more 0 ([b8 c.1] ++ putL c.2.size ++ c.2.data.toList))
  simp only [List.length_append, List.length_take, size_list, List.length_singleton]
  omega
theorem few_len {l : List Ch} (h : few l = true) : l.length ≤ 20 ∧ (∀ c ∈ l, c.2.size ≤ 200) ∧ (l.flatMap oneL).length ≤ 4300 := by
  obtain ⟨h1, h2⟩ := of_decide_eq_true h
  refine ⟨h1, h2, ?_⟩
  have key : ∀ l : List Ch, (∀ c ∈ l, c.2.size ≤ 200) → (l.flatMap oneL).length ≤ 215 * l.length := by
    intro l
    induction l with
    | nil => intro _; simp
    | cons a l ih =>
      intro h
      have h1 := ih (fun c hc => h c (List.mem_cons_of_mem _ hc))
      have h2 := one_small (h a List.mem_cons_self)
      rw [List.flatMap_cons, List.length_append, List.length_cons]
      omega
  have := key l h2
  omega

set_option maxRecDepth 100000 in
set_option maxHeartbeats 4000000 in
theorem joins_walk (n : Int) (v : Value) (l : List Ch) (kind : Int) (w : World) (h : Chs w v l) :
    Calls Try.prog 3 #[.int .i64 n, v, .int .i64 kind] w fun e w' => e = .returned (.bool true) ∧ Below w.heap.size w w' := by
  obtain ⟨a, cap, rfl⟩ := chs_val h
  have H := Lib.hid h
  clear h
  have HF := Lib.hid (few_any _ l w H.out)
  by_cases hf : few l = true
  · obtain ⟨hl1, hl2, hl3⟩ := few_len hf
    rw [hf] at HF
    replace hl2 := Lib.hid hl2
    clear hf
    go_enter Try.func3, Try.ntmps3
    go_wp2_with fail
    refine HF.out.mono ?_
    rintro e w1 ⟨rfl, hb⟩
    replace hb := Lib.hid hb
    go_wp2_with fail
    refine (join_any n _ l _ (chs_below H.out hb.out) (by omega) (by omega)).mono ?_
    rintro e w2 ⟨rfl, k⟩
    unfold joinV
    replace hb := Lib.hid (hb.out.trans (k.mono hb.out.size))
    clear k
    go_wp2_with fail
    refine (rjoin_any n _ l _ (chs_below H.out hb.out) (by omega) (by omega)).mono ?_
    rintro e w3 ⟨rfl, k⟩
    unfold joinV
    replace hb := Lib.hid (hb.out.trans (k.mono hb.out.size))
    clear k
    go_wp2_with fail
    refine (find_any _ l kind _ (chs_below H.out hb.out) (by omega)).mono ?_
    rintro e w4 ⟨rfl, k⟩
    unfold findV
    replace hb := Lib.hid (hb.out.trans (k.mono hb.out.size))
    clear k
    go_wp2_with fail
    refine (rfind_any _ l kind _ (chs_below H.out hb.out) (by omega)).mono ?_
    rintro e w5 ⟨rfl, k⟩
    unfold findV
    replace hb := Lib.hid (hb.out.trans (k.mono hb.out.size))
    clear k
    generalize joinS n l = js at *
    generalize joinE n l = je at *
    generalize (findS l kind).getD ByteArray.empty = fs at *
    generalize (findS l kind).isSome = fi at *
    go_wp2_with fail
    go_loopw [15] (fun i wr => ∃ k : Nat, i = .int .i64 k ∧ k ≤ l.length ∧ Hid (Below w.heap.size w wr)) (fun i _ => l.length - (intOf i).toNat)
    case atStart => exact ⟨0, rfl, by omega, hb⟩
    case round =>
      clear hb HF
      obtain ⟨k, rfl, hk, hb⟩ := hrel
      by_cases hlt : k < l.length
      · obtain ⟨b, o, rfl⟩ := some_chs H.out (by omega)
        have hc0 := chs_at H.out hlt
        have hlt' : (k : Int) < l.length := by omega
        have hk0 : (0 : Int) ≤ (k : Nat) := by omega
        have hsz := hl2.out _ (chAt_mem hlt)
        have hblt := hc0.1
        generalize chAt l k = c at *
        obtain ⟨kk, body⟩ := c
        simp only at hc0 hsz
        have HSS : Hid (∀ W, Below w.heap.size w W → W.cell? ⟨b, o + k * 2, none⟩ = some (.int .i64 kk) ∧ W.cell? ⟨b, o + k * 2 + 1, none⟩ = some (.string body) ∧ Below w.heap.size w W) := Lib.hid (fun W h => ⟨(h.cell (p := ⟨b, o + k * 2, none⟩) hblt).trans hc0.2.1, (h.cell (p := ⟨b, o + k * 2 + 1, none⟩) hblt).trans hc0.2.2, h⟩)
        have HO : Hid (∀ W, Below w.heap.size w W → Calls Try.prog 14 #[.agg #[.int .i64 kk, .string body]] W fun e W' => e = .returned (.string (str (oneL (kk, body)))) ∧ (W'.cell? ⟨b, o + k * 2, none⟩ = some (.int .i64 kk) ∧ W'.cell? ⟨b, o + k * 2 + 1, none⟩ = some (.string body) ∧ Below w.heap.size w W')) := Lib.hid (fun W h => (one_any (kk, body) W (by simp only; omega)).mono fun e W' h2 => ⟨h2.1, HSS.out _ (h.trans (h2.2.mono h.size))⟩)
        have HR : Hid (∀ W, Below w.heap.size w W → Calls Try.prog 15 #[.agg #[.int .i64 kk, .string body]] W fun e W' => e = .returned (.string (str (oneL (kk, body)))) ∧ (W'.cell? ⟨b, o + k * 2, none⟩ = some (.int .i64 kk) ∧ W'.cell? ⟨b, o + k * 2 + 1, none⟩ = some (.string body) ∧ Below w.heap.size w W')) := Lib.hid (fun W h => (rone_any (kk, body) W (by simp only; omega)).mono fun e W' h2 => ⟨h2.1, HSS.out _ (h.trans (h2.2.mono h.size))⟩)
        have hS0 := HSS.out _ hb.out.drew
        clear hc0 hlt hsz
        generalize str (oneL (kk, body)) = R at *
        go_wp2_with fail
        go_region_held3 (fun W => W.cell? ⟨b, o + k * 2, none⟩ = some (.int .i64 kk) ∧ W.cell? ⟨b, o + k * 2 + 1, none⟩ = some (.string body) ∧ Below w.heap.size w W) (assumption) (first | (go_at_call 14; (refine (HO.out _ (by assumption : _ ∧ _ ∧ Below w.heap.size w _).2.2).mono ?_); rintro e' W' ⟨rfl, hS'⟩) | (go_at_call 15; (refine (HR.out _ (by assumption : _ ∧ _ ∧ Below w.heap.size w _).2.2).mono ?_); rintro e' W' ⟨rfl, hS'⟩))
        all_goals
          have hbf := Lib.hid hS'.2.2
          clear hS' hS0
          go_wp2_with fail
          go_roundw
          case rel => exact ⟨k + 1, by go_num, by omega, hbf⟩
          case measure => simp [intOf]; omega
      · obtain rfl : k = l.length := by omega
        have hge : decide (l.length < l.length) = false := decide_eq_false hlt
        clear hlt
        go_wp2_with fail
        refine (live_any _).mono ?_
        rintro e w6 ⟨rfl, k⟩
        replace hb := Lib.hid (hb.out.trans (k.mono hb.out.size))
        go_wp2_with fail
        go_ret
        exact ⟨rfl, hb.out⟩
  · have hf2 : few l = false := by simpa using hf
    rw [hf2] at HF
    clear hf hf2
    go_enter Try.func3, Try.ntmps3
    go_wp2_with fail
    refine HF.out.mono ?_
    rintro e w1 ⟨rfl, hb⟩
    go_wp2_with fail
    refine (live_any _).mono ?_
    rintro e w2 ⟨rfl, k⟩
    go_wp2_with fail
    go_ret
    exact ⟨rfl, hb.trans (k.mono hb.size)⟩

theorem joins_ok {H : Type} {enc : TypeId × Value → H} {d1 : DataW H} {p1 : List MemPlace} (W : World) (b : Nat) (v0 v1 v2 : Value) (o0 : Value.okWide Try.prog W .any b 3 v0) (o1 : Value.okWide Try.prog W .any b 22 v1) (h1 : DataW.Trod enc Try.prog W 0 (fun _ => true) true 22 v1 d1 p1) (o2 : Value.okWide Try.prog W .any b 3 v2) :
    Calls Try.prog 3 #[v0, v1, v2] W fun e w' => e = .returned (.bool true) ∧ Below W.heap.size W w' := by
  obtain ⟨l, hl⟩ := chs_of h1 (Opened.ok_slice Try.underlying22 o1) o1
  obtain ⟨n, rfl, -, -⟩ := Opened.ok_int Try.underlying3 o0
  obtain ⟨kind, rfl, -, -⟩ := Opened.ok_int Try.underlying3 o2
  exact joins_walk n v1 l kind W hl

end Ck
end Go.Proofs.Ytpccenaieeggmaa
