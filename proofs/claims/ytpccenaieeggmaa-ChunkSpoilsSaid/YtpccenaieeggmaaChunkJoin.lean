/-
  WALKS: Join, by package chunk and by the document. Conditions: files of at most 90000 bytes.
-/
import Derived.Test.YtpccenaieeggmaaChunkROne
import Derived.Test.YtpccenaieeggmaaChunkFind
import Derived.Deep.DeepCutAuto
namespace Go.Proofs.Ytpccenaieeggmaa
open Go.RowKit Go.Shelf
namespace Ck
open Mem Pk Bd

/-- a Builder at w's end that holds L. -/
structure BAt (w : World) (L : List UInt8) (W : World) : Prop where
  blk : ∃ p v, (p = .pointer none ∨ p = .pointer (some ⟨w.heap.size, 0, none⟩)) ∧ W.heap[w.heap.size]? = some (bd p v) ∧ Own8 W (w.heap.size + 1) v L
  bel : Below w.heap.size w W
  size : w.heap.size + 1 ≤ W.heap.size
theorem BAt.start (w : World) : BAt w [] (w.alloc (bd (.pointer none) (.slice none 0 0))) := ⟨⟨_, _, .inl rfl, alloc_new w _, own8_nil _ _⟩, (Below.refl _ _).alloc (Nat.le_refl _) _, by simp⟩
theorem BAt.below {w W W' : World} {L : List UInt8} (h : BAt w L W) (k : Below W.heap.size W W') : BAt w L W' := by
  obtain ⟨⟨p, v, hp, hb, hO⟩, h2, h3⟩ := h
  exact ⟨⟨p, v, hp, (k.block _ (by omega)).trans hb, own8_kept (Kept.of_below (T := fun _ => False) k) hO (fun _ _ h => h)⟩, h2.trans (k.mono (by omega)), Nat.le_trans h3 k.size⟩
theorem BAt.alloc {w W : World} {L : List UInt8} (h : BAt w L W) (o : Obj) : BAt w L (W.alloc o) := h.below ((Below.refl _ _).alloc (Nat.le_refl _) o)
theorem w_str {w W : World} {L : List UInt8} (h : BAt w L W) (s : ByteArray) (hl : L.length ≤ 100000) (hs : s.size ≤ 100000) :
    Calls Try.prog 21 #[.pointer (some ⟨w.heap.size, 0, none⟩), .string s] W fun e W' => e = .returned (.tuple #[.int .i64 s.size, .nilIface]) ∧ BAt w (L ++ s.data.toList) W' := by
  obtain ⟨⟨p, v, hp, hb, hO⟩, h2, h3⟩ := h
  refine (wstr_any w.heap.size (w.heap.size + 1) p v hp L s W hb hO (by omega) h3 hl hs).mono ?_
  rintro e W' ⟨he, ⟨v', hb', hO'⟩, k, -⟩
  exact ⟨he, ⟨_, v', .inr rfl, hb', hO'⟩, h2.trans (k.to_below h2.size (fun _ _ _ => by omega)), Nat.le_trans h3 k.size⟩
theorem w_byte {w W : World} {L : List UInt8} (h : BAt w L W) (c : UInt8) (hl : L.length ≤ 100000) :
    Calls Try.prog 22 #[.pointer (some ⟨w.heap.size, 0, none⟩), .int .u8 (c.toNat : Int)] W fun e W' => e = .returned .nilIface ∧ BAt w (L ++ [c]) W' := by
  obtain ⟨⟨p, v, hp, hb, hO⟩, h2, h3⟩ := h
  refine (wbyte_any w.heap.size (w.heap.size + 1) p v hp L c W hb hO (by omega) h3 hl).mono ?_
  rintro e W' ⟨he, ⟨v', hb', hO'⟩, k⟩
  exact ⟨he, ⟨_, v', .inr rfl, hb', hO'⟩, h2.trans (k.to_below h2.size (fun _ _ _ => by omega)), Nat.le_trans h3 k.size⟩
theorem b_string {w W : World} {L : List UInt8} (h : BAt w L W) :
    Calls Try.prog 23 #[.pointer (some ⟨w.heap.size, 0, none⟩)] W fun e W' => e = .returned (.string (str L)) ∧ Below w.heap.size w W' := by
  obtain ⟨⟨p, v, hp, hb, hO⟩, h2, h3⟩ := h
  refine (Try.Builder_String_any_k w.heap.size w.heap.size _ _ (Lib.IsBuilderF.of (builder_of hp hb hO (by omega))) (by omega)).mono ?_
  rintro e W' ⟨he, -, k, -⟩
  exact ⟨he, h2.trans k⟩

theorem oneL_len (c : Ch) : c.2.size ≤ (oneL c).length := by
  unfold oneL sealL
  rw [List.length_append, List.length_append, size_list]
  omega
theorem one_in {l : List Ch} {c : Ch} (h : c ∈ l) : (oneL c).length ≤ (l.flatMap oneL).length := by
  induction l with
  | nil => simp at h
  | cons a l ih =>
    rw [List.flatMap_cons, List.length_append]
    rcases List.mem_cons.1 h with rfl | h
    · omega
    · have := ih h; omega
theorem take_len (l : List Ch) (k : Nat) : ((l.take k).flatMap oneL).length ≤ (l.flatMap oneL).length := by
  have e : l.flatMap oneL = (l.take k).flatMap oneL ++ (l.drop k).flatMap oneL := by rw [← List.flatMap_append, List.take_append_drop]
  rw [e, List.length_append]
  omega
def hdL (v : Int) : List UInt8 := [66, 78, 83, 73] ++ [b8 v]
theorem joinL_snoc (v : Int) (l : List Ch) {k : Nat} (h : k < l.length) : hdL v ++ (l.take (k + 1)).flatMap oneL = hdL v ++ (l.take k).flatMap oneL ++ oneL (chAt l k) := by
  rw [take_next l k h, List.flatMap_append, List.append_assoc]
  simp
theorem hJL (v : Int) (l : List Ch) {k : Nat} {h0 : List UInt8} (hh : hdL v = h0) (h : k < l.length) : h0 ++ (l.take (k + 1)).flatMap oneL = h0 ++ (l.take k).flatMap oneL ++ oneL (chAt l k) := by
  rw [← hh]
  exact joinL_snoc v l h
def joinV (v : Int) (l : List Ch) : Value := .tuple #[.string (joinS v l), .int .i64 (joinE v l)]
theorem joinV_bad {v : Int} {l : List Ch} {c : Int} (h : joinE v l = c) (hc : c ≠ 0) : joinV v l = .tuple #[.string ⟨#[]⟩, .int .i64 c] := by
  unfold joinV joinS
  rw [h, if_neg hc]
  rfl
theorem joinV_good {v : Int} {l : List Ch} (h : joinE v l = 0) : joinV v l = .tuple #[.string (str (hdL v ++ l.flatMap oneL)), .int .i64 0] := by
  unfold joinV joinS
  rw [h, if_pos rfl]
  rfl
theorem joinGo_order {last : Int} {l : List Ch} {k : Nat} (h : joinGo 0 l = joinGo last (l.drop k)) (hk : k < l.length) (hc : (chAt l k).1 ≤ last ∨ 255 < (chAt l k).1) : joinGo 0 l = 12 := by
  rw [h, drop_here l k hk, joinGo, if_pos hc]
theorem joinGo_big {last : Int} {l : List Ch} {k : Nat} (h : joinGo 0 l = joinGo last (l.drop k)) (hk : k < l.length) (hc : ¬ ((chAt l k).1 ≤ last ∨ 255 < (chAt l k).1)) (hb : 1048576 < (chAt l k).2.size) : joinGo 0 l = 10 := by
  rw [h, drop_here l k hk, joinGo, if_neg hc, if_pos hb]
theorem joinGo_next {last : Int} {l : List Ch} {k : Nat} (h : joinGo 0 l = joinGo last (l.drop k)) (hk : k < l.length) (hc : ¬ ((chAt l k).1 ≤ last ∨ 255 < (chAt l k).1)) (hb : ¬ 1048576 < (chAt l k).2.size) : joinGo 0 l = joinGo (chAt l k).1 (l.drop (k + 1)) := by
  rw [h, drop_here l k hk, joinGo, if_neg hc, if_neg hb]
theorem joinGo_end {last : Int} {l : List Ch} {k : Nat} (h : joinGo 0 l = joinGo last (l.drop k)) (hk : ¬ k < l.length) : joinGo 0 l = 0 := by
  rw [h, List.drop_eq_nil_of_le (by omega)]
  rfl

set_option maxRecDepth 100000 in
set_option maxHeartbeats 2000000 in
theorem join_any (n : Int) (v : Value) (l : List Ch) (w : World) (h : Chs w v l) (hl : (l.flatMap oneL).length ≤ 90000) (hl2 : l.length ≤ 90000) :
    Calls Try.prog 10 #[.int .i64 n, v] w fun e w' => e = .returned (joinV n l) ∧ Below w.heap.size w w' := by
  obtain ⟨a, cap, rfl⟩ := chs_val h
  have H := Lib.hid h
  clear h
  have HL := Lib.hid hl
  clear hl
  by_cases hn : n < 0 ∨ 255 < n
  · have hV := Lib.hid (joinV_bad (v := n) (l := l) (c := 1) (by unfold joinE; exact if_pos hn) (by decide))
    by_cases h1 : n < 0
    · have hd : decide (n < 0) = true := decide_eq_true h1
      clear hn h1
      go_enter Try.func10, Try.ntmps10
      go_wp2_with fail
      go_ret2
      exact ⟨by rw [hV.out]; rfl, Below.refl _ _⟩
    · have hd : decide (n < 0) = false := decide_eq_false h1
      have hd2 : decide (255 < n) = true := decide_eq_true (by omega)
      clear hn h1
      go_enter Try.func10, Try.ntmps10
      go_wp2_with fail
      go_ret2
      exact ⟨by rw [hV.out]; rfl, Below.refl _ _⟩
  · have hJ : Hid (joinE n l = joinGo 0 l) := Lib.hid (by unfold joinE; exact if_neg hn)
    have hd : decide (n < 0) = false := decide_eq_false (by omega)
    have hd2 : decide (255 < n) = false := decide_eq_false (by omega)
    have hw : IntKind.u8.wrap n = ((b8 n).toNat : Int) := b8_val n
    have hhd : Hid (hdL n = [] ++ [66, 78, 83, 73] ++ [b8 n]) := Lib.hid rfl
    clear hn
    generalize b8 n = B at *
    go_enter Try.func10, Try.ntmps10
    go_wp2_with fail
    refine (w_str (BAt.start w) ⟨#[66, 78, 83, 73]⟩ (by simp) (by decide)).mono ?_
    rintro e w1 ⟨rfl, k1⟩
    replace k1 := Lib.hid k1
    go_wp2_with fail
    refine (w_byte k1.out B (by simp)).mono ?_
    rintro e w2 ⟨rfl, k2⟩
    have hB0 := Lib.hid (show BAt w (hdL n) w2 by rw [hhd.out]; exact k2)
    have hhl : (hdL n).length = 5 := by rw [hhd.out]; rfl
    clear k1 k2 hhd
    go_wp2_with fail
    generalize hh0 : hdL n = hd0 at *
    have hhead := Lib.hid hh0
    clear hh0
    go_loopw [7, 22] (fun lv i wr => ∃ (k : Nat) (last : Int), lv = .int .i64 last ∧ i = .int .i64 k ∧ k ≤ l.length ∧ Hid (joinGo 0 l = joinGo last (l.drop k)) ∧ Hid (BAt w (hd0 ++ (l.take k).flatMap oneL) wr)) (fun _ i _ => l.length - (intOf i).toNat)
    case atStart => exact ⟨0, 0, rfl, rfl, by omega, Lib.hid rfl, Lib.hid (by rw [List.take_zero, List.flatMap_nil, List.append_nil]; exact hB0.out)⟩
    case round =>
      clear hB0 hd hd2 hw
      obtain ⟨k, last, rfl, rfl, hk, hT, hb⟩ := hrel
      by_cases hlt : k < l.length
      · obtain ⟨b, o, rfl⟩ := some_chs H.out (by omega)
        have hc := chs_at (chs_below H.out hb.out.bel) hlt
        have c1 := hc.2.1
        have c2 := hc.2.2
        have hlt' : (k : Int) < l.length := by omega
        have hbs := hb.out.size
        have hO1 := Lib.hid (fun hc => joinGo_order hT.out hlt hc)
        have hO2 := Lib.hid (fun hc hb => joinGo_big hT.out hlt hc hb)
        have hO3 := Lib.hid (fun hc hb => joinGo_next hT.out hlt hc hb)
        have hF := Lib.hid (hJL n l hhead.out hlt)
        have hm := one_in (chAt_mem hlt)
        have hm2 := take_len l k
        have hm3 := oneL_len (chAt l k)
        have hlen : (hd0 ++ (l.take k).flatMap oneL).length ≤ 100000 := by rw [List.length_append]; have := HL.out; omega
        have hlo : (oneL (chAt l k)).length ≤ 90000 := by have := HL.out; omega
        clear hT hlt hc hm hm2
        generalize chAt l k = c at *
        obtain ⟨kk, body⟩ := c
        simp only at c1 c2 hm3
        have HONE := Lib.hid (fun W => one_any (kk, body) W (by simp only; omega))
        unfold vCh at HONE
        simp only at HONE
        generalize hd0 ++ (l.take k).flatMap oneL = acc at *
        by_cases h1 : kk ≤ last
        · have hV := Lib.hid (joinV_bad (v := n) (l := l) (c := 12) (by rw [hJ.out]; exact hO1.out (.inl h1)) (by decide))
          have hq : decide (kk ≤ last) = true := decide_eq_true h1
          clear h1
          go_wp2_with fail
          go_ret2
          exact ⟨by rw [hV.out]; rfl, (hb.out.alloc _).bel⟩
        · have hq : decide (kk ≤ last) = false := decide_eq_false h1
          by_cases h2 : 255 < kk
          · have hV := Lib.hid (joinV_bad (v := n) (l := l) (c := 12) (by rw [hJ.out]; exact hO1.out (.inr h2)) (by decide))
            have hq2 : decide (255 < kk) = true := decide_eq_true h2
            clear h1 h2
            go_wp2_with fail
            go_ret2
            exact ⟨by rw [hV.out]; rfl, (hb.out.alloc _).bel⟩
          · have hq2 : decide (255 < kk) = false := decide_eq_false h2
            by_cases h3 : 1048576 < body.size
            · have hV := Lib.hid (joinV_bad (v := n) (l := l) (c := 10) (by rw [hJ.out]; exact hO2.out (by rintro (h | h) <;> omega) h3) (by decide))
              have hq3 : decide ((1048576 : Int) < (body.size : Nat)) = true := decide_eq_true (by omega)
              clear h1 h2 h3
              go_wp2_with fail
              go_ret2
              exact ⟨by rw [hV.out]; rfl, (hb.out.alloc _).bel⟩
            · have hN := Lib.hid (hO3.out (by rintro (h | h) <;> omega) h3)
              have hq3 : decide ((1048576 : Int) < (body.size : Nat)) = false := decide_eq_false (by omega)
              clear h1 h2 h3 hO1 hO2 hO3
              go_wp2_with fail
              refine (HONE.out _).mono ?_
              rintro e w3 ⟨rfl, hb3⟩
              have hb4 := (hb.out.alloc _).below hb3
              replace hb4 := Lib.hid hb4
              clear hb3 hb
              go_wp2_with fail
              refine (w_str hb4.out (str (oneL (kk, body))) hlen (by rw [str_size]; omega)).mono ?_
              rintro e w4 ⟨rfl, hb5⟩
              rw [str_data, ← hF.out] at hb5
              replace hb5 := Lib.hid hb5
              clear hb4
              go_wp2_with fail
              go_roundw
              case rel => exact ⟨k + 1, kk, rfl, by go_num, by omega, hN, hb5⟩
              case measure => simp [intOf]; omega
      · have hV := Lib.hid (joinV_good (v := n) (l := l) (by rw [hJ.out]; exact joinGo_end hT.out hlt))
        obtain rfl : k = l.length := by omega
        have hge : decide (l.length < l.length) = false := decide_eq_false hlt
        rw [List.take_of_length_le (Nat.le_refl _), ← hhead.out] at hb
        clear hlt hT
        go_wp2_with fail
        refine (b_string hb.out).mono ?_
        rintro e w3 ⟨rfl, hb3⟩
        go_wp2_with fail
        go_ret2
        exact ⟨by rw [hV.out]; rfl, hb3⟩

end Ck
end Go.Proofs.Ytpccenaieeggmaa
