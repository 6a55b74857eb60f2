/-
  WALKS: chunk.Find and the document's; whether there are few chunks; whether two lists are the same. Conditions: none.
-/
import Derived.Test.YtpccenaieeggmaaChunkOne
import Derived.Deep.DeepCutAuto
namespace Go.Proofs.Ytpccenaieeggmaa
open Go.RowKit Go.Shelf
namespace Ck
open Mem Pk Bd

theorem some_chs {W : World} {a : Option Addr} {n c : Nat} {L : List Ch} (h : Chs W (.slice a n c) L) (hn : 0 < L.length) : ∃ b o, a = some ⟨b, o, none⟩ := by
  obtain ⟨⟨a', c', e1, -, -, h1⟩, -⟩ := h
  cases e1
  obtain ⟨b, o, e2, -, -⟩ := h1 hn
  exact ⟨b, o, e2⟩
theorem chs_val {W : World} {v : Value} {L : List Ch} (h : Chs W v L) : ∃ a c, v = .slice a L.length c := by
  obtain ⟨⟨a, c, e, -⟩, -⟩ := h
  exact ⟨a, c, e⟩

/-- what is found. -/
def findV (l : List Ch) (k : Int) : Value := .tuple #[.string ((findS l k).getD ByteArray.empty), .bool (findS l k).isSome]
theorem find_here {l : List Ch} {kind : Int} {k : Nat} (h : findS (l.drop k) kind = findS l kind) (hk : k < l.length) (he : (chAt l k).1 = kind) : findS l kind = some (chAt l k).2 := by
  rw [← h, drop_here l k hk, findS, if_pos he]
theorem find_next {l : List Ch} {kind : Int} {k : Nat} (h : findS (l.drop k) kind = findS l kind) (hk : k < l.length) (he : ¬ (chAt l k).1 = kind) : findS (l.drop (k + 1)) kind = findS l kind := by
  rw [← h, drop_here l k hk, findS, if_neg he]
theorem find_last {l : List Ch} {kind : Int} {k : Nat} (h : findS (l.drop k) kind = findS l kind) (hk : ¬ k < l.length) : findS l kind = none := by
  rw [← h, List.drop_eq_nil_of_le (by omega)]
  rfl

set_option maxRecDepth 100000 in
set_option maxHeartbeats 1000000 in
theorem rfind_any (v : Value) (l : List Ch) (kind : Int) (w : World) (h : Chs w v l) (hl : l.length ≤ 100000) :
    Calls Try.prog 13 #[v, .int .i64 kind] w fun e w' => e = .returned (findV l kind) ∧ Below w.heap.size w w' := by
  obtain ⟨a, cap, rfl⟩ := chs_val h
  have H := Lib.hid h
  clear h
  unfold findV
  go_enter Try.func13, Try.ntmps13
  go_wp2_with fail
  go_loopw [6] (fun i wr => ∃ k : Nat, i = .int .i64 k ∧ k ≤ l.length ∧ Hid (findS (l.drop k) kind = findS l kind) ∧ Hid (Below w.heap.size w wr)) (fun i _ => l.length - (intOf i).toNat)
  case atStart => exact ⟨0, rfl, by omega, Lib.hid rfl, Lib.hid (Below.refl _ _)⟩
  case round =>
    obtain ⟨k, rfl, hk, hT, hb⟩ := hrel
    by_cases hlt : k < l.length
    · obtain ⟨b, o, rfl⟩ := some_chs H.out (by omega)
      have hc := chs_at (chs_below H.out hb.out) hlt
      have c1 := hc.2.1
      have c2 := hc.2.2
      have hlt' : (k : Int) < l.length := by omega
      by_cases he : (chAt l k).1 = kind
      · have hF := Lib.hid (find_here hT.out hlt he)
        clear hT hlt
        rw [he] at c1
        clear he
        generalize (chAt l k).2 = body at *
        go_wp2_with fail
        go_ret2
        exact ⟨by rw [hF.out]; rfl, hb.out⟩
      · have hF := Lib.hid (find_next hT.out hlt he)
        have hq : ((chAt l k).1 == kind) = false := by rw [beq_eq_false_iff_ne]; exact he
        clear hT hlt he c2
        generalize (chAt l k).1 = kk at *
        go_wp2_with fail
        go_roundw
        case rel => exact ⟨k + 1, by go_num, by omega, hF, hb⟩
        case measure => simp [intOf]; omega
    · have hd := Lib.hid (find_last hT.out hlt)
      obtain rfl : k = l.length := by omega
      have hge : decide (l.length < l.length) = false := decide_eq_false hlt
      clear hlt hT
      go_wp2_with fail
      go_ret2
      exact ⟨by rw [hd.out]; rfl, hb.out⟩

set_option maxRecDepth 100000 in
set_option maxHeartbeats 1000000 in
theorem find_any (v : Value) (l : List Ch) (kind : Int) (w : World) (h : Chs w v l) (hl : l.length ≤ 100000) :
    Calls Try.prog 12 #[v, .int .i64 kind] w fun e w' => e = .returned (findV l kind) ∧ Below w.heap.size w w' := by
  obtain ⟨a, cap, rfl⟩ := chs_val h
  have H := Lib.hid h
  clear h
  unfold findV
  go_enter Try.func12, Try.ntmps12
  go_wp2_with fail
  go_loopw [10] (fun i wr => ∃ k : Nat, i = .int .i64 k ∧ k ≤ l.length ∧ Hid (findS (l.drop k) kind = findS l kind) ∧ Hid (Below w.heap.size w wr)) (fun i _ => l.length - (intOf i).toNat)
  case atStart => exact ⟨0, rfl, by omega, Lib.hid rfl, Lib.hid (Below.refl _ _)⟩
  case round =>
    obtain ⟨k, rfl, hk, hT, hb⟩ := hrel
    by_cases hlt : k < l.length
    · obtain ⟨b, o, rfl⟩ := some_chs H.out (by omega)
      have hc := chs_at (chs_below H.out hb.out) hlt
      have c1 := hc.2.1
      have c2 := hc.2.2
      have hlt' : (k : Int) < l.length := by omega
      have hbs := hb.out.size
      have hb0 := hb.out
      by_cases he : (chAt l k).1 = kind
      · have hF := Lib.hid (find_here hT.out hlt he)
        clear hT hlt
        rw [he] at c1
        clear he
        generalize (chAt l k).2 = body at *
        go_wp2_with fail
        go_ret2
        exact ⟨by rw [hF.out]; rfl, hb.out.alloc hbs _⟩
      · have hF := Lib.hid (find_next hT.out hlt he)
        have hq : ((chAt l k).1 == kind) = false := by rw [beq_eq_false_iff_ne]; exact he
        clear hT hlt he
        generalize (chAt l k).1 = kk at *
        generalize (chAt l k).2 = body at *
        go_wp2_with fail
        go_roundw
        case rel => exact ⟨k + 1, by go_num, by omega, hF, Lib.hid (hb.out.alloc hbs _)⟩
        case measure => simp [intOf]; omega
    · have hd := Lib.hid (find_last hT.out hlt)
      obtain rfl : k = l.length := by omega
      have hge : decide (l.length < l.length) = false := decide_eq_false hlt
      clear hlt hT
      go_wp2_with fail
      go_ret2
      exact ⟨by rw [hd.out]; rfl, hb.out⟩

/-- few chunks, none great. -/
def few (l : List Ch) : Bool := decide (l.length ≤ 20 ∧ ∀ c ∈ l, c.2.size ≤ 200)
theorem few_next {l : List Ch} {k : Nat} (h : ∀ c ∈ l.take k, c.2.size ≤ 200) (hk : k < l.length) (hc : (chAt l k).2.size ≤ 200) : ∀ c ∈ l.take (k + 1), c.2.size ≤ 200 := by
  intro c hm
  rw [take_next l k hk, List.mem_append, List.mem_singleton] at hm
  rcases hm with hm | rfl
  · exact h c hm
  · exact hc
theorem few_no {l : List Ch} {k : Nat} (hk : k < l.length) (hc : ¬ (chAt l k).2.size ≤ 200) : few l = false := decide_eq_false (fun e => hc (e.2 _ (chAt_mem hk)))

set_option maxRecDepth 100000 in
set_option maxHeartbeats 1000000 in
theorem few_any (v : Value) (l : List Ch) (w : World) (h : Chs w v l) :
    Calls Try.prog 8 #[v] w fun e w' => e = .returned (.bool (few l)) ∧ Below w.heap.size w w' := by
  obtain ⟨a, cap, rfl⟩ := chs_val h
  have H := Lib.hid h
  clear h
  by_cases hn : l.length ≤ 20
  · have hn1 : ¬ 20 < (l.length : Int) := by omega
    have hn2 : decide (20 < (l.length : Int)) = false := decide_eq_false hn1
    go_enter Try.func8, Try.ntmps8
    go_wp2_with fail
    go_loopw [3] (fun i wr => ∃ k : Nat, i = .int .i64 k ∧ k ≤ l.length ∧ Hid (∀ c ∈ l.take k, c.2.size ≤ 200) ∧ Hid (Below w.heap.size w wr)) (fun i _ => l.length - (intOf i).toNat)
    case atStart => exact ⟨0, rfl, by omega, Lib.hid (fun c hc => by simp at hc), Lib.hid (Below.refl _ _)⟩
    case round =>
      obtain ⟨k, rfl, hk, hT, hb⟩ := hrel
      by_cases hlt : k < l.length
      · obtain ⟨b, o, rfl⟩ := some_chs H.out (by omega)
        have hc := chs_at (chs_below H.out hb.out) hlt
        have c2 := hc.2.2
        have hlt' : (k : Int) < l.length := by omega
        by_cases he : (chAt l k).2.size ≤ 200
        · have hF := Lib.hid (few_next hT.out hlt he)
          clear hT hlt hc
          generalize (chAt l k).2 = body at *
          have hq : decide (200 < (body.size : Int)) = false := decide_eq_false (by omega)
          clear he
          go_wp2_with fail
          go_roundw
          case rel => exact ⟨k + 1, by go_num, by omega, hF, hb⟩
          case measure => simp [intOf]; omega
        · have hF := Lib.hid (few_no hlt he)
          clear hT hlt hc
          generalize (chAt l k).2 = body at *
          have hq : decide (200 < (body.size : Int)) = true := decide_eq_true (by omega)
          clear he
          go_wp2_with fail
          go_ret
          exact ⟨by rw [hF.out]; rfl, hb.out⟩
      · obtain rfl : k = l.length := by omega
        have hd : Hid (few l = true) := Lib.hid (decide_eq_true ⟨hn, by
          have := hT.out
          rw [List.take_of_length_le (Nat.le_refl _)] at this
          exact this⟩)
        have hge : decide (l.length < l.length) = false := decide_eq_false hlt
        clear hlt hT
        go_wp2_with fail
        go_ret
        exact ⟨by rw [hd.out]; rfl, hb.out⟩
  · have hn1 : 20 < (l.length : Int) := by omega
    have hn2 : decide (20 < (l.length : Int)) = true := decide_eq_true hn1
    have hd : Hid (few l = false) := Lib.hid (decide_eq_false (fun e => hn e.1))
    clear hn
    go_enter Try.func8, Try.ntmps8
    go_wp2_with fail
    go_ret
    exact ⟨by rw [hd.out]; rfl, Below.refl _ _⟩

/-- two lists are the same. -/
def sameC (a b : List Ch) : Bool := decide (a = b)
theorem same_next {a b : List Ch} {k : Nat} (h : a.take k = b.take k) (ha : k < a.length) (hb : k < b.length) (he : chAt a k = chAt b k) : a.take (k + 1) = b.take (k + 1) := by
  rw [take_next a k ha, take_next b k hb, h, he]
theorem sameC_no {a b : List Ch} {k : Nat} (he : ¬ chAt a k = chAt b k) : sameC a b = false := decide_eq_false (fun e => he (by rw [e]))

set_option maxRecDepth 100000 in
set_option maxHeartbeats 2000000 in
theorem rsame_any (va vb : Value) (a b : List Ch) (w : World) (ha : Chs w va a) (hb : Chs w vb b) (hl : a.length ≤ 100000) :
    Calls Try.prog 20 #[va, vb] w fun e w' => e = .returned (.bool (sameC a b)) ∧ Below w.heap.size w w' := by
  obtain ⟨pa, ca, rfl⟩ := chs_val ha
  obtain ⟨pb, cb, rfl⟩ := chs_val hb
  have HA := Lib.hid ha
  have HB := Lib.hid hb
  clear ha hb
  by_cases hn : a.length = b.length
  · have HN := Lib.hid hn
    rw [← hn]
    clear hn
    go_enter Try.func20, Try.ntmps20
    go_wp2_with fail
    go_loopw [5] (fun i wr => ∃ k : Nat, i = .int .i64 k ∧ k ≤ a.length ∧ Hid (a.take k = b.take k) ∧ Hid (Below w.heap.size w wr)) (fun i _ => a.length - (intOf i).toNat)
    case atStart => exact ⟨0, rfl, by omega, Lib.hid rfl, Lib.hid (Below.refl _ _)⟩
    case round =>
      obtain ⟨k, rfl, hk, hT, hb⟩ := hrel
      by_cases hlt : k < a.length
      · obtain ⟨ba, oa, rfl⟩ := some_chs HA.out (by omega)
        obtain ⟨bb, ob, rfl⟩ := some_chs HB.out (by have := HN.out; omega)
        have hca := chs_at (chs_below HA.out hb.out) hlt
        have hcb := chs_at (chs_below HB.out hb.out) (show k < b.length by have := HN.out; omega)
        have c1 := hca.2.1
        have c2 := hca.2.2
        have d1 := hcb.2.1
        have d2 := hcb.2.2
        have hlt' : (k : Int) < a.length := by omega
        have hF := Lib.hid (fun he => same_next hT.out hlt (show k < b.length by have := HN.out; omega) he)
        have hG := Lib.hid (fun he => sameC_no (a := a) (b := b) (k := k) he)
        clear hca hcb hT hlt
        generalize chAt a k = x at *
        generalize chAt b k = y at *
        obtain ⟨x1, x2⟩ := x
        obtain ⟨y1, y2⟩ := y
        simp only at c1 c2 d1 d2
        by_cases he : x1 = y1
        · subst he
          by_cases hg : x2 = y2
          · subst hg
            have hF2 := Lib.hid (hF.out rfl)
            clear hF hG
            go_wp2_with fail
            go_region
            all_goals
              go_wp2_with fail
              go_roundw
              case rel => exact ⟨k + 1, by go_num, by omega, hF2, Lib.hid hb.out.drew⟩
              case measure => simp [intOf]; omega
          · have hG2 := Lib.hid (hG.out (fun e => hg (congrArg Prod.snd e)))
            have hq : ¬ x2.toList = y2.toList := fun e => hg (by rw [ByteArray.toList_eq, ByteArray.toList_eq] at e; exact ext_list e)
            clear hF hG
            go_wp2_with fail
            go_region
            all_goals
              go_wp2_with fail
              go_ret
              exact ⟨by rw [hG2.out]; rfl, hb.out.drew⟩
        · have hG2 := Lib.hid (hG.out (fun e => he (congrArg Prod.fst e)))
          have hq : (x1 == y1) = false := by rw [beq_eq_false_iff_ne]; exact he
          clear hF hG
          go_wp2_with fail
          go_region
          all_goals
            go_wp2_with fail
            go_ret
            exact ⟨by rw [hG2.out]; rfl, hb.out.drew⟩
      · obtain rfl : k = a.length := by omega
        have hge : decide (a.length < a.length) = false := decide_eq_false hlt
        have hd : Hid (sameC a b = true) := Lib.hid (decide_eq_true (by
          have h1 := hT.out
          have h2 := HN.out
          rw [List.take_of_length_le (Nat.le_refl _), h2, List.take_of_length_le (Nat.le_refl _)] at h1
          exact h1))
        clear hlt hT HA HB
        go_wp2_with fail
        go_ret
        exact ⟨by rw [hd.out]; rfl, hb.out⟩
  · have hd : Hid (sameC a b = false) := Lib.hid (decide_eq_false (fun e => hn (by rw [e])))
    have hne : ((a.length : Int) != (b.length : Int)) = true := by rw [bne_iff_ne]; omega
    clear hn
    go_enter Try.func20, Try.ntmps20
    go_wp2_with fail
    go_ret
    exact ⟨by rw [hd.out]; rfl, Below.refl _ _⟩

end Ck
end Go.Proofs.Ytpccenaieeggmaa
