/-
  The sum of texts, one behind the other; a text with its sum behind it: the walks of two laws. No condition.
-/
import Derived.Test.YtmhlnfijghfngaaCrcLive
import Derived.Test.YtmhlnfijghfngaaOpen
namespace Go.Proofs.Ytmhlnfijghfngaa
open Go.RowKit
namespace Crc

theorem data_append (s t : ByteArray) : (s ++ t).data.toList = s.data.toList ++ t.data.toList := by
  rw [ByteArray.data_append, Array.toList_append]
theorem size_mk (F : List UInt8) : (ByteArray.mk F.toArray).size = F.length := List.size_toArray
theorem size_list (s : ByteArray) : s.data.toList.length = s.size := by rw [Array.length_toList]; rfl

theorem combine_size (l : List UInt8) (t : ByteArray) : zeros (more 0 l) (t.size : Int) ^^^ more 0 t.data.toList = more 0 (l ++ t.data.toList) := by
  rw [← combine l t.data.toList, size_list]

theorem combine_sizes (l : List UInt8) (t u : ByteArray) : zeros (more 0 l) ((t.size : Int) + (u.size : Int)) ^^^ more 0 (t.data.toList ++ u.data.toList) = more 0 (l ++ (t.data.toList ++ u.data.toList)) := by
  rw [← combine l (t.data.toList ++ u.data.toList), List.length_append, size_list, size_list, Int.natCast_add]

set_option maxRecDepth 100000 in
set_option maxHeartbeats 4000000 in
theorem joins_main (s t u : ByteArray) (w : World) (h1 : s.size ≤ 500) (h2 : t.size ≤ 500) (h3 : u.size ≤ 500) :
    Calls Try.prog 4 #[.string s, .string t, .string u] w fun e w' => e = .returned (.bool true) ∧ Below w.heap.size w w' := by
  have g1 : ¬ (500 : Int) < (s.size : Int) := by omega
  have g2 : ¬ (500 : Int) < (t.size : Int) := by omega
  have g3 : ¬ (500 : Int) < (u.size : Int) := by omega
  have z1 : s.size ≤ maxLen := by unfold maxLen; omega
  have z2 : t.size ≤ maxLen := by unfold maxLen; omega
  have z3 : u.size ≤ maxLen := by unfold maxLen; omega
  go_enter Try.func4, Try.ntmps4
  go_wp2_with fail
  refine (sum_any _ _ (by rw [ByteArray.size_append]; unfold maxLen; omega)).mono ?_
  rintro e w1 ⟨rfl, hb1⟩
  rw [data_append]
  go_wp2_with fail
  refine (sum_any _ _ (by rw [ByteArray.size_append, ByteArray.size_append]; unfold maxLen; omega)).mono ?_
  rintro e w2 ⟨rfl, hb2⟩
  rw [data_append, data_append]
  go_wp2_with fail
  refine (sum_any _ _ z1).mono ?_
  rintro e w3 ⟨rfl, hb3⟩
  go_wp2_with fail
  refine (more_any _ _ _ (more_lt (by decide) _) z2).mono ?_
  rintro e w4 ⟨rfl, hb4⟩
  rw [more_append]
  go_wp2_with fail
  refine (sum_any _ _ z1).mono ?_
  rintro e w5 ⟨rfl, hb5⟩
  go_wp2_with fail
  refine (sum_any _ _ z2).mono ?_
  rintro e w6 ⟨rfl, hb6⟩
  go_wp2_with fail
  refine (combine_any _ _ (t.size : Int) _ (more_lt (by decide) _) (more_lt (by decide) _) (by omega)).mono ?_
  rintro e w7 ⟨rfl, hb7⟩
  rw [combine_size]
  go_wp2_with fail
  refine (sum_any _ _ z3).mono ?_
  rintro e w8 ⟨rfl, hb8⟩
  go_wp2_with fail
  refine (combine_any _ _ (u.size : Int) _ (more_lt (by decide) _) (more_lt (by decide) _) (by omega)).mono ?_
  rintro e w9 ⟨rfl, hb9⟩
  rw [combine_size]
  have e1 : (((more 0 (s.data.toList ++ t.data.toList ++ u.data.toList) : Nat) : Int) == ((more 0 (s.data.toList ++ (t.data.toList ++ u.data.toList)) : Nat) : Int)) = true := by rw [List.append_assoc]; simp
  go_wp2_with fail
  refine (sum_any _ _ z1).mono ?_
  rintro e w10 ⟨rfl, hb10⟩
  go_wp2_with fail
  refine (sum_any _ _ (by rw [ByteArray.size_append]; unfold maxLen; omega)).mono ?_
  rintro e w11 ⟨rfl, hb11⟩
  rw [data_append]
  go_wp2_with fail
  refine (combine_any _ _ ((t.size : Int) + (u.size : Int)) _ (more_lt (by decide) _) (more_lt (by decide) _) (by omega)).mono ?_
  rintro e w12 ⟨rfl, hb12⟩
  rw [combine_sizes]
  go_wp2_with fail
  refine (live_any _).mono ?_
  rintro e w13 ⟨rfl, hb13⟩
  go_wp2_with fail
  go_ret
  have s1 := hb1.size; have s2 := hb2.size; have s3 := hb3.size; have s4 := hb4.size; have s5 := hb5.size; have s6 := hb6.size
  have s7 := hb7.size; have s8 := hb8.size; have s9 := hb9.size; have s10 := hb10.size; have s11 := hb11.size; have s12 := hb12.size
  exact ⟨rfl, hb1.trans <| (hb2.mono (by omega)).trans <| (hb3.mono (by omega)).trans <| (hb4.mono (by omega)).trans <| (hb5.mono (by omega)).trans <| (hb6.mono (by omega)).trans <| (hb7.mono (by omega)).trans <| (hb8.mono (by omega)).trans <| (hb9.mono (by omega)).trans <| (hb10.mono (by omega)).trans <| (hb11.mono (by omega)).trans <| (hb12.mono (by omega)).trans <| hb13.mono (by omega)⟩

theorem joins_walk (s t u : ByteArray) (w : World) :
    Calls Try.prog 4 #[.string s, .string t, .string u] w fun e w' => e = .returned (.bool true) ∧ Below w.heap.size w w' := by
  by_cases h1 : s.size ≤ 500
  · have g1 : ¬ (500 : Int) < (s.size : Int) := by omega
    by_cases h2 : t.size ≤ 500
    · have g2 : ¬ (500 : Int) < (t.size : Int) := by omega
      by_cases h3 : u.size ≤ 500
      · exact joins_main s t u w h1 h2 h3
      · have g3 : (500 : Int) < (u.size : Int) := by omega
        go_enter Try.func4, Try.ntmps4
        go_wp2_with fail
        refine (live_any _).mono ?_
        rintro e w1 ⟨rfl, hb1⟩
        go_wp2_with fail
        go_ret
        exact ⟨rfl, hb1⟩
    · have g2 : (500 : Int) < (t.size : Int) := by omega
      go_enter Try.func4, Try.ntmps4
      go_wp2_with fail
      refine (live_any _).mono ?_
      rintro e w1 ⟨rfl, hb1⟩
      go_wp2_with fail
      go_ret
      exact ⟨rfl, hb1⟩
  · have g1 : (500 : Int) < (s.size : Int) := by omega
    go_enter Try.func4, Try.ntmps4
    go_wp2_with fail
    refine (live_any _).mono ?_
    rintro e w1 ⟨rfl, hb1⟩
    go_wp2_with fail
    go_ret
    exact ⟨rfl, hb1⟩

theorem joins_ok (W : World) (b : Nat) (v0 v1 v2 : Value) (o0 : Value.okWide Try.prog W .any b 9 v0) (o1 : Value.okWide Try.prog W .any b 9 v1) (o2 : Value.okWide Try.prog W .any b 9 v2) :
    Calls Try.prog 4 #[v0, v1, v2] W fun e w' => e = .returned (.bool true) ∧ Below W.heap.size W w' := by
  obtain ⟨s, rfl, hs⟩ := Opened.ok_string Try.underlying9 o0
  obtain ⟨t, rfl, ht⟩ := Opened.ok_string Try.underlying9 o1
  obtain ⟨u, rfl, hu⟩ := Opened.ok_string Try.underlying9 o2
  exact joins_walk s t u W

/-! ### a sealed text -/
theorem four_text (w : World) (C : Nat) (h : C < lid) : (convert 32 9 (.slice (some ⟨w.heap.size, 0, none⟩) 4 4)).run Try.prog
      (w.alloc (.cells #[.int .u8 ((C : Int) % 256), .int .u8 ((C : Int) / 256 % 256), .int .u8 ((C : Int) / 65536 % 256), .int .u8 ((C : Int) / 16777216)] 5)) =
    .ok (.string ⟨(four C).toArray⟩) (w.alloc (.cells #[.int .u8 ((C : Int) % 256), .int .u8 ((C : Int) / 256 % 256), .int .u8 ((C : Int) / 65536 % 256), .int .u8 ((C : Int) / 16777216)] 5)) := by
  have hn := heap_alloc_last w (.cells #[.int .u8 ((C : Int) % 256), .int .u8 ((C : Int) / 256 % 256), .int .u8 ((C : Int) / 65536 % 256), .int .u8 ((C : Int) / 16777216)] 5)
  refine run_convert_bytes_back (P := Try.prog) _ 32 9 5 ⟨w.heap.size, 0, none⟩ 4 (four C) Try.underlying32 Try.underlying5 Try.underlying9 ?_
  intro j hj
  have hj' : j < 4 := hj
  rw [Addr.add_lit, Nat.zero_add, cell_of_row _ _ _ _ _ _ hn]
  have h' : C < 4294967296 := h
  match j, hj' with
  | 0, _ => simp [four]
  | 1, _ => simp [four]
  | 2, _ => simp [four]
  | 3, _ => simp [four]; omega

theorem four_is (w : World) (C : Nat) (h : C < lid) : ∃ T : ByteArray, T.data.toList = four C ∧ (T.size ≤ 4 ∧ 4 ≤ T.size) ∧ (convert 32 9 (.slice (some ⟨w.heap.size, 0, none⟩) 4 4)).run Try.prog
      (w.alloc (.cells #[.int .u8 ((C : Int) % 256), .int .u8 ((C : Int) / 256 % 256), .int .u8 ((C : Int) / 65536 % 256), .int .u8 ((C : Int) / 16777216)] 5)) =
    .ok (.string T) (w.alloc (.cells #[.int .u8 ((C : Int) % 256), .int .u8 ((C : Int) / 256 % 256), .int .u8 ((C : Int) / 65536 % 256), .int .u8 ((C : Int) / 16777216)] 5)) :=
  ⟨⟨(four C).toArray⟩, rfl, ⟨by rw [size_mk]; exact Nat.le_refl 4, by rw [size_mk]; exact Nat.le_refl 4⟩, four_text w C h⟩

set_option maxRecDepth 100000 in
set_option maxHeartbeats 4000000 in
theorem sealed_main (s : ByteArray) (w : World) (h1 : s.size ≤ 500) :
    Calls Try.prog 7 #[.string s] w fun e w' => e = .returned (.bool true) ∧ Below w.heap.size w w' := by
  have g1 : ¬ (500 : Int) < (s.size : Int) := by omega
  have HS := Lib.hid (Crc.sealed s.data.toList)
  have hl := more_lt (a := 0) (by decide) s.data.toList
  go_enter Try.func7, Try.ntmps7
  go_wp2_with fail
  refine (sum_any _ _ (by unfold maxLen; omega)).mono ?_
  rintro e w1 ⟨rfl, hb1⟩
  have HM := Lib.hid (more_append 0 s.data.toList (four (more 0 s.data.toList)))
  generalize more 0 s.data.toList = C at *
  have hl' : C < 4294967296 := hl
  obtain ⟨T, hT, ⟨hs4, hs4'⟩, hcv⟩ := four_is w1 C hl
  replace hT := Lib.hid hT
  go_wp2_with fail
  refine (sum_any _ _ (by rw [ByteArray.size_append]; unfold maxLen; omega)).mono ?_
  rintro e w2 ⟨rfl, hb2⟩
  rw [data_append, hT.out, HS.out]
  go_wp2_with fail
  rw [show (s ++ T).extract s.size (s.size + T.size) = T from ByteArray.extract_append_eq_right rfl rfl]
  refine (more_any _ _ _ hl (by unfold maxLen; omega)).mono ?_
  rintro e w3 ⟨rfl, hb3⟩
  rw [hT.out, HM.out, HS.out]
  go_wp2_with fail
  refine (live_any _).mono ?_
  rintro e w4 ⟨rfl, hb4⟩
  go_wp2_with fail
  go_ret
  have s1 := hb1.size
  have s2 := hb2.size
  have s3 := hb3.size
  simp at s2
  exact ⟨rfl, hb1.trans <| ((Below.refl _ _).alloc hb1.size _).trans <| (hb2.mono (by simp; omega)).trans <| (hb3.mono (by omega)).trans <| hb4.mono (by omega)⟩

theorem sealed_ok (W : World) (b : Nat) (v0 : Value) (o0 : Value.okWide Try.prog W .any b 9 v0) :
    Calls Try.prog 7 #[v0] W fun e w' => e = .returned (.bool true) ∧ Below W.heap.size W w' := by
  obtain ⟨s, rfl, hs⟩ := Opened.ok_string Try.underlying9 o0
  by_cases h1 : s.size ≤ 500
  · exact sealed_main s W h1
  · have g1 : (500 : Int) < (s.size : Int) := by omega
    go_enter Try.func7, Try.ntmps7
    go_wp2_with fail
    refine (live_any _).mono ?_
    rintro e w1 ⟨rfl, hb1⟩
    go_wp2_with fail
    go_ret
    exact ⟨rfl, hb1⟩

end Crc
end Go.Proofs.Ytmhlnfijghfngaa
