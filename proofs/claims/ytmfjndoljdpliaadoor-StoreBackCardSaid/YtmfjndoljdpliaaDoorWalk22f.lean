/-
  A past: bytes are cut at the first byte 10 (strings.Cut); the signs of one line (store.line). No condition but the library's two tables and a bound on the bytes.
-/
import Derived.Test.YtmfjndoljdpliaaDoorWalk22e
import Derived.Lib.IndexLaws
namespace Go.Proofs.YtmfjndoljdpliaaDoor.walk
open Go.RowKit Go.Proofs.YtmfjndoljdpliaaDoor.kit Go.Proofs.YtmfjndoljdpliaaDoor.plain
set_option linter.unusedVariables false

theorem size_rest (s : ByteArray) (k : Nat) : (s.extract k s.size).size = s.size - k ∧ L (s.extract k s.size) = (L s).drop k := by
  have e : L (s.extract k s.size) = (L s).drop k := by rw [L_extract, List.take_of_length_le (by rw [L_length]; exact Nat.le_refl _)]
  exact ⟨by rw [← L_length, e, List.length_drop, L_length], e⟩
set_option maxHeartbeats 1000000 in
theorem lite_yes (s : ByteArray) (i : Nat) (w : World) (hi : Lib.indexByte (L s) 10 = (i : Int)) (hlt : i < s.size) (hs : s.size ≤ 1000000) :
    Calls Tryd.prog 28 #[.string s, .string ⟨#[10]⟩] w fun e w' => e = .returned (.tuple #[.string (s.extract 0 i), .string (s.extract (i + 1) s.size), .bool true]) ∧ Nx w w' := by
  have c1 := Tryd.stringslite_Index_one s 10 w
  rw [show Lib.indexByte s.data.toList 10 = (i : Int) from hi] at c1
  have C1 := Lib.hid c1
  clear c1 hi
  have d1 : decide ((0 : Int) ≤ (i : Int)) = true := decide_eq_true (by omega)
  have a0 : (0 : Int) ≤ (i : Int) := by omega
  have a1 : (i : Int) ≤ (s.size : Int) := by omega
  have a2 : (i : Int) + 1 ≤ (s.size : Int) := by omega
  have a3 : (0 : Int) ≤ (i : Int) + 1 := by omega
  have a4 : ((i : Int) + 1).toNat = i + 1 := by omega
  have a5 : IntKind.i64.wrap ((i : Int) + 1) = (i : Int) + 1 := IntWalk.i64_in _ (by omega)
  go_enter Tryd.func28, Tryd.ntmps28
  go_wp2_with fail
  refine C1.out.mono ?_
  rintro e w1 ⟨rfl, rfl⟩
  clear C1
  go_wp2_with fail
  go_quiet (fail)
  go_wp2_with fail
  refine bodyPost_ret (v := .tuple #[.string (s.extract 0 i), .string (s.extract (i + 1) s.size), .bool true]) (by simp [results, Tryd.results28, go_sem]) rfl ⟨rfl, ?_⟩
  exact (Nx.refl _).drewN _
theorem lite_no (s : ByteArray) (w : World) (hi : Lib.indexByte (L s) 10 = -1) :
    Calls Tryd.prog 28 #[.string s, .string ⟨#[10]⟩] w fun e w' => e = .returned (.tuple #[.string s, .string ⟨#[]⟩, .bool false]) ∧ Nx w w' := by
  have c1 := Tryd.stringslite_Index_one s 10 w
  rw [show Lib.indexByte s.data.toList 10 = -1 from hi] at c1
  have C1 := Lib.hid c1
  clear c1 hi
  go_enter Tryd.func28, Tryd.ntmps28
  go_wp2_with fail
  refine C1.out.mono ?_
  rintro e w1 ⟨rfl, rfl⟩
  clear C1
  go_wp2_with fail
  refine bodyPost_ret (v := .tuple #[.string s, .string ⟨#[]⟩, .bool false]) (by simp [results, Tryd.results28, go_sem]) rfl ⟨rfl, ?_⟩
  exact Nx.refl _
theorem cut_at (s : ByteArray) (x y : ByteArray) (b : Bool) (w : World)
    (h : Calls Tryd.prog 28 #[.string s, .string ⟨#[10]⟩] w fun e w' => e = .returned (.tuple #[.string x, .string y, .bool b]) ∧ Nx w w') :
    Calls Tryd.prog 19 #[.string s, .string ⟨#[10]⟩] w fun e w' => e = .returned (.tuple #[.string x, .string y, .bool b]) ∧ Nx w w' := by
  have C1 := Lib.hid h
  clear h
  go_enter Tryd.func19, Tryd.ntmps19
  go_wp2_with fail
  refine C1.out.mono ?_
  rintro e w1 ⟨rfl, x1⟩
  clear C1
  go_wp2_with fail
  refine bodyPost_ret (v := .tuple #[.string x, .string y, .bool b]) (by simp [results, Tryd.results19, go_sem]) rfl ⟨rfl, x1⟩
/-- the bytes ahead of the first byte 10, those behind it; or there is none -/
theorem cut_any (s : ByteArray) (hs : s.size ≤ 1000000) :
    (∃ x y : ByteArray, L s = L x ++ 10 :: L y ∧ (10 : UInt8) ∉ L x ∧ ∀ w, Calls Tryd.prog 19 #[.string s, .string ⟨#[10]⟩] w fun e w' => e = .returned (.tuple #[.string x, .string y, .bool true]) ∧ Nx w w') ∨
    ((10 : UInt8) ∉ L s ∧ ∀ w, Calls Tryd.prog 19 #[.string s, .string ⟨#[10]⟩] w fun e w' => e = .returned (.tuple #[.string s, .string ⟨#[]⟩, .bool false]) ∧ Nx w w') := by
  have hge := Lib.indexByte_ge (L s) 10
  by_cases h : Lib.indexByte (L s) 10 = -1
  · right
    refine ⟨fun hm => ?_, fun w => cut_at _ _ _ _ w (lite_no s w h)⟩
    obtain ⟨k, hk⟩ := List.mem_iff_getElem?.1 hm
    exact Lib.indexByte_none h k hk
  · left
    obtain ⟨i, hi⟩ : ∃ i : Nat, Lib.indexByte (L s) 10 = (i : Int) := ⟨(Lib.indexByte (L s) 10).toNat, by omega⟩
    obtain ⟨h1, h2⟩ := Lib.indexByte_some hi
    have hlt : i < (L s).length := (List.getElem?_eq_some_iff.1 h1).1
    have hg : (L s)[i] = 10 := (List.getElem?_eq_some_iff.1 h1).2
    rw [L_length] at hlt
    refine ⟨s.extract 0 i, s.extract (i + 1) s.size, ?_, fun hm => ?_, fun w => cut_at _ _ _ _ w (lite_yes s i w hi hlt hs)⟩
    · rw [(size_rest s (i + 1)).2, L_extract, List.drop_zero]
      conv => lhs; rw [← List.take_append_drop i (L s), List.drop_eq_getElem_cons (by rw [L_length]; exact hlt), hg]
    · rw [L_extract, List.drop_zero] at hm
      obtain ⟨k, hk⟩ := List.mem_iff_getElem?.1 hm
      have hki : k < i := by
        have := (List.getElem?_eq_some_iff.1 hk).1
        rw [List.length_take] at this
        omega
      rw [List.getElem?_take_of_lt hki] at hk
      exact h2 k hki hk
end Go.Proofs.YtmfjndoljdpliaaDoor.walk
