/-
  Words: what a sign is, by the program and by the reference. No condition.
-/
import Derived.Test.YtmmgbmmphmldeaaBase
import Derived.Test.YtmmgbmmphmldeaaPlain11
namespace Go.Proofs.Ytmmgbmmphmldeaa.walk
open Go.RowKit Go.Proofs.Ytmmgbmmphmldeaa.plain
open Go.Proofs.Ytmmgbmmphmldeaa.kit hiding nth
set_option linter.unusedVariables false

theorem ret_bool {a b : Bool} (h : a = b) : Ending.returned (.bool a) = .returned (.bool b) := by rw [h]
theorem ret_int {k : IntKind} {a b : Int} (h : a = b) : Ending.returned (.int k a) = .returned (.int k b) := by rw [h]
theorem inB_of {r : Int} {b : Bool} (h : (48 ≤ r ∧ r ≤ 57 ∨ 65 ≤ r ∧ r ≤ 90 ∨ 97 ≤ r ∧ r ≤ 122 ∨ 128 ≤ r) ↔ b = true) : b = inB r := by
  unfold inB; rw [Bool.eq_iff_iff, decide_eq_true_iff]; exact h.symm
theorem in_parts (r : Int) : r < 48 ∨ (48 ≤ r ∧ r ≤ 57) ∨ (58 ≤ r ∧ r < 65) ∨ (65 ≤ r ∧ r ≤ 90) ∨ (91 ≤ r ∧ r < 97) ∨ (97 ≤ r ∧ r ≤ 122) ∨ (123 ≤ r ∧ r < 128) ∨ 128 ≤ r := by omega

theorem in_any (r : Int) (w : World) : Calls Try.prog 10 #[.int .i32 r] w fun e w' => e = .returned (.bool (inB r)) ∧ w = w' := by
  rcases in_parts r with h | ⟨h, h'⟩ | ⟨h, h'⟩ | ⟨h, h'⟩ | ⟨h, h'⟩ | ⟨h, h'⟩ | ⟨h, h'⟩ | h
  all_goals
    go_enter Try.func10, Try.ntmps10
    go_wp2
    all_goals
      go_ret
      exact ⟨ret_bool (inB_of (by simp <;> omega)), rfl⟩
theorem rin_any (r : Int) (w : World) : Calls Try.prog 11 #[.int .i32 r] w fun e w' => e = .returned (.bool (inB r)) ∧ w = w' := by
  rcases in_parts r with h | ⟨h, h'⟩ | ⟨h, h'⟩ | ⟨h, h'⟩ | ⟨h, h'⟩ | ⟨h, h'⟩ | ⟨h, h'⟩ | h
  all_goals
    go_enter Try.func11, Try.ntmps11
    go_wp2
    all_goals
      go_ret
      exact ⟨ret_bool (inB_of (by simp <;> omega)), rfl⟩
theorem kind_of_blank {r : Int} (h : r = 9 ∨ r = 32) : kindI r = 0 := by unfold kindI; rw [if_pos h]
theorem kind_of_in {r : Int} (h : ¬ (r = 9 ∨ r = 32)) (h' : inB r = true ∨ r = 95) : kindI r = 1 := by unfold kindI; rw [if_neg h, if_pos h']
theorem kind_of_not {r : Int} (h : ¬ (r = 9 ∨ r = 32)) (h' : ¬ (inB r = true ∨ r = 95)) : kindI r = 2 := by unfold kindI; rw [if_neg h, if_neg h']
theorem kind_any (r : Int) (w : World) : Calls Try.prog 12 #[.int .i32 r] w fun e w' => e = .returned (.int .i64 (kindI r)) ∧ w = w' := by
  by_cases h9 : r = 9
  · have hk := kind_of_blank (.inl h9)
    subst h9
    go_enter Try.func12, Try.ntmps12
    go_wp2_with fail
    go_ret
    exact ⟨ret_int hk.symm, rfl⟩
  · by_cases h32 : r = 32
    · have hk := kind_of_blank (.inr h32)
      subst h32
      go_enter Try.func12, Try.ntmps12
      go_wp2_with fail
      go_ret
      exact ⟨ret_int hk.symm, rfl⟩
    · have hb : ¬ (r = 9 ∨ r = 32) := by omega
      have e9 : (r == 9) = false := by simpa using h9
      have e32 : (r == 32) = false := by simpa using h32
      obtain ⟨b, hB⟩ : ∃ b, inB r = b := ⟨_, rfl⟩
      have H := Lib.hid hB
      by_cases h95 : r = 95
      · have hk := Lib.hid (kind_of_in hb (.inr h95))
        clear hB h9 h32 hb
        subst h95
        cases b
        all_goals
          go_enter Try.func12, Try.ntmps12
          go_wp2_with (go_at_call 10; refine (in_any _ _).mono ?_; rw [H.out]; rintro e w1 ⟨rfl, rfl⟩)
          go_ret
          exact ⟨ret_int hk.out.symm, rfl⟩
      · have e95 : (r == 95) = false := by simpa using h95
        cases b
        · have hk := Lib.hid (kind_of_not hb (by rw [hB]; simpa using h95))
          clear hB h9 h32 hb h95
          go_enter Try.func12, Try.ntmps12
          go_wp2_with (go_at_call 10; refine (in_any _ _).mono ?_; rw [H.out]; rintro e w1 ⟨rfl, rfl⟩)
          go_ret
          exact ⟨ret_int hk.out.symm, rfl⟩
        · have hk := Lib.hid (kind_of_in hb (.inl hB))
          clear hB h9 h32 hb h95
          go_enter Try.func12, Try.ntmps12
          go_wp2_with (go_at_call 10; refine (in_any _ _).mono ?_; rw [H.out]; rintro e w1 ⟨rfl, rfl⟩)
          go_ret
          exact ⟨ret_int hk.out.symm, rfl⟩
theorem rkind_any (r : Int) (w : World) : Calls Try.prog 13 #[.int .i32 r] w fun e w' => e = .returned (.int .i64 (kindI r)) ∧ w = w' := by
  by_cases h9 : r = 9
  · have hk := kind_of_blank (.inl h9)
    subst h9
    go_enter Try.func13, Try.ntmps13
    go_wp2_with fail
    go_ret
    exact ⟨ret_int hk.symm, rfl⟩
  · by_cases h32 : r = 32
    · have hk := kind_of_blank (.inr h32)
      subst h32
      go_enter Try.func13, Try.ntmps13
      go_wp2_with fail
      go_ret
      exact ⟨ret_int hk.symm, rfl⟩
    · have hb : ¬ (r = 9 ∨ r = 32) := by omega
      have e9 : (r == 9) = false := by simpa using h9
      have e32 : (r == 32) = false := by simpa using h32
      obtain ⟨b, hB⟩ : ∃ b, inB r = b := ⟨_, rfl⟩
      have H := Lib.hid hB
      by_cases h95 : r = 95
      · have hk := Lib.hid (kind_of_in hb (.inr h95))
        clear hB h9 h32 hb
        subst h95
        cases b
        all_goals
          go_enter Try.func13, Try.ntmps13
          go_wp2_with (go_at_call 11; refine (rin_any _ _).mono ?_; rw [H.out]; rintro e w1 ⟨rfl, rfl⟩)
          go_ret
          exact ⟨ret_int hk.out.symm, rfl⟩
      · have e95 : (r == 95) = false := by simpa using h95
        cases b
        · have hk := Lib.hid (kind_of_not hb (by rw [hB]; simpa using h95))
          clear hB h9 h32 hb h95
          go_enter Try.func13, Try.ntmps13
          go_wp2_with (go_at_call 11; refine (rin_any _ _).mono ?_; rw [H.out]; rintro e w1 ⟨rfl, rfl⟩)
          go_ret
          exact ⟨ret_int hk.out.symm, rfl⟩
        · have hk := Lib.hid (kind_of_in hb (.inl hB))
          clear hB h9 h32 hb h95
          go_enter Try.func13, Try.ntmps13
          go_wp2_with (go_at_call 11; refine (rin_any _ _).mono ?_; rw [H.out]; rintro e w1 ⟨rfl, rfl⟩)
          go_ret
          exact ⟨ret_int hk.out.symm, rfl⟩
theorem not_any (r : Int) (w : World) : Calls Try.prog 32 #[.int .i32 r] w fun e w' => e = .returned (.bool (notIn r)) ∧ w = w' := by
  go_enter Try.func32, Try.ntmps32
  go_wp2_with (go_at_call 10; refine (in_any _ _).mono ?_; rintro e w1 ⟨rfl, rfl⟩)
  go_ret
  exact ⟨ret_bool rfl, rfl⟩
theorem blank_any (r : Int) (w : World) : Calls Try.prog 28 #[.int .i32 r] w fun e w' => e = .returned (.bool (blankB r)) ∧ w = w' := by
  go_enter Try.func28, Try.ntmps28
  go_wp2_with (go_at_call 12; refine (kind_any _ _).mono ?_; rintro e w1 ⟨rfl, rfl⟩)
  go_ret
  exact ⟨ret_bool rfl, rfl⟩
theorem quiet_left {P : Program} {f : FuncId} {args : Array Value} {w : World} {n : Nat} {v : Value}
    (h : Calls P f args (w.drewN n) fun e w' => e = .returned v ∧ w.drewN n = w') : Calls P f args (w.drewN n) fun e w'' => e = .returned v ∧ ∃ m, w'' = w.drewN m :=
  h.mono fun _ _ ⟨he, hm⟩ => ⟨he, n, hm.symm⟩
theorem next1_any (r k : Int) (b : Nat) (w : World) (hk : w.cell? ⟨b, 0, none⟩ = some (.int .i64 k)) : Calls Try.prog 27 #[.int .i32 r, .pointer (some ⟨b, 0, none⟩)] w fun e w' => e = .returned (.bool (isK k r)) ∧ ∃ n, w.drewN n = w' := by
  go_enter Try.func27, Try.ntmps27
  go_wp2_with fail
  go_quiet ((go_at_call 12; exact quiet_left (kind_any _ _)))
  go_wp2
  go_ret
  exact ⟨ret_bool rfl, nq, rfl⟩
theorem prev1_any (r k : Int) (b : Nat) (w : World) (hk : w.cell? ⟨b, 0, none⟩ = some (.int .i64 k)) : Calls Try.prog 30 #[.int .i32 r, .pointer (some ⟨b, 0, none⟩)] w fun e w' => e = .returned (.bool (isK k r)) ∧ ∃ n, w.drewN n = w' := by
  go_enter Try.func30, Try.ntmps30
  go_wp2_with fail
  go_quiet ((go_at_call 12; exact quiet_left (kind_any _ _)))
  go_wp2
  go_ret
  exact ⟨ret_bool rfl, nq, rfl⟩
theorem tail1_any (r k : Int) (b : Nat) (w : World) (hk : w.cell? ⟨b, 0, none⟩ = some (.int .i64 k)) : Calls Try.prog 31 #[.int .i32 r, .pointer (some ⟨b, 0, none⟩)] w fun e w' => e = .returned (.bool (isK k r)) ∧ ∃ n, w.drewN n = w' := by
  go_enter Try.func31, Try.ntmps31
  go_wp2_with fail
  go_quiet ((go_at_call 12; exact quiet_left (kind_any _ _)))
  go_wp2
  go_ret
  exact ⟨ret_bool rfl, nq, rfl⟩
theorem cell_nth {w : World} {A : Option Addr} {n : Nat} {zs : List Int} (h : IntsIn .i32 w A n zs) {j : Nat} (hj : j < n) :
    ∃ b off, A = some ⟨b, off, none⟩ ∧ b < w.heap.size ∧ w.cell? ⟨b, off + j, none⟩ = some (.int .i32 (nth zs j)) := h.at_ hj
theorem grown_set {a b : World} {g : Nat} (h : a.grownBy b (some g)) (i : Nat) (u : Value) : a.grownBy (b.setCell ⟨g, i, none⟩ u) (some g) :=
  ⟨h.os, h.tape, h.output, by simpa [World.setCell] using h.size, fun k hk hne => (Below.heap_setCell b ⟨g, i, none⟩ u k (fun e => hne (by rw [e]))).trans (h.block k hk hne)⟩
theorem grown_drewN {a b : World} {g : Option Nat} (h : a.grownBy b g) (n : Nat) : a.grownBy (b.drewN n) g := ⟨h.os, h.tape, h.output, h.size, h.block⟩

end Go.Proofs.Ytmmgbmmphmldeaa.walk
