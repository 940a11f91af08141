/-
  Keys: the kind of key that a sequence makes, by the program and by the reference. No condition. (Printed by a program of mine, gen16a.py.)
-/
import Derived.Test.YtmfccecjphfkiaaDoorWalk01h
import Derived.Test.YtmfccecjphfkiaaDoorPlain16
namespace Go.Proofs.YtmfccecjphfkiaaDoor.walk
open Go.RowKit Go.Proofs.YtmfccecjphfkiaaDoor.kit Go.Proofs.YtmfccecjphfkiaaDoor.plain
set_option linter.unusedVariables false

theorem str_q {s : ByteArray} {c : List UInt8} (h : L s ≠ c) : (s.toList == c) = false := by
  rw [Lib.toList_data]; exact beq_eq_false_iff_ne.2 h
def tabS (k : Nat) : ByteArray := if k = 0 then ⟨#[65]⟩ else if k = 1 then ⟨#[66]⟩ else if k = 2 then ⟨#[67]⟩ else if k = 3 then ⟨#[68]⟩ else if k = 4 then ⟨#[72]⟩ else if k = 5 then ⟨#[49, 126]⟩ else if k = 6 then ⟨#[55, 126]⟩ else if k = 7 then ⟨#[70]⟩ else if k = 8 then ⟨#[52, 126]⟩ else if k = 9 then ⟨#[56, 126]⟩ else ⟨#[51, 126]⟩
def tabK (k : Nat) : Int := if k = 0 then 3 else if k = 1 then 4 else if k = 2 then 5 else if k = 3 then 6 else if k = 4 then 7 else if k = 5 then 7 else if k = 6 then 7 else if k = 7 then 8 else if k = 8 then 8 else if k = 9 then 8 else 9
theorem tab_idx (k : Nat) (h : k < 11) : ∀ w : World, (Instr.index 65 (.agg #[.string ⟨#[65]⟩, .int .i64 3, .string ⟨#[66]⟩, .int .i64 4, .string ⟨#[67]⟩, .int .i64 5, .string ⟨#[68]⟩, .int .i64 6, .string ⟨#[72]⟩, .int .i64 7, .string ⟨#[49, 126]⟩, .int .i64 7, .string ⟨#[55, 126]⟩, .int .i64 7, .string ⟨#[70]⟩, .int .i64 8, .string ⟨#[52, 126]⟩, .int .i64 8, .string ⟨#[56, 126]⟩, .int .i64 8, .string ⟨#[51, 126]⟩, .int .i64 9]) (.int .i64 (k : Int))).run Tryd.prog w = .ok (.agg #[.string (tabS k), .int .i64 (tabK k)]) w := by
  rcases (show k = 0 ∨ k = 1 ∨ k = 2 ∨ k = 3 ∨ k = 4 ∨ k = 5 ∨ k = 6 ∨ k = 7 ∨ k = 8 ∨ k = 9 ∨ k = 10 by omega) with rfl | rfl | rfl | rfl | rfl | rfl | rfl | rfl | rfl | rfl | rfl
  · exact fun _ => by kernel_rfl
  · exact fun _ => by kernel_rfl
  · exact fun _ => by kernel_rfl
  · exact fun _ => by kernel_rfl
  · exact fun _ => by kernel_rfl
  · exact fun _ => by kernel_rfl
  · exact fun _ => by kernel_rfl
  · exact fun _ => by kernel_rfl
  · exact fun _ => by kernel_rfl
  · exact fun _ => by kernel_rfl
  · exact fun _ => by kernel_rfl
theorem tab_kind (k : Nat) (h : k < 11) : kindOf (L (tabS k)) = tabK k := by
  rcases (show k = 0 ∨ k = 1 ∨ k = 2 ∨ k = 3 ∨ k = 4 ∨ k = 5 ∨ k = 6 ∨ k = 7 ∨ k = 8 ∨ k = 9 ∨ k = 10 by omega) with rfl | rfl | rfl | rfl | rfl | rfl | rfl | rfl | rfl | rfl | rfl <;> rfl
theorem kind_none (l : List UInt8) (h : ∀ j, j < 11 → l ≠ L (tabS j)) : kindOf l = 11 := by
  have h0 : l ≠ [65] := h 0 (by omega)
  have h1 : l ≠ [66] := h 1 (by omega)
  have h2 : l ≠ [67] := h 2 (by omega)
  have h3 : l ≠ [68] := h 3 (by omega)
  have h4 : l ≠ [72] := h 4 (by omega)
  have h5 : l ≠ [49, 126] := h 5 (by omega)
  have h6 : l ≠ [55, 126] := h 6 (by omega)
  have h7 : l ≠ [70] := h 7 (by omega)
  have h8 : l ≠ [52, 126] := h 8 (by omega)
  have h9 : l ≠ [56, 126] := h 9 (by omega)
  have h10 : l ≠ [51, 126] := h 10 (by omega)
  unfold kindOf
  rw [if_neg h0, if_neg h1, if_neg h2, if_neg h3, if_neg h4, if_neg h5, if_neg h6, if_neg h7, if_neg h8, if_neg h9, if_neg h10]

set_option maxRecDepth 100000 in
set_option maxHeartbeats 2000000 in
theorem kind_any (s : ByteArray) (w : World) : Calls Tryd.prog 36 #[.string s] w fun e w' => e = .returned (.int .i64 (kindOf (L s))) ∧ Nx w w' := by
  generalize hV : kindOf (L s) = V
  have HV := Lib.hid hV
  clear hV
  go_enter Tryd.func36, Tryd.ntmps36
  go_wp2_with fail
  go_loopw [4, 17] (fun _ i wr => ∃ k : Nat, i = .int .i64 k ∧ k ≤ 11 ∧ Hid (∀ j, j < k → L s ≠ L (tabS j)) ∧ Nx w wr) (fun _ i _ => 11 - (intOf i).toNat)
  case atStart => exact ⟨0, rfl, by omega, Lib.hid (fun j h => by omega), Nx.refl _⟩
  case round =>
    obtain ⟨k, rfl, hk, HA, hN⟩ := hrel
    by_cases hlt : k < 11
    · have q1 : decide ((k : Int) < 11) = true := decide_eq_true (by omega)
      have hi := tab_idx k hlt
      by_cases he : L s = L (tabS k)
      · have hVk : tabK k = V := by rw [← HV.out, he, tab_kind k hlt]
        rw [hVk] at hi
        have hq : ((tabS k).toList == s.toList) = true := by rw [L_inj he]; simp
        clear HV HA he hVk
        generalize tabS k = S at *
        go_wp2_with fail
        go_ret
        exact ⟨rfl, hN.alloc _⟩
      · have hq : ((tabS k).toList == s.toList) = false := by
          rw [Lib.toList_data, Lib.toList_data]; exact beq_eq_false_iff_ne.2 (fun e => he e.symm)
        have HE := Lib.hid he
        clear he
        generalize hS : tabS k = S at *
        have HS := Lib.hid hS
        clear hS
        generalize tabK k = Z at *
        go_wp2_with fail
        go_roundw
        case rel =>
          refine ⟨k + 1, by go_num, by omega, Lib.hid fun j hj => ?_, hN.alloc _⟩
          rcases Nat.lt_or_ge j k with h3 | h3
          · exact HA.out j h3
          · obtain rfl : j = k := by omega
            rw [HS.out]
            exact HE.out
        case measure => simp [intOf]; omega
    · have q1 : decide ((k : Int) < 11) = false := decide_eq_false (by omega)
      obtain rfl : V = 11 := by rw [← HV.out]; exact kind_none _ fun j hj => HA.out j (by omega)
      clear HV HA
      go_wp2_with fail
      go_ret
      exact ⟨rfl, hN⟩

set_option maxRecDepth 100000 in
set_option maxHeartbeats 2000000 in
theorem rseq_any (s : ByteArray) (w : World) : Calls Tryd.prog 28 #[.string s] w fun e w' => e = .returned (.int .i64 (kindOf (L s))) ∧ w = w' := by
  by_cases h0 : L s = [65]
  · obtain rfl : s = ⟨#[65]⟩ := L_inj h0
    rw [show kindOf (L ⟨#[65]⟩) = 3 from rfl]
    go_enter Tryd.func28, Tryd.ntmps28
    go_wp2_with fail
    go_ret
    exact ⟨rfl, rfl⟩
  by_cases h1 : L s = [66]
  · obtain rfl : s = ⟨#[66]⟩ := L_inj h1
    rw [show kindOf (L ⟨#[66]⟩) = 4 from rfl]
    go_enter Tryd.func28, Tryd.ntmps28
    go_wp2_with fail
    go_ret
    exact ⟨rfl, rfl⟩
  by_cases h2 : L s = [67]
  · obtain rfl : s = ⟨#[67]⟩ := L_inj h2
    rw [show kindOf (L ⟨#[67]⟩) = 5 from rfl]
    go_enter Tryd.func28, Tryd.ntmps28
    go_wp2_with fail
    go_ret
    exact ⟨rfl, rfl⟩
  by_cases h3 : L s = [68]
  · obtain rfl : s = ⟨#[68]⟩ := L_inj h3
    rw [show kindOf (L ⟨#[68]⟩) = 6 from rfl]
    go_enter Tryd.func28, Tryd.ntmps28
    go_wp2_with fail
    go_ret
    exact ⟨rfl, rfl⟩
  by_cases h4 : L s = [72]
  · obtain rfl : s = ⟨#[72]⟩ := L_inj h4
    rw [show kindOf (L ⟨#[72]⟩) = 7 from rfl]
    go_enter Tryd.func28, Tryd.ntmps28
    go_wp2_with fail
    go_ret
    exact ⟨rfl, rfl⟩
  by_cases h5 : L s = [49, 126]
  · obtain rfl : s = ⟨#[49, 126]⟩ := L_inj h5
    rw [show kindOf (L ⟨#[49, 126]⟩) = 7 from rfl]
    go_enter Tryd.func28, Tryd.ntmps28
    go_wp2_with fail
    go_ret
    exact ⟨rfl, rfl⟩
  by_cases h6 : L s = [55, 126]
  · obtain rfl : s = ⟨#[55, 126]⟩ := L_inj h6
    rw [show kindOf (L ⟨#[55, 126]⟩) = 7 from rfl]
    go_enter Tryd.func28, Tryd.ntmps28
    go_wp2_with fail
    go_ret
    exact ⟨rfl, rfl⟩
  by_cases h7 : L s = [70]
  · obtain rfl : s = ⟨#[70]⟩ := L_inj h7
    rw [show kindOf (L ⟨#[70]⟩) = 8 from rfl]
    go_enter Tryd.func28, Tryd.ntmps28
    go_wp2_with fail
    go_ret
    exact ⟨rfl, rfl⟩
  by_cases h8 : L s = [52, 126]
  · obtain rfl : s = ⟨#[52, 126]⟩ := L_inj h8
    rw [show kindOf (L ⟨#[52, 126]⟩) = 8 from rfl]
    go_enter Tryd.func28, Tryd.ntmps28
    go_wp2_with fail
    go_ret
    exact ⟨rfl, rfl⟩
  by_cases h9 : L s = [56, 126]
  · obtain rfl : s = ⟨#[56, 126]⟩ := L_inj h9
    rw [show kindOf (L ⟨#[56, 126]⟩) = 8 from rfl]
    go_enter Tryd.func28, Tryd.ntmps28
    go_wp2_with fail
    go_ret
    exact ⟨rfl, rfl⟩
  by_cases h10 : L s = [51, 126]
  · obtain rfl : s = ⟨#[51, 126]⟩ := L_inj h10
    rw [show kindOf (L ⟨#[51, 126]⟩) = 9 from rfl]
    go_enter Tryd.func28, Tryd.ntmps28
    go_wp2_with fail
    go_ret
    exact ⟨rfl, rfl⟩
  rw [show kindOf (L s) = 11 by unfold kindOf; rw [if_neg h0, if_neg h1, if_neg h2, if_neg h3, if_neg h4, if_neg h5, if_neg h6, if_neg h7, if_neg h8, if_neg h9, if_neg h10]]
  have q0 := str_q h0
  have q1 := str_q h1
  have q2 := str_q h2
  have q3 := str_q h3
  have q4 := str_q h4
  have q5 := str_q h5
  have q6 := str_q h6
  have q7 := str_q h7
  have q8 := str_q h8
  have q9 := str_q h9
  have q10 := str_q h10
  clear h0 h1 h2 h3 h4 h5 h6 h7 h8 h9 h10
  go_enter Tryd.func28, Tryd.ntmps28
  go_wp2_with fail
  go_ret
  exact ⟨rfl, rfl⟩
end Go.Proofs.YtmfccecjphfkiaaDoor.walk
