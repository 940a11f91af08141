/-
  Words: where words end, by the reference. Condition: the row has at most 1000 signs.
-/
import Derived.Test.YtmmgbmmphmldeaaWalk11a
namespace Go.Proofs.Ytmmgbmmphmldeaa.walk
open Go.RowKit Go.Proofs.Ytmmgbmmphmldeaa.plain
open Go.Proofs.Ytmmgbmmphmldeaa.kit hiding nth
set_option linter.unusedVariables false

theorem rplace_any (A : Option Addr) (len cap : Nat) (zs : List Int) (at' : Int) (w : World) (hz : zs.length = len) (hl : len ≤ 1000) :
    Calls Try.prog 25 #[.slice A len cap, .int .i64 at'] w fun e w' => e = .returned (.int .i64 (place zs at' : Nat)) ∧ w = w' := by
  by_cases h1 : at' < 0
  · have hp := Lib.hid (show place zs at' = 0 by unfold place; rw [if_pos h1])
    go_enter Try.func25, Try.ntmps25
    go_wp2
    go_ret
    exact ⟨ret_int (by rw [hp.out]; rfl), rfl⟩
  · by_cases h2 : (len : Int) < at'
    · have hp := Lib.hid (show place zs at' = len by unfold place; rw [if_neg h1, if_pos (by rw [hz]; exact h2), hz])
      go_enter Try.func25, Try.ntmps25
      go_wp2
      go_ret
      exact ⟨ret_int (by rw [hp.out]), rfl⟩
    · obtain ⟨k, rfl⟩ := Int.eq_ofNat_of_zero_le (show 0 ≤ at' by omega)
      have hp := Lib.hid (show place zs (k : Int) = k by unfold place; rw [if_neg h1, if_neg (by rw [hz]; exact h2)]; simp)
      go_enter Try.func25, Try.ntmps25
      go_wp2
      go_ret
      exact ⟨ret_int (by rw [hp.out]), rfl⟩

set_option maxHeartbeats 1000000 in
theorem rfore_any (w : World) (A : Option Addr) (len cap : Nat) (zs : List Int) (at' : Int) (hz : IntsIn .i32 w A len zs) (hlen : len ≤ 1000) :
    Calls Try.prog 15 #[.slice A len cap, .int .i64 at'] w fun e w' => e = .returned (.int .i64 (foreP zs (place zs at') : Nat)) ∧ w = w' := by
  have hz1 := hz.1
  have hp : place zs at' ≤ len := by have := place_le zs at'; rw [hz.1] at this; exact this
  have EF := Lib.hid (show foreP zs (place zs at') = fwd inB zs (fwd notIn zs (place zs at')) from rfl)
  generalize hpa : place zs at' = a at *
  have HP := Lib.hid hpa
  clear hpa
  go_enter Try.func15, Try.ntmps15
  go_wp2_with (go_at_call 25; refine (rplace_any _ len cap zs _ _ hz1 hlen).mono ?_; rw [HP.out]; rintro e w1 ⟨rfl, rfl⟩)
  go_loop [1] (fun i => ∃ k : Nat, k ≤ len ∧ i = .int .i64 k ∧ fwd notIn zs k = fwd notIn zs a) (fun i => len - (intOf i).toNat)
  case atStart => exact ⟨a, hp, rfl, rfl⟩
  case round =>
    obtain ⟨k, hk, rfl, hE⟩ := hrel
    have HE := Lib.hid hE
    clear hE
    by_cases hlt : k < len
    · obtain ⟨b, off, hAe, hbl, hc⟩ := cell_nth hz hlt
      cases hAe
      have q1 : decide ((k : Int) < (len : Int)) = true := by simp; omega
      obtain ⟨v, hv⟩ : ∃ v, inB (nth zs k) = v := ⟨_, rfl⟩
      have H := Lib.hid hv
      cases v
      · have E := Lib.hid (show fwd notIn zs (k + 1) = fwd notIn zs k from fwd_step (by rw [hz1]; exact hlt) (by simp [notIn, hv]))
        clear hv
        go_wp2_with (go_at_call 11; refine (rin_any _ _).mono ?_; rw [H.out]; rintro e w1 ⟨rfl, rfl⟩)
        go_round
        case rel => exact ⟨k + 1, by omega, by go_num, by rw [E.out]; exact HE.out⟩
        case measure => simp [intOf] <;> omega
      · have HK := Lib.hid (show fwd notIn zs a = k by rw [← HE.out]; exact fwd_stop (by simp [notIn, hv]))
        clear hv HE
        go_wp2_with (go_at_call 11; refine (rin_any _ _).mono ?_; rw [H.out]; rintro e w1 ⟨rfl, rfl⟩)
        have HK0 := HK
        clear HK
        have hm0 : k ≤ len := hk
        go_loop [1] (fun i => ∃ m : Nat, m ≤ len ∧ i = .int .i64 m ∧ fwd inB zs m = fwd inB zs k) (fun i => len - (intOf i).toNat)
        case atStart => exact ⟨k, hm0, rfl, rfl⟩
        case round =>
          obtain ⟨m, hm, rfl, hE⟩ := hrel
          have HE := Lib.hid hE
          clear hE
          by_cases hlt : m < len
          · obtain ⟨b, off, hAe, hbl, hc⟩ := cell_nth hz hlt
            cases hAe
            have q1 : decide ((m : Int) < (len : Int)) = true := by simp; omega
            obtain ⟨v, hv⟩ : ∃ v, inB (nth zs m) = v := ⟨_, rfl⟩
            have H := Lib.hid hv
            cases v
            · have HK := Lib.hid (show fwd inB zs k = m by rw [← HE.out]; exact fwd_stop (by simp [hv]))
              clear hv HE
              go_wp2_with (go_at_call 11; refine (rin_any _ _).mono ?_; rw [H.out]; rintro e w1 ⟨rfl, rfl⟩)
              go_ret
              exact ⟨ret_int (by rw [EF.out, HK0.out, HK.out] <;> omega), rfl⟩
            · have E := Lib.hid (show fwd inB zs (m + 1) = fwd inB zs m from fwd_step (by rw [hz1]; exact hlt) (by simp [hv]))
              clear hv
              go_wp2_with (go_at_call 11; refine (rin_any _ _).mono ?_; rw [H.out]; rintro e w1 ⟨rfl, rfl⟩)
              go_round
              case rel => exact ⟨m + 1, by omega, by go_num, by rw [E.out]; exact HE.out⟩
              case measure => simp [intOf] <;> omega
          · have HK := Lib.hid (show fwd inB zs k = m by rw [← HE.out]; exact fwd_end (by rw [hz1]; omega))
            have q1 : decide ((m : Int) < (len : Int)) = false := by simp; omega
            clear HE
            go_wp2_with fail
            go_ret
            exact ⟨ret_int (by rw [EF.out, HK0.out, HK.out] <;> omega), rfl⟩
    · have HK := Lib.hid (show fwd notIn zs a = k by rw [← HE.out]; exact fwd_end (by rw [hz1]; omega))
      have q1 : decide ((k : Int) < (len : Int)) = false := by simp; omega
      clear HE
      go_wp2_with fail
      have HK0 := HK
      clear HK
      have hm0 : k ≤ len := hk
      go_loop [1] (fun i => ∃ m : Nat, m ≤ len ∧ i = .int .i64 m ∧ fwd inB zs m = fwd inB zs k) (fun i => len - (intOf i).toNat)
      case atStart => exact ⟨k, hm0, rfl, rfl⟩
      case round =>
        obtain ⟨m, hm, rfl, hE⟩ := hrel
        have HE := Lib.hid hE
        clear hE
        by_cases hlt : m < len
        · obtain ⟨b, off, hAe, hbl, hc⟩ := cell_nth hz hlt
          cases hAe
          have q1 : decide ((m : Int) < (len : Int)) = true := by simp; omega
          obtain ⟨v, hv⟩ : ∃ v, inB (nth zs m) = v := ⟨_, rfl⟩
          have H := Lib.hid hv
          cases v
          · have HK := Lib.hid (show fwd inB zs k = m by rw [← HE.out]; exact fwd_stop (by simp [hv]))
            clear hv HE
            go_wp2_with (go_at_call 11; refine (rin_any _ _).mono ?_; rw [H.out]; rintro e w1 ⟨rfl, rfl⟩)
            go_ret
            exact ⟨ret_int (by rw [EF.out, HK0.out, HK.out] <;> omega), rfl⟩
          · have E := Lib.hid (show fwd inB zs (m + 1) = fwd inB zs m from fwd_step (by rw [hz1]; exact hlt) (by simp [hv]))
            clear hv
            go_wp2_with (go_at_call 11; refine (rin_any _ _).mono ?_; rw [H.out]; rintro e w1 ⟨rfl, rfl⟩)
            go_round
            case rel => exact ⟨m + 1, by omega, by go_num, by rw [E.out]; exact HE.out⟩
            case measure => simp [intOf] <;> omega
        · have HK := Lib.hid (show fwd inB zs k = m by rw [← HE.out]; exact fwd_end (by rw [hz1]; omega))
          have q1 : decide ((m : Int) < (len : Int)) = false := by simp; omega
          clear HE
          go_wp2_with fail
          go_ret
          exact ⟨ret_int (by rw [EF.out, HK0.out, HK.out] <;> omega), rfl⟩

set_option maxHeartbeats 1000000 in
theorem rbehind_any (w : World) (A : Option Addr) (len cap : Nat) (zs : List Int) (at' : Int) (hz : IntsIn .i32 w A len zs) (hlen : len ≤ 1000) :
    Calls Try.prog 17 #[.slice A len cap, .int .i64 at'] w fun e w' => e = .returned (.int .i64 (behindP zs (place zs at') : Nat)) ∧ w = w' := by
  have hz1 := hz.1
  have hp : place zs at' ≤ len := by have := place_le zs at'; rw [hz.1] at this; exact this
  have EF := Lib.hid (show behindP zs (place zs at') = bwd inB zs (bwd notIn zs (place zs at')) from rfl)
  generalize hpa : place zs at' = a at *
  have HP := Lib.hid hpa
  clear hpa
  go_enter Try.func17, Try.ntmps17
  go_wp2_with (go_at_call 25; refine (rplace_any _ len cap zs _ _ hz1 hlen).mono ?_; rw [HP.out]; rintro e w1 ⟨rfl, rfl⟩)
  go_loop [1] (fun i => ∃ k : Nat, k ≤ len ∧ i = .int .i64 k ∧ bwd notIn zs k = bwd notIn zs a) (fun i => (intOf i).toNat)
  case atStart => exact ⟨a, hp, rfl, rfl⟩
  case round =>
    obtain ⟨k, hk, rfl, hE⟩ := hrel
    have HE := Lib.hid hE
    clear hE
    rcases k with _ | k
    · have HK := Lib.hid (show bwd notIn zs a = 0 by rw [← HE.out]; rfl)
      clear HE
      go_wp2_with fail
      have HK0 := HK
      clear HK
      have hm0 : 0 ≤ len := by omega
      go_loop [1] (fun i => ∃ m : Nat, m ≤ len ∧ i = .int .i64 m ∧ bwd inB zs m = bwd inB zs 0) (fun i => (intOf i).toNat)
      case atStart => exact ⟨0, hm0, by first | rfl | go_num, rfl⟩
      case round =>
        obtain ⟨m, hm, rfl, hE⟩ := hrel
        have HE := Lib.hid hE
        clear hE
        rcases m with _ | m
        · have HK := Lib.hid (show bwd inB zs 0 = 0 by rw [← HE.out]; rfl)
          clear HE
          go_wp2_with fail
          go_ret
          exact ⟨ret_int (by rw [EF.out, HK0.out, HK.out] <;> omega), rfl⟩
        · have hlt : m < len := by omega
          obtain ⟨b, off, hAe, hbl, hc⟩ := cell_nth hz hlt
          cases hAe
          have e0 : ((m + 1 : Nat) : Int) = (m : Int) + 1 := by omega
          rw [e0]
          have q1 : decide ((0 : Int) < (m : Int) + 1) = true := decide_eq_true (by omega)
          have e1 : (m : Int) + 1 - 1 = (m : Int) := by omega
          obtain ⟨v, hv⟩ : ∃ v, inB (nth zs m) = v := ⟨_, rfl⟩
          have H := Lib.hid hv
          clear e0
          cases v
          · have HK := Lib.hid (show bwd inB zs 0 = m + 1 by rw [← HE.out]; exact bwd_stop (by simp [hv]))
            clear hv HE
            go_wp2_with (go_at_call 11; refine (rin_any _ _).mono ?_; rw [H.out]; rintro e w1 ⟨rfl, rfl⟩)
            go_ret
            exact ⟨ret_int (by rw [EF.out, HK0.out, HK.out] <;> omega), rfl⟩
          · have E := Lib.hid (show bwd inB zs (m + 1) = bwd inB zs m from bwd_step (by simp [hv]))
            clear hv
            go_wp2_with (go_at_call 11; refine (rin_any _ _).mono ?_; rw [H.out]; rintro e w1 ⟨rfl, rfl⟩)
            go_round
            case rel => exact ⟨m, by omega, by go_num, by rw [← HE.out, E.out]⟩
            case measure => simp [intOf] <;> omega
    · have hlt : k < len := by omega
      obtain ⟨b, off, hAe, hbl, hc⟩ := cell_nth hz hlt
      cases hAe
      have e0 : ((k + 1 : Nat) : Int) = (k : Int) + 1 := by omega
      rw [e0]
      have q1 : decide ((0 : Int) < (k : Int) + 1) = true := decide_eq_true (by omega)
      have e1 : (k : Int) + 1 - 1 = (k : Int) := by omega
      obtain ⟨v, hv⟩ : ∃ v, inB (nth zs k) = v := ⟨_, rfl⟩
      have H := Lib.hid hv
      clear e0
      cases v
      · have E := Lib.hid (show bwd notIn zs (k + 1) = bwd notIn zs k from bwd_step (by simp [notIn, hv]))
        clear hv
        go_wp2_with (go_at_call 11; refine (rin_any _ _).mono ?_; rw [H.out]; rintro e w1 ⟨rfl, rfl⟩)
        go_round
        case rel => exact ⟨k, by omega, by go_num, by rw [← HE.out, E.out]⟩
        case measure => simp [intOf] <;> omega
      · have HK := Lib.hid (show bwd notIn zs a = k + 1 by rw [← HE.out]; exact bwd_stop (by simp [notIn, hv]))
        clear hv HE
        go_wp2_with (go_at_call 11; refine (rin_any _ _).mono ?_; rw [H.out]; rintro e w1 ⟨rfl, rfl⟩)
        have HK0 := HK
        clear HK
        have hm0 : (k + 1) ≤ len := by omega
        go_loop [1] (fun i => ∃ m : Nat, m ≤ len ∧ i = .int .i64 m ∧ bwd inB zs m = bwd inB zs (k + 1)) (fun i => (intOf i).toNat)
        case atStart => exact ⟨(k + 1), hm0, by first | rfl | go_num, rfl⟩
        case round =>
          obtain ⟨m, hm, rfl, hE⟩ := hrel
          have HE := Lib.hid hE
          clear hE
          rcases m with _ | m
          · have HK := Lib.hid (show bwd inB zs (k + 1) = 0 by rw [← HE.out]; rfl)
            clear HE
            go_wp2_with fail
            go_ret
            exact ⟨ret_int (by rw [EF.out, HK0.out, HK.out] <;> omega), rfl⟩
          · have hlt : m < len := by omega
            obtain ⟨b, off, hAe, hbl, hc⟩ := cell_nth hz hlt
            cases hAe
            have e0 : ((m + 1 : Nat) : Int) = (m : Int) + 1 := by omega
            rw [e0]
            have q1 : decide ((0 : Int) < (m : Int) + 1) = true := decide_eq_true (by omega)
            have e1 : (m : Int) + 1 - 1 = (m : Int) := by omega
            obtain ⟨v, hv⟩ : ∃ v, inB (nth zs m) = v := ⟨_, rfl⟩
            have H := Lib.hid hv
            clear e0
            cases v
            · have HK := Lib.hid (show bwd inB zs (k + 1) = m + 1 by rw [← HE.out]; exact bwd_stop (by simp [hv]))
              clear hv HE
              go_wp2_with (go_at_call 11; refine (rin_any _ _).mono ?_; rw [H.out]; rintro e w1 ⟨rfl, rfl⟩)
              go_ret
              exact ⟨ret_int (by rw [EF.out, HK0.out, HK.out] <;> omega), rfl⟩
            · have E := Lib.hid (show bwd inB zs (m + 1) = bwd inB zs m from bwd_step (by simp [hv]))
              clear hv
              go_wp2_with (go_at_call 11; refine (rin_any _ _).mono ?_; rw [H.out]; rintro e w1 ⟨rfl, rfl⟩)
              go_round
              case rel => exact ⟨m, by omega, by go_num, by rw [← HE.out, E.out]⟩
              case measure => simp [intOf] <;> omega
end Go.Proofs.Ytmmgbmmphmldeaa.walk
