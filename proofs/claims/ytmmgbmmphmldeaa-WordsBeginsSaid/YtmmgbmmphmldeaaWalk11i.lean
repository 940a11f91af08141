/-
  Words: beginnings and tails, by the reference. Condition: the row has at most 1000 signs.
-/
import Derived.Test.YtmmgbmmphmldeaaWalk11h
namespace Go.Proofs.Ytmmgbmmphmldeaa.walk
open Go.RowKit Go.Proofs.Ytmmgbmmphmldeaa.plain
open Go.Proofs.Ytmmgbmmphmldeaa.kit hiding nth
set_option linter.unusedVariables false

theorem quiet_add_left {P : Program} {f : FuncId} {args : Array Value} {w : World} {a n : Nat} {v : Value}
    (h : Calls P f args (w.drewN (a + n)) fun e w' => e = .returned v ∧ w.drewN (a + n) = w') :
    Calls P f args (w.drewN (a + n)) fun e w'' => e = .returned v ∧ ∃ m, w'' = w.drewN (a + m) :=
  h.mono fun _ _ ⟨he, hm⟩ => ⟨he, n, hm.symm⟩

set_option maxHeartbeats 400000 in
theorem rbegins_any (w : World) (A : Option Addr) (len cap : Nat) (zs : List Int) (i : Nat) (hi : i < len) (hz : IntsIn .i32 w A len zs) (hlen : len ≤ 1000) :
    Calls Try.prog 29 #[.slice A len cap, .int .i64 i] w fun e w' => e = .returned (.bool (begins zs i)) ∧ ∃ n, w.drewN n = w' := by
  obtain ⟨b, off, rfl, hbl, hc⟩ := cell_nth hz hi
  have hi0 : (0 : Int) ≤ (i : Int) := by omega
  have hi1 : (i : Int) < (len : Int) := by omega
  obtain ⟨k, hk⟩ : ∃ k, kindI (nth zs i) = k := ⟨_, rfl⟩
  have HK := Lib.hid hk
  have cK : ∀ n, Calls Try.prog 13 #[.int .i32 (nth zs i)] (w.drewN n) fun e w'' => e = .returned (.int .i64 k) ∧ ∃ m, w'' = w.drewN m := fun n => quiet_left (by rw [← hk]; exact rkind_any _ _)
  by_cases h0 : k = 0
  · have q0 : (k != 0) = false := by simpa using h0
    have E := Lib.hid (show begins zs i = false by rw [begins_false]; exact .inl (hk.trans h0))
    clear hk h0
    go_enter Try.func29, Try.ntmps29
    go_wp2_with fail
    go_quiet ((with_reducible exact cK _))
    go_wp2
    go_ret
    exact ⟨ret_bool (by rw [E.out]), nq, rfl⟩
  · have q0 : (k != 0) = true := by simpa using h0
    rcases i with _ | i
    · have E := Lib.hid (show begins zs 0 = true by rw [begins_true]; exact ⟨by rw [hk]; exact h0, .inl rfl⟩)
      have hc0 : w.cell? ⟨b, off, none⟩ = some (.int .i32 (nth zs 0)) := hc
      have hl0 : (0 : Int) < (len : Int) := by omega
      show Calls Try.prog 29 #[.slice (some ⟨b, off, none⟩) len cap, .int .i64 0] w _
      clear hk h0 hc hi0 hi1
      go_enter Try.func29, Try.ntmps29
      go_wp2_with fail
      go_quiet ((with_reducible exact cK _))
      go_wp2
      go_ret
      exact ⟨ret_bool (by rw [E.out]), nq, rfl⟩
    · have hc' : w.cell? ⟨b, off + i, none⟩ = some (.int .i32 (nth zs i)) := by
        obtain ⟨b', off', e, _, h⟩ := cell_nth hz (show i < len by omega)
        cases e; exact h
      have e0 : ((i + 1 : Nat) : Int) = (i : Int) + 1 := by omega
      have e1 : (i : Int) + 1 - 1 = (i : Int) := by omega
      have q1 : ((i : Int) + 1 == 0) = false := by simp; omega
      have hj0 : (0 : Int) ≤ (i : Int) := by omega
      have hj1 : (i : Int) < (len : Int) := by omega
      rw [e0] at hi0 hi1 ⊢
      have et : ((i : Int) + 1).toNat = i + 1 := by omega
      have E := Lib.hid (show begins zs (i + 1) = (kindI (nth zs i) != k) by
        unfold begins; rw [hk, Nat.add_sub_cancel, show (k == 0) = false by simpa using h0]; simp [bne])
      have cJ : ∀ n, Calls Try.prog 13 #[.int .i32 (nth zs i)] (w.drewN n) fun e w'' => e = .returned (.int .i64 (kindI (nth zs i))) ∧ ∃ m, w'' = w.drewN m := fun n => quiet_left (rkind_any _ _)
      clear hk h0 e0
      go_enter Try.func29, Try.ntmps29
      go_wp2_with fail
      go_quiet ((first | with_reducible exact cK _ | with_reducible exact cJ _))
      go_wp2
      go_ret
      exact ⟨ret_bool (by rw [E.out]), nq, rfl⟩

theorem ff_step {q : Nat → Bool} {m i : Nat} (h : q i = false) : ff q (m + 1) i = ff q m (i + 1) := by simp [ff, h]
theorem ff_hit {q : Nat → Bool} {m i : Nat} (h : q i = true) : ff q (m + 1) i = i := by simp [ff, h]

set_option maxHeartbeats 400000 in
theorem rnext_any (w : World) (A : Option Addr) (len cap : Nat) (zs : List Int) (at' : Int) (hz : IntsIn .i32 w A len zs) (hlen : len ≤ 1000) :
    Calls Try.prog 19 #[.slice A len cap, .int .i64 at'] w fun e w' => e = .returned (.int .i64 (nextR zs (place zs at') : Nat)) ∧ Nx w w' := by
  have hz1 := hz.1
  have hp : place zs at' ≤ len := by have := place_le zs at'; rw [hz.1] at this; exact this
  generalize hpa : place zs at' = a at *
  have HP := Lib.hid hpa
  clear hpa
  have EN := Lib.hid (show nextR zs a = if len ≤ a then len else ff (begins zs) (len - (a + 1)) (a + 1) by unfold nextR; rw [hz1])
  go_enter Try.func19, Try.ntmps19
  go_wp2_with (go_at_call 25; refine (rplace_any _ len cap zs _ _ hz1 hlen).mono ?_; rw [HP.out]; rintro e w1 ⟨rfl, rfl⟩)
  go_loopw [5] (fun i wr => ∃ k : Nat, a + 1 ≤ k ∧ (k ≤ len ∨ k = a + 1) ∧ i = .int .i64 k ∧ (k ≤ len → ff (begins zs) (len - k) k = ff (begins zs) (len - (a + 1)) (a + 1)) ∧ Nx w wr) (fun i _ => len + 1 - (intOf i).toNat)
  case atStart => exact ⟨a + 1, Nat.le_refl _, .inr rfl, by go_num, fun _ => rfl, Nx.refl _⟩
  case round =>
    obtain ⟨k, hk1, hk2, rfl, hE, hN⟩ := hrel
    have HE := Lib.hid hE
    clear hE
    by_cases hlt : k < len
    · have q1 : decide ((k : Int) < (len : Int)) = true := decide_eq_true (by omega)
      obtain ⟨v, hv⟩ : ∃ v, begins zs k = v := ⟨_, rfl⟩
      have H := Lib.hid hv
      have ek : len - k = (len - (k + 1)) + 1 := by omega
      cases v
      · have E := Lib.hid (show ff (begins zs) (len - (k + 1)) (k + 1) = ff (begins zs) (len - (a + 1)) (a + 1) by rw [← HE.out (by omega), ek]; exact (ff_step hv).symm)
        clear hv ek
        go_wp2_with (go_at_call 29; refine (rbegins_any _ _ len cap zs k hlt (hz.keep hN) hlen).mono ?_; rw [H.out]; rintro e w1 ⟨rfl, nn, rfl⟩)
        go_roundw
        case rel => exact ⟨k + 1, by omega, .inl (by omega), by go_num, fun _ => E.out, hN.drewN nn⟩
        case measure => simp [intOf] <;> omega
      · have E := Lib.hid (show ff (begins zs) (len - (a + 1)) (a + 1) = k by rw [← HE.out (by omega), ek]; exact ff_hit hv)
        clear hv ek
        go_wp2_with (go_at_call 29; refine (rbegins_any _ _ len cap zs k hlt (hz.keep hN) hlen).mono ?_; rw [H.out]; rintro e w1 ⟨rfl, nn, rfl⟩)
        go_ret
        exact ⟨ret_int (by rw [EN.out, if_neg (by omega), E.out]), hN.drewN nn⟩
    · have q1 : decide ((k : Int) < (len : Int)) = false := decide_eq_false (by omega)
      go_wp2_with fail
      go_ret
      refine ⟨ret_int ?_, hN⟩
      rw [EN.out]
      by_cases hla : len ≤ a
      · rw [if_pos hla]
      · rw [if_neg hla, ← HE.out (by omega), show len - k = 0 by omega]
        show (len : Int) = (k : Int)
        omega

set_option maxHeartbeats 400000 in
theorem rprev_any (w : World) (A : Option Addr) (len cap : Nat) (zs : List Int) (at' : Int) (hz : IntsIn .i32 w A len zs) (hlen : len ≤ 1000) :
    Calls Try.prog 21 #[.slice A len cap, .int .i64 at'] w fun e w' => e = .returned (.int .i64 (prevR zs (place zs at') : Nat)) ∧ Nx w w' := by
  have hz1 := hz.1
  have hp : place zs at' ≤ len := by have := place_le zs at'; rw [hz.1] at this; exact this
  generalize hpa : place zs at' = a at *
  have HP := Lib.hid hpa
  clear hpa
  have EN := Lib.hid (show prevR zs a = ld (begins zs) (a - 1) from rfl)
  go_enter Try.func21, Try.ntmps21
  go_wp2_with (go_at_call 25; refine (rplace_any _ len cap zs _ _ hz1 hlen).mono ?_; rw [HP.out]; rintro e w1 ⟨rfl, rfl⟩)
  go_loopw [5] (fun i wr => ∃ k : Int, -1 ≤ k ∧ k < len ∧ i = .int .i64 k ∧ ld (begins zs) k.toNat = ld (begins zs) (a - 1) ∧ Nx w wr) (fun i _ => (intOf i + 1).toNat)
  case atStart => exact ⟨(a : Int) - 1, by omega, by omega, rfl, by rw [show ((a : Int) - 1).toNat = a - 1 by omega], Nx.refl _⟩
  case round =>
    obtain ⟨k, hk1, hk2, rfl, hE, hN⟩ := hrel
    have HE := Lib.hid hE
    clear hE
    by_cases hlt : 0 < k
    · obtain ⟨j, rfl⟩ : ∃ j : Nat, k = (j : Int) + 1 := ⟨(k - 1).toNat, by omega⟩
      have q1 : decide ((0 : Int) < (j : Int) + 1) = true := decide_eq_true (by omega)
      have e1 : (j : Int) + 1 - 1 = (j : Int) := by omega
      have et : ((j : Int) + 1).toNat = j + 1 := by omega
      rw [et] at HE
      have hj : j + 1 < len := by omega
      obtain ⟨v, hv⟩ : ∃ v, begins zs (j + 1) = v := ⟨_, rfl⟩
      have H := Lib.hid hv
      have cB : ∀ W, Nx w W → Calls Try.prog 29 #[.slice A len cap, .int .i64 ((j : Int) + 1)] W fun e w' => e = .returned (.bool (begins zs (j + 1))) ∧ ∃ n, W.drewN n = w' := fun W hW => rbegins_any W A len cap zs (j + 1) hj (hz.keep hW) hlen
      have CB := Lib.hid cB
      clear cB et
      cases v
      · have E := Lib.hid (show ld (begins zs) j = ld (begins zs) (a - 1) by rw [← HE.out]; simp [ld, hv])
        clear hv
        go_wp2_with (go_at_call 29; refine (CB.out _ hN).mono ?_; rw [H.out]; rintro e w1 ⟨rfl, nn, rfl⟩)
        go_roundw
        case rel => exact ⟨(j : Int), by omega, by omega, by go_num, by rw [Int.toNat_natCast]; exact E.out, hN.drewN nn⟩
        case measure => simp [intOf] <;> omega
      · have E := Lib.hid (show ld (begins zs) (a - 1) = j + 1 by rw [← HE.out]; simp [ld, hv])
        clear hv
        go_wp2_with (go_at_call 29; refine (CB.out _ hN).mono ?_; rw [H.out]; rintro e w1 ⟨rfl, nn, rfl⟩)
        go_ret
        exact ⟨ret_int (by rw [EN.out, E.out]; omega), hN.drewN nn⟩
    · have q1 : decide ((0 : Int) < k) = false := decide_eq_false hlt
      have E := Lib.hid (show ld (begins zs) (a - 1) = 0 by rw [← HE.out, show k.toNat = 0 by omega]; rfl)
      go_wp2_with fail
      go_ret
      exact ⟨ret_int (by rw [EN.out, E.out]; rfl), hN⟩
end Go.Proofs.Ytmmgbmmphmldeaa.walk
