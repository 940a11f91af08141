/-
  Words: tails, by the reference. Condition: the row has at most 1000 signs.
-/
import Derived.Test.YtmmgbmmphmldeaaWalk11i
namespace Go.Proofs.Ytmmgbmmphmldeaa.walk
open Go.RowKit Go.Proofs.Ytmmgbmmphmldeaa.plain
open Go.Proofs.Ytmmgbmmphmldeaa.kit hiding nth
set_option linter.unusedVariables false

set_option maxHeartbeats 1000000 in
theorem rtail_any (w : World) (A : Option Addr) (len cap : Nat) (zs : List Int) (at' : Int) (hz : IntsIn .i32 w A len zs) (hlen : len ≤ 1000) :
    Calls Try.prog 23 #[.slice A len cap, .int .i64 at'] w fun e w' => e = .returned (.int .i64 (tailR zs (place zs at') : Nat)) ∧ Nx w w' := by
  have hz1 := hz.1
  have hp : place zs at' ≤ len := by have := place_le zs at'; rw [hz.1] at this; exact this
  generalize hpa : place zs at' = a at *
  have HP := Lib.hid hpa
  clear hpa
  have EN := Lib.hid (show tailR zs a = if len ≤ a then len else ff (tails zs) (len - (a + 1)) (a + 1) by unfold tailR; rw [hz1])
  go_enter Try.func23, Try.ntmps23
  go_wp2_with (go_at_call 25; refine (rplace_any _ len cap zs _ _ hz1 hlen).mono ?_; rw [HP.out]; rintro e w1 ⟨rfl, rfl⟩)
  go_loopw [5] (fun i wr => ∃ k : Nat, a + 1 ≤ k ∧ (k ≤ len ∨ k = a + 1) ∧ i = .int .i64 k ∧ (k ≤ len → ff (tails zs) (len - k) k = ff (tails zs) (len - (a + 1)) (a + 1)) ∧ Nx w wr) (fun i _ => len + 1 - (intOf i).toNat)
  case atStart => exact ⟨a + 1, Nat.le_refl _, .inr rfl, by go_num, fun _ => rfl, Nx.refl _⟩
  case round =>
    obtain ⟨k, hk1, hk2, rfl, hE, hN⟩ := hrel
    have HE := Lib.hid hE
    clear hE
    by_cases hlt : k < len
    · have q1 : decide ((k : Int) < (len : Int)) = true := decide_eq_true (by omega)
      have hi0 : (0 : Int) ≤ (k : Int) := by omega
      have hi1 : (k : Int) < (len : Int) := by omega
      obtain ⟨b, off, rfl, hbl, hc0⟩ := cell_nth hz hlt
      have hc : wr.cell? ⟨b, off + k, none⟩ = some (.int .i32 (nth zs k)) := (hN.cell hbl).trans hc0
      have ek : len - k = (len - (k + 1)) + 1 := by omega
      obtain ⟨kk, hkk⟩ : ∃ kk, kindI (nth zs k) = kk := ⟨_, rfl⟩
      have cK : ∀ n, Calls Try.prog 13 #[.int .i32 (nth zs k)] (wr.drewN n) fun e w'' => e = .returned (.int .i64 kk) ∧ ∃ m, w'' = wr.drewN m := fun n => quiet_left (by rw [← hkk]; exact rkind_any _ _)
      by_cases h0 : kk = 0
      · have q0 : (kk != 0) = false := by simpa using h0
        have E := Lib.hid (show ff (tails zs) (len - (k + 1)) (k + 1) = ff (tails zs) (len - (a + 1)) (a + 1) by rw [← HE.out (by omega), ek]; exact (ff_step (tails_false.2 (.inl (hkk.trans h0)))).symm)
        clear hkk h0 ek hc0
        go_wp2_with fail
        go_quiet ((with_reducible exact cK _))
        go_wp2_with fail
        go_roundw
        case rel => exact ⟨k + 1, by omega, .inl (by omega), by go_num, fun _ => E.out, hN.drewN nq⟩
        case measure => simp [intOf] <;> omega
      · have q0 : (kk != 0) = true := by simpa using h0
        by_cases hl : k + 1 = len
        · have q2 : ((k : Int) == (len : Int) - 1) = true := by simp; omega
          have E := Lib.hid (show ff (tails zs) (len - (a + 1)) (a + 1) = k by rw [← HE.out (by omega), ek]; exact ff_hit (tails_true.2 ⟨by rw [hkk]; exact h0, .inl (by rw [hz1]; exact hl)⟩))
          clear hkk h0 ek hc0
          go_wp2_with fail
          go_quiet ((with_reducible exact cK _))
          go_wp2_with fail
          go_ret
          exact ⟨ret_int (by rw [EN.out, if_neg (by omega), E.out]), hN.drewN nq⟩
        · have q2 : ((k : Int) == (len : Int) - 1) = false := by simp; omega
          have hj0 : (0 : Int) ≤ (k : Int) + 1 := by omega
          have hj1 : (k : Int) + 1 < (len : Int) := by omega
          have et : ((k : Int) + 1).toNat = k + 1 := by omega
          have hc1 : wr.cell? ⟨b, off + (k + 1), none⟩ = some (.int .i32 (nth zs (k + 1))) := by
            obtain ⟨b', off', e, _, h⟩ := cell_nth hz (show k + 1 < len by omega)
            cases e; exact (hN.cell hbl).trans h
          have cJ : ∀ n, Calls Try.prog 13 #[.int .i32 (nth zs (k + 1))] (wr.drewN n) fun e w'' => e = .returned (.int .i64 (kindI (nth zs (k + 1)))) ∧ ∃ m, w'' = wr.drewN m := fun n => quiet_left (rkind_any _ _)
          by_cases hs : kindI (nth zs (k + 1)) = kk
          · have E := Lib.hid (show ff (tails zs) (len - (k + 1)) (k + 1) = ff (tails zs) (len - (a + 1)) (a + 1) by rw [← HE.out (by omega), ek]; exact (ff_step (tails_false.2 (.inr ⟨by rw [hz1]; exact hl, hs.trans hkk.symm⟩))).symm)
            rw [hs] at cJ
            clear hkk h0 ek hc0 hs
            go_wp2_with fail
            go_quiet ((first | with_reducible exact cK _ | with_reducible exact cJ _))
            go_wp2_with fail
            go_roundw
            case rel => exact ⟨k + 1, by omega, .inl (by omega), by go_num, fun _ => E.out, hN.drewN nq⟩
            case measure => simp [intOf] <;> omega
          · have q3 : (kindI (nth zs (k + 1)) != kk) = true := by simpa using hs
            have E := Lib.hid (show ff (tails zs) (len - (a + 1)) (a + 1) = k by rw [← HE.out (by omega), ek]; exact ff_hit (tails_true.2 ⟨by rw [hkk]; exact h0, .inr (by rw [hkk]; exact hs)⟩))
            clear hkk h0 ek hc0 hs
            go_wp2_with fail
            go_quiet ((first | with_reducible exact cK _ | with_reducible exact cJ _))
            go_wp2_with fail
            go_ret
            exact ⟨ret_int (by rw [EN.out, if_neg (by omega), E.out]), hN.drewN nq⟩
    · have q1 : decide ((k : Int) < (len : Int)) = false := decide_eq_false (by omega)
      go_wp2_with fail
      go_ret
      refine ⟨ret_int ?_, hN⟩
      rw [EN.out]
      by_cases hla : len ≤ a
      · rw [if_pos hla]
      · rw [if_neg hla, ← HE.out (by omega), show len - k = 0 by omega]
        show (len : Int) = (k : Int)
        omega
end Go.Proofs.Ytmmgbmmphmldeaa.walk
