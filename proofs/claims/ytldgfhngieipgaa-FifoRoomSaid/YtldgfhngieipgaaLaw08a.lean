/-
  The walk of the law FifoRoom: it returns true for every input. No condition.
-/
import Derived.Test.YtldgfhngieipgaaWalk08f
import Derived.Test.YtldgfhngieipgaaOpen08
namespace Go.Proofs.Ytldgfhngieipgaa.walk
open Go.RowKit Go.Proofs.Ytldgfhngieipgaa.kit
set_option linter.unusedVariables false

set_option maxRecDepth 100000 in
set_option maxHeartbeats 4000000 in
theorem fifoRoom_walk (w : World) (r : Int) (wr0 : (Lit.int .i64 r).wf = true) (A : Option Addr) (len cap : Nat) (l : List (Int × Int)) (hw : StIn w A len l ∧ len ≤ cap ∧ cap ≤ maxLen) :
    Calls Try.prog 5 #[.int .i64 r, .slice A len cap] w fun e w' => e = .returned (.bool true) ∧ Below w.heap.size w w' := by
  have hz := hw.1
  have hlm : len ≤ 9223372036854775807 := by have := hw.2.1; have := hw.2.2; unfold maxLen at this; omega
  clear hw wr0
  by_cases hr : r < 1 ∨ 64 < r
  · rcases (show r < 1 ∨ (1 ≤ r ∧ 64 < r) by omega) with h1 | ⟨h1, h2⟩
    · have d1 : decide (r < 1) = true := decide_eq_true h1
      go_enter Try.func5, Try.ntmps5
      go_wp2_with (first | (go_at_call 6; refine (new_bad _ _ hr).mono ?_; rintro e w1 ⟨rfl, rfl⟩) | (go_at_call 14; refine (queued_any _).mono ?_; rintro e w1 ⟨rfl, x1⟩))
      go_ret
      exact ⟨rfl, x1⟩
    · have d1 : decide (r < 1) = false := decide_eq_false (by omega)
      have d2 : decide (64 < r) = true := decide_eq_true h2
      go_enter Try.func5, Try.ntmps5
      go_wp2_with (first | (go_at_call 6; refine (new_bad _ _ hr).mono ?_; rintro e w1 ⟨rfl, rfl⟩) | (go_at_call 14; refine (queued_any _).mono ?_; rintro e w1 ⟨rfl, x1⟩))
      go_ret
      exact ⟨rfl, x1⟩
  · obtain ⟨R, rfl⟩ := Int.eq_ofNat_of_zero_le (show 0 ≤ r by omega)
    have hR1 : 1 ≤ R := by omega
    have hR2 : R ≤ 64 := by omega
    clear hr
    by_cases hl : 400 < len
    · have d0 : decide ((400 : Int) < (len : Int)) = true := decide_eq_true (by omega)
      have d1 : decide ((R : Int) < 1) = false := decide_eq_false (by omega)
      have d2 : decide ((64 : Int) < (R : Int)) = false := decide_eq_false (by omega)
      go_enter Try.func5, Try.ntmps5
      go_wp2_with (first | (go_at_call 6; refine (new_ok _ R hR1 hR2).mono ?_; rintro e w1 ⟨rfl, f1, n1⟩) | (go_at_call 14; refine (queued_any _).mono ?_; rintro e w2 ⟨rfl, x1⟩))
      go_ret
      exact ⟨rfl, n1.trans x1⟩
    · have d0 : decide ((400 : Int) < (len : Int)) = false := decide_eq_false (by omega)
      have hlen : len ≤ 400 := by omega
      go_enter Try.func5, Try.ntmps5
      go_wp2_with (first | (go_at_call 6; refine (new_ok _ R hR1 hR2).mono ?_; rintro e w1 ⟨rfl, f1, n1⟩))
      have s1 := n1.size
      have hag : w.heap.size + 1 ≠ w.heap.size := by omega
      go_loopw [4, 7, 8, 9, 10] (fun _ z i _ _ wr => ∃ (k : Nat) (q : List (Int × Int)) (last lost : Int), k ≤ len ∧ z = .int .i64 lost ∧ i = .int .i64 k ∧ FI wr (w.heap.size + 1) w.heap.size R q last lost ∧ 0 ≤ lost ∧ lost ≤ k ∧ 0 ≤ last ∧ Nx w wr) (fun _ _ i _ _ _ => len - (intOf i).toNat)
      case atStart => exact ⟨0, [], 0, 0, Nat.zero_le _, rfl, rfl, f1, by omega, by omega, by omega, n1⟩
      case round =>
        clear f1 n1
        obtain ⟨k, q, last, lost, hk, rfl, rfl, hF, hl0, hl1, hla, hN⟩ := hrel
        have hsz := hN.size
        have hFl := hF.lt
        have hFq := hF.len
        by_cases hlt : k < len
        · have q1 : decide ((k : Int) < (len : Int)) = true := decide_eq_true (by omega)
          have q1' : decide (k < len) = true := decide_eq_true hlt
          obtain ⟨b, off, rfl, hlb, hc0, hc1⟩ := hz.at_ hlt
          have hd0 := (hN.cell (p := ⟨b, off + k * 2, none⟩) hlb).trans hc0
          have hd1 := (hN.cell (p := ⟨b, off + k * 2 + 1, none⟩) hlb).trans hc1
          clear hc0 hc1
          have hi0 : (0 : Int) ≤ (k : Int) := by omega
          have hi1 : (k : Int) < (len : Int) := by omega
          generalize (qth l k).1 = B at hd0
          generalize (qth l k).2 = T at hd1
          by_cases hT : T < -1
          · have q2 : decide (T < -1) = true := decide_eq_true hT
            cases q with
            | nil =>
              go_wp2_with (first | (go_at_call 12; refine (len_any _ _ _ R _ _ _ hF).mono ?_; rintro e w2 ⟨rfl, rfl⟩) | (go_at_call 8; refine (pop_none _ _ _ R _ _ hF).mono ?_; rintro e w2 ⟨rfl, x2⟩))
              go_roundw
              case rel => exact ⟨k + 1, [], last, lost, by omega, rfl, by go_num, hF.nx x2, hl0, by omega, hla, hN.trans x2⟩
              case measure => simp [intOf]; omega
            | cons x q =>
              go_wp2_with (first | (go_at_call 12; refine (len_any _ _ _ R _ _ _ hF).mono ?_; rintro e w2 ⟨rfl, rfl⟩) | (go_at_call 8; refine (pop_ok _ _ _ R x q _ _ hR2 hag hF).mono ?_; rintro e w2 ⟨rfl, f2, x2⟩))
              go_roundw
              case rel => exact ⟨k + 1, q, last, lost, by omega, rfl, by go_num, f2, hl0, by omega, hla, Nx.only hN x2 (by omega) (by omega)⟩
              case measure => simp [intOf]; omega
          · have q2 : decide (T < -1) = false := decide_eq_false hT
            rcases (show (T < last ∨ 1073741824 < T) ∨ ((last ≤ T ∧ T ≤ 1073741824) ∧ q.length < R) ∨ ((last ≤ T ∧ T ≤ 1073741824) ∧ q.length = R) by omega) with hb | ⟨⟨h1, h2⟩, h3⟩ | ⟨⟨h1, h2⟩, h3⟩
            have r1 : decide ((R : Int) < (q.length : Int)) = false := decide_eq_false (by omega)
            have r1' : decide (R < q.length) = false := decide_eq_false (by omega)
            · skip
              have hD := hF.nx ((Nx.refl wr).drew)
              go_wp2_with (first | (go_at_call 12; refine (len_any _ _ _ R _ _ _ hF).mono ?_; rintro e w2 ⟨rfl, rfl⟩) | (go_still_tail 11, (by kernel_rfl)))
              refine (push_bad _ _ _ R _ _ _ _ _ hD hb).mono ?_
              rintro e w2 ⟨rfl, rfl⟩
              go_wp2_with (first | (go_at_call 12; refine (len_any _ _ _ R _ _ _ hD).mono ?_; rintro e w3 ⟨rfl, rfl⟩) | (go_at_call 13; refine (lost_any _ _ _ R _ _ _ hD).mono ?_; rintro e w3 ⟨rfl, rfl⟩))
              go_roundw
              case rel => exact ⟨k + 1, q, last, lost, by omega, rfl, by go_num, hD, hl0, by omega, hla, hN.drew⟩
              case measure => simp [intOf]; omega
            · have r2 : decide ((q.length : Int) = (R : Int)) = false := decide_eq_false (by omega)
              have r2' : decide (q.length = R) = false := decide_eq_false (by omega)
              have r3 : ¬ q.length = R := by omega
              have r4 : q.length ≠ R := by omega
              have r5 : ((q.length : Int) == (R : Int)) = false := by simp; omega
              have r6 : (q.length == R) = false := by simp; omega
              have r7 : (q ++ [(B, T)]).length = q.length + 1 := by simp
              have r8 : decide ((R : Int) < ((q ++ [(B, T)]).length : Int)) = false := decide_eq_false (by simp; omega)
              have hD := hF.nx ((Nx.refl wr).drew)
              go_wp2_with (first | (go_at_call 12; refine (len_any _ _ _ R _ _ _ hF).mono ?_; rintro e w2 ⟨rfl, rfl⟩) | (go_still_tail 11, (by kernel_rfl)))
              refine (push_ok _ _ _ R q _ _ _ _ hR2 hag h3 hD h1 h2).mono ?_
              rintro e w2 ⟨rfl, f2, x2⟩
              go_wp2_with (first | (go_at_call 12; refine (len_any _ _ _ R _ _ _ f2).mono ?_; rintro e w3 ⟨rfl, rfl⟩) | (go_at_call 13; refine (lost_any _ _ _ R _ _ _ f2).mono ?_; rintro e w3 ⟨rfl, rfl⟩))
              go_roundw
              case rel => exact ⟨k + 1, q ++ [(B, T)], T, lost, by omega, rfl, by go_num, f2, hl0, by omega, by omega, Nx.only hN.drew x2 (by omega) (by omega)⟩
              case measure => simp [intOf]; omega
            · subst h3
              have hD := hF.nx ((Nx.refl wr).drew)
              go_wp2_with (first | (go_at_call 12; refine (len_any _ _ _ q.length _ _ _ hF).mono ?_; rintro e w2 ⟨rfl, rfl⟩) | (go_still_tail 11, (by kernel_rfl)))
              refine (push_full _ _ _ q.length q _ _ _ _ hag rfl hD h1 h2 hl0 (by omega)).mono ?_
              rintro e w2 ⟨rfl, f2, x2⟩
              go_wp2_with (first | (go_at_call 12; refine (len_any _ _ _ q.length _ _ _ f2).mono ?_; rintro e w3 ⟨rfl, rfl⟩) | (go_at_call 13; refine (lost_any _ _ _ q.length _ _ _ f2).mono ?_; rintro e w3 ⟨rfl, rfl⟩))
              go_roundw
              case rel => exact ⟨k + 1, q, T, lost + 1, by omega, by go_num, by go_num, f2, by omega, by omega, by omega, Nx.only hN.drew x2 (by omega) (by omega)⟩
              case measure => simp [intOf]; omega
        · have q1 : decide ((k : Int) < (len : Int)) = false := decide_eq_false (by omega)
          have q1' : decide (k < len) = false := decide_eq_false hlt
          go_wp2_with (first | (go_at_call 14; refine (queued_any _).mono ?_; rintro e w2 ⟨rfl, x1⟩))
          go_ret
          exact ⟨rfl, hN.trans x1⟩
end Go.Proofs.Ytldgfhngieipgaa.walk
