/-
  The walk of the law WordsSteps: it returns true for every input. No condition.
-/
import Derived.Test.YtmmgbmmphmldeaaWalk11w
namespace Go.Proofs.Ytmmgbmmphmldeaa.walk
open Go.RowKit Go.Proofs.Ytmmgbmmphmldeaa.plain
open Go.Proofs.Ytmmgbmmphmldeaa.kit hiding nth
set_option linter.unusedVariables false

theorem kind_nx (r k : Int) (h : kindI r = k) (w : World) : Calls Try.prog 12 #[.int .i32 r] w fun e w' => e = .returned (.int .i64 k) ∧ Nx w w' := by
  subst h; exact (kind_any r w).mono fun _ _ ⟨h1, h2⟩ => ⟨h1, h2 ▸ Nx.refl _⟩
theorem cell_at {w : World} {b off n : Nat} {zs : List Int} (h : IntsIn .i32 w (some ⟨b, off, none⟩) n zs) {j : Nat} (hj : j < n) : w.cell? ⟨b, off + j, none⟩ = some (.int .i32 (nth zs j)) := by
  obtain ⟨b', off', e, _, hc⟩ := cell_nth h hj
  cases e; exact hc

set_option maxRecDepth 100000 in
set_option maxHeartbeats 4000000 in
theorem wordsSteps_walk (w : World) (A : Option Addr) (len cap : Nat) (zs : List Int) (hw : IntsIn .i32 w A len zs ∧ len ≤ cap ∧ cap ≤ maxLen ∧ ∀ z ∈ zs, (Lit.int .i32 z).wf = true) :
    Calls Try.prog 8 #[.slice A len cap] w fun e w' => e = .returned (.bool true) ∧ Below w.heap.size w w' := by
  have hz := hw.1
  have hlm : len ≤ 9223372036854775807 := by have := hw.2.1; have := hw.2.2.1; unfold maxLen at this; omega
  clear hw
  have hz1 := hz.1
  by_cases hgd : 300 < len
  · have e1 : decide ((300 : Int) < (len : Int)) = true := decide_eq_true (by omega)
    go_enter Try.func8, Try.ntmps8
    go_wp2_with fail
    go_ret
    exact ⟨rfl, Nx.refl _⟩
  · have e1 : decide ((300 : Int) < (len : Int)) = false := decide_eq_false (by omega)
    have hlen : len ≤ 1000 := by omega
    go_enter Try.func8, Try.ntmps8
    go_wp2_with fail
    go_loopw [3, 4, 5, 6, 7] (fun l i n _ _ wr => ∃ a k : Nat, a ≤ len ∧ k ≤ a ∧ l = .int .i64 a ∧ i = .int .i64 a ∧ n = .int .i64 k ∧ (0 < a → a < len → begins zs a = true) ∧ Nx w wr) (fun _ i _ _ _ _ => len - (intOf i).toNat)
    case atStart => exact ⟨0, 0, Nat.zero_le _, Nat.le_refl _, rfl, rfl, rfl, fun h => absurd h (by omega), Nx.refl _⟩
    case round =>
      obtain ⟨a, k, ha, hk, rfl, rfl, rfl, hb, hN⟩ := hrel
      have HB := Lib.hid hb
      clear hb
      by_cases hlt : a < len
      · obtain ⟨b, off, hAe, hbl, _⟩ := cell_nth hz hlt
        subst hAe
        have q1 : decide ((a : Int) < (len : Int)) = true := decide_eq_true (by omega)
        have q1' : decide (a < len) = true := decide_eq_true hlt
        have q2 : decide ((len : Int) < (k : Int)) = false := decide_eq_false (by omega)
        have q2' : decide (len < k) = false := decide_eq_false (by omega)
        have pa := Lib.hid (place_nat hz1 ha)
        obtain ⟨n1, n2, n3, n4⟩ := nextP_spec zs a (by rw [hz1]; exact hlt)
        rw [hz1] at n2 n4
        obtain ⟨Y, hY⟩ : ∃ Y, nextP zs a = Y + 1 := ⟨nextP zs a - 1, by omega⟩
        rw [hY] at n1 n2 n3 n4
        have HN3 := Lib.hid n3
        have HN4 := Lib.hid n4
        have hv := Lib.hid (show (nextP zs (place zs (a : Int)) : Int) = (Y : Int) + 1 by rw [pa.out, hY]; omega)
        clear n3 n4 hY
        have q3 : decide ((Y : Int) + 1 ≤ (a : Int)) = false := decide_eq_false (by omega)
        have q4 : decide ((len : Int) < (Y : Int) + 1) = false := decide_eq_false (by omega)
        go_wp2_with (go_at_call 18; refine (next_at _ _ len cap zs _ ((Y : Int) + 1) hv.out (hz.keep hN) hlen).mono ?_; rintro e w1 ⟨rfl, x1⟩)
        have hN1 := hN.trans x1
        clear hN x1
        obtain ⟨wo, hwo⟩ : ∃ wo : World, wo = wr := ⟨_, rfl⟩
        clear hwo
        go_loopw [2, 7] (fun _ i wi => ∃ j : Nat, a ≤ j ∧ j ≤ Y ∧ i = .int .i64 ((j : Int) + 1) ∧ Nx w wi) (fun _ i _ => Y + 1 - (intOf i).toNat)
        case atStart => exact ⟨a, Nat.le_refl _, by omega, rfl, hN1⟩
        case round =>
          obtain ⟨j, hj1, hj2, rfl, hNi⟩ := hrel
          have hIi := hz.keep hNi
          by_cases hjl : j < Y
          · have p1 : decide ((j : Int) + 1 < (Y : Int) + 1) = true := decide_eq_true (by omega)
            have c1 := cell_at hIi (show j + 1 < len by omega)
            have c0 := cell_at hIi (show j < len by omega)
            have b1 : (0 : Int) ≤ (j : Int) + 1 := by omega
            have b2 : (j : Int) + 1 < (len : Int) := by omega
            have b3 : (0 : Int) ≤ (j : Int) := by omega
            have b4 : (j : Int) < (len : Int) := by omega
            have et : ((j : Int) + 1).toNat = j + 1 := by omega
            have em : (j : Int) + 1 - 1 = (j : Int) := by omega
            have hbg := HN3.out (j + 1) (by omega) (by omega)
            obtain ⟨k1, hk1⟩ : ∃ k1, kindI (nth zs (j + 1)) = k1 := ⟨_, rfl⟩
            have cK : ∀ n, Calls Try.prog 12 #[.int .i32 (nth zs (j + 1))] (wr.drewN n) fun e w'' => e = .returned (.int .i64 k1) ∧ ∃ m, w'' = wr.drewN m := fun n => quiet_left (by rw [← hk1]; exact kind_any _ _)
            by_cases h0 : k1 = 0
            · have q0 : (k1 != 0) = false := by simpa using h0
              clear hk1 h0 hbg
              go_wp2_with fail
              go_quiet ((with_reducible exact cK _))
              go_wp2_with fail
              go_roundw
              case rel => exact ⟨j + 1, by omega, by omega, by go_num, hNi.drewN nq⟩
              case measure => simp [intOf] <;> omega
            · have q0 : (k1 != 0) = true := by simpa using h0
              have hsame : kindI (nth zs j) = k1 := by
                rcases begins_false.1 hbg with h | ⟨_, h⟩
                · rw [hk1] at h; exact absurd h h0
                · rw [Nat.add_sub_cancel, hk1] at h; exact h
              have cJ : ∀ n, Calls Try.prog 12 #[.int .i32 (nth zs j)] (wr.drewN n) fun e w'' => e = .returned (.int .i64 k1) ∧ ∃ m, w'' = wr.drewN m := fun n => quiet_left (by rw [← hsame]; exact kind_any _ _)
              clear hk1 h0 hbg hsame
              go_wp2_with fail
              go_quiet ((first | with_reducible exact cK _ | with_reducible exact cJ _))
              go_wp2_with fail
              go_roundw
              case rel => exact ⟨j + 1, by omega, by omega, by go_num, hNi.drewN nq⟩
              case measure => simp [intOf] <;> omega
          · have p1 : decide ((j : Int) + 1 < (Y : Int) + 1) = false := decide_eq_false (by omega)
            go_upto_region 18 with fail
            go_cut [96] (fun s96 wx => s96 = .bool false ∧ Nx w wx)
            case first =>
              by_cases hYl : Y + 1 < len
              · have q5 : decide ((Y : Int) + 1 < (len : Int)) = true := decide_eq_true (by omega)
                have c1 := cell_regrown (cell_at hIi hYl)
                have c0 := cell_regrown (cell_at hIi (show Y < len by omega))
                have b1 : (0 : Int) ≤ (Y : Int) + 1 := by omega
                have b2 : (Y : Int) + 1 < (len : Int) := by omega
                have b3 : (0 : Int) ≤ (Y : Int) := by omega
                have b4 : (Y : Int) < (len : Int) := by omega
                have et : ((Y : Int) + 1).toNat = Y + 1 := by omega
                have em : (Y : Int) + 1 - 1 = (Y : Int) := by omega
                obtain ⟨hk0, hk1⟩ := begins_true.1 (HN4.out hYl)
                rw [Nat.add_sub_cancel] at hk1
                have hk2 : kindI (nth zs Y) ≠ kindI (nth zs (Y + 1)) := by
                  rcases hk1 with h | h
                  · omega
                  · exact h
                have r1 : (kindI (nth zs (Y + 1)) == 0) = false := by simpa using hk0
                have r2 : (kindI (nth zs (Y + 1)) == kindI (nth zs Y)) = false := by simpa using fun h => hk2 h.symm
                have hpv : prevP zs (Y + 1) = a := by
                  rw [← prev_agree]
                  exact ld_eq (by omega) (fun j g1 g2 => HN3.out j g1 (by omega)) (fun h => HB.out h hlt)
                have hpw : (prevP zs (place zs ((Y : Int) + 1)) : Int) = (a : Int) := by
                  have := place_nat (zs := zs) (a := Y + 1) hz1 (by omega)
                  rw [show ((Y : Int) + 1) = ((Y + 1 : Nat) : Int) by omega, this, hpv]
                have v1 := fun d os => Calls.regrown_of (w := wr) (d := d) (os := os) (kind_nx (nth zs (Y + 1)) _ rfl _)
                have v2 := fun d os => Calls.regrown_of (w := wr) (d := d) (os := os) (kind_nx (nth zs Y) _ rfl _)
                have v3 := fun d os => Calls.regrown_of (w := wr) (d := d) (os := os) (prev_at _ (some ⟨b, off, none⟩) len cap zs ((Y : Int) + 1) (a : Int) hpw (hz.keep (hNi.trans (below_regrown wr d os))) hlen)
                clear hk0 hk1 hk2 hpv hpw
                refine wp_region_quiet_below (by kernel_rfl) (by kernel_rfl) ?_
                repeat (go_big_quiet_step (first | with_reducible exact v1 _ _ | with_reducible exact v2 _ _ | with_reducible exact v3 _ _))
                refine wpQuiet_nil ?_
                intro _ hw'
                obtain ⟨⟨dq, osq⟩, hw''⟩ := hw'
                subst hw''
                go_wp2_with fail
                go_meet
                exact ⟨rfl, hNi.trans (below_regrown wr dq osq)⟩
              · have q5 : decide ((Y : Int) + 1 < (len : Int)) = false := decide_eq_false (by omega)
                refine wp_region_quiet_below (by kernel_rfl) (by kernel_rfl) ?_
                repeat (go_big_quiet_step (fail))
                refine wpQuiet_nil ?_
                intro _ hw'
                obtain ⟨⟨dq, osq⟩, hw''⟩ := hw'
                subst hw''
                go_wp2_with fail
                go_meet
                exact ⟨rfl, hNi.trans (below_regrown wr dq osq)⟩
            case rest =>
              obtain ⟨rfl, hNx⟩ := hcut
              go_wp2_with fail
              go_roundw
              case rel => exact ⟨Y + 1, k + 1, by omega, by omega, by go_num, by go_num, by go_num, fun _ h => HN4.out h, hNx⟩
              case measure => simp [intOf] <;> omega
      · have q1 : decide ((a : Int) < (len : Int)) = false := decide_eq_false (by omega)
        have q1' : decide (a < len) = false := decide_eq_false hlt
        go_wp2_with (go_at_call 9; refine (worded_any _).mono ?_; rintro e w2 ⟨rfl, x2⟩)
        go_ret
        exact ⟨rfl, hN.trans x2⟩
end Go.Proofs.Ytmmgbmmphmldeaa.walk
