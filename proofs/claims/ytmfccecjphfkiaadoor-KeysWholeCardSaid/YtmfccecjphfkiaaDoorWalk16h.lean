/-
  Keys: is what waits right, is it due (Is, Due), by the program and by the reference. No condition but the library's two tables and a bound on the bytes' number.
-/
import Derived.Test.YtmfccecjphfkiaaDoorWalk16d
namespace Go.Proofs.YtmfccecjphfkiaaDoor.walk
open Go.RowKit Go.Proofs.YtmfccecjphfkiaaDoor.kit Go.Proofs.YtmfccecjphfkiaaDoor.plain
set_option linter.unusedVariables false

theorem tickB_t {n : Int} (h : tickB n = true) : 0 ≤ n ∧ n ≤ 1073741824 := by simpa [tickB] using h
theorem waitB_t {n : Int} (h : waitB n = true) : 1 ≤ n ∧ n ≤ 1000 := by simpa [waitB] using h
theorem tick_any (n : Int) (w : World) : Calls Tryd.prog 31 #[.int .i64 n] w fun e w' => e = .returned (.bool (tickB n)) ∧ w = w' := by
  rcases (show n < 0 ∨ (0 ≤ n ∧ n ≤ 1073741824) ∨ (0 ≤ n ∧ 1073741824 < n) by omega) with h | ⟨h, g⟩ | ⟨h, g⟩
  · rw [show tickB n = false by simp [tickB]; omega]
    have d1 : decide (0 ≤ n) = false := decide_eq_false (by omega)
    go_enter Tryd.func31, Tryd.ntmps31
    go_wp2_with fail
    go_ret
    exact ⟨rfl, rfl⟩
  · rw [show tickB n = true by simp [tickB]; omega]
    have d1 : decide (0 ≤ n) = true := decide_eq_true (by omega)
    have d2 : decide (n ≤ 1073741824) = true := decide_eq_true (by omega)
    go_enter Tryd.func31, Tryd.ntmps31
    go_wp2_with fail
    go_ret
    exact ⟨rfl, rfl⟩
  · rw [show tickB n = false by simp [tickB]; omega]
    have d1 : decide (0 ≤ n) = true := decide_eq_true (by omega)
    have d2 : decide (n ≤ 1073741824) = false := decide_eq_false (by omega)
    go_enter Tryd.func31, Tryd.ntmps31
    go_wp2_with fail
    go_ret
    exact ⟨rfl, rfl⟩
theorem rtick_any (n : Int) (w : World) : Calls Tryd.prog 32 #[.int .i64 n] w fun e w' => e = .returned (.bool (tickB n)) ∧ w = w' := by
  rcases (show n < 0 ∨ (0 ≤ n ∧ n ≤ 1073741824) ∨ (0 ≤ n ∧ 1073741824 < n) by omega) with h | ⟨h, g⟩ | ⟨h, g⟩
  · rw [show tickB n = false by simp [tickB]; omega]
    have d1 : decide (0 ≤ n) = false := decide_eq_false (by omega)
    go_enter Tryd.func32, Tryd.ntmps32
    go_wp2_with fail
    go_ret
    exact ⟨rfl, rfl⟩
  · rw [show tickB n = true by simp [tickB]; omega]
    have d1 : decide (0 ≤ n) = true := decide_eq_true (by omega)
    have d2 : decide (n ≤ 1073741824) = true := decide_eq_true (by omega)
    go_enter Tryd.func32, Tryd.ntmps32
    go_wp2_with fail
    go_ret
    exact ⟨rfl, rfl⟩
  · rw [show tickB n = false by simp [tickB]; omega]
    have d1 : decide (0 ≤ n) = true := decide_eq_true (by omega)
    have d2 : decide (n ≤ 1073741824) = false := decide_eq_false (by omega)
    go_enter Tryd.func32, Tryd.ntmps32
    go_wp2_with fail
    go_ret
    exact ⟨rfl, rfl⟩
theorem waits_any (n : Int) (w : World) : Calls Tryd.prog 33 #[.int .i64 n] w fun e w' => e = .returned (.bool (waitB n)) ∧ w = w' := by
  rcases (show n < 1 ∨ (1 ≤ n ∧ n ≤ 1000) ∨ (1 ≤ n ∧ 1000 < n) by omega) with h | ⟨h, g⟩ | ⟨h, g⟩
  · rw [show waitB n = false by simp [waitB]; omega]
    have d1 : decide (1 ≤ n) = false := decide_eq_false (by omega)
    go_enter Tryd.func33, Tryd.ntmps33
    go_wp2_with fail
    go_ret
    exact ⟨rfl, rfl⟩
  · rw [show waitB n = true by simp [waitB]; omega]
    have d1 : decide (1 ≤ n) = true := decide_eq_true (by omega)
    have d2 : decide (n ≤ 1000) = true := decide_eq_true (by omega)
    go_enter Tryd.func33, Tryd.ntmps33
    go_wp2_with fail
    go_ret
    exact ⟨rfl, rfl⟩
  · rw [show waitB n = false by simp [waitB]; omega]
    have d1 : decide (1 ≤ n) = true := decide_eq_true (by omega)
    have d2 : decide (n ≤ 1000) = false := decide_eq_false (by omega)
    go_enter Tryd.func33, Tryd.ntmps33
    go_wp2_with fail
    go_ret
    exact ⟨rfl, rfl⟩

theorem isK_nil (at' : Int) : isK (L ⟨#[]⟩) at' = decide (at' = 0) := rfl
theorem isK_ne {p : ByteArray} (h : 1 ≤ p.size) (at' : Int) : isK (L p) at' = (decide ((one (L p)).2.2 = 3) && tickB at') := by rw [isK, if_neg (L_ne h)]
theorem keyV_e (q : KEY × Nat × Nat) : ∃ a b c : Int, keyV q = .tuple #[.agg #[.int .i64 a, .int .i32 b], .int .i64 c, .int .i64 q.2.2] := ⟨_, _, _, rfl⟩

set_option maxHeartbeats 1000000 in
theorem isk_any (p : ByteArray) (at' : Int) (w : World) (hT : TB w) (hs : p.size ≤ 1000000) : Calls Tryd.prog 17 #[.agg #[.string p, .int .i64 at']] w fun e w' => e = .returned (.bool (isK (L p) at')) ∧ Nx w w' := by
  have n0 := (Nx.refl w).alloc (.cells #[.string p, .int .i64 at'] 30)
  have hb := Blk.new w 30 #[.string p, .int .i64 at']
  rcases Nat.lt_or_ge p.size 1 with h0 | h0
  · obtain rfl := size_nil (show p.size = 0 by omega)
    rw [isK_nil]
    by_cases c : at' = 0
    · subst c
      rw [decide_eq_true rfl]
      clear hb
      go_enter Tryd.func17, Tryd.ntmps17
      go_wp2_with fail
      go_ret
      exact ⟨rfl, n0⟩
    · rw [decide_eq_false c]
      have y1 : (at' == 0) = false := beq_eq_false_iff_ne.2 c
      clear hb
      go_enter Tryd.func17, Tryd.ntmps17
      go_wp2_with fail
      go_ret
      exact ⟨rfl, n0⟩
  · obtain ⟨p1, p2⟩ := str_ne h0
    rw [isK_ne h0]
    have c1 := one_any p _ (hT.nx n0) hs
    obtain ⟨a, b, c, e⟩ := keyV_e (one (L p))
    rw [e] at c1
    have C1 := Lib.hid c1
    clear c1 e
    by_cases h3 : (one (L p)).2.2 = 3
    · rw [decide_eq_true h3, Bool.true_and]
      rw [h3] at C1
      have C2 := Lib.hid (fun W => tick_any at' W)
      generalize tickB at' = T at *
      clear h3
      go_enter Tryd.func17, Tryd.ntmps17
      go_wp2_with fail
      refine C1.out.mono ?_
      rintro e w1 ⟨rfl, x1⟩
      clear C1
      have hb1 := (hb.nx x1).alloc (.cells #[.int .i64 a, .int .i32 b] 23)
      have hl := hb1.lt
      obtain ⟨b0, b1, _, _⟩ := blk_cells hb1
      have hl1 := (hb.nx x1).lt
      clear hb hb1
      go_wp2_with fail
      refine (C2.out _).mono ?_
      rintro e w2 ⟨rfl, rfl⟩
      clear C2
      go_wp2_with fail
      go_ret
      exact ⟨rfl, (n0.trans x1).alloc _⟩
    · rw [decide_eq_false h3, Bool.false_and]
      have y1 : (((one (L p)).2.2 : Int) == 3) = false := beq_eq_false_iff_ne.2 (by omega)
      generalize ((one (L p)).2.2 : Int) = d at *
      clear h3
      go_enter Tryd.func17, Tryd.ntmps17
      go_wp2_with fail
      refine C1.out.mono ?_
      rintro e w1 ⟨rfl, x1⟩
      clear C1
      go_wp2_with fail
      go_ret
      exact ⟨rfl, (n0.trans x1).alloc _⟩

set_option maxHeartbeats 1000000 in
theorem risk_any (p : ByteArray) (at' : Int) (w : World) (hs : p.size ≤ 1000000) : Calls Tryd.prog 18 #[.agg #[.string p, .int .i64 at']] w fun e w' => e = .returned (.bool (isK (L p) at')) ∧ Nx w w' := by
  have n0 := (Nx.refl w).alloc (.cells #[.string p, .int .i64 at'] 30)
  have hb := Blk.new w 30 #[.string p, .int .i64 at']
  rcases Nat.lt_or_ge p.size 1 with h0 | h0
  · obtain rfl := size_nil (show p.size = 0 by omega)
    rw [isK_nil]
    by_cases c : at' = 0
    · subst c
      rw [decide_eq_true rfl]
      clear hb
      go_enter Tryd.func18, Tryd.ntmps18
      go_wp2_with fail
      go_ret
      exact ⟨rfl, n0⟩
    · rw [decide_eq_false c]
      have y1 : (at' == 0) = false := beq_eq_false_iff_ne.2 c
      clear hb
      go_enter Tryd.func18, Tryd.ntmps18
      go_wp2_with fail
      go_ret
      exact ⟨rfl, n0⟩
  · obtain ⟨p1, p2⟩ := str_ne h0
    rw [isK_ne h0]
    have c1 := rone_any p (w.alloc (.cells #[.string p, .int .i64 at'] 30)) hs
    obtain ⟨a, b, c, e⟩ := keyV_e (one (L p))
    rw [e] at c1
    have C1 := Lib.hid c1
    clear c1 e
    by_cases h3 : (one (L p)).2.2 = 3
    · rw [decide_eq_true h3, Bool.true_and]
      rw [h3] at C1
      have C2 := Lib.hid (fun W => rtick_any at' W)
      generalize tickB at' = T at *
      clear h3
      go_enter Tryd.func18, Tryd.ntmps18
      go_wp2_with fail
      refine C1.out.mono ?_
      rintro e w1 ⟨rfl, x1⟩
      clear C1
      have hb1 := (hb.nx x1).alloc (.cells #[.int .i64 a, .int .i32 b] 23)
      have hl := hb1.lt
      obtain ⟨b0, b1, _, _⟩ := blk_cells hb1
      have hl1 := (hb.nx x1).lt
      clear hb hb1
      go_wp2_with fail
      refine (C2.out _).mono ?_
      rintro e w2 ⟨rfl, rfl⟩
      clear C2
      go_wp2_with fail
      go_ret
      exact ⟨rfl, (n0.trans x1).alloc _⟩
    · rw [decide_eq_false h3, Bool.false_and]
      have y1 : (((one (L p)).2.2 : Int) == 3) = false := beq_eq_false_iff_ne.2 (by omega)
      generalize ((one (L p)).2.2 : Int) = d at *
      clear h3
      go_enter Tryd.func18, Tryd.ntmps18
      go_wp2_with fail
      refine C1.out.mono ?_
      rintro e w1 ⟨rfl, x1⟩
      clear C1
      go_wp2_with fail
      go_ret
      exact ⟨rfl, (n0.trans x1).alloc _⟩
end Go.Proofs.YtmfccecjphfkiaaDoor.walk
