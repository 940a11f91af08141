/-
  Is there too much to be looked at (the law's big)? No condition.
-/
import Derived.Test.YtmfjndoljdpliaaDoorWalk22b
namespace Go.Proofs.YtmfjndoljdpliaaDoor.walk
open Go.RowKit Go.Proofs.YtmfjndoljdpliaaDoor.kit Go.Proofs.YtmfjndoljdpliaaDoor.plain
set_option linter.unusedVariables false

/-- what big answers: true, or the bounds hold -/
def BigP (ls : List (List Int)) (k : Nat) (w : World) (e : Ending) (w' : World) : Prop :=
  (e = .returned (.bool true) ∨ (e = .returned (.bool false) ∧ ls.length ≤ 100 ∧ (∀ l ∈ ls, l.length ≤ 1000) ∧ k ≤ 20000)) ∧ Nx w w'
set_option maxHeartbeats 2000000 in
theorem big_any (R D : Int) (A : Option Addr) (n cap : Nat) (ls : List (List Int)) (s : ByteArray) (w : World) (hz : RowsIn w A n ls) :
    Calls Tryd.prog 7 #[.agg #[.int .i64 R, .int .i64 D, .slice A n cap], .string s] w (BigP ls s.size w) := by
  have n1 := (Nx.refl w).alloc (.cells #[.int .i64 R, .int .i64 D, .slice A n cap] 24)
  have hB := Blk.new w 24 #[.int .i64 R, .int .i64 D, .slice A n cap]
  have HL := Lib.hid hz.1
  go_enter Tryd.func7, Tryd.ntmps7
  go_wp2_with fail
  go_loopw [5] (fun i wr => ∃ k : Nat, k ≤ n ∧ i = .int .i64 k ∧ (∀ l ∈ ls.take k, l.length ≤ 1000) ∧ Blk wr w.heap.size 24 #[.int .i64 R, .int .i64 D, .slice A n cap] ∧ Nx w wr) (fun i _ => n - (intOf i).toNat)
  case atStart => exact ⟨0, Nat.zero_le _, rfl, by simp, hB, n1⟩
  case round =>
    clear hB n1
    obtain ⟨k, hk, rfl, ha, hB, hN⟩ := hrel
    obtain ⟨b0, b1, b2⟩ := blk3 hB
    have HA := Lib.hid ha
    have HB := Lib.hid hB
    clear ha hB b0 b1
    have r1 : ∀ h : ¬ n ≤ 100, decide ((100 : Int) < (n : Int)) = true := fun h => decide_eq_true (by omega)
    by_cases h100 : n ≤ 100
    · have d1 : decide ((n : Int) ≤ (100 : Int)) = true := decide_eq_true (by omega)
      have d1' : decide (n ≤ 100) = true := decide_eq_true h100
      have d2 : decide ((100 : Int) < (n : Int)) = false := decide_eq_false (by omega)
      have d2' : decide (100 < n) = false := decide_eq_false (by omega)
      by_cases hlt : k < n
      · obtain ⟨b, off, B, m, c, rfl, lb, g0, hI, hmc, hcm⟩ := hz.at_ hlt
        have c0 := (hN.cell (p := ⟨b, off + k, none⟩) lb).trans g0
        have q1 : decide ((k : Int) < (n : Int)) = true := decide_eq_true (by omega)
        have q1' : decide (k < n) = true := decide_eq_true hlt
        have hi0 : (0 : Int) ≤ (k : Int) := by omega
        have hi1 : (k : Int) < (n : Int) := by omega
        have hkl : k < ls.length := by rw [HL.out]; exact hlt
        have HT := Lib.hid (take_nthL (ls := ls) (i := k) hkl)
        generalize nthL ls k = l at *
        have HI := Lib.hid hI.1
        clear g0 hI
        by_cases hm : 1000 < m
        · have e1 : decide ((1000 : Int) < (m : Int)) = true := decide_eq_true (by omega)
          have e1' : decide (1000 < m) = true := decide_eq_true hm
          go_wp2_with fail
          go_ret
          exact ⟨.inl rfl, hN⟩
        · have e1 : decide ((1000 : Int) < (m : Int)) = false := decide_eq_false (by omega)
          have e1' : decide (1000 < m) = false := decide_eq_false hm
          have hnew : ∀ x ∈ ls.take (k + 1), x.length ≤ 1000 := by
            intro x hx
            rw [HT.out] at hx
            rcases List.mem_append.1 hx with hx | hx
            · exact HA.out x hx
            · simp at hx; subst hx; rw [HI.out]; omega
          have HX := Lib.hid hnew
          clear hnew
          go_wp2_with fail
          go_roundw
          case rel => exact ⟨k + 1, by omega, by go_num, HX.out, HB.out, hN⟩
          case measure => simp [intOf]; omega
      · have q1 : decide ((k : Int) < (n : Int)) = false := decide_eq_false (by omega)
        have q1' : decide (k < n) = false := decide_eq_false hlt
        have hall : ∀ l ∈ ls, l.length ≤ 1000 := by
          have := HA.out
          rwa [List.take_of_length_le (by rw [HL.out]; omega)] at this
        have HX := Lib.hid hall
        clear hall
        by_cases hs : 20000 < s.size
        · have e1 : decide ((20000 : Int) < (s.size : Int)) = true := decide_eq_true (by omega)
          have e1' : decide (20000 < s.size) = true := decide_eq_true hs
          go_wp2_with fail
          go_ret
          exact ⟨.inl rfl, hN⟩
        · have e1 : decide ((20000 : Int) < (s.size : Int)) = false := decide_eq_false (by omega)
          have e1' : decide (20000 < s.size) = false := decide_eq_false hs
          go_wp2_with fail
          go_ret
          exact ⟨.inr ⟨rfl, by rw [HL.out]; exact h100, HX.out, by omega⟩, hN⟩
    · have d1 : decide ((n : Int) ≤ (100 : Int)) = false := decide_eq_false (by omega)
      have d1' : decide (n ≤ 100) = false := decide_eq_false h100
      have d2 := r1 h100
      have d2' : decide (100 < n) = true := decide_eq_true (by omega)
      by_cases hlt : k < n
      · have q1 : decide ((k : Int) < (n : Int)) = true := decide_eq_true (by omega)
        have q1' : decide (k < n) = true := decide_eq_true hlt
        go_wp2_with fail
        go_ret
        exact ⟨.inl rfl, hN⟩
      · have q1 : decide ((k : Int) < (n : Int)) = false := decide_eq_false (by omega)
        have q1' : decide (k < n) = false := decide_eq_false hlt
        go_wp2_with fail
        go_ret
        exact ⟨.inl rfl, hN⟩
end Go.Proofs.YtmfjndoljdpliaaDoor.walk
