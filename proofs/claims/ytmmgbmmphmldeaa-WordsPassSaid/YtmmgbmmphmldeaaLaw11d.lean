/-
  The walk of the law WordsPass: it returns true for every input. No condition.
-/
import Derived.Test.YtmmgbmmphmldeaaWalk11w
namespace Go.Proofs.Ytmmgbmmphmldeaa.walk
open Go.RowKit Go.Proofs.Ytmmgbmmphmldeaa.plain
open Go.Proofs.Ytmmgbmmphmldeaa.kit hiding nth
set_option linter.unusedVariables false

set_option maxRecDepth 100000 in
set_option maxHeartbeats 2000000 in
theorem wordsPass_walk (w : World) (A : Option Addr) (len cap : Nat) (zs : List Int) (hw : IntsIn .i32 w A len zs ∧ len ≤ cap ∧ cap ≤ maxLen ∧ ∀ z ∈ zs, (Lit.int .i32 z).wf = true) (at' : Int) (wa : (Lit.int .i64 at').wf = true) :
    Calls Try.prog 7 #[.slice A len cap, .int .i64 at'] w fun e w' => e = .returned (.bool true) ∧ Below w.heap.size w w' := by
  have hz := hw.1
  have hlm : len ≤ 9223372036854775807 := by have := hw.2.1; have := hw.2.2.1; unfold maxLen at this; omega
  clear hw wa
  have hz1 := hz.1
  by_cases hgd : 1000 < len ∨ at' < 0 ∨ (len : Int) < at'
  · rcases (show (1000 < len) ∨ (len ≤ 1000 ∧ at' < 0) ∨ (len ≤ 1000 ∧ 0 ≤ at' ∧ (len : Int) < at') by omega) with h1 | ⟨h1, h2⟩ | ⟨h1, h2, h3⟩
    all_goals
      clear hgd
      go_enter Try.func7, Try.ntmps7
      go_wp2_with (go_at_call 9; refine (worded_any _).mono ?_; rintro e w1 ⟨rfl, hx⟩)
      go_ret
      exact ⟨rfl, hx⟩
  · have hlen : len ≤ 1000 := by omega
    obtain ⟨a, rfl⟩ := Int.eq_ofNat_of_zero_le (show 0 ≤ at' by omega)
    have ha : a ≤ len := by omega
    clear hgd
    have e1 : decide ((1000 : Int) < (len : Int)) = false := decide_eq_false (by omega)
    have e2 : decide ((a : Int) < 0) = false := decide_eq_false (by omega)
    have e3 : decide ((len : Int) < (a : Int)) = false := decide_eq_false (by omega)
    have e4 : decide (len < a) = false := decide_eq_false (by omega)
    have pa := Lib.hid (place_nat hz1 ha)
    obtain ⟨s, hs1, hs2, hs3, hs4, hs5, hs6, hs7⟩ := fore_spec zs a (by rw [hz1]; exact ha)
    rw [hz1] at hs3 hs6 hs7
    generalize hFF : foreP zs a = F at *
    have HF := Lib.hid hFF
    have hFa : F = a → a = len := by
      intro h
      have : s = F := by omega
      subst this
      have := hs7 rfl
      omega
    have HS := Lib.hid (And.intro hs4 (And.intro hs5 (And.intro hs6 (And.intro hs7 hFa))))
    clear hs4 hs5 hs6 hs7 hFF hFa
    have g1 : decide ((F : Int) < (a : Int)) = false := decide_eq_false (by omega)
    have g2 : decide ((len : Int) < (F : Int)) = false := decide_eq_false (by omega)
    have g1' : decide (F < a) = false := decide_eq_false (by omega)
    have g2' : decide (len < F) = false := decide_eq_false (by omega)
    go_enter Try.func7, Try.ntmps7
    go_wp2_with fail
    refine (fore_at _ A len cap zs (a : Int) F (by rw [pa.out, HF.out]) hz hlen).mono ?_
    rintro e w1 ⟨rfl, x1⟩
    go_upto_region 4 with fail
    go_cut [58] (fun s58 wx => s58 = .bool false ∧ w1 = wx)
    case first =>
      by_cases hFl : F < len
      · obtain ⟨b, off, rfl, hbl, hc0⟩ := cell_nth hz hFl
        have hc : w1.cell? ⟨b, off + F, none⟩ = some (.int .i32 (nth zs F)) := (x1.cell hbl).trans hc0
        have H := Lib.hid (HS.out.2.2.1 hFl)
        have g3 : decide (F < len) = true := decide_eq_true hFl
        have g4 : ((F : Int) == (a : Int)) = false := by
          simp only [beq_eq_false_iff_ne, ne_eq]
          intro h
          have := HS.out.2.2.2.2 (by omega)
          omega
        clear hc0
        go_wp2_with (go_at_call 10; refine (in_any _ _).mono ?_; rw [H.out]; rintro e w2 ⟨rfl, rfl⟩)
        go_meet
        exact ⟨rfl, rfl⟩
      · have g3 : decide (F < len) = false := decide_eq_false hFl
        by_cases hFa : F = a
        · have g4 : ((F : Int) == (a : Int)) = true := by simp [hFa]
          have g5 : decide (a < len) = false := decide_eq_false (by omega)
          clear hFa
          go_wp2_with fail
          go_meet
          exact ⟨rfl, rfl⟩
        · have g4 : ((F : Int) == (a : Int)) = false := by simpa using fun h => hFa (by omega)
          clear hFa
          go_wp2_with fail
          go_meet
          exact ⟨rfl, rfl⟩
    case rest =>
      obtain ⟨rfl, rfl⟩ := hcut
      go_wp2_with fail
      go_loop [6, 7, 8] (fun n i _ => ∃ k : Nat, a ≤ k ∧ k ≤ F ∧ i = .int .i64 k ∧ ((n = .bool true ∧ s < k) ∨ (n = .bool false ∧ k ≤ s))) (fun _ i _ => F - (intOf i).toNat)
      case atStart => exact ⟨a, Nat.le_refl _, by omega, rfl, .inr ⟨rfl, hs1⟩⟩
      case round =>
        obtain ⟨k, hk1, hk2, rfl, hn⟩ := hrel
        by_cases hlt : k < F
        · obtain ⟨b, off, rfl, hbl, hc0⟩ := cell_nth hz (show k < len by omega)
          have hc : w1.cell? ⟨b, off + k, none⟩ = some (.int .i32 (nth zs k)) := (x1.cell hbl).trans hc0
          have g3 : decide ((k : Int) < (F : Int)) = true := decide_eq_true (by omega)
          have g3' : decide (k < F) = true := decide_eq_true hlt
          clear hc0
          rcases hn with ⟨rfl, hsk⟩ | ⟨rfl, hsk⟩
          · have H := Lib.hid (HS.out.2.1 k (by omega) hlt)
            go_wp2_with (go_at_call 10; refine (in_any _ _).mono ?_; rw [H.out]; rintro e w2 ⟨rfl, rfl⟩)
            go_round
            case rel => exact ⟨k + 1, by omega, by omega, by go_num, .inl ⟨rfl, by omega⟩⟩
            case measure => simp [intOf] <;> omega
          · by_cases hks : k < s
            · have H := Lib.hid (HS.out.1 k hk1 hks)
              go_wp2_with (go_at_call 10; refine (in_any _ _).mono ?_; rw [H.out]; rintro e w2 ⟨rfl, rfl⟩)
              go_round
              case rel => exact ⟨k + 1, by omega, by omega, by go_num, .inr ⟨rfl, by omega⟩⟩
              case measure => simp [intOf] <;> omega
            · have H := Lib.hid (HS.out.2.1 k (by omega) hlt)
              go_wp2_with (go_at_call 10; refine (in_any _ _).mono ?_; rw [H.out]; rintro e w2 ⟨rfl, rfl⟩)
              go_round
              case rel => exact ⟨k + 1, by omega, by omega, by go_num, .inl ⟨rfl, by omega⟩⟩
              case measure => simp [intOf] <;> omega
        · have g3 : decide ((k : Int) < (F : Int)) = false := decide_eq_false (by omega)
          have g3' : decide (k < F) = false := decide_eq_false hlt
          rcases hn with ⟨rfl, hsk⟩ | ⟨rfl, hsk⟩
          · go_wp2_with (go_at_call 9; refine (worded_any _).mono ?_; rintro e w2 ⟨rfl, x2⟩)
            go_ret
            exact ⟨rfl, x1.trans x2⟩
          · have hFl : F = len := by
              have h1 : F = s := by omega
              have h2 := HS.out.2.2.2.1 h1
              omega
            have g4 : ((F : Int) == (len : Int)) = true := by simp [hFl]
            clear hFl
            go_wp2_with (go_at_call 9; refine (worded_any _).mono ?_; rintro e w2 ⟨rfl, x2⟩)
            go_ret
            exact ⟨rfl, x1.trans x2⟩
end Go.Proofs.Ytmmgbmmphmldeaa.walk
