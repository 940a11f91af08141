/-
  The walks of the laws WordsKinds and WordsEnds: each returns true for every input. No condition.
-/
import Derived.Test.YtmmgbmmphmldeaaWalk11w
import Derived.Test.YtmmgbmmphmldeaaWalk11h
namespace Go.Proofs.Ytmmgbmmphmldeaa.walk
open Go.RowKit Go.Proofs.Ytmmgbmmphmldeaa.plain
open Go.Proofs.Ytmmgbmmphmldeaa.kit hiding nth
set_option linter.unusedVariables false

theorem wordsKinds_walk (w : World) (r : Int) (wr : (Lit.int .i32 r).wf = true) : Calls Try.prog 3 #[.int .i32 r] w fun e w' => e = .returned (.bool true) ∧ Below w.heap.size w w' := by
  clear wr
  go_enter Try.func3, Try.ntmps3
  go_wp2_with (first | (go_at_call 9; refine (worded_any _).mono ?_; rintro e w1 ⟨rfl, hx⟩) | (go_at_call 10; refine (in_any _ _).mono ?_; rintro e w1 ⟨rfl, rfl⟩) | (go_at_call 11; refine (rin_any _ _).mono ?_; rintro e w1 ⟨rfl, rfl⟩) | (go_at_call 12; refine (kind_any _ _).mono ?_; rintro e w1 ⟨rfl, rfl⟩) | (go_at_call 13; refine (rkind_any _ _).mono ?_; rintro e w1 ⟨rfl, rfl⟩))
  go_ret
  exact ⟨rfl, hx⟩

theorem wordsEnds_walk (w : World) (A : Option Addr) (len cap : Nat) (zs : List Int) (hw : IntsIn .i32 w A len zs ∧ len ≤ cap ∧ cap ≤ maxLen ∧ ∀ z ∈ zs, (Lit.int .i32 z).wf = true) (at' : Int) (wa : (Lit.int .i64 at').wf = true) :
    Calls Try.prog 4 #[.slice A len cap, .int .i64 at'] w fun e w' => e = .returned (.bool true) ∧ Below w.heap.size w w' := by
  have hz := hw.1
  clear hw wa
  by_cases hl : 1000 < len
  · have hd : decide ((1000 : Int) < (len : Int)) = true := by simp; omega
    go_enter Try.func4, Try.ntmps4
    go_wp2_with fail
    go_ret
    exact ⟨rfl, Nx.refl _⟩
  · have hd : decide ((1000 : Int) < (len : Int)) = false := by simp; omega
    have hlen : len ≤ 1000 := by omega
    go_enter Try.func4, Try.ntmps4
    go_wp2_with fail
    refine (worded_any _).mono ?_
    rintro e w1 ⟨rfl, x1⟩
    go_wp2_with fail
    refine (fore_any _ A len cap zs at' (hz.keep x1) hlen).mono ?_
    rintro e w2 ⟨rfl, x2⟩
    go_wp2_with fail
    refine (rfore_any _ A len cap zs at' (hz.keep (x1.trans x2)) hlen).mono ?_
    rintro e w3 ⟨rfl, rfl⟩
    go_wp2_with fail
    refine (behind_any _ A len cap zs at' (hz.keep (x1.trans x2)) hlen).mono ?_
    rintro e w4 ⟨rfl, x4⟩
    go_wp2_with fail
    refine (rbehind_any _ A len cap zs at' (hz.keep ((x1.trans x2).trans x4)) hlen).mono ?_
    rintro e w5 ⟨rfl, rfl⟩
    go_wp2_with fail
    go_ret
    exact ⟨rfl, (x1.trans x2).trans x4⟩
end Go.Proofs.Ytmmgbmmphmldeaa.walk
