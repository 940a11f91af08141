/-
  The walk of the law WordsBegins: it returns true for every input. No condition.
-/
import Derived.Test.YtmmgbmmphmldeaaWalk11w
import Derived.Test.YtmmgbmmphmldeaaWalk11j
namespace Go.Proofs.Ytmmgbmmphmldeaa.walk
open Go.RowKit Go.Proofs.Ytmmgbmmphmldeaa.plain
open Go.Proofs.Ytmmgbmmphmldeaa.kit hiding nth
set_option linter.unusedVariables false

theorem wordsBegins_walk (w : World) (A : Option Addr) (len cap : Nat) (zs : List Int) (hw : IntsIn .i32 w A len zs ∧ len ≤ cap ∧ cap ≤ maxLen ∧ ∀ z ∈ zs, (Lit.int .i32 z).wf = true) (at' : Int) (wa : (Lit.int .i64 at').wf = true) :
    Calls Try.prog 5 #[.slice A len cap, .int .i64 at'] w fun e w' => e = .returned (.bool true) ∧ Below w.heap.size w w' := by
  have hz := hw.1
  clear hw wa
  by_cases hl : 1000 < len
  · have hd : decide ((1000 : Int) < (len : Int)) = true := by simp; omega
    go_enter Try.func5, Try.ntmps5
    go_wp2_with fail
    go_ret
    exact ⟨rfl, Nx.refl _⟩
  · have hd : decide ((1000 : Int) < (len : Int)) = false := by simp; omega
    have hlen : len ≤ 1000 := by omega
    have hp : place zs at' ≤ zs.length := place_le zs at'
    have e1 := Lib.hid (next_agree zs (place zs at') hp)
    have e2 := Lib.hid (prev_agree zs (place zs at'))
    have e3 := Lib.hid (tail_agree zs (place zs at') hp)
    go_enter Try.func5, Try.ntmps5
    go_wp2_with fail
    refine (worded_any _).mono ?_
    rintro e w1 ⟨rfl, x1⟩
    go_wp2_with fail
    refine (next_any _ A len cap zs at' (hz.keep x1) hlen).mono ?_
    rintro e w2 ⟨rfl, x2⟩
    go_wp2_with fail
    refine (rnext_any _ A len cap zs at' (hz.keep (x1.trans x2)) hlen).mono ?_
    rw [e1.out]
    rintro e w3 ⟨rfl, x3⟩
    go_wp2_with fail
    refine (prev_any _ A len cap zs at' (hz.keep ((x1.trans x2).trans x3)) hlen).mono ?_
    rintro e w4 ⟨rfl, x4⟩
    go_wp2_with fail
    refine (rprev_any _ A len cap zs at' (hz.keep (((x1.trans x2).trans x3).trans x4)) hlen).mono ?_
    rw [e2.out]
    rintro e w5 ⟨rfl, x5⟩
    go_wp2_with fail
    refine (tail_any _ A len cap zs at' (hz.keep ((((x1.trans x2).trans x3).trans x4).trans x5)) hlen).mono ?_
    rintro e w6 ⟨rfl, x6⟩
    go_wp2_with fail
    refine (rtail_any _ A len cap zs at' (hz.keep (((((x1.trans x2).trans x3).trans x4).trans x5).trans x6)) hlen).mono ?_
    rw [e3.out]
    rintro e w7 ⟨rfl, x7⟩
    go_wp2_with fail
    go_ret
    exact ⟨rfl, (((((x1.trans x2).trans x3).trans x4).trans x5).trans x6).trans x7⟩
end Go.Proofs.Ytmmgbmmphmldeaa.walk
