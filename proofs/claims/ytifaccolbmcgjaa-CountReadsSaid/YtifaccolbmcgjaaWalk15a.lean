/-
  Counts: what each Go function of layer 15 and of its reference hands back, for every count. No condition.
-/
import Derived.Test.YtifaccolbmcgjaaBase
import Derived.Test.YtifaccolbmcgjaaPlain15
namespace Go.Proofs.Ytifaccolbmcgjaa.walk
open Go.RowKit Go.Proofs.Ytifaccolbmcgjaa.kit Go.Proofs.Ytifaccolbmcgjaa.plain
set_option linter.unusedVariables false

theorem ret_bool {a b : Bool} (h : a = b) : Ending.returned (.bool a) = .returned (.bool b) := by rw [h]
theorem ret_int {k : IntKind} {a b : Int} (h : a = b) : Ending.returned (.int k a) = .returned (.int k b) := by rw [h]

theorem is_any (h g : Bool) (n : Int) (w : World) : Calls Try.prog 10 #[.agg #[.bool h, .bool g, .int .i64 n]] w fun e w' => e = .returned (.bool (isB h g n)) ∧ w.alloc (.cells #[.bool h, .bool g, .int .i64 n] 23) = w' := by
  cases h <;> cases g
  all_goals
    go_enter Try.func10, Try.ntmps10
    go_wp2
    all_goals
      go_ret
      exact ⟨ret_bool (by unfold isB; simp; try omega), by first | rfl | simp_all⟩

theorem ris_any (h g : Bool) (n : Int) (w : World) : Calls Try.prog 11 #[.agg #[.bool h, .bool g, .int .i64 n]] w fun e w' => e = .returned (.bool (isB h g n)) ∧ w.alloc (.cells #[.bool h, .bool g, .int .i64 n] 23) = w' := by
  cases h <;> cases g
  all_goals
    go_enter Try.func11, Try.ntmps11
    go_wp2
    all_goals
      go_ret
      exact ⟨ret_bool (by unfold isB; simp; try omega), by first | rfl | simp_all⟩

theorem minus_any (h g : Bool) (n : Int) (w : World) : Calls Try.prog 12 #[.agg #[.bool h, .bool g, .int .i64 n]] w fun e w' => e = .returned (.agg #[.bool (minH h g n), .bool (minG h g n), .int .i64 n]) ∧ Nx w w' := by
  by_cases hn : n = 0
  · subst hn
    cases h <;> cases g
    all_goals
      go_enter Try.func12, Try.ntmps12
      go_wp2
      refine bodyPost_ret (v := .agg #[.bool (minH _ _ _), .bool (minG _ _ _), .int .i64 _]) (by simp [results, Try.results12, go_sem, minH, minG]) rfl ⟨rfl, ?_⟩
      exact ((Nx.refl _).alloc _).alloc _
  · have hn' : (n == 0) = false := by simpa using hn
    cases h <;> cases g
    all_goals
      go_enter Try.func12, Try.ntmps12
      go_wp2
      refine bodyPost_ret (v := .agg #[.bool (minH _ _ _), .bool (minG _ _ _), .int .i64 _]) (by simp [results, Try.results12, go_sem, minH, minG, hn']) rfl ⟨rfl, ?_⟩
      exact ((Nx.refl _).alloc _).alloc _

end Go.Proofs.Ytifaccolbmcgjaa.walk
