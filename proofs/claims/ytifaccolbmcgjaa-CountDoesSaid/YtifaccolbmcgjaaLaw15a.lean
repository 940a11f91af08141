/-
  The walks of the laws CountDoes and CountTells: each returns true for every input. No condition.
-/
import Derived.Test.YtifaccolbmcgjaaWalk15d
import Derived.Test.YtifaccolbmcgjaaWalk15e
import Derived.Test.YtifaccolbmcgjaaOpen15
namespace Go.Proofs.Ytifaccolbmcgjaa.walk
open Go.RowKit Go.Proofs.Ytifaccolbmcgjaa.kit Go.Proofs.Ytifaccolbmcgjaa.plain
set_option linter.unusedVariables false

theorem is_nx (h g : Bool) (n : Int) (w : World) : Calls Try.prog 10 #[.agg #[.bool h, .bool g, .int .i64 n]] w fun e w' => e = .returned (.bool (isB h g n)) ∧ Nx w w' := is_at h g n _ rfl w
theorem ris_nx (h g : Bool) (n : Int) (w : World) : Calls Try.prog 11 #[.agg #[.bool h, .bool g, .int .i64 n]] w fun e w' => e = .returned (.bool (isB h g n)) ∧ Nx w w' :=
  (ris_any h g n w).mono fun _ _ ⟨h1, h2⟩ => ⟨h1, h2 ▸ (Nx.refl _).alloc _⟩

set_option maxHeartbeats 400000 in
theorem countTells_walk (w : World) (h g : Bool) (n : Int) : Calls Try.prog 4 #[.agg #[.bool h, .bool g, .int .i64 n]] w fun e w' => e = .returned (.bool true) ∧ Below w.heap.size w w' := by
  go_enter Try.func4, Try.ntmps4
  go_wp2_with fail
  have hN : Nx w (w.alloc (.cells #[.bool h, .bool g, .int .i64 n] 23)) := (Nx.refl _).alloc _
  have hB := Blk.new w 23 #[.bool h, .bool g, .int .i64 n]
  generalize w.alloc (.cells #[.bool h, .bool g, .int .i64 n] 23) = W at *
  generalize w.heap.size = g1 at *
  have a0 : ∀ d os, (Sort.grow (redrawn W d) os).cell? ⟨g1, 0, none⟩ = some (.bool h) := cell_regrown (hB.cell 0)
  have a1 : ∀ d os, (Sort.grow (redrawn W d) os).cell? ⟨g1, 1, none⟩ = some (.bool g) := cell_regrown (hB.cell 1)
  have a2 : ∀ d os, (Sort.grow (redrawn W d) os).cell? ⟨g1, 2, none⟩ = some (.int .i64 n) := cell_regrown (hB.cell 2)
  have v1 := fun d os => Calls.regrown_of (w := W) (d := d) (os := os) (counted_any _)
  have v2 := fun d os => Calls.regrown_of (w := W) (d := d) (os := os) (minus_any h g n _)
  have v3 := fun d os => Calls.regrown_of (w := W) (d := d) (os := os) (rminus_any h g n _)
  have v4 := fun d os => Calls.regrown_of (w := W) (d := d) (os := os) (value_any h g n _)
  have v5 := fun d os => Calls.regrown_of (w := W) (d := d) (os := os) (rvalue_any h g n _)
  refine wp_region_quiet_below (by kernel_rfl) (by kernel_rfl) ?_
  repeat (go_big_quiet_step (first | with_reducible exact v1 _ _ | with_reducible exact v2 _ _ | with_reducible exact v3 _ _ | with_reducible exact v4 _ _ | with_reducible exact v5 _ _))
  refine wpQuiet_nil ?_
  intro _ hw'
  obtain ⟨⟨dq, osq⟩, hw''⟩ := hw'
  subst hw''
  go_wp2
  go_ret
  exact ⟨rfl, hN.trans (below_regrown W dq osq)⟩

set_option maxHeartbeats 400000 in
theorem countDoes_walk (w : World) (h g : Bool) (n : Int) (A : Option Addr) (len cap : Nat) (zs : List Int) (hw : IntsIn .i64 w A len zs ∧ len ≤ cap ∧ cap ≤ maxLen ∧ ∀ z ∈ zs, (Lit.int .i64 z).wf = true) :
    Calls Try.prog 3 #[.agg #[.bool h, .bool g, .int .i64 n], .slice A len cap] w fun e w' => e = .returned (.bool true) ∧ Below w.heap.size w w' := by
  have hz := hw.1
  clear hw
  go_enter Try.func3, Try.ntmps3
  go_wp2_with fail
  have hN : Nx w (w.alloc (.cells #[.bool h, .bool g, .int .i64 n] 23)) := (Nx.refl _).alloc _
  have hB := Blk.new w 23 #[.bool h, .bool g, .int .i64 n]
  generalize w.alloc (.cells #[.bool h, .bool g, .int .i64 n] 23) = W at *
  generalize w.heap.size = g1 at *
  have a0 : ∀ d os, (Sort.grow (redrawn W d) os).cell? ⟨g1, 0, none⟩ = some (.bool h) := cell_regrown (hB.cell 0)
  have a1 : ∀ d os, (Sort.grow (redrawn W d) os).cell? ⟨g1, 1, none⟩ = some (.bool g) := cell_regrown (hB.cell 1)
  have a2 : ∀ d os, (Sort.grow (redrawn W d) os).cell? ⟨g1, 2, none⟩ = some (.int .i64 n) := cell_regrown (hB.cell 2)
  by_cases hl : 1000 < len
  · have hd : decide ((1000 : Int) < (len : Int)) = true := by simp; omega
    clear hz
    refine wp_region_quiet_below (by kernel_rfl) (by kernel_rfl) ?_
    repeat (go_big_quiet_step (fail))
    refine wpQuiet_nil ?_
    intro _ hw'
    obtain ⟨⟨dq, osq⟩, hw''⟩ := hw'
    subst hw''
    go_wp2
    go_ret
    exact ⟨rfl, hN.trans (below_regrown W dq osq)⟩
  · have hd : decide ((1000 : Int) < (len : Int)) = false := by simp; omega
    have v1 := fun d os => Calls.regrown_of (w := W) (d := d) (os := os) (counted_any _)
    have v2 := fun d os => Calls.regrown_of (w := W) (d := d) (os := os) (digit_any h g n A len cap zs _ (hz.keep (hN.trans (below_regrown W d os))) (by omega))
    have v3 := fun d os => Calls.regrown_of (w := W) (d := d) (os := os) (rdigit_any h g n A len cap zs _ (hz.keep (hN.trans (below_regrown W d os))) (by omega))
    have v4 := fun d os => Calls.regrown_of (w := W) (d := d) (os := os) (is_nx h g n _)
    have v5 := fun d os => Calls.regrown_of (w := W) (d := d) (os := os) (ris_nx h g n _)
    clear hz
    refine wp_region_quiet_below (by kernel_rfl) (by kernel_rfl) ?_
    repeat (go_big_quiet_step (first | with_reducible exact v1 _ _ | with_reducible exact v2 _ _ | with_reducible exact v3 _ _ | with_reducible exact v4 _ _ | with_reducible exact v5 _ _))
    refine wpQuiet_nil ?_
    intro _ hw'
    obtain ⟨⟨dq, osq⟩, hw''⟩ := hw'
    subst hw''
    go_wp2
    go_ret
    exact ⟨rfl, hN.trans (below_regrown W dq osq)⟩
end Go.Proofs.Ytifaccolbmcgjaa.walk
