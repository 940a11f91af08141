/-
  Counts: the chapter's example comes out true. No condition.
-/
import Derived.Test.YtifaccolbmcgjaaWalk15b
import Derived.Test.YtifaccolbmcgjaaWalk15c
namespace Go.Proofs.Ytifaccolbmcgjaa.walk
open Go.RowKit Go.Proofs.Ytifaccolbmcgjaa.kit Go.Proofs.Ytifaccolbmcgjaa.plain
set_option linter.unusedVariables false

theorem digit_at (h g : Bool) (n : Int) (b len cap : Nat) (zs : List Int) (w : World) (hz : zs.length = len) (hb : b < w.heap.size) (hc : ∀ j, j < len → w.cell? ⟨b, j, none⟩ = some (.int .i64 (nth zs j))) (h' : Bool) (n' : Int)
    (eh : digH h g n zs = h') (en : digN h g n zs = n') (hl : len ≤ 9223372036854775807) :
    Calls Try.prog 8 #[.agg #[.bool h, .bool g, .int .i64 n], .slice (some ⟨b, 0, none⟩) len cap] w fun e w' => e = .returned (.agg #[.bool h', .bool g, .int .i64 n']) ∧ Nx w w' := by
  subst eh en
  exact digit_any h g n _ len cap zs w ⟨hz, fun _ => ⟨b, 0, rfl, hb, fun j hj => by rw [Nat.zero_add]; exact hc j hj⟩⟩ hl

theorem cell2 (w : World) (a b : Value) (t : TypeId) : ∀ j, j < 2 → (w.alloc (.cells #[a, b] t)).cell? ⟨w.heap.size, j, none⟩ = some ([a, b].getD j undef) := by
  intro j hj
  have h := (Blk.new w t #[a, b]).cell j
  rw [h]
  match j, hj with
  | 0, _ => rfl
  | 1, _ => rfl

theorem minus_zero (w : World) : Calls Try.prog 12 #[.agg #[.bool false, .bool false, .int .i64 0]] w fun e w' => e = .returned (.agg #[.bool true, .bool true, .int .i64 0]) ∧ Nx w w' := minus_any false false 0 w
theorem minus_at (h g : Bool) (n : Int) (h' g' : Bool) (e1 : minH h g n = h') (e2 : minG h g n = g') (w : World) : Calls Try.prog 12 #[.agg #[.bool h, .bool g, .int .i64 n]] w fun e w' => e = .returned (.agg #[.bool h', .bool g', .int .i64 n]) ∧ Nx w w' := by subst e1 e2; exact minus_any h g n w
theorem value_at (h g : Bool) (n v : Int) (e : valB h g n = v) (w : World) : Calls Try.prog 14 #[.agg #[.bool h, .bool g, .int .i64 n]] w fun e w' => e = .returned (.int .i64 v) ∧ Nx w w' := by subst e; exact value_any h g n w
theorem is_at (h g : Bool) (n : Int) (b : Bool) (e : isB h g n = b) (w : World) : Calls Try.prog 10 #[.agg #[.bool h, .bool g, .int .i64 n]] w fun e w' => e = .returned (.bool b) ∧ Nx w w' := by
  subst e; exact (is_any h g n w).mono fun _ _ ⟨h1, h2⟩ => ⟨h1, h2 ▸ (Nx.refl _).alloc _⟩

set_option maxHeartbeats 400000 in
theorem counted_any (w : World) : Calls Try.prog 7 #[] w fun e w' => e = .returned (.bool true) ∧ Nx w w' := by
  go_enter Try.func7, Try.ntmps7
  go_wp2_with fail
  refine (digit_at false false 0 w.heap.size 2 2 [1, 2] _ rfl (by simp) (fun j hj => ?_) true 12 rfl rfl (by omega)).mono ?_
  · match j, hj with
    | 0, _ => exact cell2 w _ _ _ 0 (by omega)
    | 1, _ => exact cell2 w _ _ _ 1 (by omega)
  rintro e w1 ⟨rfl, hx1⟩
  go_wp2_with fail
  refine (minus_zero _).mono ?_
  rintro e w2 ⟨rfl, hx2⟩
  go_wp2_with fail
  refine (digit_at true true 0 w2.heap.size 1 1 [7] _ rfl (by simp) (fun j hj => ?_) true 7 rfl rfl (by omega)).mono ?_
  · match j, hj with
    | 0, _ => exact (Blk.new w2 _ #[.int .i64 7]).cell 0
  rintro e w3 ⟨rfl, hx3⟩
  go_wp2_with fail
  have hN : Nx w (w3.alloc (.cells #[.bool true, .bool true, .int .i64 7] 23)) := (((((Nx.refl _).alloc _).trans hx1).alloc _).trans hx2 |>.alloc _ |>.trans hx3).alloc _
  have hB1 : Blk (w3.alloc (.cells #[.bool true, .bool true, .int .i64 7] 23)) w1.heap.size 23 #[.bool true, .bool false, .int .i64 12] := ((((Blk.new w1 _ _).nx hx2).alloc _).nx hx3).alloc _
  have hB2 := Blk.new w3 23 #[.bool true, .bool true, .int .i64 7]
  clear hx1 hx2 hx3
  generalize w3.alloc (.cells #[.bool true, .bool true, .int .i64 7] 23) = W at *
  generalize w1.heap.size = g1 at *
  generalize w3.heap.size = g2 at *
  have a0 : ∀ d os, (Sort.grow (redrawn W d) os).cell? ⟨g1, 0, none⟩ = some (.bool true) := cell_regrown (hB1.cell 0)
  have a1 : ∀ d os, (Sort.grow (redrawn W d) os).cell? ⟨g1, 1, none⟩ = some (.bool false) := cell_regrown (hB1.cell 1)
  have a2 : ∀ d os, (Sort.grow (redrawn W d) os).cell? ⟨g1, 2, none⟩ = some (.int .i64 12) := cell_regrown (hB1.cell 2)
  have b0 : ∀ d os, (Sort.grow (redrawn W d) os).cell? ⟨g2, 0, none⟩ = some (.bool true) := cell_regrown (hB2.cell 0)
  have b1 : ∀ d os, (Sort.grow (redrawn W d) os).cell? ⟨g2, 1, none⟩ = some (.bool true) := cell_regrown (hB2.cell 1)
  have b2 : ∀ d os, (Sort.grow (redrawn W d) os).cell? ⟨g2, 2, none⟩ = some (.int .i64 7) := cell_regrown (hB2.cell 2)
  have v1 := fun d os => Calls.regrown_of (w := W) (d := d) (os := os) (value_at true false 12 12 rfl _)
  have v2 := fun d os => Calls.regrown_of (w := W) (d := d) (os := os) (value_at true true 7 (-7) rfl _)
  have v3 := fun d os => Calls.regrown_of (w := W) (d := d) (os := os) (minus_zero _)
  have v4 := fun d os => Calls.regrown_of (w := W) (d := d) (os := os) (value_at true true 0 (-1) rfl _)
  have v5 := fun d os => Calls.regrown_of (w := W) (d := d) (os := os) (value_at false false 0 1 rfl _)
  have v6 := fun d os => Calls.regrown_of (w := W) (d := d) (os := os) (minus_at true false 12 true false rfl rfl _)
  have v7 := fun d os => Calls.regrown_of (w := W) (d := d) (os := os) (is_at true false 12 true rfl _)
  have v8 := fun d os => Calls.regrown_of (w := W) (d := d) (os := os) (is_at false false 1 false rfl _)
  refine wp_region_quiet_below (by kernel_rfl) (by kernel_rfl) ?_
  repeat (go_big_quiet_step (first | with_reducible exact v1 _ _ | with_reducible exact v2 _ _ | with_reducible exact v3 _ _ | with_reducible exact v4 _ _ | with_reducible exact v5 _ _ | with_reducible exact v6 _ _ | with_reducible exact v7 _ _ | with_reducible exact v8 _ _))
  refine wpQuiet_nil ?_
  intro _ hw'
  obtain ⟨⟨dq, osq⟩, hw''⟩ := hw'
  subst hw''
  go_wp2
  go_ret
  exact ⟨rfl, hN.trans (below_regrown W dq osq)⟩
end Go.Proofs.Ytifaccolbmcgjaa.walk
