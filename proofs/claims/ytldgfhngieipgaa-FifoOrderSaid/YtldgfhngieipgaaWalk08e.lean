/-
  Fifos: New of the program, and its methods at nil. No condition.
-/
import Derived.Test.YtldgfhngieipgaaWalk08d
import Derived.Laws.MakeOwn
import Derived.Laws.Entries
namespace Go.Proofs.Ytldgfhngieipgaa.walk
open Go.RowKit Go.Proofs.Ytldgfhngieipgaa.kit
set_option linter.unusedVariables false

theorem run_make_rowN {P : Program} (t e : TypeId) (i : TypeInfo) (z : Value) (ht : P.underlying t = some (.slice e)) (hi : P.info? e = some i) (hz : i.zero = some z)
    (kl kc : IntKind) (n c : Nat) (hnc : n ≤ c) (hbytes : i.bytes * c ≤ 281474976710656) (h63 : c ≤ 9223372036854775807) (w : World) :
    (Instr.makeSlice t (.int kl (n : Int)) (.int kc (c : Int))).run P w = .ok (.slice (some ⟨w.heap.size, 0, none⟩) n c) (w.alloc (.cells (madeCells z.cells (c * i.size)) e)) := by
  have hb : (i.bytes : Int) * (c : Int) ≤ 281474976710656 := by
    have h : ((i.bytes * c : Nat) : Int) ≤ 281474976710656 := by omega
    rwa [Int.natCast_mul] at h
  have hr := run_make (P := P) w t e i z ht hi hz kl kc n c (by omega) (by omega) hb (by omega)
  simp only [Int.toNat_natCast] at hr
  exact hr
theorem Try.infoSt : (Try.prog.info? 31).map (fun i => (i.zero, i.size, i.bytes)) = some (some (.agg #[.int .u8 0, .int .i64 0]), 2, 16) := by kernel_rfl

theorem new_bad (w : World) (r : Int) (h : r < 1 ∨ 64 < r) :
    Calls Try.prog 6 #[.int .i64 r] w fun e w' => e = .returned (.tuple #[.pointer none, .int .i64 4]) ∧ w = w' := by
  rcases (show r < 1 ∨ (1 ≤ r ∧ 64 < r) by omega) with h1 | ⟨h1, h2⟩
  all_goals
    clear h
    go_enter Try.func6, Try.ntmps6
    go_wp2_with fail
    go_ret2
    exact ⟨rfl, rfl⟩
theorem new_ok (w : World) (R : Nat) (h1 : 1 ≤ R) (h2 : R ≤ 64) :
    Calls Try.prog 6 #[.int .i64 R] w fun e w' => e = .returned (.tuple #[.pointer (some ⟨w.heap.size + 1, 0, none⟩), .int .i64 0]) ∧ FI w' (w.heap.size + 1) w.heap.size R [] 0 0 ∧ Nx w w' := by
  obtain ⟨i0, hi, hz0, hzs, hz2⟩ := info_parts Try.infoSt
  have hmk := fun W => run_make_rowN (P := Try.prog) 22 31 i0 _ Try.underlying22 hi hz0 .i64 .i64 R R (Nat.le_refl _) (by rw [hz2]; omega) (by omega) W
  rw [hzs] at hmk
  clear hi hz0 hzs hz2
  go_enter Try.func6, Try.ntmps6
  go_wp2_with fail
  go_ret2
  refine ⟨rfl, ⟨0, _, ?_, (Blk.new w _ _).alloc _, ?_, by omega, Nat.zero_le _, fun i hi => absurd hi (by simp)⟩, ((Nx.refl _).alloc _).alloc _⟩
  · have := Blk.new (w.alloc (.cells (madeCells (Value.agg #[.int .u8 0, .int .i64 0]).cells (R * 2)) 31)) 44 #[.slice (some ⟨w.heap.size, 0, none⟩) R R, .int .i64 0, .int .i64 0, .int .i64 0, .int .i64 0]
    rw [World.size_alloc] at this
    exact this
  · rw [size_madeCells]; omega
theorem pop_nil (w : World) : Calls Try.prog 8 #[.pointer none] w fun e w' => e = .returned (.tuple #[.agg #[.int .u8 0, .int .i64 0], .int .i64 8]) ∧ Nx w w' := by
  go_enter Try.func8, Try.ntmps8
  go_wp2_with fail
  refine bodyPost_ret (v := .tuple #[.agg #[.int .u8 0, .int .i64 0], .int .i64 8]) (by simp [results, Try.results8, go_sem]) rfl ⟨rfl, ?_⟩
  exact (Nx.refl _).alloc _
theorem push_nil (w : World) (b t : Int) : Calls Try.prog 10 #[.pointer none, .int .u8 b, .int .i64 t] w fun e w' => e = .returned (.int .i64 8) ∧ w = w' := by
  go_enter Try.func10, Try.ntmps10
  go_wp2_with fail
  go_ret
  exact ⟨rfl, rfl⟩
theorem len_nil (w : World) : Calls Try.prog 12 #[.pointer none] w fun e w' => e = .returned (.int .i64 0) ∧ w = w' := by
  go_enter Try.func12, Try.ntmps12
  go_wp2_with fail
  go_ret
  exact ⟨rfl, rfl⟩
end Go.Proofs.Ytldgfhngieipgaa.walk
