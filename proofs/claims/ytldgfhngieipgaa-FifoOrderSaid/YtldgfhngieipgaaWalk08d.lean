/-
  Fifos: Push, Pop, Len, Lost, New of the program, for every state. No condition but the fifo's own shape.
-/
import Derived.Test.YtldgfhngieipgaaWalk08c
import Derived.Laws.MakeOwn
namespace Go.Proofs.Ytldgfhngieipgaa.walk
open Go.RowKit Go.Proofs.Ytldgfhngieipgaa.kit
set_option linter.unusedVariables false

theorem FI.cells {w : World} {a g R : Nat} {q : List (Int × Int)} {last lost : Int} (h : FI w a g R q last lost) :
    w.cell? ⟨a, 2, none⟩ = some (.int .i64 q.length) ∧ w.cell? ⟨a, 3, none⟩ = some (.int .i64 last) ∧ w.cell? ⟨a, 4, none⟩ = some (.int .i64 lost) ∧ w.frozen? ⟨a, 3, none⟩ = false ∧ w.frozen? ⟨a, 4, none⟩ = false := by
  obtain ⟨fr, cs, h1, _⟩ := h
  exact ⟨h1.cell 2, h1.cell 3, h1.cell 4, h1.frozen 3, h1.frozen 4⟩
theorem FI.setLast {w : World} {a g R : Nat} {q : List (Int × Int)} {last lost : Int} (h : FI w a g R q last lost) (hag : a ≠ g) (t : Int) : FI (w.setCell ⟨a, 3, none⟩ (.int .i64 t)) a g R q t lost := by
  obtain ⟨fr, cs, h1, h2, h3⟩ := h
  exact ⟨fr, cs, h1.set_ 3 _, h2.far (p := ⟨a, 3, none⟩) (fun e => hag e.symm) _, h3⟩
theorem FI.setLost {w : World} {a g R : Nat} {q : List (Int × Int)} {last lost : Int} (h : FI w a g R q last lost) (hag : a ≠ g) (t : Int) : FI (w.setCell ⟨a, 4, none⟩ (.int .i64 t)) a g R q last t := by
  obtain ⟨fr, cs, h1, h2, h3⟩ := h
  exact ⟨fr, cs, h1.set_ 4 _, h2.far (p := ⟨a, 4, none⟩) (fun e => hag e.symm) _, h3⟩

theorem len_any (w : World) (a g R : Nat) (q : List (Int × Int)) (last lost : Int) (h : FI w a g R q last lost) :
    Calls Try.prog 12 #[.pointer (some ⟨a, 0, none⟩)] w fun e w' => e = .returned (.int .i64 q.length) ∧ w = w' := by
  obtain ⟨c2, _⟩ := h.cells
  go_enter Try.func12, Try.ntmps12
  go_wp2
  go_ret
  exact ⟨rfl, rfl⟩
theorem lost_any (w : World) (a g R : Nat) (q : List (Int × Int)) (last lost : Int) (h : FI w a g R q last lost) :
    Calls Try.prog 13 #[.pointer (some ⟨a, 0, none⟩)] w fun e w' => e = .returned (.int .i64 lost) ∧ w = w' := by
  obtain ⟨_, _, c4, _⟩ := h.cells
  go_enter Try.func13, Try.ntmps13
  go_wp2
  go_ret
  exact ⟨rfl, rfl⟩

theorem push_bad (w : World) (a g R : Nat) (q : List (Int × Int)) (last lost b t : Int) (h : FI w a g R q last lost) (hb : t < last ∨ 1073741824 < t) :
    Calls Try.prog 10 #[.pointer (some ⟨a, 0, none⟩), .int .u8 b, .int .i64 t] w fun e w' => e = .returned (.int .i64 1) ∧ w = w' := by
  obtain ⟨_, c3, _⟩ := h.cells
  rcases (show t < last ∨ (last ≤ t ∧ 1073741824 < t) by omega) with h1 | ⟨h1, h2⟩
  all_goals
    clear hb
    go_enter Try.func10, Try.ntmps10
    go_wp2_with fail
    go_ret
    exact ⟨rfl, rfl⟩
theorem push_ok (w : World) (a g R : Nat) (q : List (Int × Int)) (last lost b t : Int) (hR : R ≤ 64) (hag : a ≠ g) (hq : q.length < R) (h : FI w a g R q last lost) (h1 : last ≤ t) (h2 : t ≤ 1073741824) :
    Calls Try.prog 10 #[.pointer (some ⟨a, 0, none⟩), .int .u8 b, .int .i64 t] w fun e w' => e = .returned (.int .i64 0) ∧ FI w' a g R (q ++ [(b, t)]) t lost ∧ Only2 a g w w' := by
  obtain ⟨_, c3, _, f3, _⟩ := h.cells
  go_enter Try.func10, Try.ntmps10
  go_wp2_with fail
  refine (put_fi _ a g R q t lost b t hR hag hq (h.setLast hag t)).mono ?_
  rintro e w1 ⟨rfl, k1, k2⟩
  go_wp2_with fail
  go_ret
  exact ⟨rfl, k1, ((Only2.refl a g w).set (.inl rfl) _).trans k2⟩
theorem push_full (w : World) (a g R : Nat) (q : List (Int × Int)) (last lost b t : Int) (hag : a ≠ g) (hq : q.length = R) (h : FI w a g R q last lost) (h1 : last ≤ t) (h2 : t ≤ 1073741824) (l0 : 0 ≤ lost) (l1 : lost ≤ 1000000) :
    Calls Try.prog 10 #[.pointer (some ⟨a, 0, none⟩), .int .u8 b, .int .i64 t] w fun e w' => e = .returned (.int .i64 5) ∧ FI w' a g R q t (lost + 1) ∧ Only2 a g w w' := by
  obtain ⟨_, c3, _, f3, _⟩ := h.cells
  have hs := h.setLast hag t
  obtain ⟨fr, cs, k1, _⟩ := hs
  rw [hq] at k1
  go_enter Try.func10, Try.ntmps10
  go_wp2_with fail
  refine (put_full _ a g R fr t lost b t k1).mono ?_
  rintro e w1 ⟨rfl, k2⟩
  have hs1 := (h.setLast hag t).nx k2
  obtain ⟨_, _, d4, _, e4⟩ := hs1.cells
  go_wp2_with fail
  go_ret
  exact ⟨rfl, hs1.setLost hag _, (((Only2.refl a g w).set (.inl rfl) _).nx k2).set (.inl rfl) _⟩

theorem pop_none (w : World) (a g R : Nat) (last lost : Int) (h : FI w a g R [] last lost) :
    Calls Try.prog 8 #[.pointer (some ⟨a, 0, none⟩)] w fun e w' => e = .returned (.tuple #[.agg #[.int .u8 0, .int .i64 0], .int .i64 6]) ∧ Nx w w' := by
  obtain ⟨fr, cs, k1, _⟩ := h.nx ((Nx.refl w).alloc (.cells #[.int .u8 0, .int .i64 0] 31))
  go_enter Try.func8, Try.ntmps8
  go_wp2_with fail
  refine (take_none _ a g R fr last lost k1).mono ?_
  rintro e w1 ⟨rfl, k2⟩
  have x := (Blk.new w 31 #[.int .u8 0, .int .i64 0]).nx k2
  have l := x.lt
  have x0 := x.cell 0; have x1 := x.cell 1; have f0 := x.frozen 0; have f1 := x.frozen 1
  simp only [List.getElem?_toArray, List.getElem?_cons_zero, List.getElem?_cons_succ] at x0 x1
  have y := ((x.set_ 0 (.int .u8 0)).set_ 1 (.int .i64 0)).alloc (.cells #[.int .u8 0, .int .i64 0] 31)
  have y0 := y.cell 0
  have y1 := y.cell 1
  simp only [List.setIfInBounds_toArray, List.set_cons_zero, List.set_cons_succ, List.getElem?_toArray, List.getElem?_cons_zero, List.getElem?_cons_succ] at y0 y1
  have Y := Lib.hid (And.intro y0 y1)
  clear y y0 y1
  go_wp2_with fail
  refine bodyPost_ret (v := .tuple #[.agg #[.int .u8 0, .int .i64 0], .int .i64 6]) (by simp [results, Try.results8, go_sem, Y.out.1, Y.out.2]) rfl ⟨rfl, ?_⟩
  exact ((((((Nx.refl w).alloc _).trans k2).setCell (p := ⟨w.heap.size, 0, none⟩) (Nat.le_refl _) _).setCell (p := ⟨w.heap.size, 1, none⟩) (Nat.le_refl _) _).alloc _)
theorem pop_ok (w : World) (a g R : Nat) (x : Int × Int) (q : List (Int × Int)) (last lost : Int) (hR : R ≤ 64) (hag : a ≠ g) (h : FI w a g R (x :: q) last lost) :
    Calls Try.prog 8 #[.pointer (some ⟨a, 0, none⟩)] w fun e w' => e = .returned (.tuple #[.agg #[.int .u8 x.1, .int .i64 x.2], .int .i64 0]) ∧ FI w' a g R q last lost ∧ Only2 a g w w' := by
  have hl := h.lt
  go_enter Try.func8, Try.ntmps8
  go_wp2_with fail
  refine (take_fi _ a g R x q last lost hR hag (h.nx ((Nx.refl w).alloc _))).mono ?_
  rintro e w1 ⟨rfl, k1, k2⟩
  have xx := Blk.only (Blk.new w 31 #[.int .u8 0, .int .i64 0]) k2 (by omega) (by omega)
  have l := xx.lt
  have x0 := xx.cell 0; have x1 := xx.cell 1; have f0 := xx.frozen 0; have f1 := xx.frozen 1
  simp only [List.getElem?_toArray, List.getElem?_cons_zero, List.getElem?_cons_succ] at x0 x1
  have y := ((xx.set_ 0 (.int .u8 x.1)).set_ 1 (.int .i64 x.2)).alloc (.cells #[.int .u8 x.1, .int .i64 x.2] 31)
  have y0 := y.cell 0
  have y1 := y.cell 1
  simp only [List.setIfInBounds_toArray, List.set_cons_zero, List.set_cons_succ, List.getElem?_toArray, List.getElem?_cons_zero, List.getElem?_cons_succ] at y0 y1
  have Y := Lib.hid (And.intro y0 y1)
  clear y y0 y1
  go_wp2_with fail
  refine bodyPost_ret (v := .tuple #[.agg #[.int .u8 x.1, .int .i64 x.2], .int .i64 0]) (by simp [results, Try.results8, go_sem, Y.out.1, Y.out.2]) rfl ⟨rfl, ?_, ?_⟩
  · obtain ⟨fr, cs, b1, b2, b3⟩ := k1
    exact ⟨fr, cs, ((b1.far (p := ⟨w.heap.size, 0, none⟩) (show a ≠ w.heap.size by omega) _).far (p := ⟨w.heap.size, 1, none⟩) (show a ≠ w.heap.size by omega) _).alloc _, ((b2.far (p := ⟨w.heap.size, 0, none⟩) (show g ≠ w.heap.size by omega) _).far (p := ⟨w.heap.size, 1, none⟩) (show g ≠ w.heap.size by omega) _).alloc _, b3⟩
  · exact (((((Only2.refl a g w).alloc _).trans k2).set (p := ⟨w.heap.size, 0, none⟩) (.inr (.inr (Nat.le_refl _))) _).set (p := ⟨w.heap.size, 1, none⟩) (.inr (.inr (Nat.le_refl _))) _).alloc _
end Go.Proofs.Ytldgfhngieipgaa.walk
