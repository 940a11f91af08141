/-
  A past that came in, opened: two numbers and rows of signs. No condition.
-/
import Derived.Test.YtmfjndoljdpliaaDoorWalk22a
import Derived.Deep.Matrix
namespace Go.Proofs.YtmfjndoljdpliaaDoor.walk
open Go.RowKit Go.Proofs.YtmfjndoljdpliaaDoor.kit Go.WideShapes Go.ChangeShapes Go.Joins Go.Deep
set_option linter.unusedVariables false

theorem add_eq (b off j : Nat) : (⟨b, off, none⟩ : Addr).add j = ⟨b, off + j, none⟩ := by
  unfold Addr.add; split
  · simp_all
  · rfl
theorem spot_none {W : World} {a : Addr} {v : Value} (h : W.cell? (a.add 0) = some v) : ∃ b off, a = ⟨b, off, none⟩ ∧ b < W.heap.size := by
  obtain ⟨b, off, spot⟩ := a
  have hspot : spot = none := by simpa [Addr.add] using World.cell?_spot h
  subst hspot
  exact ⟨b, off, rfl, World.block_lt_of_cell? W ⟨b, off, none⟩ (by simpa [Addr.add] using h)⟩
theorem open_past {H : Type} {enc : TypeId × Value → H} {W : World} {b0 : Nat} {v : Value} {d : DataW H} {p : List MemPlace}
    (hv : Value.okWide Tryd.prog W .any b0 24 v) (h : DataW.Trod enc Tryd.prog W 0 (fun _ => true) true 24 v d p) :
    ∃ R D A n cap ls, v = .agg #[.int .i64 R, .int .i64 D, .slice A n cap] ∧ (RowsIn W A n ls ∧ n ≤ cap ∧ cap ≤ maxLen) := by
  obtain ⟨c0, c1, c2, y0, y1, y2, m, rfl, _, _, hy0, hy1, hy2⟩ := open_agg3 Tryd.underlying24 (by kernel_rfl) (by kernel_rfl) hv h
  obtain ⟨R, e0, _⟩ := DataW.trod_int Tryd.underlying3 hy0
  obtain ⟨D, e1, _⟩ := DataW.trod_int Tryd.underlying3 hy1
  simp at e0 e1
  subst e0 e1
  rcases open_int_rows Tryd.underlying22 Tryd.underlying34 Tryd.underlying21 (by kernel_rfl) (by kernel_rfl) hy2 with ⟨e2, _⟩ | ⟨a, len, cap, A, L, C, Z, e2, _, hl, hm, _, hx⟩
  · simp at e2
    subst e2
    exact ⟨R, D, none, 0, 0, [], rfl, ⟨rfl, fun h => absurd h (by omega)⟩, Nat.le_refl _, by unfold maxLen; omega⟩
  · simp at e2
    subst e2
    refine ⟨R, D, some a, len, cap, (List.range len).map fun r => (Z r).take (L r), rfl, ⟨by simp, fun hn => ?_⟩, hl, hm⟩
    obtain ⟨b, off, rfl, hlt⟩ := spot_none (hx 0 (by omega)).1
    refine ⟨b, off, rfl, hlt, fun j hj => ?_⟩
    obtain ⟨g1, g2, g3, g4, _, g6, g7⟩ := hx j (by omega)
    rw [add_eq] at g1
    refine ⟨A j, L j, C j, g1, ?_, g2, g3⟩
    have e : nthL ((List.range len).map fun r => (Z r).take (L r)) j = (Z j).take (L j) := by simp [nthL, hj]
    rw [e]
    refine ⟨by rw [List.length_take]; omega, fun h0 => ?_⟩
    cases hA : A j with
    | none => exact absurd (g6 hA) (by omega)
    | some a' =>
      obtain ⟨_, hc⟩ := g7 a' hA
      obtain ⟨b', off', rfl, hlt'⟩ := spot_none (hc 0 (by omega))
      refine ⟨b', off', rfl, hlt', fun i hi => ?_⟩
      have := hc i (by omega)
      rw [add_eq] at this
      rw [this]
      simp [nth, List.getD_eq_getElem?_getD, hi]
theorem open_line {H : Type} {enc : TypeId × Value → H} {W : World} {b0 : Nat} {v : Value} {d : DataW H} {p : List MemPlace}
    (hv : Value.okWide Tryd.prog W .any b0 34 v) (h : DataW.Trod enc Tryd.prog W 0 (fun _ => true) true 34 v d p) :
    ∃ A n cap zs, v = .slice A n cap ∧ (IntsIn .i32 W A n zs ∧ n ≤ cap ∧ cap ≤ maxLen) := by
  obtain ⟨A, len, cap, zs, e, h1, h2, h3, _⟩ := open_row_ints Tryd.underlying34 Tryd.underlying21 (by kernel_rfl) hv h
  exact ⟨A, len, cap, zs, e, h1, h2, h3⟩
end Go.Proofs.YtmfjndoljdpliaaDoor.walk
