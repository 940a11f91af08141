/-
  A count that came in, opened: two bools and a number. No condition.
-/
import Derived.Test.YtifaccolbmcgjaaBase
namespace Go.Proofs.Ytifaccolbmcgjaa.kit
open Go.RowKit Go.WideShapes Go.ChangeShapes Go.Joins Go.Deep
theorem open_count {H : Type} {enc : TypeId × Value → H} {W : World} {b0 : Nat} {v : Value} {d : DataW H} {p : List MemPlace}
    (hv : Value.okWide Try.prog W .any b0 23 v) (h : DataW.Trod enc Try.prog W 0 (fun _ => true) true 23 v d p) : ∃ (x y : Bool) (n : Int), v = .agg #[.bool x, .bool y, .int .i64 n] := by
  obtain ⟨c0, c1, c2, y0, y1, y2, m, rfl, _, _, hy0, hy1, hy2⟩ := open_agg3 Try.underlying23 (by kernel_rfl) (by kernel_rfl) hv h
  obtain ⟨a, e0, _⟩ := DataW.trod_bool Try.underlying4 hy0
  obtain ⟨b, e1, _⟩ := DataW.trod_bool Try.underlying4 hy1
  obtain ⟨n, e2, _⟩ := DataW.trod_int Try.underlying3 hy2
  simp at e0 e1 e2
  subst e0 e1 e2
  exact ⟨a, b, n, rfl⟩
end Go.Proofs.Ytifaccolbmcgjaa.kit
