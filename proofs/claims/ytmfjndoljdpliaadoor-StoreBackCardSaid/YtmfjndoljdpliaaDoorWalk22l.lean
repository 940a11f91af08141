/-
  The chapter's example (the law's stored): it is met. No condition but the library's two tables.
-/
import Derived.Test.YtmfjndoljdpliaaDoorWalk22i
namespace Go.Proofs.YtmfjndoljdpliaaDoor.walk
open Go.RowKit Go.Proofs.YtmfjndoljdpliaaDoor.kit Go.Proofs.YtmfjndoljdpliaaDoor.plain
set_option linter.unusedVariables false

theorem rows_one (w : World) (A : Option Addr) (n cap : Nat) (l : List Int) (t : TypeId) (hI : IntsIn .i32 w A n l) (h1 : n ≤ cap) (h2 : cap ≤ maxLen) : RowsIn (w.alloc (.cells #[.slice A n cap] t)) (some ⟨w.heap.size, 0, none⟩) 1 [l] :=
  ⟨rfl, fun _ => ⟨w.heap.size, 0, rfl, (Blk.new w t #[.slice A n cap]).lt, fun j hj => by
    obtain rfl : j = 0 := by omega
    exact ⟨A, n, cap, (Blk.new w t #[.slice A n cap]).cell 0, hI.keep ((Nx.refl w).alloc _), h1, h2⟩⟩⟩
theorem ints_two (w : World) (x y : Int) (t : TypeId) : IntsIn .i32 (w.alloc (.cells #[.int .i32 x, .int .i32 y] t)) (some ⟨w.heap.size, 0, none⟩) 2 [x, y] :=
  ⟨rfl, fun _ => ⟨w.heap.size, 0, rfl, (Blk.new w t #[.int .i32 x, .int .i32 y]).lt, fun j hj => by
    match j, hj with
    | 0, _ => exact (Blk.new w t #[.int .i32 x, .int .i32 y]).cell 0
    | 1, _ => exact (Blk.new w t #[.int .i32 x, .int .i32 y]).cell 1⟩⟩
theorem rows_two (w : World) (A B : Option Addr) (n m c d : Nat) (l k : List Int) (t : TypeId) (hI : IntsIn .i32 w A n l) (hJ : IntsIn .i32 w B m k) (h1 : n ≤ c) (h2 : c ≤ maxLen) (h3 : m ≤ d) (h4 : d ≤ maxLen) :
    RowsIn (w.alloc (.cells #[.slice A n c, .slice B m d] t)) (some ⟨w.heap.size, 0, none⟩) 2 [l, k] :=
  ⟨rfl, fun _ => ⟨w.heap.size, 0, rfl, (Blk.new w t #[.slice A n c, .slice B m d]).lt, fun j hj => by
    match j, hj with
    | 0, _ => exact ⟨A, n, c, (Blk.new w t #[.slice A n c, .slice B m d]).cell 0, hI.keep ((Nx.refl w).alloc _), h1, h2⟩
    | 1, _ => exact ⟨B, m, d, (Blk.new w t #[.slice A n c, .slice B m d]).cell 1, hJ.keep ((Nx.refl w).alloc _), h3, h4⟩⟩⟩

def exL : List (List Int) := [[97, 10], [92, 233]]
def exB : List UInt8 := [80, 51, 49, 97, 92, 110, 10, 92, 92, 195, 169, 10]
theorem ex_ok : okPast 3 1 exL = true := by kernel_rfl
theorem ex_put : mkS (putL 3 1 exL) = ⟨#[80, 51, 49, 97, 92, 110, 10, 92, 92, 195, 169, 10]⟩ := by kernel_rfl
theorem ex_is : isPut (L ⟨#[80, 51, 49, 97, 92, 110, 10, 92, 92, 195, 169, 10]⟩) 3 1 exL := ⟨ex_ok, by kernel_rfl⟩
theorem ex_empty : okPast 0 0 [] = false := by kernel_rfl
theorem ex_short : Short exL := by
  intro l hl
  simp [exL] at hl
  rcases hl with rfl | rfl <;> simp
theorem isPut_last {b : List UInt8} {R D : Int} {ls : List (List Int)} (h : isPut b R D ls) : b.length = 3 ∨ b.getLast? = some 10 := by
  obtain ⟨_, rfl⟩ := h
  by_cases h0 : lns ls = []
  · left; unfold putL; rw [h0]; rfl
  · right
    obtain ⟨t, e⟩ := lns_last ls h0
    unfold putL
    rw [e, ← List.append_assoc, List.getLast?_append]
    rfl
theorem ex_none {R D : Int} {ls : List (List Int)} : ¬ isPut (L (⟨#[80, 51, 49, 97, 92, 110, 10, 92, 92, 195, 169, 10]⟩ ++ ⟨#[97]⟩)) R D ls := by
  intro h
  rw [L_app] at h
  rcases isPut_last h with h | h
  · exact absurd h (by decide +kernel)
  · exact absurd h (by decide +kernel)
theorem GetP.put {b : List UInt8} {R D : Int} {ls : List (List Int)} {w : World} {e : Ending} {w' : World} (h : GetP b w e w') (hb : isPut b R D ls) :
    ∃ A cap, e = .returned (.tuple #[.agg #[.int .i64 R, .int .i64 D, .slice A ls.length cap], .int .i64 0]) ∧ RowsIn w' A ls.length ls ∧ ls.length ≤ cap ∧ cap ≤ maxLen ∧ Nx w w' := by
  rcases h with ⟨R', D', A, n, cap, ms, rfl, h2, h3, h4, h5, h6⟩ | ⟨_, h2, _⟩
  · obtain ⟨rfl, rfl, rfl⟩ := isPut_inj hb h2
    obtain rfl : n = _ := h3.1.symm
    exact ⟨A, cap, rfl, h3, h4, h5, h6⟩
  · exact absurd hb.2 (h2 _ _ _ hb.1)
theorem GetP.no {b : List UInt8} {w : World} {e : Ending} {w' : World} (h : GetP b w e w') (hb : ∀ R D ls, ¬ isPut b R D ls) :
    e = .returned (.tuple #[.agg #[.int .i64 0, .int .i64 0, .slice none 0 0], .int .i64 2]) ∧ Nx w w' := by
  rcases h with ⟨R', D', A, n, cap, ms, rfl, h2, h3, h4, h5, h6⟩ | ⟨h1, _, h3⟩
  · exact absurd h2 (hb _ _ _)
  · exact ⟨h1, h3⟩
end Go.Proofs.YtmfjndoljdpliaaDoor.walk
