/-
  Rows of integers that a call made itself: what is owned reads as a list. No condition.
-/
import Derived.Test.YtmfjndoljdpliaaDoorBase
namespace Go.Proofs.YtmfjndoljdpliaaDoor.kit
open Go.RowKit
set_option linter.unusedVariables false

theorem own_ints {w : World} {base : Nat} {e : TypeId} {k : IntKind} {v : Value} {n : Nat} {zs : List Int} (h : w.ownsRow base e 1 v n (zs.map (Value.int k))) :
    ∃ A cap, v = .slice A n cap ∧ IntsIn k w A n zs ∧ n ≤ cap ∧ cap ≤ maxLen := by
  have hl : zs.length = n := by simpa using h.1
  rcases h.2 with ⟨rfl, rfl⟩ | ⟨g, cap, cur, rfl, hb, hh, hnc, hm, hs, ht⟩
  · exact ⟨none, 0, rfl, ⟨hl, fun h => absurd h (by omega)⟩, Nat.le_refl _, by unfold maxLen; omega⟩
  · refine ⟨some ⟨g, 0, none⟩, cap, rfl, ⟨hl, fun h0 => ⟨g, 0, rfl, ?_, fun j hj => ?_⟩⟩, hnc, hm⟩
    · rcases Nat.lt_or_ge g w.heap.size with hlt | hge
      · exact hlt
      · rw [Array.getElem?_eq_none hge] at hh; cases hh
    · have := h.cellAt (g := g) (cap := cap) j (by omega)
      rw [Nat.zero_add, this]
      simp [nth, hl, hj]
/-- three things of a new one-cell block, for an append of one element -/
theorem one_new (w : World) (u : Value) (t : TypeId) : ∀ j x, [u][j]? = some x → (w.alloc (.cells #[u] t)).cell? ((⟨w.heap.size, 0, none⟩ : Addr).add j) = some x := by
  intro j x hj
  match j, hj with
  | 0, hj => simp at hj; subst hj; exact (Blk.new w t #[u]).cell 0
theorem own_grown_lt {w : World} {base : Nat} {e : TypeId} {size : Nat} {v : Value} {n : Nat} {xs : List Value} (h : w.ownsRow base e size v n xs) : ∀ k, v.ownBlock = some k → base ≤ k := fun k hk => (h.lt k hk).1
theorem int_one (k : IntKind) (z : Int) : ∀ u ∈ [Value.int k z], u.oneCell' = true := by intro u hu; simp at hu; subst hu; rfl
theorem snoc_map {k : IntKind} (zs : List Int) (z : Int) : zs.map (Value.int k) ++ [.int k z] = (zs ++ [z]).map (Value.int k) := by simp
end Go.Proofs.YtmfjndoljdpliaaDoor.kit
