/-
  Rows of rows that a call made itself, kept and pushed to; what a reader of a past answers; a way out by a goto ahead. No condition.
-/
import Derived.Test.YtmfjndoljdpliaaDoorWalk22g
import Derived.ScopeJumps
import Derived.WalkMore
namespace Go.Proofs.YtmfjndoljdpliaaDoor.walk
open Go.RowKit Go.Proofs.YtmfjndoljdpliaaDoor.kit Go.Proofs.YtmfjndoljdpliaaDoor.plain
set_option linter.unusedVariables false

/-- a scope in which the run jumps ahead, if at all, to one label -/
theorem wp_scope_ahead {P : Program} {a : Act} {w : World} {Q : Exit → Act → World → Prop} {c rest : Code} (l : Nat) (hf : findLabel c l = some rest)
    (h : ∀ J : Act → World → Prop, (∀ a w, rest.wp P (Exit.jump l (fun _ _ => False) Q) a w → J a w) → c.wp P (Exit.jump l J Q) a w) : (Code.scope c).wp P Q a w :=
  wp_scope_jumps l (fun a w => rest.wp P (Exit.jump l (fun _ _ => False) Q) a w) (fun _ _ => 0) hf (h _ fun _ _ hh => hh) fun a w hh =>
    Code.wp_mono (fun e a w q => by
      cases e with
      | goto l' => exact q.2.elim
      | _ => exact q) hh

theorem ints_blk {k : IntKind} {w w' : World} {A : Option Addr} {n : Nat} {zs : List Int} (h : IntsIn k w A n zs) (hb : ∀ x : Addr, A = some x → w'.heap[x.block]? = w.heap[x.block]? ∧ x.block < w'.heap.size) : IntsIn k w' A n zs :=
  ⟨h.1, fun hn => by
    obtain ⟨b, off, e, hlt, hc⟩ := h.2 hn
    obtain ⟨h1, h2⟩ := hb _ e
    exact ⟨b, off, e, h2, fun j hj => (World.cell?_of_block (a := ⟨b, off + j, none⟩) h1).trans (hc j hj)⟩⟩
theorem nthL_snoc (ls : List (List Int)) (l : List Int) : nthL (ls ++ [l]) ls.length = l := by simp [nthL]
theorem nthL_old {ls : List (List Int)} {j : Nat} (h : j < ls.length) (l : List Int) : nthL (ls ++ [l]) j = nthL ls j := by
  simp [nthL, List.getElem?_append_left h]

/-- one row among them -/
def Lain (w : World) (base : Nat) (own : Option Nat) (u : Value) (l : List Int) : Prop :=
  ∃ B m c, u = .slice B m c ∧ IntsIn .i32 w B m l ∧ m ≤ c ∧ c ≤ maxLen ∧ ∀ x : Addr, B = some x → base ≤ x.block ∧ x.block < w.heap.size ∧ own ≠ some x.block
/-- rows of signs that a call made itself, in a row that it made itself -/
def RowsOwn (w : World) (base : Nat) (v : Value) (n : Nat) (ls : List (List Int)) : Prop :=
  ls.length = n ∧ ∃ vs : List Value, w.ownsRow base 34 1 v n vs ∧ ∀ j, j < n → ∃ u, vs[j]? = some u ∧ Lain w base v.ownBlock u (nthL ls j)
theorem RowsOwn.nil (w : World) (base : Nat) : RowsOwn w base (.slice none 0 0) 0 [] := ⟨rfl, [], World.ownsRow_nil _ _ _ _, fun j hj => absurd hj (by omega)⟩
theorem Lain.kept {w w' : World} {base : Nat} {own : Option Nat} {u : Value} {l : List Int} (h : Lain w base own u l) (hs : w.heap.size ≤ w'.heap.size) (hk : ∀ g, base ≤ g → g < w.heap.size → w'.heap[g]? = w.heap[g]?) : Lain w' base own u l := by
  obtain ⟨B, m, c, e, hI, h1, h2, h3⟩ := h
  refine ⟨B, m, c, e, ints_blk hI fun x hx => ?_, h1, h2, fun x hx => ?_⟩
  · obtain ⟨a, b, _⟩ := h3 x hx
    exact ⟨hk _ a b, by omega⟩
  · obtain ⟨a, b, d⟩ := h3 x hx
    exact ⟨a, by omega, d⟩
theorem RowsOwn.kept {w w' : World} {base : Nat} {v : Value} {n : Nat} {ls : List (List Int)} (h : RowsOwn w base v n ls) (hs : w.heap.size ≤ w'.heap.size) (hk : ∀ g, base ≤ g → g < w.heap.size → w'.heap[g]? = w.heap[g]?) : RowsOwn w' base v n ls := by
  obtain ⟨hl, vs, ho, hc⟩ := h
  refine ⟨hl, vs, own_keep ho hk, fun j hj => ?_⟩
  obtain ⟨u, h1, h2⟩ := hc j hj
  exact ⟨u, h1, h2.kept hs hk⟩
theorem RowsOwn.nx {w w' : World} {base : Nat} {v : Value} {n : Nat} {ls : List (List Int)} (h : RowsOwn w base v n ls) (x : Nx w w') : RowsOwn w' base v n ls := h.kept x.size fun g _ hg => x.block hg
theorem RowsOwn.set_ {w : World} {base : Nat} {v : Value} {n : Nat} {ls : List (List Int)} (h : RowsOwn w base v n ls) {p : Addr} (hp : p.block < base) (u : Value) : RowsOwn (w.setCell p u) base v n ls :=
  h.kept (by simp [World.setCell]) fun g hg _ => Below.heap_setCell w p u g (by omega)
/-- a row that a call handed back, behind rows that lay ahead of the call -/
theorem Lain.fresh {w w' : World} {base : Nat} {own : Option Nat} {A : Option Addr} {m c : Nat} {zs : List Int} (h : w'.ownsRow w.heap.size 21 1 (.slice A m c) m (zs.map (Value.int .i32))) (hb : base ≤ w.heap.size) (ho : ∀ g, own = some g → g < w.heap.size) : Lain w' base own (.slice A m c) zs := by
  obtain ⟨A', c', e, hI, h1, h2⟩ := own_ints h
  injection e with e1 e2 e3
  subst e1 e3
  refine ⟨_, _, _, rfl, hI, h1, h2, fun x hx => ?_⟩
  obtain ⟨a, b⟩ := h.lt x.block (by subst hx; rfl)
  refine ⟨by omega, b, fun hh => ?_⟩
  have := ho _ hh
  omega
theorem RowsOwn.lt {w : World} {base : Nat} {v : Value} {n : Nat} {ls : List (List Int)} (h : RowsOwn w base v n ls) : ∀ k, v.ownBlock = some k → base ≤ k ∧ k < w.heap.size := by
  obtain ⟨hl, vs, ho, hc⟩ := h
  exact ho.lt
/-- one row more, appended in a later world -/
theorem RowsOwn.push {w : World} {base : Nat} {v : Value} {n : Nat} {ls : List (List Int)} {u : Value} {l : List Int} (h : RowsOwn w base v n ls) (hu : Lain w base v.ownBlock u l) :
    ∃ vs, w.ownsRow base 34 1 v n vs ∧ ∀ (w1 w2 : World) (g cap H : Nat), Nx w w1 → w2.ownsRow base 34 1 (.slice (some ⟨g, 0, none⟩) (n + 1) cap) (n + 1) (vs ++ [u]) → w1.grownBy w2 v.ownBlock → (v.ownBlock = some g ∨ g = H) → w.heap.size ≤ H →
      RowsOwn w2 base (.slice (some ⟨g, 0, none⟩) (n + 1) cap) (n + 1) (ls ++ [l]) := by
  obtain ⟨hl, vs, ho, hc⟩ := h
  refine ⟨vs, ho, fun w1 w2 g cap H x1 r1 r2 r3 r4 => ⟨by simp [hl], vs ++ [u], r1, ?_⟩⟩
  have hvl : vs.length = n := by have := ho.1; omega
  have hs1 := x1.size
  have hs2 := r2.size
  have key : ∀ (y : Value) (m : List Int), Lain w base v.ownBlock y m → Lain w2 base (some g) y m := by
    rintro y m ⟨B, k, c, e, hI, h1, h2, h3⟩
    refine ⟨B, k, c, e, ints_blk hI fun x hx => ?_, h1, h2, fun x hx => ?_⟩
    · obtain ⟨a, b, d⟩ := h3 x hx
      exact ⟨(r2.block x.block (by omega) (fun hh => d hh.symm)).trans (x1.block b), by omega⟩
    · obtain ⟨a, b, d⟩ := h3 x hx
      refine ⟨a, by omega, fun hh => ?_⟩
      injection hh with hh
      rcases r3 with r3 | r3
      · exact d (by rw [r3, hh])
      · omega
  intro j hj
  by_cases hjn : j < n
  · obtain ⟨y, e1, e2⟩ := hc j hjn
    refine ⟨y, by rw [List.getElem?_append_left (by omega)]; exact e1, ?_⟩
    rw [nthL_old (by omega)]
    exact key _ _ e2
  · obtain rfl : j = n := by omega
    refine ⟨u, by rw [List.getElem?_append_right (by omega), hvl]; simp, ?_⟩
    have : nthL (ls ++ [l]) j = l := by rw [← hl]; exact nthL_snoc ls l
    rw [this]
    exact key _ _ hu
theorem RowsOwn.rowsIn {w : World} {base : Nat} {v : Value} {n : Nat} {ls : List (List Int)} (h : RowsOwn w base v n ls) : ∃ A cap, v = .slice A n cap ∧ RowsIn w A n ls ∧ n ≤ cap ∧ cap ≤ maxLen := by
  obtain ⟨hl, vs, ho, hc⟩ := h
  have ho' := ho
  rcases ho.2 with ⟨rfl, rfl⟩ | ⟨g, cap, cur, rfl, hb, hh, hnc, hm, hs, ht⟩
  · exact ⟨none, 0, rfl, ⟨hl, fun h => absurd h (by omega)⟩, Nat.le_refl _, by unfold maxLen; omega⟩
  · refine ⟨some ⟨g, 0, none⟩, cap, rfl, ⟨hl, fun h0 => ⟨g, 0, rfl, (ho'.lt g rfl).2, fun j hj => ?_⟩⟩, hnc, hm⟩
    obtain ⟨u, e1, B, m, c, rfl, hI, h1, h2, _⟩ := hc j hj
    refine ⟨B, m, c, ?_, hI, h1, h2⟩
    have := ho'.cellAt (g := g) (cap := cap) j (by omega)
    rw [Nat.zero_add, this, e1]
theorem RowsOwn.one_ {B : Option Addr} {m c : Nat} : ∀ u ∈ [Value.slice B m c], u.oneCell' = true := by intro u hu; simp at hu; subst hu; rfl
theorem infoL : (Tryd.prog.info? 34).map (fun i => (i.zero, i.size, i.bytes)) = some (some (.slice none 0 0), 1, 24) := by kernel_rfl

/-- what a reader of a past answers -/
def GetP (b : List UInt8) (w : World) (e : Ending) (w' : World) : Prop :=
  (∃ R D A n cap ls, e = .returned (.tuple #[.agg #[.int .i64 R, .int .i64 D, .slice A n cap], .int .i64 0]) ∧ isPut b R D ls ∧ RowsIn w' A n ls ∧ n ≤ cap ∧ cap ≤ maxLen ∧ Nx w w') ∨
  (e = .returned (.tuple #[.agg #[.int .i64 0, .int .i64 0, .slice none 0 0], .int .i64 2]) ∧ noPast b ∧ Nx w w')
theorem GetP.from_ {b : List UInt8} {w w1 : World} {e : Ending} {w' : World} (x : Nx w w1) (h : GetP b w1 e w') : GetP b w e w' := by
  rcases h with ⟨R, D, A, n, cap, ls, h1, h2, h3, h4, h5, h6⟩ | ⟨h1, h2, h3⟩
  · exact .inl ⟨R, D, A, n, cap, ls, h1, h2, h3, h4, h5, x.trans h6⟩
  · exact .inr ⟨h1, h2, x.trans h3⟩
end Go.Proofs.YtmfjndoljdpliaaDoor.walk
