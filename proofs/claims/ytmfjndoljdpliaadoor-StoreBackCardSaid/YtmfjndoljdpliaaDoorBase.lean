/-
  Small words for memory that the walks of this seat share: a world that kept what lay ('Nx'), a row of integers that came in ('IntsIn'), a block known whole ('Blk'). No condition.
-/
import Derived.Test.YtmfjndoljdpliaaDoorRows
import Derived.WalkKit
import Derived.ProofKit
import Derived.OpenShut
import Derived.ShutString
import Derived.Below
import Derived.Laws.OwnMore
import Derived.Laws.Rows
import Derived.Laws.StructEq
import Derived.Deep.AppendLies
import Derived.Deep.Draws
import Derived.Deep.Slices
import Derived.Deep.Fields
import Derived.Lib.SmallJoins
import Derived.Lib.Hide
import Derived.WalkSpells
import Derived.WalkLawsBesides
import Derived.Outline
import Derived.Lib.QuietBelow
import Derived.BigQuiet
import Derived.Deep.RegionWith
import Derived.Deep.RegionHeld3
import Derived.Deep.LoopGhost
import Derived.Deep.DeepCutAuto
namespace Go.Proofs.YtmfjndoljdpliaaDoor.kit
open Go.RowKit Go.WideShapes Go.ChangeShapes Go.Joins Go.Deep
set_option linter.unusedVariables false

def Nx (a b : World) : Prop := Below a.heap.size a b
section
variable {a b c : World}
theorem Nx.refl (a : World) : Nx a a := Below.refl _ _
theorem Nx.size (h : Nx a b) : a.heap.size ≤ b.heap.size := Below.size h
theorem Nx.trans (h : Nx a b) (k : Nx b c) : Nx a c := Below.trans h (Below.mono k h.size)
theorem Nx.alloc (h : Nx a b) (o : Obj) : Nx a (b.alloc o) := Below.alloc h h.size o
theorem Nx.drew (h : Nx a b) : Nx a b.drew := Below.drew h
theorem Nx.drewN (h : Nx a b) (n : Nat) : Nx a (b.drewN n) := ⟨h.os, h.tape, h.output, h.size, h.block⟩
theorem Nx.setCell (h : Nx a b) {p : Addr} (hp : a.heap.size ≤ p.block) (u : Value) : Nx a (b.setCell p u) := Below.setCell h hp u
theorem Nx.grown {row : Option Nat} (h : Nx a b) (hg : b.grownBy c row) (hr : ∀ k, row = some k → a.heap.size ≤ k) : Nx a c := Below.grown h hg h.size hr
theorem Nx.cell (h : Nx a b) {p : Addr} (hp : p.block < a.heap.size) : b.cell? p = a.cell? p := Below.cell h hp
theorem Nx.frozen (h : Nx a b) {p : Addr} (hp : p.block < a.heap.size) : b.frozen? p = a.frozen? p := Below.frozen h hp
theorem Nx.block (h : Nx a b) {k : Nat} (hk : k < a.heap.size) : b.heap[k]? = a.heap[k]? := Below.block h k hk
theorem Nx.below (h : Nx a b) : Below a.heap.size a b := h
end

/-- The lexical walk over a class of worlds serves a plain list of operations too. -/
theorem wpList_of_quiet {P : Program} {ops : Array Oper} {C : World → Prop} {Q : Act → Prop} {Q' : Exit → Act → World → Prop} (hQ : ∀ a w, C w → Q a → Q' .normal a w) :
    ∀ (l : List Oper) (a : Act) (w : World), C w → wpQuiet P ops C Q l a → wpList P ops Q' l a w
  | [], a, w, hw, h => hQ a w hw h
  | o :: rest, a, w, hw, h => by
    unfold wpQuiet at h
    unfold wpList
    by_cases hg : Region.wanted o (yielded ops a.tmps) = true
    · rw [if_pos hg] at h ⊢
      exact .inl (Oper.wp_of_quiet hw (fun a' w' hw' hh => wpList_of_quiet hQ rest a' w' hw' hh) h)
    · rw [if_neg hg] at h ⊢
      exact wpList_of_quiet hQ rest _ w hw h
/-- A region that does not draw, whose operations only read and whose callees lay blocks alone: walked over the class of the grown worlds. -/
theorem wp_region_plain_below {P : Program} {id : Nat} {Q : Exit → Act → World → Prop} {a : Act} {w : World} {l : List Oper}
    (h : wpQuiet P l.toArray (fun w' => ∃ p : Regrown, w' = Sort.grow (redrawn w p.d) p.os) (fun a' => ∀ w', (∃ p : Regrown, w' = Sort.grow (redrawn w p.d) p.os) → Q .normal a' w') l a) : (Code.region id l.toArray false).wp P Q a w :=
  wp_region_lit (wpList_of_quiet (fun a w' hw hh => hh w' hw) l a w ⟨⟨w.drawn, #[]⟩, by rw [Sort.grow_empty]; rfl⟩ h)

def nth (zs : List Int) (i : Nat) : Int := zs.getD i 0
theorem nth_eq {zs : List Int} {i : Nat} (h : i < zs.length) : nth zs i = zs[i] := by simp [nth, h]
theorem nth_mem {zs : List Int} {i : Nat} (h : i < zs.length) : nth zs i ∈ zs := by rw [nth_eq h]; exact List.getElem_mem h
theorem take_nth {zs : List Int} {i : Nat} (h : i < zs.length) : zs.take (i + 1) = zs.take i ++ [nth zs i] := by
  rw [nth_eq h]; exact List.take_succ_eq_append_getElem h

def IntsIn (k : IntKind) (w : World) (A : Option Addr) (n : Nat) (zs : List Int) : Prop :=
  zs.length = n ∧ (0 < n → ∃ b off, A = some ⟨b, off, none⟩ ∧ b < w.heap.size ∧ ∀ j, j < n → w.cell? ⟨b, off + j, none⟩ = some (.int k (nth zs j)))
theorem IntsIn.keep {k : IntKind} {w w' : World} {A : Option Addr} {n : Nat} {zs : List Int} (h : IntsIn k w A n zs) (hb : Nx w w') : IntsIn k w' A n zs :=
  ⟨h.1, fun hn => by
    obtain ⟨b, off, e, hlt, hc⟩ := h.2 hn
    exact ⟨b, off, e, Nat.lt_of_lt_of_le hlt hb.size, fun j hj => (hb.cell hlt).trans (hc j hj)⟩⟩
theorem IntsIn.nil {k : IntKind} {w : World} {A : Option Addr} : IntsIn k w A 0 [] := ⟨rfl, fun h => absurd h (by omega)⟩
theorem IntsIn.at_ {k : IntKind} {w : World} {A : Option Addr} {n : Nat} {zs : List Int} (h : IntsIn k w A n zs) {j : Nat} (hj : j < n) :
    ∃ b off, A = some ⟨b, off, none⟩ ∧ b < w.heap.size ∧ w.cell? ⟨b, off + j, none⟩ = some (.int k (nth zs j)) := by
  obtain ⟨b, off, e, hlt, hc⟩ := h.2 (by omega)
  exact ⟨b, off, e, hlt, hc j hj⟩

theorem open_row_ints {H : Type} {enc : TypeId × Value → H} {P : Program} {W : World} {b0 : Nat} {t e : TypeId} {k : IntKind} {v : Value} {d : DataW H} {p : List MemPlace}
    (ht : P.underlying t = some (.slice e)) (he : P.underlying e = some (.int k)) (hc : P.cellsOf e = 1)
    (hv : Value.okWide P W .any b0 t v) (h : DataW.Trod enc P W 0 (fun _ => true) true t v d p) :
    ∃ A len cap zs, v = .slice A len cap ∧ (IntsIn k W A len zs ∧ len ≤ cap ∧ cap ≤ maxLen ∧ ∀ z ∈ zs, (Lit.int k z).wf = true) := by
  obtain ⟨A, len, cap, rfl⟩ := okWide_slice ht hv
  obtain ⟨fuel, hf⟩ := h
  rcases open_ints ht he hc hf with ⟨hcs, _⟩ | ⟨x, l, c, zs, hcs, _, hl, hm, hz, _, hcell, hwz⟩
  · simp [Value.cells] at hcs
    obtain ⟨rfl, rfl, rfl⟩ := hcs
    exact ⟨none, 0, 0, [], rfl, .nil, Nat.le_refl _, by unfold maxLen; omega, by simp⟩
  · simp [Value.cells] at hcs
    obtain ⟨rfl, rfl, rfl⟩ := hcs
    have hz' : zs.length = cap := by simpa using hz
    refine ⟨some x, len, cap, zs.take len, rfl, ⟨by simp; omega, fun hn => ?_⟩, hl, hm, fun z hzm => hwz z (List.mem_of_mem_take hzm)⟩
    obtain ⟨b, off, spot⟩ := x
    have hc0 := hcell 0 (by omega)
    have hspot : spot = none := by simpa [Addr.add] using World.cell?_spot hc0
    subst hspot
    refine ⟨b, off, rfl, ?_, fun j hj => ?_⟩
    · exact World.block_lt_of_cell? W ⟨b, off, none⟩ (by simpa [Addr.add] using hc0)
    · have := hcell j (by omega)
      have e : (⟨b, off, none⟩ : Addr).add j = ⟨b, off + j, none⟩ := by
        unfold Addr.add; split
        · simp_all
        · rfl
      rw [e] at this
      rw [this]
      simp [nth, List.getD_eq_getElem?_getD, hj]

def Blk (w : World) (g : Nat) (t : TypeId) (cs : Array Value) : Prop := w.heap[g]? = some (.cells cs t (0, 0))
section
variable {w w' : World} {g : Nat} {t : TypeId} {cs : Array Value}
theorem Blk.lt (h : Blk w g t cs) : g < w.heap.size := by
  rcases Nat.lt_or_ge g w.heap.size with hlt | hge
  · exact hlt
  · unfold Blk at h; rw [Array.getElem?_eq_none hge] at h; cases h
theorem Blk.cell (h : Blk w g t cs) (i : Nat) : w.cell? ⟨g, i, none⟩ = cs[i]? := cell_of_row w g i cs t (0, 0) h
theorem Blk.frozen (h : Blk w g t cs) (i : Nat) : w.frozen? ⟨g, i, none⟩ = false := by
  unfold Blk at h
  simp [World.frozen?, h]
theorem Blk.new (w : World) (t : TypeId) (cs : Array Value) : Blk (w.alloc (.cells cs t)) w.heap.size t cs := heap_alloc_new w _
theorem Blk.drew (h : Blk w g t cs) : Blk w.drew g t cs := h
theorem Blk.drewN (h : Blk w g t cs) (n : Nat) : Blk (w.drewN n) g t cs := h
theorem Blk.alloc (h : Blk w g t cs) (o : Obj) : Blk (w.alloc o) g t cs := (Below.heap_alloc w o g h.lt).trans h
theorem Blk.set_ (h : Blk w g t cs) (i : Nat) (u : Value) : Blk (w.setCell ⟨g, i, none⟩ u) g t (cs.setIfInBounds i u) := by
  unfold Blk at h ⊢
  simp [World.setCell, Array.getElem?_modify, h]
theorem Blk.far (h : Blk w g t cs) {p : Addr} (hp : g ≠ p.block) (u : Value) : Blk (w.setCell p u) g t cs := (Below.heap_setCell w p u g hp).trans h
theorem Blk.nx (h : Blk w g t cs) (hb : Nx w w') : Blk w' g t cs := (hb.block h.lt).trans h
theorem Blk.grown {row : Option Nat} (h : Blk w g t cs) (hb : w.grownBy w' row) (hg : some g ≠ row) : Blk w' g t cs := (hb.block g h.lt hg).trans h
end
end Go.Proofs.YtmfjndoljdpliaaDoor.kit
