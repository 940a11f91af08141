/-
  Signs: Decode of the program and of the reference. No condition but a bound on the bytes' number.
-/
import Derived.Test.YtmfjndoljdpliaaDoorWalk01f
import Derived.Test.YtmfjndoljdpliaaDoorOwn
import Derived.Deep.AppendLies
import Derived.Lib.OthersKept
import Derived.Laws.RangeAny
namespace Go.Proofs.YtmfjndoljdpliaaDoor.walk
open Go.RowKit Go.Proofs.YtmfjndoljdpliaaDoor.kit Go.Proofs.YtmfjndoljdpliaaDoor.plain
set_option linter.unusedVariables false

/-- the signs of bytes, as integers -/
def decI (l : List UInt8) : List Int := (dec l).map fun n : Nat => (n : Int)
theorem decI_length (l : List UInt8) : (decI l).length ≤ l.length := by rw [decI, List.length_map]; exact dec_length l
/-- a row of signs is handed back that the call made -/
def DP (zs : List Int) (w : World) (e : Ending) (w' : World) : Prop := ∃ A n cap, e = .returned (.slice A n cap) ∧ w'.ownsRow w.heap.size 21 1 (.slice A n cap) n (zs.map (Value.int .i32)) ∧ Nx w w'
theorem info32 : (Tryd.prog.info? 21).map (fun i => (i.zero, i.size, i.bytes)) = some (some (.int .i32 0), 1, 4) := by kernel_rfl
theorem own_form {w : World} {base : Nat} {e : TypeId} {size : Nat} {v : Value} {n : Nat} {xs : List Value} (h : w.ownsRow base e size v n xs) : ∃ A cap, v = .slice A n cap := by
  rcases h.2 with ⟨rfl, rfl⟩ | ⟨g, cap, cur, rfl, _⟩
  · exact ⟨none, 0, rfl⟩
  · exact ⟨_, cap, rfl⟩
theorem own_more {w : World} {base base' : Nat} {e : TypeId} {size : Nat} {v : Value} {n : Nat} {xs : List Value} (h : w.ownsRow base e size v n xs) (hb : base' ≤ base) : w.ownsRow base' e size v n xs :=
  ⟨h.1, h.2.imp id fun ⟨g, cap, cur, h1, h2, h3⟩ => ⟨g, cap, cur, h1, Nat.le_trans hb h2, h3⟩⟩
theorem own_keep {w w' : World} {base : Nat} {e : TypeId} {size : Nat} {v : Value} {n : Nat} {xs : List Value} (h : w.ownsRow base e size v n xs) (hk : ∀ g, base ≤ g → g < w.heap.size → w'.heap[g]? = w.heap[g]?) : w'.ownsRow base e size v n xs := by
  refine ⟨h.1, ?_⟩
  have hlt := h.lt
  rcases h.2 with h0 | ⟨g, cap, cur, rfl, hb, hh, h3⟩
  · exact .inl h0
  · refine .inr ⟨g, cap, cur, rfl, hb, ?_, h3⟩
    have hl := hlt g rfl
    rw [hk g hb hl.2]
    exact hh

/-- at the head of Decode's loop -/
def DR (s : ByteArray) (w : World) (pos : Nat) (ds : List Int) (v : Value) (wr : World) : Prop :=
  wr.heap[w.heap.size]? = some (.stringIter s pos) ∧ pos ≤ s.size ∧ wr.ownsRow (w.heap.size + 1) 21 1 v ds.length (ds.map (Value.int .i32)) ∧ decI (L s) = ds ++ decI ((L s).drop pos) ∧ ds.length ≤ pos ∧ Nx w wr
theorem DR.start (s : ByteArray) (w : World) : DR s w 0 [] (.slice none 0 0) (w.iter s 0) :=
  ⟨World.iter_heap w s 0, Nat.zero_le _, World.ownsRow_nil _ _ _ _, by simp, Nat.le_refl _, (Nx.refl w).alloc _⟩
theorem DR.step {s : ByteArray} {w : World} {pos : Nat} {ds : List Int} {v : Value} {wr : World} {o : Obj} {w1 : World} {g cap : Nat} (h : DR s w pos ds v wr) (hp : pos < s.size)
    (r1 : w1.ownsRow (w.heap.size + 1) 21 1 (.slice (some ⟨g, 0, none⟩) (ds.length + 1) cap) (ds.length + 1) (ds.map (Value.int .i32) ++ [.int .i32 (Utf8.decode s pos).1]))
    (r2 : ((wr.iterAt w.heap.size s (pos + (Utf8.decode s pos).2)).alloc o).grownBy w1 v.ownBlock) :
    DR s w (pos + (Utf8.decode s pos).2) (ds ++ [((Utf8.decode s pos).1 : Int)]) (.slice (some ⟨g, 0, none⟩) (ds.length + 1) cap) w1 ∧ pos < pos + (Utf8.decode s pos).2 := by
  obtain ⟨h1, h2, h3, h4, h5, h6⟩ := h
  have hne : (L s).drop pos ≠ [] := by
    intro e
    have := congrArg List.length e
    rw [List.length_drop, L_length] at this
    simp at this
    omega
  have hd := decode_nd s pos hp
  have hk := nd_ok _ hne
  rw [List.length_drop, L_length] at hk
  rw [hd] at r1 r2 ⊢
  have hlt : w.heap.size < wr.heap.size := (Array.getElem?_eq_some_iff.1 h1).1
  have hi : ((wr.iterAt w.heap.size s (pos + (nd ((L s).drop pos)).2)).alloc o).heap[w.heap.size]? = some (.stringIter s (pos + (nd ((L s).drop pos)).2)) := by
    rw [Below.heap_alloc _ _ _ (by rw [Lib.iterAt_size]; exact hlt)]
    exact Lib.iterAt_heap wr _ s pos _ h1
  have hbl := h3.lt
  refine ⟨⟨?_, by omega, ?_, ?_, ?_, ?_⟩, by omega⟩
  · rw [r2.block _ (by rw [World.size_alloc, Lib.iterAt_size]; omega) (fun e => by have := hbl _ e.symm; omega)]
    exact hi
  · rw [List.length_append, List.length_singleton, List.map_append]
    exact r1
  · rw [h4, List.append_assoc]
    congr 1
    rw [show decI ((L s).drop pos) = ((nd ((L s).drop pos)).1 : Int) :: decI (((L s).drop pos).drop (nd ((L s).drop pos)).2) by rw [decI, dec_cons _ hne]; rfl, List.drop_drop]
    rfl
  · rw [List.length_append, List.length_singleton]; omega
  · have hb : Nx w (wr.iterAt w.heap.size s (pos + (nd ((L s).drop pos)).2)) := Lib.below_iterAt h6 (Nat.le_refl _) _ _
    exact (hb.alloc o).grown r2 (fun k hk => by have := hbl k hk; omega)

end Go.Proofs.YtmfjndoljdpliaaDoor.walk
