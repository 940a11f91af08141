/-
  Keys: one byte more (Feed), what it leaves in memory. No condition.
-/
import Derived.Test.YtmfccecjphfkiaaDoorWalk16i
namespace Go.Proofs.YtmfccecjphfkiaaDoor.walk
open Go.RowKit Go.Proofs.YtmfccecjphfkiaaDoor.kit Go.Proofs.YtmfccecjphfkiaaDoor.plain
set_option linter.unusedVariables false

def mkK (l : List UInt8) : ByteArray := ⟨l.toArray⟩
theorem L_mkK (l : List UInt8) : L (mkK l) = l := by simp [L, mkK]
theorem mkK_L (s : ByteArray) : mkK (L s) = s := L_inj (L_mkK _)
/-- what Feed answers -/
def FP (rr : List UInt8) (t : Int) (ks : List KEY) (w : World) (e : Ending) (w' : World) : Prop :=
  ∃ A n cap, e = .returned (.tuple #[.agg #[.string (mkK rr), .int .i64 (if rr = [] then 0 else t)], .slice A n cap, .int .i64 0]) ∧ w'.ownsRow w.heap.size 23 2 (.slice A n cap) n (flatK ks) ∧ Nx w w'
def memLen (b : Nat) (w : World) : Nat := match w.cell? ⟨b, 0, none⟩ with
  | some (.string x) => x.size
  | _ => 0
theorem memLen_of {b : Nat} {w : World} {x : ByteArray} (h : w.cell? ⟨b, 0, none⟩ = some (.string x)) : memLen b w = x.size := by simp [memLen, h]
/-- at the head of the loops: keys so far, bytes to go -/
def KL (ks : List KEY) (S : ByteArray) (KS : List KEY) (RR : List UInt8) : Prop := ks ++ keysOf (L S) = KS ∧ restOf (L S) = RR ∧ ks.length + S.size ≤ 3000000 ∧ S.size ≤ 1000000
theorem KL.step {ks : List KEY} {S : ByteArray} {KS : List KEY} {RR : List UInt8} (h : KL ks S KS RR) (he : (one (L S)).2.2 = 0) :
    1 ≤ (one (L S)).2.1 ∧ (one (L S)).2.1 ≤ S.size ∧ KL (ks ++ [(one (L S)).1]) (S.extract (one (L S)).2.1 S.size) KS RR ∧ (S.extract (one (L S)).2.1 S.size).size < S.size := by
  obtain ⟨h1, h2, h3, h4⟩ := h
  rcases one_e (L S) with ⟨_, hn1, hn2⟩ | ⟨h', _⟩ | ⟨h', _⟩
  · rw [L_length] at hn2
    obtain ⟨e1, e2⟩ := size_rest S (one (L S)).2.1
    obtain ⟨g1, g2⟩ := prs_go _ he
    refine ⟨hn1, hn2, ⟨?_, ?_, ?_, by omega⟩, by omega⟩
    · rw [← h1, e2, List.append_assoc, g1]; rfl
    · rw [← h2, e2, g2]
    · rw [List.length_append, List.length_singleton, e1]; omega
  · rw [h'] at he; simp at he
  · rw [h'] at he; simp at he
theorem KL.out {ks : List KEY} {S : ByteArray} {KS : List KEY} {RR : List UInt8} (h : KL ks S KS RR) (he : (one (L S)).2.2 ≠ 0) : ks = KS ∧ L S = RR := by
  obtain ⟨h1, h2, _⟩ := h
  obtain ⟨e1, e2⟩ := prs_stop _ he
  rw [e1, List.append_nil] at h1
  rw [e2] at h2
  exact ⟨h1, h2⟩
theorem one_form (l : List UInt8) : (∃ a b n, one l = ((a, b), n, 0) ∧ l ≠ []) ∨ (one l = ((0, 0), 0, 3) ∧ l ≠ []) ∨ (one l = ((0, 0), 0, 6) ∧ l = []) := by
  have hz : l = [] → l.length = 0 := fun e => by rw [e]; rfl
  rcases one_e l with ⟨h, h1, h2⟩ | ⟨h, h1, _⟩ | h
  · refine .inl ⟨(one l).1.1, (one l).1.2, (one l).2.1, ?_, fun e => by have := hz e; omega⟩
    rw [← h]
  · exact .inr (.inl ⟨h, fun e => by have := hz e; omega⟩)
  · exact .inr (.inr h)

/-- at the head of Feed's loop -/
def FR (w : World) (b t : Int) (KS : List KEY) (RR : List UInt8) (S : ByteArray) (ks : List KEY) (v : Value) (wr : World) : Prop :=
  Blk wr w.heap.size 30 #[.string S, .int .i64 t] ∧ Blk wr (w.heap.size + 1) 40 #[.int .u8 b, .int .i64 t] ∧ Blk wr (w.heap.size + 2) 30 #[.string ⟨#[]⟩, .int .i64 0] ∧
    wr.ownsRow (w.heap.size + 3) 23 2 v ks.length (flatK ks) ∧ KL ks S KS RR ∧ Nx w wr
theorem blk_grown {w w' : World} {g : Nat} {t : TypeId} {cs : Array Value} {row : Option Nat} {base : Nat} (h : Blk w g t cs) (hb : w.grownBy w' row) (hr : ∀ k, row = some k → base ≤ k) (hg : g < base) : Blk w' g t cs :=
  h.grown hb (fun e => by have := hr g e.symm; omega)
theorem FR.step {w : World} {b t : Int} {KS : List KEY} {RR : List UInt8} {S : ByteArray} {ks : List KEY} {v : Value} {wr w1 w2 : World} {o1 o2 : Obj} {g cap : Nat} {ka kb : Int} {n : Nat}
    (h : FR w b t KS RR S ks v wr) (he : one (L S) = ((ka, kb), n, 0)) (x1 : Nx wr w1)
    (r1 : w2.ownsRow (w.heap.size + 3) 23 2 (.slice (some ⟨g, 0, none⟩) (ks.length + 1) cap) (ks.length + 1) (flatK ks ++ [.int .i64 ka, .int .i32 kb]))
    (r2 : ((w1.alloc o1).alloc o2).grownBy w2 v.ownBlock) :
    FR w b t KS RR (S.extract n S.size) (ks ++ [(ka, kb)]) (.slice (some ⟨g, 0, none⟩) (ks.length + 1) cap) (w2.setCell ⟨w.heap.size, 0, none⟩ (.string (S.extract n S.size))) ∧ Blk w2 w.heap.size 30 #[.string S, .int .i64 t] ∧ (S.extract n S.size).size < S.size := by
  obtain ⟨h1, h2, h3, h4, h5, h6⟩ := h
  obtain ⟨_, _, k3, k4⟩ := KL.step h5 (by rw [he])
  rw [he] at k3 k4
  have hlt := h4.lt
  have hrow : ∀ k, v.ownBlock = some k → w.heap.size + 3 ≤ k := fun k hk => (hlt k hk).1
  have y := (x1.alloc o1).alloc o2
  have B1 := blk_grown (h1.nx y) r2 hrow (by omega)
  have B2 := blk_grown (h2.nx y) r2 hrow (by omega)
  have B3 := blk_grown (h3.nx y) r2 hrow (by omega)
  refine ⟨⟨B1.set_ 0 _, B2.far (p := ⟨w.heap.size, 0, none⟩) (show w.heap.size + 1 ≠ w.heap.size by omega) _, B3.far (p := ⟨w.heap.size, 0, none⟩) (show w.heap.size + 2 ≠ w.heap.size by omega) _, ?_, k3, ?_⟩, B1, k4⟩
  · rw [List.length_append, List.length_singleton, flatK_snoc]
    exact own_keep r1 fun g hg _ => Below.heap_setCell _ ⟨w.heap.size, 0, none⟩ _ g (show g ≠ w.heap.size by omega)
  · exact ((h6.trans y).grown r2 (fun k hk => by have := hrow k hk; omega)).setCell (p := ⟨w.heap.size, 0, none⟩) (Nat.le_refl _) _
end Go.Proofs.YtmfccecjphfkiaaDoor.walk
