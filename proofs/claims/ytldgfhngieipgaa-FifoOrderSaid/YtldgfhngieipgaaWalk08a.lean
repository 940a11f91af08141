/-
  Fifos: the ring's put. No condition but the ring's own shape.
-/
import Derived.Test.YtldgfhngieipgaaBase
import Derived.BigRegion
import Derived.RegionTactic
import Derived.StillTailTactics
import Derived.IntWalk
namespace Go.Proofs.Ytldgfhngieipgaa.walk
open Go.RowKit Go.Proofs.Ytldgfhngieipgaa.kit
set_option linter.unusedVariables false

theorem ret_bool {a b : Bool} (h : a = b) : Ending.returned (.bool a) = .returned (.bool b) := by rw [h]
theorem ret_int {k : IntKind} {a b : Int} (h : a = b) : Ending.returned (.int k a) = .returned (.int k b) := by rw [h]

/-- only two blocks, and what is new, have turned -/
structure Only2 (a g : Nat) (w w' : World) : Prop where
  os : w'.os = w.os
  tape : w'.tape = w.tape
  output : w'.output = w.output
  size : w.heap.size ≤ w'.heap.size
  block : ∀ k, k < w.heap.size → k ≠ a → k ≠ g → w'.heap[k]? = w.heap[k]?
section
variable {a g : Nat} {u v x : World}
theorem Only2.refl (a g : Nat) (w : World) : Only2 a g w w := ⟨rfl, rfl, rfl, Nat.le_refl _, fun _ _ _ _ => rfl⟩
theorem Only2.trans (h : Only2 a g u v) (k : Only2 a g v x) : Only2 a g u x :=
  ⟨k.os.trans h.os, k.tape.trans h.tape, k.output.trans h.output, Nat.le_trans h.size k.size, fun i hi h1 h2 => (k.block i (Nat.lt_of_lt_of_le hi h.size) h1 h2).trans (h.block i hi h1 h2)⟩
theorem Only2.alloc (h : Only2 a g u v) (o : Obj) : Only2 a g u (v.alloc o) :=
  ⟨h.os, h.tape, h.output, Nat.le_trans h.size (by simp), fun i hi h1 h2 => (Below.heap_alloc v o i (Nat.lt_of_lt_of_le hi h.size)).trans (h.block i hi h1 h2)⟩
theorem Only2.drewN (h : Only2 a g u v) (n : Nat) : Only2 a g u (v.drewN n) := ⟨h.os, h.tape, h.output, h.size, h.block⟩
theorem Only2.drew (h : Only2 a g u v) : Only2 a g u v.drew := ⟨h.os, h.tape, h.output, h.size, h.block⟩
theorem Only2.set (h : Only2 a g u v) {p : Addr} (hp : p.block = a ∨ p.block = g ∨ u.heap.size ≤ p.block) (y : Value) : Only2 a g u (v.setCell p y) :=
  ⟨h.os, h.tape, h.output, by simpa [World.setCell] using h.size, fun i hi h1 h2 => (Below.heap_setCell v p y i (by rcases hp with hp | hp | hp <;> omega)).trans (h.block i hi h1 h2)⟩
theorem Only2.nx (h : Only2 a g u v) (k : Nx v x) : Only2 a g u x :=
  ⟨k.os.trans h.os, k.tape.trans h.tape, k.output.trans h.output, Nat.le_trans h.size k.size, fun i hi h1 h2 => (k.block (Nat.lt_of_lt_of_le hi h.size)).trans (h.block i hi h1 h2)⟩
/-- old memory stays, where both blocks are new to it -/
theorem Nx.only (h : Nx u v) (k : Only2 a g v x) (ha : u.heap.size ≤ a) (hg : u.heap.size ≤ g) : Nx u x :=
  ⟨k.os.trans h.os, k.tape.trans h.tape, k.output.trans h.output, Nat.le_trans h.size k.size, fun i hi => (k.block i (Nat.lt_of_lt_of_le hi h.size) (by omega) (by omega)).trans (h.block hi)⟩
theorem Blk.only {b : Nat} {t : TypeId} {cs : Array Value} (h : Blk u b t cs) (k : Only2 a g u v) (h1 : b ≠ a) (h2 : b ≠ g) : Blk v b t cs := (k.block b h.lt h1 h2).trans h
end

set_option maxHeartbeats 1000000 in
theorem put_full (w : World) (a g R : Nat) (fr last lost : Int) (b at' : Int)
    (hA : Blk w a 44 #[.slice (some ⟨g, 0, none⟩) R R, .int .i64 fr, .int .i64 R, .int .i64 last, .int .i64 lost]) :
    Calls Try.prog 17 #[.pointer (some ⟨a, 0, none⟩), .agg #[.int .u8 b, .int .i64 at']] w fun e w' => e = .returned (.bool false) ∧ Nx w w' := by
  have hA' := hA.alloc (.cells #[.int .u8 b, .int .i64 at'] 31)
  have c0 := hA'.cell 0; have c2 := hA'.cell 2
  have q : ((R : Int) == (R : Int)) = true := by simp
  simp only [List.getElem?_toArray, List.getElem?_cons_zero, List.getElem?_cons_succ] at c0 c2
  go_enter Try.func17, Try.ntmps17
  go_wp2_with fail
  go_quiet (fail)
  go_wp2_with fail
  go_ret
  exact ⟨rfl, ((Nx.refl _).alloc _).drewN nq⟩

set_option maxHeartbeats 2000000 in
theorem put_ok (w : World) (a g R fr n : Nat) (last lost : Int) (b at' : Int) (cs : Array Value) (hR : R ≤ 64) (hn : n < R) (hf : fr < R)
    (hA : Blk w a 44 #[.slice (some ⟨g, 0, none⟩) R R, .int .i64 fr, .int .i64 n, .int .i64 last, .int .i64 lost]) (hG : Blk w g 31 cs) (hs : cs.size = 2 * R) (hag : a ≠ g) :
    Calls Try.prog 17 #[.pointer (some ⟨a, 0, none⟩), .agg #[.int .u8 b, .int .i64 at']] w fun e w' => e = .returned (.bool true) ∧
      Blk w' a 44 #[.slice (some ⟨g, 0, none⟩) R R, .int .i64 fr, .int .i64 ((n : Int) + 1), .int .i64 last, .int .i64 lost] ∧
      Blk w' g 31 ((cs.setIfInBounds ((fr + n) % R * 2) (.int .u8 b)).setIfInBounds ((fr + n) % R * 2 + 1) (.int .i64 at')) ∧ Only2 a g w w' := by
  have hm : (fr + n) % R < R := Nat.mod_lt _ (by omega)
  have hA' := hA.alloc (.cells #[.int .u8 b, .int .i64 at'] 31)
  have hG' := hG.alloc (.cells #[.int .u8 b, .int .i64 at'] 31)
  have hS := Blk.new w 31 #[.int .u8 b, .int .i64 at']
  have l1 := hA.lt
  have l2 := hG.lt
  have c0 := hA'.cell 0; have c1 := hA'.cell 1; have c2 := hA'.cell 2
  have s0 := hS.cell 0; have s1 := hS.cell 1
  have fa2 := hA'.frozen 2
  have q : ((n : Int) == (R : Int)) = false := by simp; omega
  simp only [List.getElem?_toArray, List.getElem?_cons_zero, List.getElem?_cons_succ] at c0 c1 c2 s0 s1
  go_enter Try.func17, Try.ntmps17
  go_wp2_with fail
  go_quiet (fail)
  go_wp2_with fail
  have kA : Blk ((w.alloc (.cells #[.int .u8 b, .int .i64 at'] 31)).drewN nq) a 44 #[.slice (some ⟨g, 0, none⟩) R R, .int .i64 fr, .int .i64 n, .int .i64 last, .int .i64 lost] := hA'.drewN nq
  have kG : Blk ((w.alloc (.cells #[.int .u8 b, .int .i64 at'] 31)).drewN nq) g 31 cs := hG'.drewN nq
  have kS : Blk ((w.alloc (.cells #[.int .u8 b, .int .i64 at'] 31)).drewN nq) w.heap.size 31 #[.int .u8 b, .int .i64 at'] := hS.drewN nq
  have kO : Only2 a g w ((w.alloc (.cells #[.int .u8 b, .int .i64 at'] 31)).drewN nq) := ((Only2.refl a g w).alloc _).drewN nq
  clear hA' hG' hS c0 c1 c2 s0 s1 fa2 q
  generalize (w.alloc (.cells #[.int .u8 b, .int .i64 at'] 31)).drewN nq = W at *
  generalize hgs : w.heap.size = gs at *
  have c0 := kA.cell 0; have c1 := kA.cell 1; have c2 := kA.cell 2
  have s0 := kS.cell 0; have s1 := kS.cell 1
  simp only [List.getElem?_toArray, List.getElem?_cons_zero, List.getElem?_cons_succ] at c0 c1 c2 s0 s1
  have w1 : IntKind.i64.wrap ((fr : Int) + (n : Int)) = (fr : Int) + (n : Int) := IntWalk.i64_in _ (by omega)
  have w2 : ((fr : Int) + (n : Int)).tmod (R : Int) = (((fr + n) % R : Nat) : Int) := by
    rw [Int.tmod_eq_emod_of_nonneg (by omega)]; simp
  have w3 : IntKind.i64.wrap (((fr + n) % R : Nat) : Int) = (((fr + n) % R : Nat) : Int) := IntWalk.i64_in _ (by omega)
  generalize hII : (fr + n) % R = I at *
  have HI := Lib.hid hII
  clear hII
  have w4 : (0 : Int) ≤ (I : Int) := by omega
  have w5 : (I : Int) < (R : Int) := by omega
  have w6 : ((R : Int) == 0) = false := by simp; omega
  have w7 : ¬ R = 0 := by omega
  obtain ⟨x0, hx0⟩ : ∃ x0, cs[I * 2]? = some x0 := ⟨_, Array.getElem?_eq_getElem (by omega)⟩
  obtain ⟨x1, hx1⟩ : ∃ x1, cs[I * 2 + 1]? = some x1 := ⟨_, Array.getElem?_eq_getElem (by omega)⟩
  have z0 := (kG.cell (I * 2)).trans hx0
  have z1 := (kG.cell (I * 2 + 1)).trans hx1
  have f0 := kG.frozen (I * 2)
  have f1 := kG.frozen (I * 2 + 1)
  have fa2 := kA.frozen 2
  clear hx0 hx1
  go_still_tail 21, (by kernel_rfl)
  change wpList _ _ _ _ _ W.drew
  go_wp2_with fail
  go_ret
  refine ⟨rfl, ?_, ?_, ?_⟩
  · exact (((kA.far (by simpa using hag) _).far (by simpa using hag) _).set_ 2 _).drew
  · rw [HI.out]; exact (((kG.set_ (I * 2) _).set_ (I * 2 + 1) _).far (p := ⟨a, 2, none⟩) (fun e => hag e.symm) _).drew
  · exact (((kO.set (.inr (.inl rfl)) _).set (.inr (.inl rfl)) _).set (.inl rfl) _).drew
end Go.Proofs.Ytldgfhngieipgaa.walk
