/-
  Fifos: the ring's take. No condition but the ring's own shape.
-/
import Derived.Test.YtldgfhngieipgaaWalk08a
namespace Go.Proofs.Ytldgfhngieipgaa.walk
open Go.RowKit Go.Proofs.Ytldgfhngieipgaa.kit
set_option linter.unusedVariables false

set_option maxHeartbeats 1000000 in
theorem take_none (w : World) (a g R : Nat) (fr last lost : Int)
    (hA : Blk w a 44 #[.slice (some ⟨g, 0, none⟩) R R, .int .i64 fr, .int .i64 0, .int .i64 last, .int .i64 lost]) :
    Calls Try.prog 16 #[.pointer (some ⟨a, 0, none⟩)] w fun e w' => e = .returned (.tuple #[.agg #[.int .u8 0, .int .i64 0], .bool false]) ∧ Nx w w' := by
  have l1 := hA.lt
  have c2 := (hA.alloc (.cells #[.int .u8 0, .int .i64 0] 31)).alloc (.cells #[.int .u8 0, .int .i64 0] 31) |>.cell 2
  simp only [List.getElem?_toArray, List.getElem?_cons_zero, List.getElem?_cons_succ] at c2
  go_enter Try.func16, Try.ntmps16
  go_wp2_with fail
  refine bodyPost_ret (v := .tuple #[.agg #[.int .u8 0, .int .i64 0], .bool false]) (by simp [results, Try.results16, go_sem]) rfl ⟨rfl, ?_⟩
  exact ((Nx.refl _).alloc _).alloc _

theorem run_clear1 (W : World) (g o c : Nat) (ty : TypeId) (x0 x1 : Value) (c0 : W.cell? ⟨g, o, none⟩ = some x0) (c1 : W.cell? ⟨g, o + 1, none⟩ = some x1) (f0 : W.frozen? ⟨g, o, none⟩ = false) (f1 : W.frozen? ⟨g, o + 1, none⟩ = false) :
    (Builtin.clear_ #[22] ty #[.slice (some ⟨g, o, none⟩) 1 c]).run Try.prog W = .ok (.tuple #[]) ((W.setCell ⟨g, o, none⟩ (.int .u8 0)).setCell ⟨g, o + 1, none⟩ (.int .i64 0)) := by
  have hz : (zeroValue 31).run Try.prog W = .ok (.agg #[.int .u8 0, .int .i64 0]) W := by kernel_rfl
  have hc1 : (W.setCell ⟨g, o, none⟩ (.int .u8 0)).cell? ⟨g, o + 1, none⟩ = some x1 := by
    rw [World.cell?_setCell_other _ _ _ _ (by simp)]; exact c1
  simp [Builtin.clear_, run_underlying Try.underlying22, hz, Builtin.zeroCells, Value.cells, storeCells, go_sem, c0, f0, f1, hc1]

set_option maxHeartbeats 2000000 in
theorem take_ok (w : World) (a g R fr n : Nat) (last lost : Int) (b at' : Int) (cs : Array Value) (hR : R ≤ 64) (hn : n + 1 ≤ R) (hf : fr < R)
    (hA : Blk w a 44 #[.slice (some ⟨g, 0, none⟩) R R, .int .i64 fr, .int .i64 ((n : Int) + 1), .int .i64 last, .int .i64 lost]) (hG : Blk w g 31 cs) (hs : cs.size = 2 * R) (hag : a ≠ g)
    (h0 : cs[fr * 2]? = some (.int .u8 b)) (h1 : cs[fr * 2 + 1]? = some (.int .i64 at')) :
    Calls Try.prog 16 #[.pointer (some ⟨a, 0, none⟩)] w fun e w' => e = .returned (.tuple #[.agg #[.int .u8 b, .int .i64 at'], .bool true]) ∧
      Blk w' a 44 #[.slice (some ⟨g, 0, none⟩) R R, .int .i64 ((fr + 1) % R : Nat), .int .i64 n, .int .i64 last, .int .i64 lost] ∧
      Blk w' g 31 ((cs.setIfInBounds (fr * 2) (.int .u8 0)).setIfInBounds (fr * 2 + 1) (.int .i64 0)) ∧ Only2 a g w w' := by
  have l1 := hA.lt
  have l2 := hG.lt
  have hA' := (hA.alloc (.cells #[.int .u8 0, .int .i64 0] 31)).alloc (.cells #[.int .u8 0, .int .i64 0] 31)
  have hG' := (hG.alloc (.cells #[.int .u8 0, .int .i64 0] 31)).alloc (.cells #[.int .u8 0, .int .i64 0] 31)
  have hX : Blk ((w.alloc (.cells #[.int .u8 0, .int .i64 0] 31)).alloc (.cells #[.int .u8 0, .int .i64 0] 31)) w.heap.size 31 #[.int .u8 0, .int .i64 0] := (Blk.new w _ _).alloc _
  have hO : Only2 a g w ((w.alloc (.cells #[.int .u8 0, .int .i64 0] 31)).alloc (.cells #[.int .u8 0, .int .i64 0] 31)) := ((Only2.refl a g w).alloc _).alloc _
  have q : ((n : Int) + 1 == 0) = false := by simp; omega
  have i0 : (0 : Int) ≤ (fr : Int) := by omega
  have i1 : (fr : Int) < (R : Int) := by omega
  have cc2 := hA'.cell 2
  simp only [List.getElem?_toArray, List.getElem?_cons_zero, List.getElem?_cons_succ] at cc2
  go_enter Try.func16, Try.ntmps16
  go_wp2_with fail
  clear cc2 hA hG q
  generalize (w.alloc (.cells #[.int .u8 0, .int .i64 0] 31)).alloc (.cells #[.int .u8 0, .int .i64 0] 31) = W at *
  generalize hgs : w.heap.size = gs at *
  have c0 := hA'.cell 0; have c1 := hA'.cell 1
  have z0 := (hG'.cell (fr * 2)).trans h0
  have z1 := (hG'.cell (fr * 2 + 1)).trans h1
  simp only [List.getElem?_toArray, List.getElem?_cons_zero, List.getElem?_cons_succ] at c0 c1
  have na := hA'.lt
  have ng := hG'.lt
  have na' : a ≠ W.heap.size := by omega
  have ng' : g ≠ W.heap.size := by omega
  go_region
  all_goals go_wp2_with fail
  have kA : Blk (W.alloc (.cells #[.int .u8 b, .int .i64 at'] 31)).drew a 44 #[.slice (some ⟨g, 0, none⟩) R R, .int .i64 fr, .int .i64 ((n : Int) + 1), .int .i64 last, .int .i64 lost] := (hA'.alloc _).drew
  have kG : Blk (W.alloc (.cells #[.int .u8 b, .int .i64 at'] 31)).drew g 31 cs := (hG'.alloc _).drew
  have kX : Blk (W.alloc (.cells #[.int .u8 b, .int .i64 at'] 31)).drew gs 31 #[.int .u8 0, .int .i64 0] := (hX.alloc _).drew
  have kY : Blk (W.alloc (.cells #[.int .u8 b, .int .i64 at'] 31)).drew W.heap.size 31 #[.int .u8 b, .int .i64 at'] := (Blk.new W _ _).drew
  have kO : Only2 a g w (W.alloc (.cells #[.int .u8 b, .int .i64 at'] 31)).drew := (hO.alloc _).drew
  have hsz := hO.size
  rw [hgs] at hsz
  have lx := hX.lt
  clear hA' hG' hX hO c0 c1 z0 z1 na ng
  generalize (W.alloc (.cells #[.int .u8 b, .int .i64 at'] 31)).drew = V at *
  generalize W.heap.size = gy at *
  have c0 := kA.cell 0; have c1 := kA.cell 1
  simp only [List.getElem?_toArray, List.getElem?_cons_zero, List.getElem?_cons_succ] at c0 c1
  have z0 := (kG.cell (fr * 2)).trans h0
  have z1 := (kG.cell (fr * 2 + 1)).trans h1
  have f0 := kG.frozen (fr * 2)
  have f1 := kG.frozen (fr * 2 + 1)
  have u1 : IntKind.i64.wrap ((fr : Int) + 1) = (fr : Int) + 1 := IntWalk.i64_in _ (by omega)
  have hcl := fun ty => run_clear1 V.drew g (fr * 2) (R - fr) ty _ _ z0 z1 f0 f1
  go_region
  go_wp2_with fail
  have mA : Blk ((V.setCell ⟨g, fr * 2, none⟩ (.int .u8 0)).setCell ⟨g, fr * 2 + 1, none⟩ (.int .i64 0)).drew a 44 #[.slice (some ⟨g, 0, none⟩) R R, .int .i64 fr, .int .i64 ((n : Int) + 1), .int .i64 last, .int .i64 lost] := ((kA.far (p := ⟨g, fr * 2, none⟩) hag _).far (p := ⟨g, fr * 2 + 1, none⟩) hag _).drew
  have mG : Blk ((V.setCell ⟨g, fr * 2, none⟩ (.int .u8 0)).setCell ⟨g, fr * 2 + 1, none⟩ (.int .i64 0)).drew g 31 ((cs.setIfInBounds (fr * 2) (.int .u8 0)).setIfInBounds (fr * 2 + 1) (.int .i64 0)) := ((kG.set_ (fr * 2) _).set_ (fr * 2 + 1) _).drew
  have mX : Blk ((V.setCell ⟨g, fr * 2, none⟩ (.int .u8 0)).setCell ⟨g, fr * 2 + 1, none⟩ (.int .i64 0)).drew gs 31 #[.int .u8 0, .int .i64 0] := ((kX.far (p := ⟨g, fr * 2, none⟩) (show gs ≠ g by omega) _).far (p := ⟨g, fr * 2 + 1, none⟩) (show gs ≠ g by omega) _).drew
  have mY : Blk ((V.setCell ⟨g, fr * 2, none⟩ (.int .u8 0)).setCell ⟨g, fr * 2 + 1, none⟩ (.int .i64 0)).drew gy 31 #[.int .u8 b, .int .i64 at'] := ((kY.far (p := ⟨g, fr * 2, none⟩) (show gy ≠ g by omega) _).far (p := ⟨g, fr * 2 + 1, none⟩) (show gy ≠ g by omega) _).drew
  have mO : Only2 a g w ((V.setCell ⟨g, fr * 2, none⟩ (.int .u8 0)).setCell ⟨g, fr * 2 + 1, none⟩ (.int .i64 0)).drew := ((kO.set (.inr (.inl rfl)) _).set (.inr (.inl rfl)) _).drew
  clear kA kG kX kY kO hcl c0 c1 z0 z1 f0 f1
  generalize ((V.setCell ⟨g, fr * 2, none⟩ (.int .u8 0)).setCell ⟨g, fr * 2 + 1, none⟩ (.int .i64 0)).drew = U at *
  have c0 := mA.cell 0; have c1 := mA.cell 1; have c2 := mA.cell 2
  have x0 := mX.cell 0; have x1 := mX.cell 1
  have y0 := mY.cell 0; have y1 := mY.cell 1
  have fa1 := mA.frozen 1; have fa2 := mA.frozen 2
  have fx0 := mX.frozen 0; have fx1 := mX.frozen 1
  simp only [List.getElem?_toArray, List.getElem?_cons_zero, List.getElem?_cons_succ] at c0 c1 c2 x0 x1 y0 y1
  have w2 : ((fr : Int) + 1).tmod (R : Int) = (((fr + 1) % R : Nat) : Int) := by
    rw [Int.tmod_eq_emod_of_nonneg (by omega)]; simp
  have w2' : ((fr : Int) + 1) % (R : Int) = (((fr + 1) % R : Nat) : Int) := by simp
  have hIlt : (fr + 1) % R < R := Nat.mod_lt _ (by omega)
  generalize hII : (fr + 1) % R = I at *
  have HI := Lib.hid hII
  clear hII
  have w3 : IntKind.i64.wrap (I : Int) = (I : Int) := IntWalk.i64_in _ (by omega)
  have w7 : ¬ R = 0 := by omega
  have d1 : gs ≠ a := by omega
  have d2 : gy ≠ a := by omega
  have d3 : gy ≠ gs := by omega
  have n0 := (((mX.far (p := ⟨a, 1, none⟩) d1 (.int .i64 I)).far (p := ⟨a, 2, none⟩) d1 (.int .i64 n)).set_ 0 (.int .u8 b))
  have n1 := n0.set_ 1 (.int .i64 at')
  have s0 := n0.cell 0
  have s1 := n1.cell 1
  simp at s0 s1
  have S := Lib.hid (And.intro s0 s1)
  have PA := Lib.hid ((((mA.set_ 1 (.int .i64 I)).set_ 2 (.int .i64 n)).far (p := ⟨gs, 0, none⟩) (fun e => d1 e.symm) (.int .u8 b)).far (p := ⟨gs, 1, none⟩) (fun e => d1 e.symm) (.int .i64 at')).drew
  have PG := Lib.hid ((((mG.far (p := ⟨a, 1, none⟩) (fun e => hag e.symm) (.int .i64 I)).far (p := ⟨a, 2, none⟩) (fun e => hag e.symm) (.int .i64 n)).far (p := ⟨gs, 0, none⟩) (show g ≠ gs by omega) (.int .u8 b)).far (p := ⟨gs, 1, none⟩) (show g ≠ gs by omega) (.int .i64 at')).drew
  have PO := Lib.hid ((((mO.set (p := ⟨a, 1, none⟩) (.inl rfl) (.int .i64 I)).set (p := ⟨a, 2, none⟩) (.inl rfl) (.int .i64 n)).set (p := ⟨gs, 0, none⟩) (.inr (.inr (Nat.le_of_eq hgs))) (.int .u8 b)).set (p := ⟨gs, 1, none⟩) (.inr (.inr (Nat.le_of_eq hgs))) (.int .i64 at')).drew
  clear n0 n1 s0 s1 mA mG mX mY mO
  go_region
  go_wp2_with fail
  refine bodyPost_ret (v := .tuple #[.agg #[.int .u8 b, .int .i64 at'], .bool true]) (by simp [results, Try.results16, go_sem, S.out.1, S.out.2]) rfl ⟨rfl, ?_, PG.out, PO.out⟩
  rw [HI.out]
  exact PA.out
end Go.Proofs.Ytldgfhngieipgaa.walk
