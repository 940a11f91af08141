/-
  The chapter's example (the law's stored): it is met. No condition but the library's two tables.
-/
import Derived.Test.YtmfjndoljdpliaaDoorWalk22l
namespace Go.Proofs.YtmfjndoljdpliaaDoor.walk
open Go.RowKit Go.Proofs.YtmfjndoljdpliaaDoor.kit Go.Proofs.YtmfjndoljdpliaaDoor.plain
set_option linter.unusedVariables false

set_option maxRecDepth 100000 in
set_option maxHeartbeats 4000000 in
theorem stored_any (w : World) (hT : TB w) : Calls Tryd.prog 11 #[] w fun e w' => e = .returned (.bool true) ∧ Nx w w' := by
  have i0 := ints_two w 97 10 21
  have m0 := (Nx.refl w).alloc (.cells #[.int .i32 97, .int .i32 10] 21)
  have i1 := ints_two (w.alloc (.cells #[.int .i32 97, .int .i32 10] 21)) 92 233 21
  have m1 := (Nx.refl (w.alloc (.cells #[.int .i32 97, .int .i32 10] 21))).alloc (.cells #[.int .i32 92, .int .i32 233] 21)
  have r2 := rows_two _ _ _ 2 2 2 2 _ _ 34 (i0.keep m1) i1 (Nat.le_refl _) (by unfold maxLen; omega) (Nat.le_refl _) (by unfold maxLen; omega)
  simp only [World.size_alloc] at r2
  have r3 := r2.keep ((Nx.refl _).alloc (.cells #[.int .i64 3, .int .i64 1, .slice (some ⟨w.heap.size + 1 + 1, 0, none⟩) 2 2] 24))
  have hB := Blk.new (((w.alloc (.cells #[.int .i32 97, .int .i32 10] 21)).alloc (.cells #[.int .i32 92, .int .i32 233] 21)).alloc (.cells #[.slice (some ⟨w.heap.size, 0, none⟩) 2 2, .slice (some ⟨w.heap.size + 1, 0, none⟩) 2 2] 34)) 24 #[.int .i64 3, .int .i64 1, .slice (some ⟨w.heap.size + 1 + 1, 0, none⟩) 2 2]
  simp only [World.size_alloc] at hB
  have n3 := ((m0.trans m1).alloc (.cells #[.slice (some ⟨w.heap.size, 0, none⟩) 2 2, .slice (some ⟨w.heap.size + 1, 0, none⟩) 2 2] 34)).alloc (.cells #[.int .i64 3, .int .i64 1, .slice (some ⟨w.heap.size + 1 + 1, 0, none⟩) 2 2] 24)
  have R3 : Hid (RowsIn _ _ _ exL) := Lib.hid r3
  have HB := Lib.hid hB
  have N3 := Lib.hid n3
  clear r2 r3 i0 m0 i1 m1 hB n3
  go_enter Tryd.func11, Tryd.ntmps11
  go_wp2_with fail
  generalize (((w.alloc _).alloc _).alloc _).alloc _ = W1 at *
  generalize w.heap.size + 1 + 1 = g1 at *
  have C1 := Lib.hid (putp_ok 3 1 (some ⟨g1, 0, none⟩) 2 2 exL W1 R3.out ex_short ex_ok)
  rw [ex_put] at C1
  refine C1.out.mono ?_
  rintro e W2 ⟨rfl, x2⟩
  clear C1
  have C2 := Lib.hid (getp_any ⟨#[80, 51, 49, 97, 92, 110, 10, 92, 92, 195, 169, 10]⟩ W2 (hT.nx (N3.out.trans x2)) (by decide))
  go_wp2_with fail
  refine C2.out.mono ?_
  clear C2
  intro e W3 h3
  obtain ⟨A, cap, rfl, r3, _, _, x3⟩ := h3.put ex_is
  clear h3
  rw [show exL.length = 2 from rfl] at r3 ⊢
  have hQ := Blk.new W3 24 #[.int .i64 3, .int .i64 1, .slice A 2 cap]
  have x4 := x3.alloc (.cells #[.int .i64 3, .int .i64 1, .slice A 2 cap] 24)
  have r3' := r3.keep ((Nx.refl W3).alloc (.cells #[.int .i64 3, .int .i64 1, .slice A 2 cap] 24))
  have n4 := (N3.out.trans x2).trans x4
  have hB4 := HB.out.nx (x2.trans x4)
  have r1' := R3.out.keep (x2.trans x4)
  have HQ := Lib.hid hQ
  have HB4 := Lib.hid hB4
  have RQ := Lib.hid r3'
  have RP := Lib.hid r1'
  have N4 := Lib.hid n4
  clear hQ x4 r3' n4 hB4 r1' r3 x3 x2 HB R3 N3
  go_wp2_with fail
  generalize W3.alloc _ = W4 at *
  have C3 := Lib.hid (putp_bad 0 0 none 0 0 [] W4 .nil (fun l hl => by cases hl) ex_empty)
  refine C3.out.mono ?_
  rintro e W5 ⟨rfl, x5⟩
  clear C3
  have C4 := Lib.hid (getp_any (⟨#[80, 51, 49, 97, 92, 110, 10, 92, 92, 195, 169, 10]⟩ ++ ⟨#[97]⟩) W5 (hT.nx (N4.out.trans x5)) (by decide))
  go_wp2_with fail
  refine C4.out.mono ?_
  clear C4
  intro e W6 h6
  obtain ⟨rfl, x6⟩ := h6.no fun _ _ _ => ex_none
  clear h6
  have x7 := (x5.trans x6).alloc (.cells #[.int .i64 0, .int .i64 0, .slice none 0 0] 24)
  have n7 := N4.out.trans x7
  have b0 := blk3 (HQ.out.nx x7)
  have b1 := blk3 (HB4.out.nx x7)
  have C5 := Lib.hid (sames_eq _ A (some ⟨g1, 0, none⟩) 2 cap 2 exL (RQ.out.keep x7) (RP.out.keep x7) ex_short (by omega))
  clear x5 x6 x7 HQ HB4 RQ RP N4
  go_wp2_with fail
  refine C5.out.mono ?_
  rintro e W8 ⟨rfl, x8⟩
  clear C5
  go_wp2_with fail
  go_ret
  exact ⟨rfl, n7.trans x8⟩
end Go.Proofs.YtmfjndoljdpliaaDoor.walk
