/-
  The chapter's example of keys: it holds. No condition but the library's two tables.
-/
import Derived.Test.YtmfccecjphfkiaaDoorWalk16n
namespace Go.Proofs.YtmfccecjphfkiaaDoor.walk
open Go.RowKit Go.Proofs.YtmfccecjphfkiaaDoor.kit Go.Proofs.YtmfccecjphfkiaaDoor.plain
set_option linter.unusedVariables false

theorem ks_new (w : World) (l : List KEY) (t : TypeId) (n : Nat) (hn : l.length = n) (cs : Array Value) (hc : cs.toList = flatK l) : KsIn (w.alloc (.cells cs t)) (some ⟨w.heap.size, 0, none⟩) n l := by
  refine ⟨hn, fun _ => ⟨w.heap.size, 0, rfl, by simp, fun j hj => ?_⟩⟩
  obtain ⟨a, b⟩ := flatK_at l j (by omega)
  rw [← hc, Array.getElem?_toList] at a b
  rw [(Blk.new w t _).cell, (Blk.new w t _).cell, Nat.zero_add]
  exact ⟨a, b⟩
theorem ks_at (w : World) (l : List KEY) (t : TypeId) (n b : Nat) (hn : l.length = n) (cs : Array Value) (hc : cs.toList = flatK l) (hb : w.heap.size = b) : KsIn (w.alloc (.cells cs t)) (some ⟨b, 0, none⟩) n l := by
  subst hb; exact ks_new w l t n hn cs hc
/-- what Feed answers, read -/
def FX (p : ByteArray) (a : Int) (ks : List KEY) (w : World) (e : Ending) (w' : World) : Prop :=
  ∃ A n cap, e = .returned (.tuple #[.agg #[.string p, .int .i64 a], .slice A n cap, .int .i64 0]) ∧ KsIn w' A n ks ∧ n = ks.length ∧ Nx w w'
theorem FP.fx {rr : List UInt8} {t : Int} {ks : List KEY} {w : World} {e : Ending} {w' : World} (h : FP rr t ks w e w') : FX (mkK rr) (if rr = [] then 0 else t) ks w e w' := by
  obtain ⟨A, n, cap, h1, h2, h3⟩ := h
  obtain ⟨g1, g2⟩ := own_keys h2
  exact ⟨A, n, cap, h1, g1, g2, h3⟩
theorem fx4 (w : World) (hT : TB w) : Calls Tryd.prog 21 #[.agg #[.string ⟨#[]⟩, .int .i64 0], .agg #[.int .u8 27, .int .i64 5], .int .i64 3] w (FX ⟨#[27]⟩ 5 [] w) := (ex4 w hT).mono fun e w' h => h.fx
theorem fx5 (w : World) (hT : TB w) : Calls Tryd.prog 21 #[.agg #[.string ⟨#[27]⟩, .int .i64 5], .agg #[.int .u8 102, .int .i64 7], .int .i64 3] w (FX ⟨#[]⟩ 0 [(2, 102)] w) := (ex5 w hT).mono fun e w' h => h.fx
theorem fx6 (w : World) (hT : TB w) : Calls Tryd.prog 21 #[.agg #[.string ⟨#[27]⟩, .int .i64 5], .agg #[.int .u8 102, .int .i64 8], .int .i64 3] w (FX ⟨#[]⟩ 0 [(10, 0), (1, 102)] w) := (ex6 w hT).mono fun e w' h => h.fx
theorem fx9 (w : World) (hT : TB w) : Calls Tryd.prog 17 #[.agg #[.string ⟨#[27]⟩, .int .i64 5]] w fun e w' => e = .returned (.bool true) ∧ Nx w w' := isk_any ⟨#[27]⟩ 5 w hT (by decide)
theorem fx10 (w : World) (hT : TB w) : Calls Tryd.prog 19 #[.agg #[.string ⟨#[27]⟩, .int .i64 5], .int .i64 8, .int .i64 3] w fun e w' => e = .returned (.bool true) ∧ Nx w w' := due_any ⟨#[27]⟩ 5 8 3 w hT (by decide)
theorem fx11 (w : World) (hT : TB w) : Calls Tryd.prog 19 #[.agg #[.string ⟨#[27]⟩, .int .i64 5], .int .i64 7, .int .i64 3] w fun e w' => e = .returned (.bool false) ∧ Nx w w' := due_any ⟨#[27]⟩ 5 7 3 w hT (by decide)

set_option maxRecDepth 100000 in
set_option maxHeartbeats 4000000 in
theorem keyed_any (w : World) (hT : TB w) : Calls Tryd.prog 11 #[] w fun e w' => e = .returned (.bool true) ∧ Nx w w' := by
  have C1 := Lib.hid (one_any ⟨#[27, 91, 65, 120]⟩ w hT (by decide))
  have C2 := Lib.hid fun W hW => one_any ⟨#[27, 91]⟩ W hW (by decide)
  have C3 := Lib.hid fun W hW => one_any ⟨#[]⟩ W hW (by decide)
  rw [ex1] at C1
  rw [ex2] at C2
  rw [ex3] at C3
  rw [show keyV ((3, 0), 3, 0) = .tuple #[.agg #[.int .i64 3, .int .i32 0], .int .i64 3, .int .i64 0] from rfl] at C1
  rw [show keyV ((0, 0), 0, 3) = .tuple #[.agg #[.int .i64 0, .int .i32 0], .int .i64 0, .int .i64 3] from rfl] at C2
  rw [show keyV ((0, 0), 0, 6) = .tuple #[.agg #[.int .i64 0, .int .i32 0], .int .i64 0, .int .i64 6] from rfl] at C3
  go_enter Tryd.func11, Tryd.ntmps11
  go_wp2_with fail
  refine C1.out.mono ?_
  rintro e w1 ⟨rfl, x1⟩
  clear C1
  have hA := Blk.new w1 23 #[.int .i64 3, .int .i32 0]
  have n1 := x1.alloc (.cells #[.int .i64 3, .int .i32 0] 23)
  go_wp2_with fail
  refine (C2.out _ (hT.nx n1)).mono ?_
  rintro e w2 ⟨rfl, x2⟩
  clear C2 x1
  have hA2 := (hA.nx x2).alloc (.cells #[.int .i64 0, .int .i32 0] 23)
  have n2 := (n1.trans x2).alloc (.cells #[.int .i64 0, .int .i32 0] 23)
  clear hA n1 x2
  go_wp2_with fail
  refine (C3.out _ (hT.nx n2)).mono ?_
  rintro e w3 ⟨rfl, x3⟩
  clear C3
  have hA3 := (hA2.nx x3).alloc (.cells #[.int .i64 0, .int .i32 0] 23)
  have n3 := (n2.trans x3).alloc (.cells #[.int .i64 0, .int .i32 0] 23)
  clear hA2 n2 x3
  go_wp2_with fail
  refine (fx4 _ (hT.nx n3)).mono ?_
  rintro e w4 ⟨A4, m4, cap4, rfl, i4, l4, x4⟩
  obtain rfl : m4 = 0 := l4
  clear i4
  have hA4 := (hA3.nx x4).alloc (.cells #[.string ⟨#[27]⟩, .int .i64 5] 30)
  have n4 := (n3.trans x4).alloc (.cells #[.string ⟨#[27]⟩, .int .i64 5] 30)
  have hK4 := Blk.new w4 30 #[.string ⟨#[27]⟩, .int .i64 5]
  clear hA3 n3 x4
  go_wp2_with fail
  refine (fx5 _ (hT.nx n4)).mono ?_
  rintro e w5 ⟨A5, m5, cap5, rfl, i5, l5, x5⟩
  obtain rfl : m5 = 1 := l5

  have hA5 := (hA4.nx x5).alloc (.cells #[.string ⟨#[]⟩, .int .i64 0] 30)
  have hK5 := (hK4.nx x5).alloc (.cells #[.string ⟨#[]⟩, .int .i64 0] 30)
  have n5 := (n4.trans x5).alloc (.cells #[.string ⟨#[]⟩, .int .i64 0] 30)
  have i5' := i5.keep ((Nx.refl w5).alloc (.cells #[.string ⟨#[]⟩, .int .i64 0] 30))
  obtain ⟨k50, k51, _, _⟩ := blk_cells hK5
  clear hA4 hK4 n4 x5 i5
  have HI5 := Lib.hid i5'
  clear i5'
  go_wp2_with fail
  refine (fx6 _ (hT.nx n5)).mono ?_
  rintro e w6 ⟨A6, m6, cap6, rfl, i6, l6, x6⟩
  obtain rfl : m6 = 2 := l6
  clear k50 k51
  have hA6 := (hA5.nx x6).alloc (.cells #[.string ⟨#[]⟩, .int .i64 0] 30)
  have hK6 := (hK5.nx x6).alloc (.cells #[.string ⟨#[]⟩, .int .i64 0] 30)
  have n6 := (n5.trans x6).alloc (.cells #[.string ⟨#[]⟩, .int .i64 0] 30)
  have HI5' := Lib.hid (HI5.out.keep (x6.alloc (.cells #[.string ⟨#[]⟩, .int .i64 0] 30)))
  have HI6 := Lib.hid (i6.keep ((Nx.refl w6).alloc (.cells #[.string ⟨#[]⟩, .int .i64 0] 30)))
  obtain ⟨k60, k61, _, _⟩ := blk_cells hK6
  clear hA5 hK5 n5 x6 i6 HI5
  go_wp2_with fail
  refine (feed_bad ⟨#[27]⟩ 5 102 4 3 _ (hT.nx n6) (by decide) (.inr (.inr (.inr (by decide))))).mono ?_
  rintro e w7 ⟨rfl, x7⟩
  clear k60 k61
  have hA7 := (hA6.nx x7).alloc (.cells #[.string ⟨#[]⟩, .int .i64 0] 30)
  have hK7 := (hK6.nx x7).alloc (.cells #[.string ⟨#[]⟩, .int .i64 0] 30)
  have n7 := (n6.trans x7).alloc (.cells #[.string ⟨#[]⟩, .int .i64 0] 30)
  have G5 := Lib.hid (HI5'.out.keep (x7.alloc (.cells #[.string ⟨#[]⟩, .int .i64 0] 30)))
  have G6 := Lib.hid (HI6.out.keep (x7.alloc (.cells #[.string ⟨#[]⟩, .int .i64 0] 30)))
  obtain ⟨k70, k71, _, _⟩ := blk_cells hK7
  clear hA6 hK6 n6 x7 HI5' HI6
  go_wp2_with fail
  refine (ex7 _ (hT.nx n7)).mono ?_
  rintro e w8 ⟨A8, m8, cap8, rfl, o8, x8⟩
  obtain ⟨i8, l8⟩ := own_keys o8
  obtain rfl : m8 = 1 := l8
  clear k70 k71 o8
  have hA8 := (hA7.nx x8).alloc (.cells #[.string ⟨#[]⟩, .int .i64 0] 30)
  have hK8 := (hK7.nx x8).alloc (.cells #[.string ⟨#[]⟩, .int .i64 0] 30)
  have hQ8 := Blk.new w8 30 #[.string ⟨#[]⟩, .int .i64 0]
  have n8 := (n7.trans x8).alloc (.cells #[.string ⟨#[]⟩, .int .i64 0] 30)
  have F5 := Lib.hid (G5.out.keep (x8.alloc (.cells #[.string ⟨#[]⟩, .int .i64 0] 30)))
  have F6 := Lib.hid (G6.out.keep (x8.alloc (.cells #[.string ⟨#[]⟩, .int .i64 0] 30)))
  have F8 := Lib.hid (i8.keep ((Nx.refl w8).alloc (.cells #[.string ⟨#[]⟩, .int .i64 0] 30)))
  obtain ⟨a80, a81, _, _⟩ := blk_cells hA8
  have HK := Lib.hid hK8
  have HQ := Lib.hid hQ8
  clear hK8 hQ8
  clear hA7 hA8 hK7 n7 x8 i8 G5 G6
  go_wp2_with fail
  have y1 := (Nx.refl (w8.alloc (.cells #[.string ⟨#[]⟩, .int .i64 0] 30))).alloc (.cells #[.int .i64 2, .int .i32 102] 23)
  refine (same_keys _ A5 _ 1 _ _ [(2, 102)] (F5.out.keep y1) (ks_at _ [(2, 102)] _ 1 _ rfl _ rfl (by simp)) (by decide)).mono ?_
  rintro e w9 ⟨rfl, x9⟩
  clear F5 a80 a81
  have n9 := (y1.trans x9).alloc (.cells #[.int .i64 10, .int .i32 0, .int .i64 1, .int .i32 102] 23)
  clear y1 x9
  go_wp2_with fail
  refine (same_keys _ A6 _ 2 _ _ [(10, 0), (1, 102)] (F6.out.keep n9) (ks_at _ [(10, 0), (1, 102)] _ 2 _ rfl _ rfl (by simp)) (by decide)).mono ?_
  rintro e w10 ⟨rfl, x10⟩
  clear F6
  have n10 := n9.trans x10
  clear n9 x10
  obtain ⟨q0, q1, _, _⟩ := blk_cells (HQ.out.nx n10)
  have m10 := n10.alloc (.cells #[.int .i64 10, .int .i32 0] 23)
  go_wp2_with fail
  refine (same_keys _ A8 _ 1 _ _ [(10, 0)] (F8.out.keep m10) (ks_at _ [(10, 0)] _ 1 _ rfl _ rfl (by simp)) (by decide)).mono ?_
  rintro e w11 ⟨rfl, x11⟩
  clear F8 q0 q1 n10
  have n11 := m10.trans x11
  clear m10 x11
  go_wp2_with fail
  refine (ex8 w11).mono ?_
  rintro e w12 ⟨A12, m12, cap12, rfl, o12, x12⟩
  obtain ⟨i12, l12⟩ := own_keys o12
  obtain rfl : m12 = 3 := l12
  clear o12
  have I12 := Lib.hid i12
  have n12 := (n11.trans x12).alloc (.cells #[.int .i64 10, .int .i32 0, .int .i64 1, .int .i32 91, .int .i64 1, .int .i32 49] 23)
  clear i12 n11 x12
  go_wp2_with fail
  refine (same_keys _ A12 _ 3 _ _ [(10, 0), (1, 91), (1, 49)] (I12.out.keep ((Nx.refl _).alloc _)) (ks_at _ [(10, 0), (1, 91), (1, 49)] _ 3 _ rfl _ rfl (by simp)) (by decide)).mono ?_
  rintro e w13 ⟨rfl, x13⟩
  clear I12
  have n13 := n12.trans x13
  clear n12 x13
  obtain ⟨k0, k1, _, _⟩ := blk_cells (HK.out.nx n13)
  go_wp2_with fail
  refine (fx9 _ (hT.nx (n8.trans n13))).mono ?_
  rintro e w14 ⟨rfl, x14⟩
  clear k0 k1
  have n14 := n13.trans x14
  clear n13 x14
  obtain ⟨k0, k1, _, _⟩ := blk_cells (HK.out.nx n14)
  go_wp2_with fail
  refine (fx10 _ (hT.nx (n8.trans n14))).mono ?_
  rintro e w15 ⟨rfl, x15⟩
  clear k0 k1
  have n15 := n14.trans x15
  clear n14 x15
  obtain ⟨k0, k1, _, _⟩ := blk_cells (HK.out.nx n15)
  go_wp2_with fail
  refine (fx11 _ (hT.nx (n8.trans n15))).mono ?_
  rintro e w16 ⟨rfl, x16⟩
  clear k0 k1
  have n16 := (n8.trans n15).trans x16
  clear n15 x16 n8 HK HQ
  go_wp2_with fail
  go_ret
  exact ⟨rfl, n16⟩
end Go.Proofs.YtmfccecjphfkiaaDoor.walk
