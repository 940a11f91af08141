/-
  Fifos: the chapter's example comes out true. No condition.
-/
import Derived.Test.YtldgfhngieipgaaWalk08e
namespace Go.Proofs.Ytldgfhngieipgaa.walk
open Go.RowKit Go.Proofs.Ytldgfhngieipgaa.kit
set_option linter.unusedVariables false

theorem ne_blocks {n m : Nat} (h : n < m) : m ≠ n := by omega

set_option maxRecDepth 100000 in
set_option maxHeartbeats 2000000 in
theorem queued_any (w : World) : Calls Try.prog 14 #[] w fun e w' => e = .returned (.bool true) ∧ Nx w w' := by
  go_enter Try.func14, Try.ntmps14
  go_wp2_with fail
  refine (new_ok w 2 (by omega) (by omega)).mono ?_
  rintro e w1 ⟨rfl, f1, n1⟩
  have hag : w.heap.size + 1 ≠ w.heap.size := by omega
  have lt1 := f1.lt
  go_wp2_with fail
  refine (push_ok _ _ _ 2 [] 0 0 97 5 (by omega) hag (by simp) f1 (by omega) (by omega)).mono ?_
  rintro e w2 ⟨rfl, f2, o2⟩
  have n2 := Nx.only n1 o2 (by omega) (by omega)
  go_wp2_with fail
  refine (push_ok _ _ _ 2 _ 5 0 98 7 (by omega) hag (by simp) f2 (by omega) (by omega)).mono ?_
  rintro e w3 ⟨rfl, f3, o3⟩
  have n3 := Nx.only n2 o3 (by omega) (by omega)
  go_wp2_with fail
  refine (push_full _ _ _ 2 _ 7 0 99 9 hag (by simp) f3 (by omega) (by omega) (by omega) (by omega)).mono ?_
  rintro e w4 ⟨rfl, f4, o4⟩
  have n4 := Nx.only n3 o4 (by omega) (by omega)
  go_wp2_with fail
  refine (push_bad _ _ _ 2 _ 9 _ 100 8 f4 (by omega)).mono ?_
  rintro e w5 ⟨rfl, rfl⟩
  go_wp2_with fail
  refine (pop_ok _ _ _ 2 (97, 5) [(98, 7)] 9 _ (by omega) hag f4).mono ?_
  rintro e w6 ⟨rfl, f6, o6⟩
  have n6 := Nx.only n4 o6 (by omega) (by omega)
  have b6 := Blk.new w6 31 #[.int .u8 97, .int .i64 5]
  have f6' := f6.nx ((Nx.refl _).alloc (.cells #[.int .u8 97, .int .i64 5] 31))
  have n6' := n6.alloc (.cells #[.int .u8 97, .int .i64 5] 31)
  have s6 := n6.size
  have l6 := f6.lt
  clear f1 f2 f3 f4 f6 o2 o3 o4 o6 n1 n2 n3 n4 n6
  go_wp2_with fail
  refine (pop_ok _ _ _ 2 (98, 7) [] 9 _ (by omega) hag f6').mono ?_
  rintro e w7 ⟨rfl, f7, o7⟩
  have n7 := Nx.only n6' o7 (by omega) (by omega)
  have b6a := Blk.only b6 o7 (by omega) (by omega)
  have b7 := Blk.new w7 31 #[.int .u8 98, .int .i64 7]
  have b6b := b6a.alloc (.cells #[.int .u8 98, .int .i64 7] 31)
  have f7' := f7.nx ((Nx.refl _).alloc (.cells #[.int .u8 98, .int .i64 7] 31))
  have n7' := n7.alloc (.cells #[.int .u8 98, .int .i64 7] 31)
  clear f6' f7 o7 n6' n7 b6 b6a
  go_wp2_with fail
  refine (pop_none _ _ _ 2 9 _ f7').mono ?_
  rintro e w8 ⟨rfl, x8⟩
  have n8 := (n7'.trans x8).alloc (.cells #[.int .u8 0, .int .i64 0] 31)
  have f8 := (f7'.nx x8).nx ((Nx.refl _).alloc (.cells #[.int .u8 0, .int .i64 0] 31))
  have b68 := (b6b.nx x8).alloc (.cells #[.int .u8 0, .int .i64 0] 31)
  have b78 := (b7.nx x8).alloc (.cells #[.int .u8 0, .int .i64 0] 31)
  clear f7' n7' b6b b7 x8
  go_wp2_with fail
  refine (new_bad _ 65 (by omega)).mono ?_
  rintro e w9 ⟨rfl, rfl⟩
  go_wp2_with fail
  refine (pop_nil _).mono ?_
  rintro e w10 ⟨rfl, x10⟩
  have n10 := (n8.trans x10).alloc (.cells #[.int .u8 0, .int .i64 0] 31)
  have f10 := (f8.nx x10).nx ((Nx.refl _).alloc (.cells #[.int .u8 0, .int .i64 0] 31))
  have b6x := (b68.nx x10).alloc (.cells #[.int .u8 0, .int .i64 0] 31)
  have b7x := (b78.nx x10).alloc (.cells #[.int .u8 0, .int .i64 0] 31)
  have p0 := b6x.cell 0; have p1 := b6x.cell 1
  have r0 := b7x.cell 0; have r1 := b7x.cell 1
  simp only [List.getElem?_toArray, List.getElem?_cons_zero, List.getElem?_cons_succ] at p0 p1 r0 r1
  clear f8 n8 b68 b78 x10
  go_wp2_with fail
  refine (push_nil _ 1 1).mono ?_
  rintro e w11 ⟨rfl, rfl⟩
  go_wp2_with fail
  refine (len_nil _).mono ?_
  rintro e w12 ⟨rfl, rfl⟩
  go_wp2_with fail
  refine (lost_any _ _ _ 2 _ _ _ f10).mono ?_
  rintro e w13 ⟨rfl, rfl⟩
  go_wp2_with fail
  refine (len_any _ _ _ 2 _ _ _ f10).mono ?_
  rintro e w14 ⟨rfl, rfl⟩
  go_wp2_with fail
  go_ret
  exact ⟨rfl, n10⟩
end Go.Proofs.Ytldgfhngieipgaa.walk
