/-
  Words: the chapter's example comes out true. No condition.
-/
import Derived.Test.YtmmgbmmphmldeaaWalk11g
namespace Go.Proofs.Ytmmgbmmphmldeaa.walk
open Go.RowKit Go.Proofs.Ytmmgbmmphmldeaa.plain
open Go.Proofs.Ytmmgbmmphmldeaa.kit hiding nth
set_option linter.unusedVariables false

theorem fore_at (w : World) (A : Option Addr) (len cap : Nat) (zs : List Int) (at' v : Int) (hv : (foreP zs (place zs at') : Int) = v) (hz : IntsIn .i32 w A len zs) (hlen : len ≤ 1000) :
    Calls Try.prog 14 #[.slice A len cap, .int .i64 at'] w fun e w' => e = .returned (.int .i64 v) ∧ Nx w w' := by
  subst hv; exact fore_any w A len cap zs at' hz hlen
theorem behind_at (w : World) (A : Option Addr) (len cap : Nat) (zs : List Int) (at' v : Int) (hv : (behindP zs (place zs at') : Int) = v) (hz : IntsIn .i32 w A len zs) (hlen : len ≤ 1000) :
    Calls Try.prog 16 #[.slice A len cap, .int .i64 at'] w fun e w' => e = .returned (.int .i64 v) ∧ Nx w w' := by
  subst hv; exact behind_any w A len cap zs at' hz hlen
theorem next_at (w : World) (A : Option Addr) (len cap : Nat) (zs : List Int) (at' v : Int) (hv : (nextP zs (place zs at') : Int) = v) (hz : IntsIn .i32 w A len zs) (hlen : len ≤ 1000) :
    Calls Try.prog 18 #[.slice A len cap, .int .i64 at'] w fun e w' => e = .returned (.int .i64 v) ∧ Nx w w' := by
  subst hv; exact next_any w A len cap zs at' hz hlen
theorem prev_at (w : World) (A : Option Addr) (len cap : Nat) (zs : List Int) (at' v : Int) (hv : (prevP zs (place zs at') : Int) = v) (hz : IntsIn .i32 w A len zs) (hlen : len ≤ 1000) :
    Calls Try.prog 20 #[.slice A len cap, .int .i64 at'] w fun e w' => e = .returned (.int .i64 v) ∧ Nx w w' := by
  subst hv; exact prev_any w A len cap zs at' hz hlen
theorem tail_at (w : World) (A : Option Addr) (len cap : Nat) (zs : List Int) (at' v : Int) (hv : (tailP zs (place zs at') : Int) = v) (hz : IntsIn .i32 w A len zs) (hlen : len ≤ 1000) :
    Calls Try.prog 22 #[.slice A len cap, .int .i64 at'] w fun e w' => e = .returned (.int .i64 v) ∧ Nx w w' := by
  subst hv; exact tail_any w A len cap zs at' hz hlen
theorem ints_lit (w : World) (t : TypeId) (zs : List Int) (h : 0 < zs.length) : IntsIn .i32 (w.alloc (.cells (zs.map (Value.int .i32)).toArray t)) (some ⟨w.heap.size, 0, none⟩) zs.length zs :=
  ⟨rfl, fun _ => ⟨w.heap.size, 0, rfl, by simp, fun j hj => by
    have h := (Blk.new w t (zs.map (Value.int .i32)).toArray).cell j
    rw [Nat.zero_add, h]
    simp [kit.nth, hj]⟩⟩

set_option maxRecDepth 100000 in
set_option maxHeartbeats 2000000 in
theorem worded_any (w : World) : Calls Try.prog 9 #[] w fun e w' => e = .returned (.bool true) ∧ Nx w w' := by
  have hl0 : IntsIn .i32 (w.alloc (.cells #[.int .i32 97, .int .i32 98, .int .i32 44, .int .i32 32, .int .i32 99] 21)) (some ⟨w.heap.size, 0, none⟩) 5 [97, 98, 44, 32, 99] := ints_lit w _ [97, 98, 44, 32, 99] (by decide)
  have hm0 : IntsIn .i32 ((w.alloc (.cells #[.int .i32 97, .int .i32 98, .int .i32 44, .int .i32 32, .int .i32 99] 21)).alloc (.cells #[.int .i32 97, .int .i32 95, .int .i32 98] 21)) (some ⟨w.heap.size + 1, 0, none⟩) 3 [97, 95, 98] := by
    have := ints_lit (w.alloc (.cells #[.int .i32 97, .int .i32 98, .int .i32 44, .int .i32 32, .int .i32 99] 21)) 21 [97, 95, 98] (by decide)
    rw [World.size_alloc] at this
    exact this
  have hl1 := hl0.keep ((Nx.refl _).alloc (.cells #[.int .i32 97, .int .i32 95, .int .i32 98] 21))
  have hN0 : Nx w ((w.alloc (.cells #[.int .i32 97, .int .i32 98, .int .i32 44, .int .i32 32, .int .i32 99] 21)).alloc (.cells #[.int .i32 97, .int .i32 95, .int .i32 98] 21)) := ((Nx.refl _).alloc _).alloc _
  have HL := Lib.hid hl1
  have HM := Lib.hid hm0
  clear hl0 hl1 hm0
  go_enter Try.func9, Try.ntmps9
  go_wp2_with fail
  refine (fore_at _ (some ⟨w.heap.size, 0, none⟩) 5 5 [97, 98, 44, 32, 99] 0 2 rfl (HL.out) (by omega)).mono ?_
  rintro e w1 ⟨rfl, hx1⟩
  have y1 := hx1
  go_wp2_with fail
  refine (fore_at _ (some ⟨w.heap.size, 0, none⟩) 5 5 [97, 98, 44, 32, 99] 2 5 rfl (HL.out.keep y1) (by omega)).mono ?_
  rintro e w2 ⟨rfl, hx2⟩
  have y2 := y1.trans hx2
  clear hx2 y1
  go_wp2_with fail
  refine (behind_at _ (some ⟨w.heap.size, 0, none⟩) 5 5 [97, 98, 44, 32, 99] 4 0 rfl (HL.out.keep y2) (by omega)).mono ?_
  rintro e w3 ⟨rfl, hx3⟩
  have y3 := y2.trans hx3
  clear hx3 y2
  go_wp2_with fail
  refine (behind_at _ (some ⟨w.heap.size, 0, none⟩) 5 5 [97, 98, 44, 32, 99] 5 4 rfl (HL.out.keep y3) (by omega)).mono ?_
  rintro e w4 ⟨rfl, hx4⟩
  have y4 := y3.trans hx4
  clear hx4 y3
  go_wp2_with fail
  refine (next_at _ (some ⟨w.heap.size, 0, none⟩) 5 5 [97, 98, 44, 32, 99] 0 2 rfl (HL.out.keep y4) (by omega)).mono ?_
  rintro e w5 ⟨rfl, hx5⟩
  have y5 := y4.trans hx5
  clear hx5 y4
  go_wp2_with fail
  refine (next_at _ (some ⟨w.heap.size, 0, none⟩) 5 5 [97, 98, 44, 32, 99] 2 4 rfl (HL.out.keep y5) (by omega)).mono ?_
  rintro e w6 ⟨rfl, hx6⟩
  have y6 := y5.trans hx6
  clear hx6 y5
  go_wp2_with fail
  refine (next_at _ (some ⟨w.heap.size, 0, none⟩) 5 5 [97, 98, 44, 32, 99] 4 5 rfl (HL.out.keep y6) (by omega)).mono ?_
  rintro e w7 ⟨rfl, hx7⟩
  have y7 := y6.trans hx7
  clear hx7 y6
  go_wp2_with fail
  refine (prev_at _ (some ⟨w.heap.size, 0, none⟩) 5 5 [97, 98, 44, 32, 99] 4 2 rfl (HL.out.keep y7) (by omega)).mono ?_
  rintro e w8 ⟨rfl, hx8⟩
  have y8 := y7.trans hx8
  clear hx8 y7
  go_wp2_with fail
  refine (prev_at _ (some ⟨w.heap.size, 0, none⟩) 5 5 [97, 98, 44, 32, 99] 2 0 rfl (HL.out.keep y8) (by omega)).mono ?_
  rintro e w9 ⟨rfl, hx9⟩
  have y9 := y8.trans hx9
  clear hx9 y8
  go_wp2_with fail
  refine (tail_at _ (some ⟨w.heap.size, 0, none⟩) 5 5 [97, 98, 44, 32, 99] 0 1 rfl (HL.out.keep y9) (by omega)).mono ?_
  rintro e w10 ⟨rfl, hx10⟩
  have y10 := y9.trans hx10
  clear hx10 y9
  go_wp2_with fail
  refine (tail_at _ (some ⟨w.heap.size, 0, none⟩) 5 5 [97, 98, 44, 32, 99] 1 2 rfl (HL.out.keep y10) (by omega)).mono ?_
  rintro e w11 ⟨rfl, hx11⟩
  have y11 := y10.trans hx11
  clear hx11 y10
  go_wp2_with fail
  refine (fore_at _ (some ⟨(w.heap.size + 1), 0, none⟩) 3 3 [97, 95, 98] 0 1 rfl (HM.out.keep y11) (by omega)).mono ?_
  rintro e w12 ⟨rfl, hx12⟩
  have y12 := y11.trans hx12
  clear hx12 y11
  go_wp2_with fail
  refine (next_at _ (some ⟨(w.heap.size + 1), 0, none⟩) 3 3 [97, 95, 98] 0 3 rfl (HM.out.keep y12) (by omega)).mono ?_
  rintro e w13 ⟨rfl, hx13⟩
  have y13 := y12.trans hx13
  clear hx13 y12
  go_wp2_with fail
  refine (kind_any _ _).mono ?_
  rw [show kindI 95 = 1 from rfl]
  rintro e w20 ⟨rfl, rfl⟩
  go_wp2_with fail
  refine (in_any _ _).mono ?_
  rw [show inB 95 = false from rfl]
  rintro e w21 ⟨rfl, rfl⟩
  go_wp2_with fail
  refine (in_any _ _).mono ?_
  rw [show inB 233 = true from rfl]
  rintro e w22 ⟨rfl, rfl⟩
  go_wp2_with fail
  go_ret
  exact ⟨rfl, hN0.trans y13⟩
end Go.Proofs.Ytmmgbmmphmldeaa.walk
