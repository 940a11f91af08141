/-
  Words: where words end, begin and have their tails, by the program. Condition: the row has at most 1000 signs.
-/
import Derived.Test.YtmmgbmmphmldeaaWalk11b
import Derived.Test.YtmmgbmmphmldeaaWalk11c
import Derived.Test.YtmmgbmmphmldeaaWalk11d
namespace Go.Proofs.Ytmmgbmmphmldeaa.walk
open Go.RowKit Go.Proofs.Ytmmgbmmphmldeaa.plain
open Go.Proofs.Ytmmgbmmphmldeaa.kit hiding nth
set_option linter.unusedVariables false

theorem three_blks (w : World) (x y z : Value) (t1 t2 t3 : TypeId) :
    Blk (((w.alloc (.cells #[x] t1)).alloc (.cells #[y] t2)).alloc (.cells #[z] t3)) w.heap.size t1 #[x] ∧ Blk (((w.alloc (.cells #[x] t1)).alloc (.cells #[y] t2)).alloc (.cells #[z] t3)) (w.heap.size + 1) t2 #[y] ∧
    Blk (((w.alloc (.cells #[x] t1)).alloc (.cells #[y] t2)).alloc (.cells #[z] t3)) (w.heap.size + 2) t3 #[z] ∧ Nx w (((w.alloc (.cells #[x] t1)).alloc (.cells #[y] t2)).alloc (.cells #[z] t3)) := by
  refine ⟨((Blk.new w t1 #[x]).alloc _).alloc _, ?_, ?_, (((Nx.refl _).alloc _).alloc _).alloc _⟩
  · have := Blk.new (w.alloc (.cells #[x] t1)) t2 #[y]
    rw [World.size_alloc] at this
    exact this.alloc _
  · have := Blk.new ((w.alloc (.cells #[x] t1)).alloc (.cells #[y] t2)) t3 #[z]
    rw [World.size_alloc, World.size_alloc] at this
    exact this

theorem passer_any (A : Option Addr) (len cap : Nat) (zs : List Int) (at' d : Int) (w : World) (hz : zs.length = len) (hl : len ≤ 1000) :
    Calls Try.prog 26 #[.slice A len cap, .int .i64 at', .int .i64 d] w fun e w' => e = .returned (.func (.func 33) #[] #[.pointer (some ⟨w.heap.size + 1, 0, none⟩), .pointer (some ⟨w.heap.size + 2, 0, none⟩), .pointer (some ⟨w.heap.size, 0, none⟩)]) ∧
      ((w.alloc (.cells #[.slice A len cap] 25)).alloc (.cells #[.int .i64 (place zs at' : Nat)] 3)).alloc (.cells #[.int .i64 d] 3) = w' := by
  by_cases h1 : at' < 0
  · have hp := Lib.hid (show place zs at' = 0 by unfold place; rw [if_pos h1])
    go_enter Try.func26, Try.ntmps26
    go_wp2
    go_ret
    exact ⟨rfl, by rw [hp.out]; rfl⟩
  · by_cases h2 : (len : Int) < at'
    · have hp := Lib.hid (show place zs at' = len by unfold place; rw [if_neg h1, if_pos (by rw [hz]; exact h2), hz])
      go_enter Try.func26, Try.ntmps26
      go_wp2
      all_goals
        go_ret
        exact ⟨rfl, by rw [hp.out] <;> first | rfl | ((have e0 : len = 0 := by omega); rw [e0]; rfl)⟩
    · obtain ⟨k, rfl⟩ := Int.eq_ofNat_of_zero_le (show 0 ≤ at' by omega)
      have hk : k ≤ len := by omega
      have hp := Lib.hid (show place zs (k : Int) = k by unfold place; rw [if_neg h1, if_neg (by rw [hz]; exact h2)]; simp)
      clear h1 h2
      go_enter Try.func26, Try.ntmps26
      go_wp2
      all_goals
        go_ret
        exact ⟨rfl, by rw [hp.out] <;> first | rfl | ((have e0 : k = 0 := by omega); rw [e0]; rfl)⟩

theorem ends_f (w : World) (A : Option Addr) (len cap : Nat) (zs : List Int) (at' : Int) (hz : IntsIn .i32 w A len zs) (hlen : len ≤ 1000) :
    Calls Try.prog 24 #[.slice A len cap, .int .i64 at', .int .i64 1] w fun e w' => e = .returned (.int .i64 (foreP zs (place zs at') : Nat)) ∧ Nx w w' := by
  have hp : place zs at' ≤ len := by have := place_le zs at'; rw [hz.1] at this; exact this
  have hf : fwd notIn zs (place zs at') ≤ len := by have := fwd_le notIn zs (place zs at') (by rw [hz.1]; exact hp); rw [hz.1] at this; exact this
  have hz1 := hz.1
  go_enter Try.func24, Try.ntmps24
  go_wp2_with (go_at_call 26; refine (passer_any A len cap zs _ _ _ hz1 hlen).mono ?_; rintro e w1 ⟨rfl, rfl⟩)
  obtain ⟨b1, b2, b3, hN⟩ := three_blks w (.slice A len cap) (.int .i64 (place zs at' : Nat)) (.int .i64 1) 25 3 3
  refine (pass_not_f w _ A len cap zs w.heap.size (w.heap.size + 1) (w.heap.size + 2) (place zs at') hz hN (by omega) b1 b2 b3 hp hlen (by omega) (by omega)).mono ?_
  rintro e w1 ⟨rfl, c2, hg⟩
  go_wp2_with fail
  refine (pass_in_f w _ A len cap zs w.heap.size (w.heap.size + 1) (w.heap.size + 2) (fwd notIn zs (place zs at')) hz (hN.grown hg (by intro k hk; injection hk with hk; omega)) (by omega) (b1.grown hg (by simp)) c2 (b3.grown hg (by simp)) hf hlen (by omega) (by omega)).mono ?_
  rintro e w2 ⟨rfl, _, hg2⟩
  go_wp2
  go_ret
  exact ⟨rfl, (hN.grown hg (by intro k hk; injection hk with hk; omega)).grown hg2 (by intro k hk; injection hk with hk; omega)⟩

theorem ends_b (w : World) (A : Option Addr) (len cap : Nat) (zs : List Int) (at' : Int) (hz : IntsIn .i32 w A len zs) (hlen : len ≤ 1000) :
    Calls Try.prog 24 #[.slice A len cap, .int .i64 at', .int .i64 (-1)] w fun e w' => e = .returned (.int .i64 (behindP zs (place zs at') : Nat)) ∧ Nx w w' := by
  have hp : place zs at' ≤ len := by have := place_le zs at'; rw [hz.1] at this; exact this
  have hf : bwd notIn zs (place zs at') ≤ len := by have := bwd_le notIn zs (place zs at'); omega
  have hz1 := hz.1
  go_enter Try.func24, Try.ntmps24
  go_wp2_with (go_at_call 26; refine (passer_any A len cap zs _ _ _ hz1 hlen).mono ?_; rintro e w1 ⟨rfl, rfl⟩)
  obtain ⟨b1, b2, b3, hN⟩ := three_blks w (.slice A len cap) (.int .i64 (place zs at' : Nat)) (.int .i64 (-1)) 25 3 3
  refine (pass_not_b w _ A len cap zs w.heap.size (w.heap.size + 1) (w.heap.size + 2) (place zs at') hz hN (by omega) b1 b2 b3 hp hlen (by omega) (by omega)).mono ?_
  rintro e w1 ⟨rfl, c2, hg⟩
  go_wp2_with fail
  refine (pass_in_b w _ A len cap zs w.heap.size (w.heap.size + 1) (w.heap.size + 2) (bwd notIn zs (place zs at')) hz (hN.grown hg (by intro k hk; injection hk with hk; omega)) (by omega) (b1.grown hg (by simp)) c2 (b3.grown hg (by simp)) hf hlen (by omega) (by omega)).mono ?_
  rintro e w2 ⟨rfl, _, hg2⟩
  go_wp2
  go_ret
  exact ⟨rfl, (hN.grown hg (by intro k hk; injection hk with hk; omega)).grown hg2 (by intro k hk; injection hk with hk; omega)⟩

theorem fore_any (w : World) (A : Option Addr) (len cap : Nat) (zs : List Int) (at' : Int) (hz : IntsIn .i32 w A len zs) (hlen : len ≤ 1000) :
    Calls Try.prog 14 #[.slice A len cap, .int .i64 at'] w fun e w' => e = .returned (.int .i64 (foreP zs (place zs at') : Nat)) ∧ Nx w w' := by
  go_enter Try.func14, Try.ntmps14
  go_wp2_with fail
  refine (ends_f w A len cap zs at' hz hlen).mono ?_
  rintro e w1 ⟨rfl, hx⟩
  go_wp2
  go_ret
  exact ⟨rfl, hx⟩
theorem behind_any (w : World) (A : Option Addr) (len cap : Nat) (zs : List Int) (at' : Int) (hz : IntsIn .i32 w A len zs) (hlen : len ≤ 1000) :
    Calls Try.prog 16 #[.slice A len cap, .int .i64 at'] w fun e w' => e = .returned (.int .i64 (behindP zs (place zs at') : Nat)) ∧ Nx w w' := by
  go_enter Try.func16, Try.ntmps16
  go_wp2_with fail
  refine (ends_b w A len cap zs at' hz hlen).mono ?_
  rintro e w1 ⟨rfl, hx⟩
  go_wp2
  go_ret
  exact ⟨rfl, hx⟩
end Go.Proofs.Ytmmgbmmphmldeaa.walk
