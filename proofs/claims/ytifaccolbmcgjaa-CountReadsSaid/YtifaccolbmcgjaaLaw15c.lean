/-
  The walk of the law CountReads: it returns true for every input. No condition.
-/
import Derived.Test.YtifaccolbmcgjaaWalk15e
import Derived.Test.YtifaccolbmcgjaaOwn
namespace Go.Proofs.Ytifaccolbmcgjaa.walk
open Go.RowKit Go.Proofs.Ytifaccolbmcgjaa.kit Go.Proofs.Ytifaccolbmcgjaa.plain
set_option linter.unusedVariables false

theorem Try.infoInt : (Try.prog.info? 3).map (fun i => (i.zero, i.size, i.bytes)) = some (some (.int .i64 0), 1, 8) := by kernel_rfl

theorem four_new (w : World) (a b c d : Value) (t : TypeId) : ∀ j x, [a, b, c, d][j]? = some x → (w.alloc (.cells #[a, b, c, d] t)).cell? ((⟨w.heap.size, 0, none⟩ : Addr).add j) = some x := by
  intro j x hj
  match j, hj with
  | 0, hj => simp at hj; subst hj; exact (Blk.new w t #[a, b, c, d]).cell 0
  | 1, hj => simp at hj; subst hj; exact (Blk.new w t #[a, b, c, d]).cell 1
  | 2, hj => simp at hj; subst hj; exact (Blk.new w t #[a, b, c, d]).cell 2
  | 3, hj => simp at hj; subst hj; exact (Blk.new w t #[a, b, c, d]).cell 3
theorem four_one (p q r s : Int) : ∀ u ∈ [Value.int .i64 p, .int .i64 q, .int .i64 r, .int .i64 s], u.oneCell' = true := by
  intro u hu; simp at hu; rcases hu with rfl | rfl | rfl | rfl <;> rfl
theorem isB_zero (neg : Bool) : isB neg neg 0 = true := by cases neg <;> rfl
theorem reads_val (neg : Bool) (k : Nat) (n : Int) (h0 : 0 ≤ n) (h1 : n ≤ 9999) :
    valB (digH neg neg 0 (List.replicate k 0 ++ [n / 1000, n / 100 % 10, n / 10 % 10, n % 10])) neg (digN neg neg 0 (List.replicate k 0 ++ [n / 1000, n / 100 % 10, n / 10 % 10, n % 10])) = if neg then (if n ≤ 1 then -1 else -n) else n := by
  unfold digH digN
  rw [if_pos (isB_zero neg), if_pos (isB_zero neg), reads_H neg k n h0 h1, reads_N k n h0 h1]
  unfold valB
  rw [isB_true_h h0 h1]
  cases neg
  · rfl
  · simp only [Bool.and_self, if_true]
    split <;> split <;> omega

set_option maxHeartbeats 1000000 in
theorem countReads_walk (w : World) (n : Int) (wn : (Lit.int .i64 n).wf = true) (m : Int) (wm : (Lit.int .i64 m).wf = true) (neg : Bool) :
    Calls Try.prog 6 #[.int .i64 n, .int .i64 m, .bool neg] w fun e w' => e = .returned (.bool true) ∧ Below w.heap.size w w' := by
  clear wn wm
  by_cases hg : n < 0 ∨ 9999 < n ∨ m < 0 ∨ 100 < m
  · rcases (show n < 0 ∨ (0 ≤ n ∧ 9999 < n) ∨ (0 ≤ n ∧ n ≤ 9999 ∧ m < 0) ∨ (0 ≤ n ∧ n ≤ 9999 ∧ 0 ≤ m ∧ 100 < m) by omega) with h1 | ⟨h1, h2⟩ | ⟨h1, h2, h3⟩ | ⟨h1, h2, h3, h4⟩
    all_goals
      clear hg
      go_enter Try.func6, Try.ntmps6
      go_wp2_with (go_at_call 7; refine (counted_any _).mono ?_; rintro e w1 ⟨rfl, hx⟩)
      go_ret
      exact ⟨rfl, hx⟩
  · obtain ⟨M, rfl⟩ := Int.eq_ofNat_of_zero_le (show 0 ≤ m by omega)
    have h0 : 0 ≤ n := by omega
    have h1 : n ≤ 9999 := by omega
    have hM : M ≤ 100 := by omega
    clear hg
    have e1 : decide (n < 0) = false := by simp; omega
    have e2 : decide (9999 < n) = false := by simp; omega
    have e3 : decide ((M : Int) < 0) = false := by simp
    have e4 : decide ((100 : Int) < (M : Int)) = false := by simp; omega
    obtain ⟨i0, hi, hz0, hz1, hz2⟩ := info_parts Try.infoInt
    go_enter Try.func6, Try.ntmps6
    go_wp2
    go_loopw [7, 8] (fun v i wr => ∃ k : Nat, k ≤ M ∧ i = .int .i64 k ∧ wr.ownsRow w.heap.size 3 1 v k ((List.replicate k (0 : Int)).map (Value.int .i64)) ∧ Nx w wr) (fun _ i _ => M - (intOf i).toNat)
    case atStart => exact ⟨0, Nat.zero_le _, rfl, World.ownsRow_lit w #[] 0 (Nat.le_refl _) (by unfold maxLen; omega) rfl, (Nx.refl _).alloc _⟩
    case round =>
      obtain ⟨k, hk, rfl, hown, hN⟩ := hrel
      have hsz := hN.size
      by_cases hlt : k < M
      · have hi1 : (k : Int) < (M : Int) := by omega
        go_wp2_with (at_builtin; refine wpList_append_own _ rfl _ _ 24 rfl w.heap.size 3 i0 (.int .i64 0) 1 8 Try.underlying24 hi hz0 hz1 hz2 rfl (by decide) _ _ _ rfl (hown.alloc _) ⟨wr.heap.size, 0, none⟩ 1 1 [.int .i64 0] rfl rfl (one_new _ _ _) (int_one _ _) (by unfold maxLen; omega) (by omega) (by simp; omega) ?_; intro v' w1 hown' hgrow _)
        have hN1 := (hN.alloc (.cells #[.int .i64 0] 3)).grown hgrow (own_grown_lt hown)
        rw [snoc_map, ← List.replicate_succ'] at hown'
        clear hgrow hown
        go_roundw
        case rel => exact ⟨k + 1, by omega, by go_num, hown', hN1⟩
        case measure => simp [intOf]; omega
      · obtain rfl : k = M := by omega
        have hk1 : ¬ (k : Int) < (k : Int) := by omega
        cases neg
        · go_wp2_with (at_builtin; refine wpList_append_own _ rfl _ _ 24 rfl w.heap.size 3 i0 (.int .i64 0) 1 8 Try.underlying24 hi hz0 hz1 hz2 rfl (by decide) _ _ _ rfl (hown.alloc _) ⟨wr.heap.size, 0, none⟩ 4 4 [.int .i64 (n / 1000), .int .i64 (n / 100 % 10), .int .i64 (n / 10 % 10), .int .i64 (n % 10)] rfl rfl (four_new _ _ _ _ _ _) (four_one _ _ _ _) (by unfold maxLen; omega) (by omega) (by simp; omega) ?_; intro v' w1 hown' hgrow _; have hN1 := (hN.alloc (.cells #[.int .i64 (n / 1000), .int .i64 (n / 100 % 10), .int .i64 (n / 10 % 10), .int .i64 (n % 10)] 3)).grown hgrow (own_grown_lt hown); clear hgrow hown hN)
          obtain ⟨A, cap, hv, hI, _, hm⟩ := own_ints (k := .i64) (zs := List.replicate k 0 ++ [n / 1000, n / 100 % 10, n / 10 % 10, n % 10]) (by simpa using hown')
          rw [hv]
          clear hown' hv
          have hb1 := Blk.new w1 23 #[.bool false, .bool false, .int .i64 0]
          refine (counted_any _).mono ?_
          rintro e w2 ⟨rfl, hx2⟩
          have hb2 := hb1.nx hx2
          have c0 := hb2.cell 0; have c1 := hb2.cell 1; have c2 := hb2.cell 2
          simp only [List.getElem?_toArray, List.getElem?_cons_zero, List.getElem?_cons_succ] at c0 c1 c2
          go_wp2_with fail
          refine (digit_any false false 0 A _ cap _ _ (hI.keep (((Nx.refl _).alloc _).trans hx2)) (by omega)).mono ?_
          rintro e w3 ⟨rfl, hx3⟩
          go_wp2_with fail
          refine (value_at _ _ _ n ((reads_val false k n h0 h1).trans (by simp)) _).mono ?_
          rintro e w4 ⟨rfl, hx4⟩
          go_wp2
          go_ret
          exact ⟨rfl, (((hN1.alloc _).trans hx2).trans hx3).trans hx4⟩
        · go_wp2_with (at_builtin; refine wpList_append_own _ rfl _ _ 24 rfl w.heap.size 3 i0 (.int .i64 0) 1 8 Try.underlying24 hi hz0 hz1 hz2 rfl (by decide) _ _ _ rfl (hown.alloc _) ⟨wr.heap.size, 0, none⟩ 4 4 [.int .i64 (n / 1000), .int .i64 (n / 100 % 10), .int .i64 (n / 10 % 10), .int .i64 (n % 10)] rfl rfl (four_new _ _ _ _ _ _) (four_one _ _ _ _) (by unfold maxLen; omega) (by omega) (by simp; omega) ?_; intro v' w1 hown' hgrow _; have hN1 := (hN.alloc (.cells #[.int .i64 (n / 1000), .int .i64 (n / 100 % 10), .int .i64 (n / 10 % 10), .int .i64 (n % 10)] 3)).grown hgrow (own_grown_lt hown); clear hgrow hown hN)
          obtain ⟨A, cap, hv, hI, _, hm⟩ := own_ints (k := .i64) (zs := List.replicate k 0 ++ [n / 1000, n / 100 % 10, n / 10 % 10, n % 10]) (by simpa using hown')
          rw [hv]
          clear hown' hv
          have hb1 := Blk.new w1 23 #[.bool false, .bool false, .int .i64 0]
          refine (minus_zero _).mono ?_
          rintro e w2 ⟨rfl, hx2⟩
          have hb2 := hb1.nx hx2
          have c0 := hb2.cell 0; have c1 := hb2.cell 1; have c2 := hb2.cell 2
          have f0 := hb2.frozen 0; have f1 := hb2.frozen 1; have f2 := hb2.frozen 2
          simp only [List.getElem?_toArray, List.getElem?_cons_zero, List.getElem?_cons_succ] at c0 c1 c2
          have hb3 : Blk (((w2.setCell ⟨w1.heap.size, 0, none⟩ (.bool true)).setCell ⟨w1.heap.size, 1, none⟩ (.bool true)).setCell ⟨w1.heap.size, 2, none⟩ (.int .i64 0)) w1.heap.size 23 #[.bool true, .bool true, .int .i64 0] := ((hb2.set_ 0 _).set_ 1 _).set_ 2 _
          have hn3 : Nx w1 (((w2.setCell ⟨w1.heap.size, 0, none⟩ (.bool true)).setCell ⟨w1.heap.size, 1, none⟩ (.bool true)).setCell ⟨w1.heap.size, 2, none⟩ (.int .i64 0)) := (((((Nx.refl _).alloc _).trans hx2).setCell (Nat.le_refl _) _).setCell (Nat.le_refl _) _).setCell (Nat.le_refl _) _
          have B3 := Lib.hid hb3
          clear hb3
          go_wp2_with fail
          all_goals
            refine (counted_any _).mono ?_
            rintro e w5 ⟨rfl, hx5⟩
            have hb5 := B3.out.nx hx5
            have d0 := hb5.cell 0; have d1 := hb5.cell 1; have d2 := hb5.cell 2
            simp only [List.getElem?_toArray, List.getElem?_cons_zero, List.getElem?_cons_succ] at d0 d1 d2
            clear c0 c1 c2 f0 f1 f2 hb5
            go_wp2_with fail
            refine (digit_any true true 0 A _ cap _ _ (hI.keep (hn3.trans hx5)) (by omega)).mono ?_
            rintro e w3 ⟨rfl, hx3⟩
            go_wp2_with fail
            rcases (show 1 ≤ n ∨ n ≤ 0 by omega) with hn1 | hn1
            · first
              | (exfalso; omega)
              | (have E := (reads_val true k n h0 h1).trans (show _ = -n by simp only [if_true]; split <;> omega)
                 refine (value_at _ _ _ (-n) E _).mono ?_
                 rintro e w4 ⟨rfl, hx4⟩
                 go_wp2
                 go_ret
                 exact ⟨rfl, ((hN1.trans (hn3.trans hx5)).trans hx3).trans hx4⟩)
            · first
              | (exfalso; omega)
              | (have E := (reads_val true k n h0 h1).trans (show _ = -1 by simp only [if_true]; split <;> omega)
                 refine (value_at _ _ _ (-1) E _).mono ?_
                 rintro e w4 ⟨rfl, hx4⟩
                 go_wp2
                 go_ret
                 exact ⟨rfl, ((hN1.trans (hn3.trans hx5)).trans hx3).trans hx4⟩)
end Go.Proofs.Ytifaccolbmcgjaa.walk
