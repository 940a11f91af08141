/-
  Fifos: the reference's New, Push, Pop, for every state. No condition but the fifo's own shape.
-/
import Derived.Test.YtldgfhngieipgaaWalk08e
import Derived.Test.YtldgfhngieipgaaRowz
namespace Go.Proofs.Ytldgfhngieipgaa.walk
open Go.RowKit Go.Proofs.Ytldgfhngieipgaa.kit
set_option linter.unusedVariables false

theorem below_drewN {B : Nat} {a w : World} (h : Below B a w) (n : Nat) : Below B a (w.drewN n) := ⟨h.os, h.tape, h.output, h.size, h.block⟩
def flat (q : List (Int × Int)) : List Value := q.flatMap fun x => [.int .u8 x.1, .int .i64 x.2]
theorem flat_nil : flat [] = [] := rfl
theorem flat_cons (x : Int × Int) (q : List (Int × Int)) : flat (x :: q) = .int .u8 x.1 :: .int .i64 x.2 :: flat q := rfl
theorem flat_snoc (q : List (Int × Int)) (b t : Int) : flat (q ++ [(b, t)]) = flat q ++ [.int .u8 b, .int .i64 t] := by simp [flat]

/-- the reference's fifo at block a holds q, by its last tick and what it lost -/
def RF (w : World) (a R : Nat) (q : List (Int × Int)) (last lost : Int) : Prop :=
  ∃ v, Blk w a 37 #[.int .i64 R, v, .int .i64 last, .int .i64 lost] ∧ Rz w (a + 1) 31 2 v q.length (flat q)
section
variable {w w' : World} {a R : Nat} {q : List (Int × Int)} {last lost : Int}
theorem RF.nx (h : RF w a R q last lost) (k : Nx w w') : RF w' a R q last lost := by
  obtain ⟨v, h1, h2⟩ := h
  exact ⟨v, h1.nx k, h2.nx k⟩
theorem RF.only {x y : Nat} (h : RF w a R q last lost) (k : Only2 x y w w') (hx : x < a) (hy : y < a) : RF w' a R q last lost := by
  obtain ⟨v, h1, h2⟩ := h
  exact ⟨v, Blk.only h1 k (by omega) (by omega), h2.keep fun g hg hl => k.block g hl (by omega) (by omega)⟩
theorem RF.lt (h : RF w a R q last lost) : a < w.heap.size := by
  obtain ⟨v, h1, h2⟩ := h
  exact h1.lt
theorem RF.open_ (h : RF w a R q last lost) : ∃ A cap, Blk w a 37 #[.int .i64 R, .slice A q.length cap, .int .i64 last, .int .i64 lost] ∧ Rz w (a + 1) 31 2 (.slice A q.length cap) q.length (flat q) := by
  obtain ⟨v, h1, h2⟩ := h
  obtain ⟨A, cap, rfl⟩ := h2.form
  exact ⟨A, cap, h1, h2⟩
theorem FI.below {a g B : Nat} (h : FI w a g R q last lost) (k : Below B w w') (h1 : a < B) (h2 : g < B) : FI w' a g R q last lost := by
  obtain ⟨fr, cs, b1, b2, b3⟩ := h
  exact ⟨fr, cs, (k.block a h1).trans b1, (k.block g h2).trans b2, b3⟩
end

theorem rnew_bad (w : World) (r : Int) (h : r < 1 ∨ 64 < r) :
    Calls Try.prog 7 #[.int .i64 r] w fun e w' => e = .returned (.tuple #[.pointer none, .int .i64 4]) ∧ w = w' := by
  rcases (show r < 1 ∨ (1 ≤ r ∧ 64 < r) by omega) with h1 | ⟨h1, h2⟩
  all_goals
    clear h
    go_enter Try.func7, Try.ntmps7
    go_wp2_with fail
    go_ret2
    exact ⟨rfl, rfl⟩
theorem rnew_ok (w : World) (R : Nat) (h1 : 1 ≤ R) (h2 : R ≤ 64) :
    Calls Try.prog 7 #[.int .i64 R] w fun e w' => e = .returned (.tuple #[.pointer (some ⟨w.heap.size, 0, none⟩), .int .i64 0]) ∧ RF w' w.heap.size R [] 0 0 ∧ Nx w w' := by
  go_enter Try.func7, Try.ntmps7
  go_wp2_with fail
  go_ret2
  exact ⟨rfl, ⟨.slice none 0 0, Blk.new w _ _, Rz.nil _ _ _ _⟩, (Nx.refl _).alloc _⟩

theorem rpush_bad (w : World) (a R : Nat) (q : List (Int × Int)) (last lost b t : Int) (h : RF w a R q last lost) (hb : t < 0 ∨ t < last ∨ 1073741824 < t) :
    Calls Try.prog 11 #[.pointer (some ⟨a, 0, none⟩), .int .u8 b, .int .i64 t] w fun e w' => e = .returned (.int .i64 1) ∧ w = w' := by
  obtain ⟨A, cap, hA, _⟩ := h.open_
  have c2 := hA.cell 2
  simp only [List.getElem?_toArray, List.getElem?_cons_zero, List.getElem?_cons_succ] at c2
  rcases (show t < 0 ∨ (0 ≤ t ∧ 1073741824 < t) ∨ (0 ≤ t ∧ t ≤ 1073741824 ∧ t < last) by omega) with h1 | ⟨h1, h2⟩ | ⟨h1, h2, h3⟩
  · have d1 : decide (t < 0) = true := decide_eq_true h1
    clear hb
    go_enter Try.func11, Try.ntmps11
    go_wp2_with fail
    go_ret
    exact ⟨rfl, rfl⟩
  · have d1 : decide (t < 0) = false := decide_eq_false (by omega)
    have d2 : decide (1073741824 < t) = true := decide_eq_true h2
    clear hb
    go_enter Try.func11, Try.ntmps11
    go_wp2_with fail
    go_ret
    exact ⟨rfl, rfl⟩
  · have d1 : decide (t < 0) = false := decide_eq_false (by omega)
    have d2 : decide (1073741824 < t) = false := decide_eq_false (by omega)
    have d3 : decide (t < last) = true := decide_eq_true h3
    clear hb
    go_enter Try.func11, Try.ntmps11
    go_wp2_with fail
    go_ret
    exact ⟨rfl, rfl⟩

set_option maxHeartbeats 1000000 in
theorem rpush_full (w : World) (a : Nat) (q : List (Int × Int)) (last lost b t : Int) (h : RF w a q.length q last lost) (h0 : 0 ≤ t) (h1 : last ≤ t) (h2 : t ≤ 1073741824) (l0 : 0 ≤ lost) (l1 : lost ≤ 1000000) :
    Calls Try.prog 11 #[.pointer (some ⟨a, 0, none⟩), .int .u8 b, .int .i64 t] w fun e w' => e = .returned (.int .i64 5) ∧ RF w' a q.length q t (lost + 1) ∧ Below a w w' := by
  obtain ⟨A, cap, hA, hz⟩ := h.open_
  have hal := hA.lt
  have c2 := hA.cell 2
  have f2 := hA.frozen 2
  have hB := hA.set_ 2 (.int .i64 t)
  have e0 := hB.cell 0; have e1 := hB.cell 1; have e3 := hB.cell 3
  have f3 := hB.frozen 3
  simp only [List.setIfInBounds_toArray, List.set_cons_zero, List.set_cons_succ, List.getElem?_toArray, List.getElem?_cons_zero, List.getElem?_cons_succ] at c2 e0 e1 e3 hB
  have d1 : decide (t < 0) = false := decide_eq_false (by omega)
  have d2 : decide (1073741824 < t) = false := decide_eq_false (by omega)
  have d3 : decide (t < last) = false := decide_eq_false (by omega)
  have q1 : ((q.length : Int) == (q.length : Int)) = true := by simp
  go_enter Try.func11, Try.ntmps11
  go_wp2_with fail
  go_quiet (fail)
  go_wp2_with fail
  go_ret
  refine ⟨rfl, ⟨.slice A q.length cap, (hB.set_ 3 _).drewN nq, ((hz.far (p := ⟨a, 2, none⟩) (Nat.lt_succ_self a) _).far (p := ⟨a, 3, none⟩) (Nat.lt_succ_self a) _).nx ((Nx.refl _).drewN nq)⟩, ?_⟩
  exact below_drewN (((Below.refl a w).setCell (p := ⟨a, 2, none⟩) (Nat.le_refl _) _).setCell (p := ⟨a, 3, none⟩) (Nat.le_refl _) _) nq

theorem Try.infoSt' : (Try.prog.info? 31).map (fun i => (i.zero, i.size, i.bytes)) = some (some (.agg #[.int .u8 0, .int .i64 0]), 2, 16) := by kernel_rfl

set_option maxHeartbeats 1000000 in
theorem rpush_ok (w : World) (a R : Nat) (q : List (Int × Int)) (last lost b t : Int) (h : RF w a R q last lost) (hq : q.length < R) (hR : R ≤ 64) (h0 : 0 ≤ t) (h1 : last ≤ t) (h2 : t ≤ 1073741824) :
    Calls Try.prog 11 #[.pointer (some ⟨a, 0, none⟩), .int .u8 b, .int .i64 t] w fun e w' => e = .returned (.int .i64 0) ∧ RF w' a R (q ++ [(b, t)]) t lost ∧ Below a w w' := by
  obtain ⟨i0, hi, hz0, hzs, hz2⟩ := info_parts Try.infoSt'
  obtain ⟨A, cap, hA, hz⟩ := h.open_
  have hal := hA.lt
  have c2 := hA.cell 2
  have f2 := hA.frozen 2
  have hB := hA.set_ 2 (.int .i64 t)
  have hzB := hz.far (p := ⟨a, 2, none⟩) (Nat.lt_succ_self a) (.int .i64 t)
  have e0 := hB.cell 0; have e1 := hB.cell 1; have e3 := hB.cell 3
  simp only [List.setIfInBounds_toArray, List.set_cons_zero, List.set_cons_succ, List.getElem?_toArray, List.getElem?_cons_zero, List.getElem?_cons_succ] at c2 e0 e1 e3 hB
  have d1 : decide (t < 0) = false := decide_eq_false (by omega)
  have d2 : decide (1073741824 < t) = false := decide_eq_false (by omega)
  have d3 : decide (t < last) = false := decide_eq_false (by omega)
  have q1 : ((q.length : Int) == (R : Int)) = false := by simp; omega
  go_enter Try.func11, Try.ntmps11
  go_wp2_with fail
  go_quiet (fail)
  have kB : Below a w ((w.setCell ⟨a, 2, none⟩ (.int .i64 t)).drewN nq) := below_drewN ((Below.refl a w).setCell (p := ⟨a, 2, none⟩) (Nat.le_refl _) _) nq
  have hB' := hB.drewN nq
  have hz' := hzB.nx ((Nx.refl _).drewN nq)
  clear hA hz hB hzB c2 f2 e0 e1 e3
  generalize (w.setCell ⟨a, 2, none⟩ (.int .i64 t)).drewN nq = W at *
  have hal' := hB'.lt
  have hN := (Blk.new W 31 #[.int .u8 b, .int .i64 t])
  have hB2 := hB'.alloc (.cells #[.int .u8 b, .int .i64 t] 31)
  have hz2' := hz'.alloc (.cells #[.int .u8 b, .int .i64 t] 31)
  have c1 := hB'.cell 1
  simp only [List.getElem?_toArray, List.getElem?_cons_zero, List.getElem?_cons_succ] at c1
  go_wp2_with (at_builtin; refine wpList_append_rz _ rfl (.tmp 47) (.tmp 51) _ rfl 31 i0 _ 2 16 (a + 1) Try.underlying22 hi hz0 hzs hz2 rfl (by omega) (.slice A q.length cap) q.length (flat q) rfl hz2' ⟨W.heap.size, 0, none⟩ 1 1 [.int .u8 b, .int .i64 t] rfl rfl ?_ ?_ (by omega) ?_ ?_ ?_ ?_)
  · intro j u hu
    rw [Addr.add_lit, hN.cell, Nat.zero_add]
    rw [← hu]; simp
  · simp [Value.oneCell']
  · unfold maxLen; omega
  · omega
  · rw [World.size_alloc]; omega
  · intro v1 w1 hr1 hb1
    obtain ⟨A1, cap1, rfl⟩ := hr1.form
    have hB3 : Blk w1 a 37 #[.int .i64 R, .slice A q.length cap, .int .i64 t, .int .i64 lost] := (hb1.block a (Nat.lt_succ_self a)).trans hB2
    have g1 := hB3.cell 1
    have g2 := hB3.frozen 1
    simp only [List.getElem?_toArray, List.getElem?_cons_zero, List.getElem?_cons_succ] at g1
    clear hN hB2 hz2' c1 hz'
    go_wp2_with fail
    go_ret
    refine ⟨rfl, ⟨.slice A1 (q.length + 1) cap1, hB3.set_ 1 _, ?_⟩, ?_⟩
    · rw [flat_snoc, List.length_append, List.length_singleton]
      exact hr1.far (p := ⟨a, 1, none⟩) (Nat.lt_succ_self a) _
    · exact ((kB.alloc (by omega) _).trans (hb1.mono (by omega))).setCell (p := ⟨a, 1, none⟩) (Nat.le_refl _) _

set_option maxHeartbeats 1000000 in
theorem rpop_none (w : World) (a R : Nat) (last lost : Int) (h : RF w a R [] last lost) :
    Calls Try.prog 9 #[.pointer (some ⟨a, 0, none⟩)] w fun e w' => e = .returned (.tuple #[.agg #[.int .u8 0, .int .i64 0], .int .i64 6]) ∧ Nx w w' := by
  obtain ⟨A, cap, hA, hz⟩ := h.open_
  have hal := hA.lt
  have c1 := (hA.alloc (.cells #[.int .u8 0, .int .i64 0] 31)).cell 1
  simp only [List.getElem?_toArray, List.getElem?_cons_zero, List.getElem?_cons_succ, List.length_nil] at c1
  go_enter Try.func9, Try.ntmps9
  go_wp2_with fail
  refine bodyPost_ret (v := .tuple #[.agg #[.int .u8 0, .int .i64 0], .int .i64 6]) (by simp [results, Try.results9, go_sem]) rfl ⟨rfl, ?_⟩
  exact (Nx.refl _).alloc _

set_option maxHeartbeats 1000000 in
theorem rpop_ok (w : World) (a R : Nat) (x : Int × Int) (q : List (Int × Int)) (last lost : Int) (h : RF w a R (x :: q) last lost) (hR : q.length ≤ 1000) :
    Calls Try.prog 9 #[.pointer (some ⟨a, 0, none⟩)] w fun e w' => e = .returned (.tuple #[.agg #[.int .u8 x.1, .int .i64 x.2], .int .i64 0]) ∧ RF w' a R q last lost ∧ Only2 a a w w' := by
  obtain ⟨A, cap, hA, hz⟩ := h.open_
  rw [List.length_cons] at hA hz
  obtain ⟨g, off, cap', hv, hnc, hcm, hbg, hgl, hcell⟩ := hz.at_ (by omega)
  injection hv with hv hv' hv''
  subst hv hv''
  have hal := hA.lt
  have hA1 := hA.alloc (.cells #[.int .u8 0, .int .i64 0] 31)
  have hT := hz.tail
  rw [show (flat (x :: q)).drop 2 = flat q from rfl] at hT
  have c1 := hA1.cell 1
  have f1 := hA.frozen 1
  have x0 := hcell 0 _ (show (flat (x :: q))[0]? = some (.int .u8 x.1) from rfl)
  have x1 := hcell 1 _ (show (flat (x :: q))[1]? = some (.int .i64 x.2) from rfl)
  rw [Nat.add_zero] at x0
  have ho := World.cell?_alloc_lt w (.cells #[.int .u8 0, .int .i64 0] 31)
  have y0 := (ho ⟨g, off, none⟩ hgl).trans x0
  have y1 := (ho ⟨g, off + 1, none⟩ hgl).trans x1
  simp only [List.getElem?_toArray, List.getElem?_cons_zero, List.getElem?_cons_succ] at c1
  have q1 : ((q.length : Int) + 1 == 0) = false := by simp; omega
  clear ho x0 x1 hcell hv' hA1
  by_cases h1 : cap = 1
  · rw [if_pos h1] at hT
    obtain rfl : cap = 1 := h1
    have T := Lib.hid hT
    clear hT hz h
    go_enter Try.func9, Try.ntmps9
    go_wp2_with fail
    have hq0 : q.length = 0 := by omega
    have T' := T.out
    rw [show (Value.slice (some ⟨g, off, none⟩) q.length (1 - 1)) = Value.slice (some ⟨g, off, none⟩) 0 0 by rw [hq0]] at T'
    refine bodyPost_ret (v := .tuple #[.agg #[.int .u8 x.1, .int .i64 x.2], .int .i64 0]) (by simp [results, Try.results9, go_sem]) rfl ⟨rfl, ⟨_, ((hA.set_ 1 _).alloc _).alloc _, ((T'.far (p := ⟨a, 1, none⟩) (Nat.lt_succ_self a) _).alloc _).alloc _⟩, ?_⟩
    exact (((Only2.refl a a w).set (p := ⟨a, 1, none⟩) (.inl rfl) _).alloc _).alloc _
  · rw [if_neg h1] at hT
    have T := Lib.hid hT
    clear hT hz h
    go_enter Try.func9, Try.ntmps9
    go_wp2_with fail
    refine bodyPost_ret (v := .tuple #[.agg #[.int .u8 x.1, .int .i64 x.2], .int .i64 0]) (by simp [results, Try.results9, go_sem]) rfl ⟨rfl, ⟨_, ((hA.set_ 1 _).alloc _).alloc _, ((T.out.far (p := ⟨a, 1, none⟩) (Nat.lt_succ_self a) _).alloc _).alloc _⟩, ?_⟩
    exact (((Only2.refl a a w).set (p := ⟨a, 1, none⟩) (.inl rfl) _).alloc _).alloc _
end Go.Proofs.Ytldgfhngieipgaa.walk
