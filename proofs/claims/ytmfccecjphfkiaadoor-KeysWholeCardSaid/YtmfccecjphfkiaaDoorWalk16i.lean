/-
  Keys: is what waits due, and what is left of it then (Due, Rest), by the program and by the reference. No condition but the library's two tables and a bound on the bytes' number.
-/
import Derived.Test.YtmfccecjphfkiaaDoorWalk16g
import Derived.Test.YtmfccecjphfkiaaDoorWalk16h
namespace Go.Proofs.YtmfccecjphfkiaaDoor.walk
open Go.RowKit Go.Proofs.YtmfccecjphfkiaaDoor.kit Go.Proofs.YtmfccecjphfkiaaDoor.plain
set_option linter.unusedVariables false

theorem due_nil (at' now wait : Int) : dueK (L ⟨#[]⟩) at' now wait = false := rfl
theorem due_ne {p : ByteArray} (h : 1 ≤ p.size) (at' now wait : Int) : dueK (L p) at' now wait = (isK (L p) at' && waitB wait && tickB now && decide (at' + wait ≤ now)) := by
  rw [dueK, decide_eq_false (L_ne h)]; rfl
theorem isK_tick {p : ByteArray} (h : 1 ≤ p.size) {at' : Int} (hk : isK (L p) at' = true) : 0 ≤ at' ∧ at' ≤ 1073741824 := by
  rw [isK_ne h, Bool.and_eq_true] at hk
  exact tickB_t hk.2

set_option maxHeartbeats 2000000 in
theorem due_any (p : ByteArray) (at' now wait : Int) (w : World) (hT : TB w) (hs : p.size ≤ 1000000) : Calls Tryd.prog 19 #[.agg #[.string p, .int .i64 at'], .int .i64 now, .int .i64 wait] w fun e w' => e = .returned (.bool (dueK (L p) at' now wait)) ∧ Nx w w' := by
  have n0 := (Nx.refl w).alloc (.cells #[.string p, .int .i64 at'] 30)
  have hb := Blk.new w 30 #[.string p, .int .i64 at']
  rcases Nat.lt_or_ge p.size 1 with h0 | h0
  · obtain rfl := size_nil (show p.size = 0 by omega)
    rw [due_nil]
    clear hb
    go_enter Tryd.func19, Tryd.ntmps19
    go_wp2_with fail
    go_ret
    exact ⟨rfl, n0⟩
  obtain ⟨p1, p2⟩ := str_ne h0
  rw [due_ne h0]
  have C1 := Lib.hid (isk_any p at' _ (hT.nx n0) hs)
  have C2 := Lib.hid (fun W => waits_any wait W)
  have C3 := Lib.hid (fun W => tick_any now W)
  cases hk : isK (L p) at' with
  | false =>
    rw [hk] at C1
    simp only [Bool.false_and]
    clear hk C2 C3 hb
    go_enter Tryd.func19, Tryd.ntmps19
    go_wp2_with fail
    refine C1.out.mono ?_
    rintro e w1 ⟨rfl, x1⟩
    clear C1
    go_wp2_with fail
    go_ret
    exact ⟨rfl, n0.trans x1⟩
  | true =>
    have hat := isK_tick h0 hk
    rw [hk] at C1
    simp only [Bool.true_and]
    clear hk
    cases hw : waitB wait with
    | false =>
      rw [hw] at C2
      simp only [Bool.false_and]
      clear hw C3 hb
      go_enter Tryd.func19, Tryd.ntmps19
      go_wp2_with fail
      refine C1.out.mono ?_
      rintro e w1 ⟨rfl, x1⟩
      clear C1
      go_wp2_with fail
      refine (C2.out _).mono ?_
      rintro e w2 ⟨rfl, rfl⟩
      clear C2
      go_wp2_with fail
      go_ret
      exact ⟨rfl, n0.trans x1⟩
    | true =>
      have hwt := waitB_t hw
      rw [hw] at C2
      simp only [Bool.true_and]
      clear hw
      cases ht : tickB now with
      | false =>
        rw [ht] at C3
        simp only [Bool.false_and]
        clear ht hb
        go_enter Tryd.func19, Tryd.ntmps19
        go_wp2_with fail
        refine C1.out.mono ?_
        rintro e w1 ⟨rfl, x1⟩
        clear C1
        go_wp2_with fail
        refine (C2.out _).mono ?_
        rintro e w2 ⟨rfl, rfl⟩
        clear C2
        go_wp2_with fail
        refine (C3.out _).mono ?_
        rintro e w2 ⟨rfl, rfl⟩
        clear C3
        go_wp2_with fail
        go_ret
        exact ⟨rfl, n0.trans x1⟩
      | true =>
        rw [ht] at C3
        simp only [Bool.true_and]
        clear ht
        obtain ⟨D, hD⟩ : ∃ D, decide (at' + wait ≤ now) = D := ⟨_, rfl⟩
        rw [hD]
        go_enter Tryd.func19, Tryd.ntmps19
        go_wp2_with fail
        refine C1.out.mono ?_
        rintro e w1 ⟨rfl, x1⟩
        clear C1
        obtain ⟨b0, b1, _, _⟩ := blk_cells (hb.nx x1)
        clear hb
        go_wp2_with fail
        refine (C2.out _).mono ?_
        rintro e w2 ⟨rfl, rfl⟩
        clear C2
        go_wp2_with fail
        refine (C3.out _).mono ?_
        rintro e w2 ⟨rfl, rfl⟩
        clear C3
        go_wp2_with fail
        go_ret
        exact ⟨rfl, n0.trans x1⟩

set_option maxHeartbeats 2000000 in
theorem rdue_any (p : ByteArray) (at' now wait : Int) (w : World) (hs : p.size ≤ 1000000) : Calls Tryd.prog 20 #[.agg #[.string p, .int .i64 at'], .int .i64 now, .int .i64 wait] w fun e w' => e = .returned (.bool (dueK (L p) at' now wait)) ∧ Nx w w' := by
  have n0 := (Nx.refl w).alloc (.cells #[.string p, .int .i64 at'] 30)
  have hb := Blk.new w 30 #[.string p, .int .i64 at']
  have C1 := Lib.hid (risk_any p at' (w.alloc (.cells #[.string p, .int .i64 at'] 30)) hs)
  have C3 := Lib.hid (fun W => rtick_any now W)
  cases hk : isK (L p) at' with
  | false =>
    rw [hk] at C1
    rw [show dueK (L p) at' now wait = false by rw [dueK, hk]; simp]
    clear hk C3 hb
    go_enter Tryd.func20, Tryd.ntmps20
    go_wp2_with fail
    refine C1.out.mono ?_
    rintro e w1 ⟨rfl, x1⟩
    clear C1
    go_wp2_with fail
    go_ret
    exact ⟨rfl, n0.trans x1⟩
  | true =>
    rw [hk] at C1
    rcases Nat.lt_or_ge p.size 1 with h0 | h0
    · obtain rfl := size_nil (show p.size = 0 by omega)
      rw [due_nil]
      clear hk C3
      go_enter Tryd.func20, Tryd.ntmps20
      go_wp2_with fail
      refine C1.out.mono ?_
      rintro e w1 ⟨rfl, x1⟩
      clear C1
      obtain ⟨b0, b1, _, _⟩ := blk_cells (hb.nx x1)
      clear hb
      go_wp2_with fail
      go_ret
      exact ⟨rfl, n0.trans x1⟩
    obtain ⟨p1, p2⟩ := str_ne h0
    have hat := isK_tick h0 hk
    rw [due_ne h0, hk]
    simp only [Bool.true_and]
    clear hk
    by_cases hw1 : wait < 1
    · rw [show waitB wait = false by simp [waitB]; omega]
      simp only [Bool.false_and]
      have d1 : decide (1 ≤ wait) = false := decide_eq_false (by omega)
      clear C3
      go_enter Tryd.func20, Tryd.ntmps20
      go_wp2_with fail
      refine C1.out.mono ?_
      rintro e w1 ⟨rfl, x1⟩
      clear C1
      obtain ⟨b0, b1, _, _⟩ := blk_cells (hb.nx x1)
      clear hb
      go_wp2_with fail
      go_ret
      exact ⟨rfl, n0.trans x1⟩
    have d1 : decide (1 ≤ wait) = true := decide_eq_true (by omega)
    by_cases hw2 : 1000 < wait
    · rw [show waitB wait = false by simp [waitB]; omega]
      simp only [Bool.false_and]
      have d2 : decide (wait ≤ 1000) = false := decide_eq_false (by omega)
      clear C3
      go_enter Tryd.func20, Tryd.ntmps20
      go_wp2_with fail
      refine C1.out.mono ?_
      rintro e w1 ⟨rfl, x1⟩
      clear C1
      obtain ⟨b0, b1, _, _⟩ := blk_cells (hb.nx x1)
      clear hb
      go_wp2_with fail
      go_ret
      exact ⟨rfl, n0.trans x1⟩
    have d2 : decide (wait ≤ 1000) = true := decide_eq_true (by omega)
    rw [show waitB wait = true by simp [waitB]; omega]
    simp only [Bool.true_and]
    cases ht : tickB now with
    | false =>
      rw [ht] at C3
      simp only [Bool.false_and]
      clear ht
      go_enter Tryd.func20, Tryd.ntmps20
      go_wp2_with fail
      refine C1.out.mono ?_
      rintro e w1 ⟨rfl, x1⟩
      clear C1
      obtain ⟨b0, b1, _, _⟩ := blk_cells (hb.nx x1)
      clear hb
      go_wp2_with fail
      refine (C3.out _).mono ?_
      rintro e w2 ⟨rfl, rfl⟩
      clear C3
      go_wp2_with fail
      go_ret
      exact ⟨rfl, n0.trans x1⟩
    | true =>
      have hnt := tickB_t ht
      rw [ht] at C3
      simp only [Bool.true_and]
      clear ht
      by_cases hD : at' + wait ≤ now
      · rw [decide_eq_true hD]
        have d3 : decide (wait ≤ now - at') = true := decide_eq_true (by omega)
        go_enter Tryd.func20, Tryd.ntmps20
        go_wp2_with fail
        refine C1.out.mono ?_
        rintro e w1 ⟨rfl, x1⟩
        clear C1
        obtain ⟨b0, b1, _, _⟩ := blk_cells (hb.nx x1)
        clear hb
        go_wp2_with fail
        refine (C3.out _).mono ?_
        rintro e w2 ⟨rfl, rfl⟩
        clear C3
        go_wp2_with fail
        go_ret
        exact ⟨rfl, n0.trans x1⟩
      · rw [decide_eq_false hD]
        have d3 : decide (wait ≤ now - at') = false := decide_eq_false (by omega)
        go_enter Tryd.func20, Tryd.ntmps20
        go_wp2_with fail
        refine C1.out.mono ?_
        rintro e w1 ⟨rfl, x1⟩
        clear C1
        obtain ⟨b0, b1, _, _⟩ := blk_cells (hb.nx x1)
        clear hb
        go_wp2_with fail
        refine (C3.out _).mono ?_
        rintro e w2 ⟨rfl, rfl⟩
        clear C3
        go_wp2_with fail
        go_ret
        exact ⟨rfl, n0.trans x1⟩

/-- what Rest answers: what waits on, and the keys -/
def RP (p : ByteArray) (at' : Int) (ks : List KEY) (w : World) (e : Ending) (w' : World) : Prop := ∃ A n cap, e = .returned (.tuple #[.agg #[.string p, .int .i64 at'], .slice A n cap]) ∧ w'.ownsRow w.heap.size 23 2 (.slice A n cap) n (flatK ks) ∧ Nx w w'

set_option maxHeartbeats 2000000 in
theorem rest_no (p : ByteArray) (at' now wait : Int) (w : World) (hT : TB w) (hs : p.size ≤ 1000000) (hD : dueK (L p) at' now wait = false) : Calls Tryd.prog 12 #[.agg #[.string p, .int .i64 at'], .int .i64 now, .int .i64 wait] w (RP p at' [] w) := by
  have n1 := ((Nx.refl w).alloc (.cells #[.string p, .int .i64 at'] 30)).alloc (.cells #[.string ⟨#[]⟩, .int .i64 0] 30)
  have hb := (Blk.new w 30 #[.string p, .int .i64 at']).alloc (.cells #[.string ⟨#[]⟩, .int .i64 0] 30)
  have hk := Blk.new (w.alloc (.cells #[.string p, .int .i64 at'] 30)) 30 #[.string ⟨#[]⟩, .int .i64 0]
  rw [World.size_alloc] at hk
  have C1 := Lib.hid (due_any p at' now wait _ (hT.nx n1) hs)
  rw [hD] at C1
  clear hD
  go_enter Tryd.func12, Tryd.ntmps12
  go_wp2_with fail
  refine C1.out.mono ?_
  rintro e w1 ⟨rfl, x1⟩
  clear C1
  have hk1 := hk.nx x1
  obtain ⟨b0, b1, _, _⟩ := blk_cells (hb.nx x1)
  obtain ⟨k0, k1, f0, f1⟩ := blk_cells hk1
  obtain ⟨r0, r1, _, _⟩ := blk_cells (blk_two (u := .string p) (v := .int .i64 at') hk1)
  have R := Lib.hid (And.intro r0 r1)
  clear r0 r1 hb hk hk1
  go_wp2_with fail
  refine bodyPost_ret (v := .tuple #[.agg #[.string p, .int .i64 at'], .slice none 0 0]) (by simp [results, Tryd.results12, go_sem, R.out.1, R.out.2]) rfl ⟨none, 0, 0, rfl, World.ownsRow_nil _ _ _ _, ?_⟩
  exact ((n1.trans x1).setCell (p := ⟨w.heap.size + 1, 0, none⟩) (Nat.le_succ _) _).setCell (p := ⟨w.heap.size + 1, 1, none⟩) (Nat.le_succ _) _

set_option maxHeartbeats 2000000 in
theorem rest_yes (p : ByteArray) (at' now wait : Int) (w : World) (hT : TB w) (hs : p.size ≤ 1000000) (hD : dueK (L p) at' now wait = true) : Calls Tryd.prog 12 #[.agg #[.string p, .int .i64 at'], .int .i64 now, .int .i64 wait] w (RP ⟨#[]⟩ 0 (settleK (L p)) w) := by
  have n1 := ((Nx.refl w).alloc (.cells #[.string p, .int .i64 at'] 30)).alloc (.cells #[.string ⟨#[]⟩, .int .i64 0] 30)
  have hb := (Blk.new w 30 #[.string p, .int .i64 at']).alloc (.cells #[.string ⟨#[]⟩, .int .i64 0] 30)
  have hk := Blk.new (w.alloc (.cells #[.string p, .int .i64 at'] 30)) 30 #[.string ⟨#[]⟩, .int .i64 0]
  rw [World.size_alloc] at hk
  have C1 := Lib.hid (due_any p at' now wait _ (hT.nx n1) hs)
  rw [hD] at C1
  clear hD
  have CS := Lib.hid (fun W => settle_any p W hs)
  generalize settleK (L p) = ks at *
  go_enter Tryd.func12, Tryd.ntmps12
  go_wp2_with fail
  refine C1.out.mono ?_
  rintro e w1 ⟨rfl, x1⟩
  clear C1
  obtain ⟨b0, b1, _, _⟩ := blk_cells (hb.nx x1)
  go_wp2_with fail
  refine (CS.out _).mono ?_
  rintro e w2 ⟨A, n, cap, rfl, o2, x2⟩
  clear CS
  have hk1 := (hk.nx x1).nx x2
  obtain ⟨k0, k1, f0, f1⟩ := blk_cells hk1
  obtain ⟨r0, r1, _, _⟩ := blk_cells (blk_two (u := .string ⟨#[]⟩) (v := .int .i64 0) hk1)
  have R := Lib.hid (And.intro r0 r1)
  have hne := own_more (base' := w.heap.size + 2) o2 (by have := x1.size; simp at this; omega)
  have O2 := Lib.hid hne
  clear r0 r1 hb hk hk1 b0 b1 o2 hne
  go_wp2_with fail
  refine bodyPost_ret (v := .tuple #[.agg #[.string ⟨#[]⟩, .int .i64 0], .slice A n cap]) (by simp [results, Tryd.results12, go_sem, R.out.1, R.out.2]) rfl ⟨A, n, cap, rfl, ?_, ?_⟩
  · exact own_more (own_keep O2.out fun g hg _ => (Below.heap_setCell _ ⟨w.heap.size + 1, 1, none⟩ _ g (show g ≠ w.heap.size + 1 by omega)).trans (Below.heap_setCell _ ⟨w.heap.size + 1, 0, none⟩ _ g (show g ≠ w.heap.size + 1 by omega))) (by omega)
  · exact (((n1.trans x1).trans x2).setCell (p := ⟨w.heap.size + 1, 0, none⟩) (Nat.le_succ _) _).setCell (p := ⟨w.heap.size + 1, 1, none⟩) (Nat.le_succ _) _

set_option maxHeartbeats 2000000 in
theorem rrest_no (p : ByteArray) (at' now wait : Int) (w : World) (hs : p.size ≤ 1000000) (hD : dueK (L p) at' now wait = false) : Calls Tryd.prog 13 #[.agg #[.string p, .int .i64 at'], .int .i64 now, .int .i64 wait] w (RP p at' [] w) := by
  have n1 := ((Nx.refl w).alloc (.cells #[.string p, .int .i64 at'] 30)).alloc (.cells #[.string ⟨#[]⟩, .int .i64 0] 30)
  have hb := (Blk.new w 30 #[.string p, .int .i64 at']).alloc (.cells #[.string ⟨#[]⟩, .int .i64 0] 30)
  have hk := Blk.new (w.alloc (.cells #[.string p, .int .i64 at'] 30)) 30 #[.string ⟨#[]⟩, .int .i64 0]
  rw [World.size_alloc] at hk
  have C1 := Lib.hid (rdue_any p at' now wait ((w.alloc (.cells #[.string p, .int .i64 at'] 30)).alloc (.cells #[.string ⟨#[]⟩, .int .i64 0] 30)) hs)
  rw [hD] at C1
  clear hD
  go_enter Tryd.func13, Tryd.ntmps13
  go_wp2_with fail
  refine C1.out.mono ?_
  rintro e w1 ⟨rfl, x1⟩
  clear C1
  have hk1 := hk.nx x1
  obtain ⟨b0, b1, _, _⟩ := blk_cells (hb.nx x1)
  obtain ⟨k0, k1, f0, f1⟩ := blk_cells hk1
  obtain ⟨r0, r1, _, _⟩ := blk_cells (blk_two (u := .string p) (v := .int .i64 at') hk1)
  have R := Lib.hid (And.intro r0 r1)
  clear r0 r1 hb hk hk1
  go_wp2_with fail
  refine bodyPost_ret (v := .tuple #[.agg #[.string p, .int .i64 at'], .slice none 0 0]) (by simp [results, Tryd.results13, go_sem, R.out.1, R.out.2]) rfl ⟨none, 0, 0, rfl, World.ownsRow_nil _ _ _ _, ?_⟩
  exact ((n1.trans x1).setCell (p := ⟨w.heap.size + 1, 0, none⟩) (Nat.le_succ _) _).setCell (p := ⟨w.heap.size + 1, 1, none⟩) (Nat.le_succ _) _

set_option maxHeartbeats 2000000 in
theorem rrest_yes (p : ByteArray) (at' now wait : Int) (w : World) (hs : p.size ≤ 1000000) (hD : dueK (L p) at' now wait = true) : Calls Tryd.prog 13 #[.agg #[.string p, .int .i64 at'], .int .i64 now, .int .i64 wait] w (RP ⟨#[]⟩ 0 (settleK (L p)) w) := by
  have n1 := ((Nx.refl w).alloc (.cells #[.string p, .int .i64 at'] 30)).alloc (.cells #[.string ⟨#[]⟩, .int .i64 0] 30)
  have hb := (Blk.new w 30 #[.string p, .int .i64 at']).alloc (.cells #[.string ⟨#[]⟩, .int .i64 0] 30)
  have hk := Blk.new (w.alloc (.cells #[.string p, .int .i64 at'] 30)) 30 #[.string ⟨#[]⟩, .int .i64 0]
  rw [World.size_alloc] at hk
  have C1 := Lib.hid (rdue_any p at' now wait ((w.alloc (.cells #[.string p, .int .i64 at'] 30)).alloc (.cells #[.string ⟨#[]⟩, .int .i64 0] 30)) hs)
  rw [hD] at C1
  clear hD
  have CS := Lib.hid (fun W => rsettle_any p W hs)
  generalize settleK (L p) = ks at *
  go_enter Tryd.func13, Tryd.ntmps13
  go_wp2_with fail
  refine C1.out.mono ?_
  rintro e w1 ⟨rfl, x1⟩
  clear C1
  obtain ⟨b0, b1, _, _⟩ := blk_cells (hb.nx x1)
  go_wp2_with fail
  refine (CS.out _).mono ?_
  rintro e w2 ⟨A, n, cap, rfl, o2, x2⟩
  clear CS
  have hk1 := (hk.nx x1).nx x2
  obtain ⟨k0, k1, f0, f1⟩ := blk_cells hk1
  obtain ⟨r0, r1, _, _⟩ := blk_cells (blk_two (u := .string ⟨#[]⟩) (v := .int .i64 0) hk1)
  have R := Lib.hid (And.intro r0 r1)
  have hne := own_more (base' := w.heap.size + 2) o2 (by have := x1.size; simp at this; omega)
  have O2 := Lib.hid hne
  clear r0 r1 hb hk hk1 b0 b1 o2 hne
  go_wp2_with fail
  refine bodyPost_ret (v := .tuple #[.agg #[.string ⟨#[]⟩, .int .i64 0], .slice A n cap]) (by simp [results, Tryd.results13, go_sem, R.out.1, R.out.2]) rfl ⟨A, n, cap, rfl, ?_, ?_⟩
  · exact own_more (own_keep O2.out fun g hg _ => (Below.heap_setCell _ ⟨w.heap.size + 1, 1, none⟩ _ g (show g ≠ w.heap.size + 1 by omega)).trans (Below.heap_setCell _ ⟨w.heap.size + 1, 0, none⟩ _ g (show g ≠ w.heap.size + 1 by omega))) (by omega)
  · exact (((n1.trans x1).trans x2).setCell (p := ⟨w.heap.size + 1, 0, none⟩) (Nat.le_succ _) _).setCell (p := ⟨w.heap.size + 1, 1, none⟩) (Nat.le_succ _) _
end Go.Proofs.YtmfccecjphfkiaaDoor.walk
