/-
  Keys: the reference's One. No condition but a bound on the bytes' number.
-/
import Derived.Test.YtmfccecjphfkiaaDoorWalk16c
namespace Go.Proofs.YtmfccecjphfkiaaDoor.walk
open Go.RowKit Go.Proofs.YtmfccecjphfkiaaDoor.kit Go.Proofs.YtmfccecjphfkiaaDoor.plain
set_option linter.unusedVariables false

set_option maxRecDepth 100000 in
set_option maxHeartbeats 2000000 in
theorem rmarks_any (s : ByteArray) (w : World) (hs : s.size ≤ 1000000) : Calls Tryd.prog 27 #[.string s] w fun e w' => e = .returned (.int .i64 (marks (L s))) ∧ w = w' := by
  obtain ⟨M, hM⟩ : ∃ M, marks (L s) = M := ⟨_, rfl⟩
  obtain ⟨hM1, hM2, hM3⟩ := marks_case s M hM
  rw [hM]
  have HM2 := Lib.hid hM2
  clear hM2 hM
  go_enter Tryd.func27, Tryd.ntmps27
  go_wp2_with fail
  go_loop [3] (fun i => ∃ k : Nat, i = .int .i64 k ∧ k ≤ M) (fun i => M - (intOf i).toNat)
  case atStart => exact ⟨0, rfl, by omega⟩
  case round =>
    obtain ⟨k, rfl, hk⟩ := hrel
    by_cases hlt : k < M
    · obtain ⟨x, hx⟩ : ∃ x, s.get! k = x := ⟨_, rfl⟩
      have hks : k < s.size := by omega
      have hin := HM2.out k hlt
      have sk : s[k]'hks = x := by rw [← hx]; exact (get!_lt s k hks).symm
      rw [hx] at hin
      clear hx
      have q1 : decide ((k : Int) < (s.size : Int)) = true := decide_eq_true (by omega)
      have q1' : decide (k < s.size) = true := decide_eq_true hks
      have i0 : (0 : Int) ≤ (k : Int) := by omega
      have i1 : (k : Int) < (s.size : Int) := by omega
      have q2 : decide ((48 : Int) ≤ (x.toNat : Int)) = true := decide_eq_true (by omega)
      have q3 : decide ((x.toNat : Int) ≤ 63) = true := decide_eq_true (by omega)
      go_wp2_with fail
      go_round
      case rel => exact ⟨k + 1, by go_num, by omega⟩
      case measure => simp [intOf]; omega
    · obtain rfl : k = M := by omega
      clear HM2 hlt
      rcases hM3 with h | ⟨hlt, hx⟩
      · have q1 : decide ((k : Int) < (s.size : Int)) = false := decide_eq_false (by omega)
        have q1' : decide (k < s.size) = false := decide_eq_false (by omega)
        clear h
        go_wp2_with fail
        go_ret
        exact ⟨rfl, rfl⟩
      · obtain ⟨x, hx'⟩ : ∃ x, s.get! k = x := ⟨_, rfl⟩
        have sk : s[k]'hlt = x := by rw [← hx']; exact (get!_lt s k hlt).symm
        rw [hx'] at hx
        clear hx'
        have q1 : decide ((k : Int) < (s.size : Int)) = true := decide_eq_true (by omega)
        have q1' : decide (k < s.size) = true := decide_eq_true hlt
        have i0 : (0 : Int) ≤ (k : Int) := by omega
        have i1 : (k : Int) < (s.size : Int) := by omega
        rcases hx with hx | hx
        · have q2 : decide ((48 : Int) ≤ (x.toNat : Int)) = false := decide_eq_false (by omega)
          go_wp2_with fail
          go_ret
          exact ⟨rfl, rfl⟩
        · have q2 : decide ((48 : Int) ≤ (x.toNat : Int)) = true := decide_eq_true (by omega)
          have q3 : decide ((x.toNat : Int) ≤ 63) = false := decide_eq_false (by omega)
          go_wp2_with fail
          go_ret
          exact ⟨rfl, rfl⟩

theorem nxV_cases (l : List UInt8) (hl : l ≠ []) : (∃ r n : Nat, nxV l = .tuple #[.int .i32 r, .int .i64 n, .int .i64 0] ∧ nx l = (r, n, 0) ∧ n ≤ l.length) ∨ (nxV l = .tuple #[.int .i32 0, .int .i64 0, .int .i64 3] ∧ (nx l).2.2 = 3) := by
  rcases nx_kinds l with ⟨r, k, e⟩ | e | ⟨_, e⟩
  · refine .inl ⟨r, k, by rw [nxV, e]; rfl, e, ?_⟩
    have := (nx_some l (by rw [e])).2.1
    rw [e] at this
    exact this
  · exact .inr ⟨by rw [nxV, e]; rfl, by rw [e]⟩
  · exact absurd e hl

set_option maxRecDepth 100000 in
set_option maxHeartbeats 4000000 in
theorem rone_any (s : ByteArray) (w : World) (hs : s.size ≤ 1000000) : Calls Tryd.prog 10 #[.string s] w fun e w' => e = .returned (keyV (one (L s))) ∧ Nx w w' := by
  have n0 := (Nx.refl w).alloc (.cells #[.int .i64 0, .int .i32 0] 23)
  have hb := Blk.new w 23 #[.int .i64 0, .int .i32 0]
  rcases Nat.lt_or_ge s.size 1 with hs1 | hs1
  · obtain rfl := size_nil (show s.size = 0 by omega)
    go_enter Tryd.func10, Tryd.ntmps10
    go_wp2_with fail
    refine bodyPost_ret (v := .tuple #[.agg #[.int .i64 0, .int .i32 0], .int .i64 0, .int .i64 6]) (by simp [results, Tryd.results10, go_sem]) rfl ⟨rfl, ?_⟩
    exact n0
  obtain ⟨p1, p2⟩ := str_ne hs1
  obtain ⟨x, hx⟩ : ∃ x, s.get! 0 = x := ⟨_, rfl⟩
  have sx : s[0]'(Nat.lt_of_lt_of_le Nat.zero_lt_one hs1) = x := by rw [← hx]; exact (get!_lt s 0 (by omega)).symm
  have hbx : bt (L s) 0 = x.toNat := by rw [bt_L, hx]
  have z0 : (0 : Int) < (s.size : Int) := by omega
  have hone : one (L s) = if x.toNat ≠ 27 then sg 1 (L s) else if s.size = 1 then ((0, 0), 0, 3) else if bt (L s) 1 = 27 then ((10, 0), 1, 0) else if bt (L s) 1 = 91 then upby 2 (sq ((L s).drop 2)) else upby 1 (sg 2 ((L s).drop 1)) := by rw [one, hbx, L_length]
  clear hx hbx
  by_cases c0 : x.toNat ≠ 27
  · rw [if_pos c0] at hone
    rw [hone]
    have y0 : ((x.toNat : Int) != 27) = true := by rw [bne_iff_ne]; omega
    have c1 := rnext_any s (w.alloc (.cells #[.int .i64 0, .int .i32 0] 23)) hs
    clear hone c0
    rcases nxV_cases (L s) (L_ne hs1) with ⟨r, n, e1, e2, _⟩ | ⟨e1, e2⟩
    · rw [e1] at c1
      rw [show sg 1 (L s) = ((1, (r : Int)), n, 0) by rw [sg, e2]; rfl]
      rw [show keyV ((1, (r : Int)), n, 0) = .tuple #[.agg #[.int .i64 1, .int .i32 r], .int .i64 n, .int .i64 0] from rfl]
      have C1 := Lib.hid c1
      clear c1 e1 e2
      generalize (r : Int) = z at *
      generalize (n : Int) = m at *
      go_enter Tryd.func10, Tryd.ntmps10
      go_wp2_with fail
      refine C1.out.mono ?_
      rintro e w1 ⟨rfl, x1⟩
      clear C1
      have hb1 := hb.nx x1
      obtain ⟨b0, b1, f0, f1⟩ := blk_cells hb1
      obtain ⟨r0, r1, _, _⟩ := blk_cells (blk_two (u := .int .i64 1) (v := .int .i32 z) hb1)
      have R := Lib.hid (And.intro r0 r1)
      clear r0 r1 hb hb1
      go_wp2_with fail
      refine bodyPost_ret (v := .tuple #[.agg #[.int .i64 1, .int .i32 z], .int .i64 m, .int .i64 0]) (by simp [results, Tryd.results10, go_sem, R.out.1, R.out.2]) rfl ⟨rfl, ?_⟩
      exact ((n0.trans x1).setCell (p := ⟨w.heap.size, 0, none⟩) (Nat.le_refl _) _).setCell (p := ⟨w.heap.size, 1, none⟩) (Nat.le_refl _) _
    · rw [e1] at c1
      rw [show sg 1 (L s) = ((0, 0), 0, 3) by rw [sg, if_neg (by omega), e2]]
      have C1 := Lib.hid c1
      clear c1 e1 e2
      go_enter Tryd.func10, Tryd.ntmps10
      go_wp2_with fail
      refine C1.out.mono ?_
      rintro e w1 ⟨rfl, x1⟩
      clear C1
      have hb1 := hb.nx x1
      obtain ⟨b0, b1, f0, f1⟩ := blk_cells hb1
      obtain ⟨r0, r1, _, _⟩ := blk_cells (blk_two (u := .int .i64 0) (v := .int .i32 0) hb1)
      have R := Lib.hid (And.intro r0 r1)
      clear r0 r1 hb hb1
      go_wp2_with fail
      refine bodyPost_ret (v := .tuple #[.agg #[.int .i64 0, .int .i32 0], .int .i64 0, .int .i64 3]) (by simp [results, Tryd.results10, go_sem, R.out.1, R.out.2]) rfl ⟨rfl, ?_⟩
      exact ((n0.trans x1).setCell (p := ⟨w.heap.size, 0, none⟩) (Nat.le_refl _) _).setCell (p := ⟨w.heap.size, 1, none⟩) (Nat.le_refl _) _
  rw [if_neg c0] at hone
  have y0 : ((x.toNat : Int) != 27) = false := by
    have : (x.toNat : Int) = 27 := by omega
    rw [this]; rfl
  clear c0
  by_cases h1 : s.size = 1
  · rw [if_pos h1] at hone
    rw [hone]
    have y1 : ((s.size : Int) == 1) = true := by rw [beq_iff_eq]; omega
    clear hone h1
    go_enter Tryd.func10, Tryd.ntmps10
    go_wp2_with fail
    refine bodyPost_ret (v := .tuple #[.agg #[.int .i64 0, .int .i32 0], .int .i64 0, .int .i64 3]) (by simp [results, Tryd.results10, go_sem]) rfl ⟨rfl, ?_⟩
    exact n0
  rw [if_neg h1] at hone
  have y1 : ((s.size : Int) == 1) = false := beq_eq_false_iff_ne.2 (by omega)
  have hs2 : 2 ≤ s.size := by omega
  clear h1
  obtain ⟨x', hx⟩ : ∃ x', s.get! 1 = x' := ⟨_, rfl⟩
  have sx' : s[1]'(Nat.lt_of_lt_of_le Nat.one_lt_two hs2) = x' := by rw [← hx]; exact (get!_lt s 1 (by omega)).symm
  have hbx : bt (L s) 1 = x'.toNat := by rw [bt_L, hx]
  have z1 : (1 : Int) < (s.size : Int) := by omega
  rw [hbx] at hone
  clear hx hbx
  by_cases h27 : x'.toNat = 27
  · rw [if_pos h27] at hone
    rw [hone]
    have y2 : ((x'.toNat : Int) == 27) = true := by rw [beq_iff_eq]; omega
    clear hone h27
    go_enter Tryd.func10, Tryd.ntmps10
    go_wp2_with fail
    refine bodyPost_ret (v := .tuple #[.agg #[.int .i64 10, .int .i32 0], .int .i64 1, .int .i64 0]) (by simp [results, Tryd.results10, go_sem]) rfl ⟨rfl, ?_⟩
    exact (Nx.refl w).alloc _
  rw [if_neg h27] at hone
  have y2 : ((x'.toNat : Int) == 27) = false := beq_eq_false_iff_ne.2 (by omega)
  clear h27
  by_cases h91 : x'.toNat = 91
  · rw [if_pos h91] at hone
    have y3 : ((x'.toNat : Int) != 91) = false := by
      have : (x'.toNat : Int) = 91 := by omega
      rw [this]; rfl
    clear h91
    obtain ⟨t1, t2⟩ := size_rest s 2
    have c1 := rmarks_any (s.extract 2 s.size) (w.alloc (.cells #[.int .i64 0, .int .i32 0] 23)) (by omega)
    rw [t2] at c1
    have i1 : (2 : Int) ≤ (s.size : Int) := by omega
    obtain ⟨M, hM⟩ : ∃ M, marks ((L s).drop 2) = M := ⟨_, rfl⟩
    have hMl := marks_le ((L s).drop 2)
    rw [hM] at c1 hMl
    rw [List.length_drop, L_length] at hMl
    have C1 := Lib.hid c1
    have hsq : sq ((L s).drop 2) = if 8 < M then ((11, 0), 9, 0) else if M = s.size - 2 then ((0, 0), 0, 3) else if bt (L s) (2 + M) < 64 ∨ 126 < bt (L s) (2 + M) then ((11, 0), M, 0) else ((kindOf (((L s).drop 2).take (M + 1)), 0), M + 1, 0) := by
      rw [sq, hM, List.length_drop, L_length, bt_drop]
    rw [hsq] at hone
    clear c1 t1 t2 hM hsq
    by_cases h8 : 8 < M
    · rw [if_pos h8] at hone
      rw [hone]
      have q1 : decide ((9 : Int) ≤ (M : Int)) = true := decide_eq_true (by omega)
      clear hone
      go_enter Tryd.func10, Tryd.ntmps10
      go_wp2_with fail
      refine C1.out.mono ?_
      rintro e w1 ⟨rfl, rfl⟩
      clear C1
      go_wp2_with fail
      refine bodyPost_ret (v := .tuple #[.agg #[.int .i64 11, .int .i32 0], .int .i64 11, .int .i64 0]) (by simp [results, Tryd.results10, go_sem]) rfl ⟨rfl, ?_⟩
      exact (Nx.refl w).alloc _
    rw [if_neg h8] at hone
    have q1 : decide ((9 : Int) ≤ (M : Int)) = false := decide_eq_false (by omega)
    by_cases hend : M = s.size - 2
    · rw [if_pos hend] at hone
      rw [hone]
      have q2 : (((2 : Int) + (M : Int)) == (s.size : Int)) = true := by rw [beq_iff_eq]; omega
      clear hone hend
      go_enter Tryd.func10, Tryd.ntmps10
      go_wp2_with fail
      refine C1.out.mono ?_
      rintro e w1 ⟨rfl, rfl⟩
      clear C1
      go_wp2_with fail
      refine bodyPost_ret (v := .tuple #[.agg #[.int .i64 0, .int .i32 0], .int .i64 0, .int .i64 3]) (by simp [results, Tryd.results10, go_sem]) rfl ⟨rfl, ?_⟩
      exact (Nx.refl w).alloc _
    rw [if_neg hend] at hone
    have hlt : 2 + M < s.size := by omega
    have q2 : (((2 : Int) + (M : Int)) == (s.size : Int)) = false := beq_eq_false_iff_ne.2 (by omega)
    obtain ⟨x2, hx⟩ : ∃ x2, s.get! (2 + M) = x2 := ⟨_, rfl⟩
    have sx2 : s[2 + M]'hlt = x2 := by rw [← hx]; exact (get!_lt s (2 + M) hlt).symm
    have hbx : bt (L s) (2 + M) = x2.toNat := by rw [bt_L, hx]
    rw [hbx] at hone
    have z2 : (0 : Int) ≤ (2 : Int) + (M : Int) := by omega
    have z3 : (2 : Int) + (M : Int) < (s.size : Int) := by omega
    clear hx hbx hend
    by_cases hbad : x2.toNat < 64 ∨ 126 < x2.toNat
    · rw [if_pos hbad] at hone
      rw [hone]
      rw [show keyV (upby 2 ((11, 0), M, 0)) = .tuple #[.agg #[.int .i64 11, .int .i32 0], .int .i64 ((2 : Int) + M), .int .i64 0] by simp [keyV, upby]]
      clear hone
      rcases hbad with hbad | hbad
      · have q7 : decide ((x2.toNat : Int) < 64) = true := decide_eq_true (by omega)
        go_enter Tryd.func10, Tryd.ntmps10
        go_wp2_with fail
        refine C1.out.mono ?_
        rintro e w1 ⟨rfl, rfl⟩
        clear C1
        go_wp2_with fail
        refine bodyPost_ret (v := .tuple #[.agg #[.int .i64 11, .int .i32 0], .int .i64 ((2 : Int) + M), .int .i64 0]) (by simp [results, Tryd.results10, go_sem]) rfl ⟨rfl, ?_⟩
        exact (Nx.refl w).alloc _
      · have q7 : decide ((x2.toNat : Int) < 64) = false := decide_eq_false (by omega)
        have q8 : decide ((126 : Int) < (x2.toNat : Int)) = true := decide_eq_true (by omega)
        go_enter Tryd.func10, Tryd.ntmps10
        go_wp2_with fail
        refine C1.out.mono ?_
        rintro e w1 ⟨rfl, rfl⟩
        clear C1
        go_wp2_with fail
        refine bodyPost_ret (v := .tuple #[.agg #[.int .i64 11, .int .i32 0], .int .i64 ((2 : Int) + M), .int .i64 0]) (by simp [results, Tryd.results10, go_sem]) rfl ⟨rfl, ?_⟩
        exact (Nx.refl w).alloc _
    · rw [if_neg hbad] at hone
      rw [hone]
      have CK := Lib.hid (fun W => rseq_any (s.extract 2 (3 + M)) W)
      rw [show L (s.extract 2 (3 + M)) = ((L s).drop 2).take (M + 1) by rw [L_extract, List.drop_take]; congr 1; omega] at CK
      rw [show keyV (upby 2 ((kindOf (((L s).drop 2).take (M + 1)), 0), M + 1, 0)) = .tuple #[.agg #[.int .i64 (kindOf (((L s).drop 2).take (M + 1))), .int .i32 0], .int .i64 ((3 : Int) + M), .int .i64 0] by
        simp only [keyV, upby, if_true]
        rw [show (((2 + (M + 1) : Nat)) : Int) = 3 + (M : Int) by omega]; rfl]
      have q7 : decide ((x2.toNat : Int) < 64) = false := decide_eq_false (by omega)
      have q8 : decide ((126 : Int) < (x2.toNat : Int)) = false := decide_eq_false (by omega)
      have i2 : (2 : Int) ≤ (3 : Int) + (M : Int) := by omega
      have i3 : (3 : Int) + (M : Int) ≤ (s.size : Int) := by omega
      generalize kindOf (((L s).drop 2).take (M + 1)) = Z at *
      clear hone hbad
      go_enter Tryd.func10, Tryd.ntmps10
      go_wp2_with fail
      refine C1.out.mono ?_
      rintro e w1 ⟨rfl, rfl⟩
      clear C1
      go_wp2_with fail
      refine (CK.out _).mono ?_
      rintro e w1 ⟨rfl, rfl⟩
      clear CK
      go_wp2_with fail
      refine bodyPost_ret (v := .tuple #[.agg #[.int .i64 Z, .int .i32 0], .int .i64 ((3 : Int) + M), .int .i64 0]) (by simp [results, Tryd.results10, go_sem]) rfl ⟨rfl, ?_⟩
      exact (Nx.refl w).alloc _
  rw [if_neg h91] at hone
  rw [hone]
  have y3 : ((x'.toNat : Int) != 91) = true := by rw [bne_iff_ne]; omega
  obtain ⟨t1, t2⟩ := size_rest s 1
  have c1 := rnext_any (s.extract 1 s.size) (w.alloc (.cells #[.int .i64 0, .int .i32 0] 23)) (by omega)
  rw [t2] at c1
  have i1 : (1 : Int) ≤ (s.size : Int) := by omega
  have hne : (L s).drop 1 ≠ [] := by
    intro e
    have := congrArg List.length e
    rw [List.length_drop, L_length] at this
    simp at this
    omega
  clear hone h91 t1 t2
  rcases nxV_cases _ hne with ⟨r, n, e1, e2, e3⟩ | ⟨e1, e2⟩
  · rw [e1] at c1
    rw [List.length_drop, L_length] at e3
    have hn6 : n ≤ 1000000 := by omega
    rw [show sg 2 ((L s).drop 1) = ((2, (r : Int)), n, 0) by rw [sg, e2]; rfl]
    rw [show keyV (upby 1 ((2, (r : Int)), n, 0)) = .tuple #[.agg #[.int .i64 2, .int .i32 r], .int .i64 ((1 : Int) + n), .int .i64 0] by simp [keyV, upby]]
    have C1 := Lib.hid c1
    clear c1 e1 e2 hne e3
    generalize (r : Int) = z at *
    go_enter Tryd.func10, Tryd.ntmps10
    go_wp2_with fail
    refine C1.out.mono ?_
    rintro e w1 ⟨rfl, x1⟩
    clear C1
    have hb1 := hb.nx x1
    obtain ⟨b0, b1, f0, f1⟩ := blk_cells hb1
    obtain ⟨r0, r1, _, _⟩ := blk_cells (blk_two (u := .int .i64 2) (v := .int .i32 z) hb1)
    have R := Lib.hid (And.intro r0 r1)
    clear r0 r1 hb hb1
    go_wp2_with fail
    refine bodyPost_ret (v := .tuple #[.agg #[.int .i64 2, .int .i32 z], .int .i64 ((1 : Int) + n), .int .i64 0]) (by simp [results, Tryd.results10, go_sem, R.out.1, R.out.2]) rfl ⟨rfl, ?_⟩
    exact ((n0.trans x1).setCell (p := ⟨w.heap.size, 0, none⟩) (Nat.le_refl _) _).setCell (p := ⟨w.heap.size, 1, none⟩) (Nat.le_refl _) _
  · rw [e1] at c1
    rw [show sg 2 ((L s).drop 1) = ((0, 0), 0, 3) by rw [sg, if_neg (by omega), e2]]
    have C1 := Lib.hid c1
    clear c1 e1 e2 hne
    go_enter Tryd.func10, Tryd.ntmps10
    go_wp2_with fail
    refine C1.out.mono ?_
    rintro e w1 ⟨rfl, x1⟩
    clear C1
    have hb1 := hb.nx x1
    obtain ⟨b0, b1, f0, f1⟩ := blk_cells hb1
    obtain ⟨r0, r1, _, _⟩ := blk_cells (blk_two (u := .int .i64 0) (v := .int .i32 0) hb1)
    have R := Lib.hid (And.intro r0 r1)
    clear r0 r1 hb hb1
    go_wp2_with fail
    refine bodyPost_ret (v := .tuple #[.agg #[.int .i64 0, .int .i32 0], .int .i64 0, .int .i64 3]) (by simp [results, Tryd.results10, go_sem, R.out.1, R.out.2]) rfl ⟨rfl, ?_⟩
    exact ((n0.trans x1).setCell (p := ⟨w.heap.size, 0, none⟩) (Nat.le_refl _) _).setCell (p := ⟨w.heap.size, 1, none⟩) (Nat.le_refl _) _
end Go.Proofs.YtmfccecjphfkiaaDoor.walk
