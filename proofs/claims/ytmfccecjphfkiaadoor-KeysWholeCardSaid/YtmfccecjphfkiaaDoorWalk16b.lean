/-
  Keys: a sign as a key; what stands behind 27 and 91. No condition but the library's two tables.
-/
import Derived.Test.YtmfccecjphfkiaaDoorWalk16a
namespace Go.Proofs.YtmfccecjphfkiaaDoor.walk
open Go.RowKit Go.Proofs.YtmfccecjphfkiaaDoor.kit Go.Proofs.YtmfccecjphfkiaaDoor.plain
set_option linter.unusedVariables false

/-- what One answers -/
def keyV (q : KEY × Nat × Nat) : Value := .tuple #[.agg #[.int .i64 q.1.1, .int .i32 q.1.2], .int .i64 q.2.1, .int .i64 q.2.2]
/-- a result cell of two fields: what it holds behind two stores -/
theorem blk_two {W : World} {b : Nat} {t : TypeId} {x y u v : Value} (h : Blk W b t #[x, y]) : Blk ((W.setCell ⟨b, 0, none⟩ u).setCell ⟨b, 1, none⟩ v) b t #[u, v] := (h.set_ 0 u).set_ 1 v
theorem blk_cells {W : World} {b : Nat} {t : TypeId} {x y : Value} (h : Blk W b t #[x, y]) : W.cell? ⟨b, 0, none⟩ = some x ∧ W.cell? ⟨b, 1, none⟩ = some y ∧ W.frozen? ⟨b, 0, none⟩ = false ∧ W.frozen? ⟨b, 1, none⟩ = false :=
  ⟨h.cell 0, h.cell 1, h.frozen 0, h.frozen 1⟩

set_option maxHeartbeats 1000000 in
theorem sign_any (k : Int) (s : ByteArray) (w : World) (hT : TB w) : Calls Tryd.prog 24 #[.int .i64 k, .string s] w fun e w' => e = .returned (keyV (sg k (L s))) ∧ Nx w w' := by
  have n0 := (Nx.refl w).alloc (.cells #[.int .i64 0, .int .i32 0] 23)
  have c1 := next_any s _ (hT.nx n0)
  have hb := Blk.new w 23 #[.int .i64 0, .int .i32 0]
  by_cases h : (nx (L s)).2.2 = 0
  · have e1 : nxV (L s) = .tuple #[.int .i32 (nx (L s)).1, .int .i64 (nx (L s)).2.1, .int .i64 0] := by rw [nxV, h]; rfl
    have e2 : keyV (sg k (L s)) = .tuple #[.agg #[.int .i64 k, .int .i32 (nx (L s)).1], .int .i64 (nx (L s)).2.1, .int .i64 0] := by rw [sg, if_pos h]; rfl
    rw [e2]
    rw [e1] at c1
    have C1 := Lib.hid c1
    clear c1 e1 e2 h
    generalize ((nx (L s)).1 : Int) = z at *
    generalize ((nx (L s)).2.1 : Int) = m at *
    go_enter Tryd.func24, Tryd.ntmps24
    go_wp2_with fail
    refine C1.out.mono ?_
    rintro e w1 ⟨rfl, x1⟩
    clear C1
    have hb1 := hb.nx x1
    obtain ⟨b0, b1, f0, f1⟩ := blk_cells hb1
    obtain ⟨r0, r1, _, _⟩ := blk_cells (blk_two (u := .int .i64 k) (v := .int .i32 z) hb1)
    have R := Lib.hid (And.intro r0 r1)
    clear r0 r1 hb hb1
    go_wp2_with fail
    refine bodyPost_ret (v := .tuple #[.agg #[.int .i64 k, .int .i32 z], .int .i64 m, .int .i64 0]) (by simp [results, Tryd.results24, go_sem, R.out.1, R.out.2]) rfl ⟨rfl, ?_⟩
    exact ((n0.trans x1).setCell (p := ⟨w.heap.size, 0, none⟩) (Nat.le_refl _) _).setCell (p := ⟨w.heap.size, 1, none⟩) (Nat.le_refl _) _
  · have e1 : nxV (L s) = .tuple #[.int .i32 0, .int .i64 0, .int .i64 (nx (L s)).2.2] := by
      rcases nx_kinds (L s) with ⟨r, k, e⟩ | e | ⟨e, _⟩
      · rw [e] at h; simp at h
      · rw [nxV, e]; rfl
      · rw [nxV, e]; rfl
    have e2 : keyV (sg k (L s)) = .tuple #[.agg #[.int .i64 0, .int .i32 0], .int .i64 0, .int .i64 (nx (L s)).2.2] := by rw [sg, if_neg h]; rfl
    rw [e2]
    rw [e1] at c1
    have C1 := Lib.hid c1
    have hz : ((nx (L s)).2.2 : Int) ≠ 0 := by omega
    clear c1 e1 e2 h
    generalize ((nx (L s)).2.2 : Int) = z at *
    have q1 : (z != 0) = true := by simpa using hz
    clear hz
    go_enter Tryd.func24, Tryd.ntmps24
    go_wp2_with fail
    refine C1.out.mono ?_
    rintro e w1 ⟨rfl, x1⟩
    clear C1
    have hb1 := hb.nx x1
    obtain ⟨b0, b1, f0, f1⟩ := blk_cells hb1
    obtain ⟨r0, r1, _, _⟩ := blk_cells (blk_two (u := .int .i64 0) (v := .int .i32 0) hb1)
    have R := Lib.hid (And.intro r0 r1)
    clear r0 r1 hb hb1
    go_wp2_with fail
    refine bodyPost_ret (v := .tuple #[.agg #[.int .i64 0, .int .i32 0], .int .i64 0, .int .i64 z]) (by simp [results, Tryd.results24, go_sem, R.out.1, R.out.2]) rfl ⟨rfl, ?_⟩
    exact ((n0.trans x1).setCell (p := ⟨w.heap.size, 0, none⟩) (Nat.le_refl _) _).setCell (p := ⟨w.heap.size, 1, none⟩) (Nat.le_refl _) _

/-- what the marks at the head of a string give the walk -/
theorem marks_case (s : ByteArray) (M : Nat) (hM : marks (L s) = M) : M ≤ s.size ∧ (∀ k, k < M → 48 ≤ (s.get! k).toNat ∧ (s.get! k).toNat ≤ 63) ∧ (M = s.size ∨ (M < s.size ∧ ((s.get! M).toNat < 48 ∨ 63 < (s.get! M).toNat))) := by
  subst hM
  have h1 := marks_le (L s)
  rw [L_length] at h1
  refine ⟨h1, fun k hk => by have := marks_in (L s) k hk; rwa [bt_L] at this, ?_⟩
  rcases Nat.lt_or_ge (marks (L s)) s.size with h | h
  · right
    have h2 := marks_out (L s) (by rw [L_length]; exact h)
    rw [bt_L] at h2
    exact ⟨h, by omega⟩
  · left; omega

set_option maxRecDepth 100000 in
set_option maxHeartbeats 2000000 in
theorem sequence_any (s : ByteArray) (w : World) (hs : s.size ≤ 1000000) : Calls Tryd.prog 25 #[.string s] w fun e w' => e = .returned (keyV (sq (L s))) ∧ Nx w w' := by
  obtain ⟨M, hM⟩ : ∃ M, marks (L s) = M := ⟨_, rfl⟩
  obtain ⟨hM1, hM2, hM3⟩ := marks_case s M hM
  have n0 := (Nx.refl w).alloc (.cells #[.int .i64 0, .int .i32 0] 23)
  have hb := Blk.new w 23 #[.int .i64 0, .int .i32 0]
  obtain ⟨b0, b1, f0, f1⟩ := blk_cells hb
  have HM2 := Lib.hid hM2
  have HM := Lib.hid hM
  clear hM2 hM
  generalize hV : keyV (sq (L s)) = V
  have HV := Lib.hid hV
  clear hV
  go_enter Tryd.func25, Tryd.ntmps25
  go_wp2_with fail
  go_loop [5] (fun i => ∃ k : Nat, i = .int .i64 k ∧ k ≤ M) (fun i => M - (intOf i).toNat)
  case atStart => exact ⟨0, rfl, by omega⟩
  case round =>
    obtain ⟨k, rfl, hk⟩ := hrel
    by_cases hlt : k < M
    · obtain ⟨x, hx⟩ : ∃ x, s.get! k = x := ⟨_, rfl⟩
      have hks : k < s.size := by omega
      have hin := HM2.out k hlt
      have sk : s[k]'hks = x := by rw [← hx]; exact (get!_lt s k hks).symm
      rw [hx] at hin
      clear hx
      have q1 : decide ((k : Int) < (s.size : Int)) = true := decide_eq_true (by omega)
      have q1' : decide (k < s.size) = true := decide_eq_true hks
      have i0 : (0 : Int) ≤ (k : Int) := by omega
      have i1 : (k : Int) < (s.size : Int) := by omega
      have q2 : decide ((48 : Int) ≤ (x.toNat : Int)) = true := decide_eq_true (by omega)
      have q3 : decide ((x.toNat : Int) ≤ 63) = true := decide_eq_true (by omega)
      go_wp2_with fail
      go_round
      case rel => exact ⟨k + 1, by go_num, by omega⟩
      case measure => simp [intOf]; omega
    · obtain rfl : k = M := by omega
      clear HM2 hlt
      rcases hM3 with h | ⟨hlt, hx⟩
      · have q1 : decide ((k : Int) < (s.size : Int)) = false := decide_eq_false (by omega)
        have q1' : decide (k < s.size) = false := decide_eq_false (by omega)
        by_cases h8 : 8 < k
        · have q5 : decide ((8 : Int) < (k : Int)) = true := decide_eq_true (by omega)
          obtain rfl : V = .tuple #[.agg #[.int .i64 11, .int .i32 0], .int .i64 9, .int .i64 0] := by rw [← HV.out, sq, HM.out, if_pos h8]; rfl
          clear HV HM h
          go_wp2_with fail
          refine bodyPost_ret (v := .tuple #[.agg #[.int .i64 11, .int .i32 0], .int .i64 9, .int .i64 0]) (by simp [results, Tryd.results25, go_sem]) rfl ⟨rfl, ?_⟩
          first | exact (n0.setCell (p := ⟨w.heap.size, 0, none⟩) (Nat.le_refl _) _).setCell (p := ⟨w.heap.size, 1, none⟩) (Nat.le_refl _) _ | exact (Nx.refl w).alloc _
        · have q5 : decide ((8 : Int) < (k : Int)) = false := decide_eq_false (by omega)
          have q6 : ((k : Int) == (s.size : Int)) = true := by rw [h]; simp
          obtain rfl : V = .tuple #[.agg #[.int .i64 0, .int .i32 0], .int .i64 0, .int .i64 3] := by rw [← HV.out, sq, HM.out, if_neg h8, if_pos (by rw [L_length]; exact h)]; rfl
          clear HV HM h
          go_wp2_with fail
          refine bodyPost_ret (v := .tuple #[.agg #[.int .i64 0, .int .i32 0], .int .i64 0, .int .i64 3]) (by simp [results, Tryd.results25, go_sem]) rfl ⟨rfl, ?_⟩
          first | exact (n0.setCell (p := ⟨w.heap.size, 0, none⟩) (Nat.le_refl _) _).setCell (p := ⟨w.heap.size, 1, none⟩) (Nat.le_refl _) _ | exact (Nx.refl w).alloc _
      · obtain ⟨x, hx'⟩ : ∃ x, s.get! k = x := ⟨_, rfl⟩
        have sk : s[k]'hlt = x := by rw [← hx']; exact (get!_lt s k hlt).symm
        rw [hx'] at hx
        have hbx : bt (L s) k = x.toNat := by rw [bt_L, hx']
        have HB := Lib.hid hbx
        clear hx' hbx
        have q1 : decide ((k : Int) < (s.size : Int)) = true := decide_eq_true (by omega)
        have q1' : decide (k < s.size) = true := decide_eq_true hlt
        have i0 : (0 : Int) ≤ (k : Int) := by omega
        have i1 : (k : Int) < (s.size : Int) := by omega
        have q6 : ((k : Int) == (s.size : Int)) = false := beq_eq_false_iff_ne.2 (by omega)
        have hn1 : ¬ k = (L s).length := by rw [L_length]; omega
        have HN1 := Lib.hid hn1
        clear hn1
        by_cases h8 : 8 < k
        · have q5 : decide ((8 : Int) < (k : Int)) = true := decide_eq_true (by omega)
          obtain rfl : V = .tuple #[.agg #[.int .i64 11, .int .i32 0], .int .i64 9, .int .i64 0] := by rw [← HV.out, sq, HM.out, if_pos h8]; rfl
          clear HV HM HB HN1
          rcases hx with hx | hx
          · have q2 : decide ((48 : Int) ≤ (x.toNat : Int)) = false := decide_eq_false (by omega)
            go_wp2_with fail
            refine bodyPost_ret (v := .tuple #[.agg #[.int .i64 11, .int .i32 0], .int .i64 9, .int .i64 0]) (by simp [results, Tryd.results25, go_sem]) rfl ⟨rfl, ?_⟩
            exact (Nx.refl w).alloc _
          · have q2 : decide ((48 : Int) ≤ (x.toNat : Int)) = true := decide_eq_true (by omega)
            have q3 : decide ((x.toNat : Int) ≤ 63) = false := decide_eq_false (by omega)
            go_wp2_with fail
            refine bodyPost_ret (v := .tuple #[.agg #[.int .i64 11, .int .i32 0], .int .i64 9, .int .i64 0]) (by simp [results, Tryd.results25, go_sem]) rfl ⟨rfl, ?_⟩
            exact (Nx.refl w).alloc _
        · have q5 : decide ((8 : Int) < (k : Int)) = false := decide_eq_false (by omega)
          by_cases hbad : x.toNat < 64 ∨ 126 < x.toNat
          · obtain rfl : V = .tuple #[.agg #[.int .i64 11, .int .i32 0], .int .i64 k, .int .i64 0] := by rw [← HV.out, sq, HM.out, if_neg h8, if_neg HN1.out, if_pos (by rw [HB.out]; exact hbad)]; rfl
            clear HV HM HB HN1
            rcases hx with hx | hx
            · have q2 : decide ((48 : Int) ≤ (x.toNat : Int)) = false := decide_eq_false (by omega)
              have q7 : decide ((x.toNat : Int) < 64) = true := decide_eq_true (by omega)
              go_wp2_with fail
              refine bodyPost_ret (v := .tuple #[.agg #[.int .i64 11, .int .i32 0], .int .i64 k, .int .i64 0]) (by simp [results, Tryd.results25, go_sem]) rfl ⟨rfl, ?_⟩
              exact (Nx.refl w).alloc _
            · have q2 : decide ((48 : Int) ≤ (x.toNat : Int)) = true := decide_eq_true (by omega)
              have q3 : decide ((x.toNat : Int) ≤ 63) = false := decide_eq_false (by omega)
              have q7 : decide ((x.toNat : Int) < 64) = false := decide_eq_false (by omega)
              have q8 : decide ((126 : Int) < (x.toNat : Int)) = true := decide_eq_true (by omega)
              go_wp2_with fail
              refine bodyPost_ret (v := .tuple #[.agg #[.int .i64 11, .int .i32 0], .int .i64 k, .int .i64 0]) (by simp [results, Tryd.results25, go_sem]) rfl ⟨rfl, ?_⟩
              exact (Nx.refl w).alloc _
          · have hVV : V = .tuple #[.agg #[.int .i64 (kindOf ((L s).take (k + 1))), .int .i32 0], .int .i64 ((k : Int) + 1), .int .i64 0] := by rw [← HV.out, sq, HM.out, if_neg h8, if_neg HN1.out, if_neg (by rw [HB.out]; exact hbad)]; rfl
            have q2 : decide ((48 : Int) ≤ (x.toNat : Int)) = true := decide_eq_true (by omega)
            have q3 : decide ((x.toNat : Int) ≤ 63) = false := decide_eq_false (by omega)
            have q7 : decide ((x.toNat : Int) < 64) = false := decide_eq_false (by omega)
            have q8 : decide ((126 : Int) < (x.toNat : Int)) = false := decide_eq_false (by omega)
            have CK := Lib.hid (fun W => kind_any (s.extract 0 (k + 1)) W)
            rw [L_extract, List.drop_zero] at CK
            have i2 : (0 : Int) ≤ (k : Int) + 1 := by omega
            have i3 : (k : Int) + 1 ≤ (s.size : Int) := by omega
            generalize kindOf ((L s).take (k + 1)) = Z at *
            subst hVV
            clear HV HM HB HN1
            go_wp2_with fail
            refine (CK.out _).mono ?_
            rintro e w1 ⟨rfl, x1⟩
            clear CK b0 b1 f0 f1
            have hb1 := hb.nx x1
            obtain ⟨b0, b1, f0, f1⟩ := blk_cells hb1
            obtain ⟨r0, r1, _, _⟩ := blk_cells (blk_two (u := .int .i64 Z) (v := .int .i32 0) hb1)
            have R := Lib.hid (And.intro r0 r1)
            clear r0 r1 hb hb1
            go_wp2_with fail
            refine bodyPost_ret (v := .tuple #[.agg #[.int .i64 Z, .int .i32 0], .int .i64 ((k : Int) + 1), .int .i64 0]) (by simp [results, Tryd.results25, go_sem, R.out.1, R.out.2]) rfl ⟨rfl, ?_⟩
            exact ((n0.trans x1).setCell (p := ⟨w.heap.size, 0, none⟩) (Nat.le_refl _) _).setCell (p := ⟨w.heap.size, 1, none⟩) (Nat.le_refl _) _
end Go.Proofs.YtmfccecjphfkiaaDoor.walk
