/-
  Keys: the key that bytes begin with (One). No condition but the library's two tables and a bound on the bytes' number.
-/
import Derived.Test.YtmfccecjphfkiaaDoorWalk16b
namespace Go.Proofs.YtmfccecjphfkiaaDoor.walk
open Go.RowKit Go.Proofs.YtmfccecjphfkiaaDoor.kit Go.Proofs.YtmfccecjphfkiaaDoor.plain
set_option linter.unusedVariables false

theorem pre_no {l : List UInt8} (h : bt l 0 ≠ 27) : Lib.hasPrefix l [27] = false := by
  cases l with
  | nil => rfl
  | cons b l =>
    have hb : b ≠ 27 := by
      rintro rfl
      exact h rfl
    simp only [Lib.hasPrefix, List.isPrefixOf]
    simpa using fun e => hb e.symm
theorem pre_yes {l : List UInt8} (h : bt l 0 = 27) : Lib.hasPrefix l [27] = true := by
  cases l with
  | nil => simp [bt] at h
  | cons b l =>
    have hb : b = 27 := UInt8.toNat_inj.1 h
    subst hb
    simp [Lib.hasPrefix, List.isPrefixOf]
theorem cut_no (s : ByteArray) (w : World) (h : bt (L s) 0 ≠ 27) : Calls Tryd.prog 23 #[.string s, .string ⟨#[27]⟩] w fun e w' => e = .returned (.tuple #[.string s, .bool false]) ∧ w = w' := by
  have c := Tryd.strings_CutPrefix s ⟨#[27]⟩ w
  have e : Lib.hasPrefix s.data.toList (⟨#[27]⟩ : ByteArray).data.toList = false := pre_no h
  rw [Lib.trimPrefix, e] at c
  refine c.mono ?_
  rintro e w' ⟨rfl, rfl⟩
  exact ⟨rfl, rfl⟩
theorem cut_yes (s : ByteArray) (w : World) (h : bt (L s) 0 = 27) : Calls Tryd.prog 23 #[.string s, .string ⟨#[27]⟩] w fun e w' => e = .returned (.tuple #[.string (s.extract 1 s.size), .bool true]) ∧ w = w' := by
  have c := Tryd.strings_CutPrefix s ⟨#[27]⟩ w
  have e : Lib.hasPrefix s.data.toList (⟨#[27]⟩ : ByteArray).data.toList = true := pre_yes h
  have e2 : (⟨(s.data.toList.drop 1).toArray⟩ : ByteArray) = s.extract 1 s.size := by
    apply L_inj
    rw [L_extract, List.take_of_length_le (by rw [L_length]; exact Nat.le_refl _)]
    simp [L]
  rw [Lib.trimPrefix, e, if_pos rfl, show (⟨#[27]⟩ : ByteArray).data.toList.length = 1 from rfl, e2] at c
  refine c.mono ?_
  rintro e w' ⟨rfl, rfl⟩
  exact ⟨rfl, rfl⟩
theorem size_rest (s : ByteArray) (k : Nat) : (s.extract k s.size).size = s.size - k ∧ L (s.extract k s.size) = (L s).drop k := by
  have e : L (s.extract k s.size) = (L s).drop k := by rw [L_extract, List.take_of_length_le (by rw [L_length]; exact Nat.le_refl _)]
  exact ⟨by rw [← L_length, e, List.length_drop, L_length], e⟩
theorem keyV_form (q : KEY × Nat × Nat) : ∃ a b c d : Int, keyV q = .tuple #[.agg #[.int .i64 a, .int .i32 b], .int .i64 c, .int .i64 d] := ⟨_, _, _, _, rfl⟩

set_option maxRecDepth 100000 in
set_option maxHeartbeats 2000000 in
theorem one_any (s : ByteArray) (w : World) (hT : TB w) (hs : s.size ≤ 1000000) : Calls Tryd.prog 9 #[.string s] w fun e w' => e = .returned (keyV (one (L s))) ∧ Nx w w' := by
  have n0 := (Nx.refl w).alloc (.cells #[.int .i64 0, .int .i32 0] 23)
  have hb := Blk.new w 23 #[.int .i64 0, .int .i32 0]
  by_cases c0 : bt (L s) 0 ≠ 27
  · have C0 := Lib.hid (fun W => cut_no s W c0)
    have c1 := sign_any 1 s _ (hT.nx n0)
    rw [show one (L s) = sg 1 (L s) by rw [one, if_pos c0]]
    obtain ⟨a, b, c, d, e⟩ := keyV_form (sg 1 (L s))
    rw [e] at c1 ⊢
    have C1 := Lib.hid c1
    clear c0 c1 e
    go_enter Tryd.func9, Tryd.ntmps9
    go_wp2_with fail
    refine (C0.out _).mono ?_
    rintro e w1 ⟨rfl, rfl⟩
    clear C0
    go_wp2_with fail
    refine C1.out.mono ?_
    rintro e w1 ⟨rfl, x1⟩
    clear C1
    have hb1 := hb.nx x1
    obtain ⟨b0, b1, f0, f1⟩ := blk_cells hb1
    obtain ⟨r0, r1, _, _⟩ := blk_cells (blk_two (u := .int .i64 a) (v := .int .i32 b) hb1)
    have R := Lib.hid (And.intro r0 r1)
    clear r0 r1 hb hb1
    go_wp2_with fail
    refine bodyPost_ret (v := .tuple #[.agg #[.int .i64 a, .int .i32 b], .int .i64 c, .int .i64 d]) (by simp [results, Tryd.results9, go_sem, R.out.1, R.out.2]) rfl ⟨rfl, ?_⟩
    exact ((n0.trans x1).setCell (p := ⟨w.heap.size, 0, none⟩) (Nat.le_refl _) _).setCell (p := ⟨w.heap.size, 1, none⟩) (Nat.le_refl _) _
  have c0' : bt (L s) 0 = 27 := by omega
  have C0 := Lib.hid (fun W => cut_yes s W c0')
  have hs1 : 1 ≤ s.size := by
    rcases Nat.lt_or_ge s.size 1 with g | g
    · rw [bt_ge (by rw [L_length]; omega)] at c0'; simp at c0'
    · exact g
  have hone : one (L s) = if (L s).length = 1 then ((0, 0), 0, 3) else if bt (L s) 1 = 27 then ((10, 0), 1, 0) else if bt (L s) 1 = 91 then upby 2 (sq ((L s).drop 2)) else upby 1 (sg 2 ((L s).drop 1)) := by rw [one, if_neg c0]
  obtain ⟨hr1, hr2⟩ := size_rest s 1
  rw [L_length] at hone
  generalize s.extract 1 s.size = R at *
  have hrs : R.size ≤ 1000000 := by omega
  clear c0 c0'
  have n1 : Nx w ((w.alloc (.cells #[.int .i64 0, .int .i32 0] 23)).alloc (.cells #[.int .i64 0, .int .i32 0] 23)) := n0.alloc _
  have hb1 := hb.alloc (.cells #[.int .i64 0, .int .i32 0] 23)
  have hk := Blk.new (w.alloc (.cells #[.int .i64 0, .int .i32 0] 23)) 23 #[.int .i64 0, .int .i32 0]
  rw [World.size_alloc] at hk
  by_cases h1 : s.size = 1
  · rw [if_pos h1] at hone
    rw [hone]
    obtain rfl : R = ⟨#[]⟩ := size_nil (by omega)
    clear hone hr1 hr2 h1 hrs
    go_enter Tryd.func9, Tryd.ntmps9
    go_wp2_with fail
    refine (C0.out _).mono ?_
    rintro e w1 ⟨rfl, rfl⟩
    clear C0
    go_wp2_with fail
    refine bodyPost_ret (v := .tuple #[.agg #[.int .i64 0, .int .i32 0], .int .i64 0, .int .i64 3]) (by simp [results, Tryd.results9, go_sem]) rfl ⟨rfl, ?_⟩
    exact n1
  rw [if_neg h1] at hone
  have hR1 : 1 ≤ R.size := by omega
  obtain ⟨p1, p2⟩ := str_ne hR1
  obtain ⟨x, hx⟩ : ∃ x, R.get! 0 = x := ⟨_, rfl⟩
  have sx : R[0]'(Nat.lt_of_lt_of_le Nat.zero_lt_one hR1) = x := by rw [← hx]; exact (get!_lt R 0 (by omega)).symm
  have hbx : bt (L s) 1 = x.toNat := by
    have : bt (L R) 0 = bt (L s) 1 := by rw [hr2, bt_drop]
    rw [← this, bt_L, hx]
  rw [hbx] at hone
  have z0 : (0 : Int) < (R.size : Int) := by omega
  clear hx hbx h1
  by_cases h27 : x.toNat = 27
  · rw [if_pos h27] at hone
    rw [hone]
    have y1 : ((x.toNat : Int) == 27) = true := by rw [beq_iff_eq]; omega
    clear hone hr1 hr2 h27
    go_enter Tryd.func9, Tryd.ntmps9
    go_wp2_with fail
    refine (C0.out _).mono ?_
    rintro e w1 ⟨rfl, rfl⟩
    clear C0
    go_wp2_with fail
    refine bodyPost_ret (v := .tuple #[.agg #[.int .i64 10, .int .i32 0], .int .i64 1, .int .i64 0]) (by simp [results, Tryd.results9, go_sem]) rfl ⟨rfl, ?_⟩
    exact ((Nx.refl w).alloc _).alloc _
  rw [if_neg h27] at hone
  have y1 : ((x.toNat : Int) == 27) = false := beq_eq_false_iff_ne.2 (by omega)
  by_cases h91 : x.toNat = 91
  · rw [if_pos h91] at hone
    have y2 : ((x.toNat : Int) == 91) = true := by rw [beq_iff_eq]; omega
    obtain ⟨t1, t2⟩ := size_rest R 1
    have c1 := sequence_any (R.extract 1 R.size) ((w.alloc (.cells #[.int .i64 0, .int .i32 0] 23)).alloc (.cells #[.int .i64 0, .int .i32 0] 23)) (by omega)
    have hd : (L R).drop 1 = (L s).drop 2 := by rw [hr2, List.drop_drop]
    rw [t2, hd] at c1
    rw [hone]
    have i1 : (1 : Int) ≤ (R.size : Int) := by omega
    have hql : (sq ((L s).drop 2)).2.1 ≤ 1000000 := by
      rcases sq_e ((L s).drop 2) with h | ⟨h, _⟩
      · have := (sq_app _ [] h).2
        rw [List.length_drop, L_length] at this
        omega
      · rw [h]; simp
    generalize sq ((L s).drop 2) = q at *
    clear hone hr1 hr2 h27 h91 t1 t2 hd
    obtain ⟨⟨qa, qb⟩, qn, qe⟩ := q
    by_cases he : qe = 0
    · subst he
      have C1 := Lib.hid c1
      clear c1
      have hqn : qn ≤ 1000000 := hql
      clear hql
      rw [show upby 2 ((qa, qb), qn, 0) = ((qa, qb), 2 + qn, 0) from rfl]
      rw [show keyV ((qa, qb), 2 + qn, 0) = .tuple #[.agg #[.int .i64 qa, .int .i32 qb], .int .i64 (2 + (qn : Int)), .int .i64 0] by simp [keyV]]
      rw [show keyV ((qa, qb), qn, 0) = .tuple #[.agg #[.int .i64 qa, .int .i32 qb], .int .i64 qn, .int .i64 0] from rfl] at C1
      go_enter Tryd.func9, Tryd.ntmps9
      go_wp2_with fail
      refine (C0.out _).mono ?_
      rintro e w1 ⟨rfl, rfl⟩
      clear C0
      go_wp2_with fail
      refine C1.out.mono ?_
      rintro e w2 ⟨rfl, x2⟩
      clear C1
      have hb2 := hb1.nx x2
      have hk2 := hk.nx x2
      obtain ⟨b0, b1, f0, f1⟩ := blk_cells hb2
      obtain ⟨k0, k1, g0, g1⟩ := blk_cells hk2
      have hb3 := (hb2.far (p := ⟨w.heap.size + 1, 0, none⟩) (show w.heap.size ≠ w.heap.size + 1 by omega) (.int .i64 qa)).far (p := ⟨w.heap.size + 1, 1, none⟩) (show w.heap.size ≠ w.heap.size + 1 by omega) (.int .i32 qb)
      obtain ⟨r0, r1, _, _⟩ := blk_cells (blk_two (u := .int .i64 qa) (v := .int .i32 qb) hb3)
      have RR := Lib.hid (And.intro r0 r1)
      clear r0 r1 hb hb1 hb2 hb3 hk hk2
      go_wp2_with fail
      refine bodyPost_ret (v := .tuple #[.agg #[.int .i64 qa, .int .i32 qb], .int .i64 (2 + (qn : Int)), .int .i64 0]) (by simp [results, Tryd.results9, go_sem, RR.out.1, RR.out.2]) rfl ⟨rfl, ?_⟩
      exact ((((n1.trans x2).setCell (p := ⟨w.heap.size + 1, 0, none⟩) (Nat.le_succ _) _).setCell (p := ⟨w.heap.size + 1, 1, none⟩) (Nat.le_succ _) _).setCell (p := ⟨w.heap.size, 0, none⟩) (Nat.le_refl _) _).setCell (p := ⟨w.heap.size, 1, none⟩) (Nat.le_refl _) _
    · have C1 := Lib.hid c1
      clear c1 hql
      rw [show upby 2 ((qa, qb), qn, qe) = ((0, 0), 0, qe) from if_neg he]
      rw [show keyV ((0, 0), 0, qe) = .tuple #[.agg #[.int .i64 0, .int .i32 0], .int .i64 0, .int .i64 qe] from rfl]
      rw [show keyV ((qa, qb), qn, qe) = .tuple #[.agg #[.int .i64 qa, .int .i32 qb], .int .i64 qn, .int .i64 qe] from rfl] at C1
      have y3 : ((qe : Int) != 0) = true := by simpa using he
      clear he
      generalize (qe : Int) = z at *
      generalize (qn : Int) = zn at *
      go_enter Tryd.func9, Tryd.ntmps9
      go_wp2_with fail
      refine (C0.out _).mono ?_
      rintro e w1 ⟨rfl, rfl⟩
      clear C0
      go_wp2_with fail
      refine C1.out.mono ?_
      rintro e w2 ⟨rfl, x2⟩
      clear C1
      have hb2 := hb1.nx x2
      have hk2 := hk.nx x2
      obtain ⟨b0, b1, f0, f1⟩ := blk_cells hb2
      obtain ⟨k0, k1, g0, g1⟩ := blk_cells hk2
      have hb3 := (hb2.far (p := ⟨w.heap.size + 1, 0, none⟩) (show w.heap.size ≠ w.heap.size + 1 by omega) (.int .i64 qa)).far (p := ⟨w.heap.size + 1, 1, none⟩) (show w.heap.size ≠ w.heap.size + 1 by omega) (.int .i32 qb)
      obtain ⟨r0, r1, _, _⟩ := blk_cells (blk_two (u := .int .i64 0) (v := .int .i32 0) hb3)
      have RR := Lib.hid (And.intro r0 r1)
      clear r0 r1 hb hb1 hb2 hb3 hk hk2
      go_wp2_with fail
      refine bodyPost_ret (v := .tuple #[.agg #[.int .i64 0, .int .i32 0], .int .i64 0, .int .i64 z]) (by simp [results, Tryd.results9, go_sem, RR.out.1, RR.out.2]) rfl ⟨rfl, ?_⟩
      exact ((((n1.trans x2).setCell (p := ⟨w.heap.size + 1, 0, none⟩) (Nat.le_succ _) _).setCell (p := ⟨w.heap.size + 1, 1, none⟩) (Nat.le_succ _) _).setCell (p := ⟨w.heap.size, 0, none⟩) (Nat.le_refl _) _).setCell (p := ⟨w.heap.size, 1, none⟩) (Nat.le_refl _) _
  · rw [if_neg h91] at hone
    have y2 : ((x.toNat : Int) == 91) = false := beq_eq_false_iff_ne.2 (by omega)
    have c1 := sign_any 2 R ((w.alloc (.cells #[.int .i64 0, .int .i32 0] 23)).alloc (.cells #[.int .i64 0, .int .i32 0] 23)) (hT.nx n1)
    rw [hr2] at c1
    rw [hone]
    have hql : (sg 2 ((L s).drop 1)).2.1 ≤ 1000000 := by
      rcases sg_e 2 ((L s).drop 1) with h | ⟨h, _⟩ | ⟨h, _⟩
      · have := (sg_app 2 _ [] h).2
        rw [List.length_drop, L_length] at this
        omega
      · rw [h]; simp
      · rw [h]; simp
    generalize sg 2 ((L s).drop 1) = q at *
    clear hone hr1 hr2 h27 h91
    obtain ⟨⟨qa, qb⟩, qn, qe⟩ := q
    by_cases he : qe = 0
    · subst he
      have C1 := Lib.hid c1
      clear c1
      have hqn : qn ≤ 1000000 := hql
      clear hql
      rw [show upby 1 ((qa, qb), qn, 0) = ((qa, qb), 1 + qn, 0) from rfl]
      rw [show keyV ((qa, qb), 1 + qn, 0) = .tuple #[.agg #[.int .i64 qa, .int .i32 qb], .int .i64 (1 + (qn : Int)), .int .i64 0] by simp [keyV]]
      rw [show keyV ((qa, qb), qn, 0) = .tuple #[.agg #[.int .i64 qa, .int .i32 qb], .int .i64 qn, .int .i64 0] from rfl] at C1
      go_enter Tryd.func9, Tryd.ntmps9
      go_wp2_with fail
      refine (C0.out _).mono ?_
      rintro e w1 ⟨rfl, rfl⟩
      clear C0
      go_wp2_with fail
      refine C1.out.mono ?_
      rintro e w2 ⟨rfl, x2⟩
      clear C1
      have hb2 := hb1.nx x2
      have hk2 := hk.nx x2
      obtain ⟨b0, b1, f0, f1⟩ := blk_cells hb2
      obtain ⟨k0, k1, g0, g1⟩ := blk_cells hk2
      have hb3 := (hb2.far (p := ⟨w.heap.size + 1, 0, none⟩) (show w.heap.size ≠ w.heap.size + 1 by omega) (.int .i64 qa)).far (p := ⟨w.heap.size + 1, 1, none⟩) (show w.heap.size ≠ w.heap.size + 1 by omega) (.int .i32 qb)
      obtain ⟨r0, r1, _, _⟩ := blk_cells (blk_two (u := .int .i64 qa) (v := .int .i32 qb) hb3)
      have RR := Lib.hid (And.intro r0 r1)
      clear r0 r1 hb hb1 hb2 hb3 hk hk2
      go_wp2_with fail
      refine bodyPost_ret (v := .tuple #[.agg #[.int .i64 qa, .int .i32 qb], .int .i64 (1 + (qn : Int)), .int .i64 0]) (by simp [results, Tryd.results9, go_sem, RR.out.1, RR.out.2]) rfl ⟨rfl, ?_⟩
      exact ((((n1.trans x2).setCell (p := ⟨w.heap.size + 1, 0, none⟩) (Nat.le_succ _) _).setCell (p := ⟨w.heap.size + 1, 1, none⟩) (Nat.le_succ _) _).setCell (p := ⟨w.heap.size, 0, none⟩) (Nat.le_refl _) _).setCell (p := ⟨w.heap.size, 1, none⟩) (Nat.le_refl _) _
    · have C1 := Lib.hid c1
      clear c1 hql
      rw [show upby 1 ((qa, qb), qn, qe) = ((0, 0), 0, qe) from if_neg he]
      rw [show keyV ((0, 0), 0, qe) = .tuple #[.agg #[.int .i64 0, .int .i32 0], .int .i64 0, .int .i64 qe] from rfl]
      rw [show keyV ((qa, qb), qn, qe) = .tuple #[.agg #[.int .i64 qa, .int .i32 qb], .int .i64 qn, .int .i64 qe] from rfl] at C1
      have y3 : ((qe : Int) != 0) = true := by simpa using he
      clear he
      generalize (qe : Int) = z at *
      generalize (qn : Int) = zn at *
      go_enter Tryd.func9, Tryd.ntmps9
      go_wp2_with fail
      refine (C0.out _).mono ?_
      rintro e w1 ⟨rfl, rfl⟩
      clear C0
      go_wp2_with fail
      refine C1.out.mono ?_
      rintro e w2 ⟨rfl, x2⟩
      clear C1
      have hb2 := hb1.nx x2
      have hk2 := hk.nx x2
      obtain ⟨b0, b1, f0, f1⟩ := blk_cells hb2
      obtain ⟨k0, k1, g0, g1⟩ := blk_cells hk2
      have hb3 := (hb2.far (p := ⟨w.heap.size + 1, 0, none⟩) (show w.heap.size ≠ w.heap.size + 1 by omega) (.int .i64 qa)).far (p := ⟨w.heap.size + 1, 1, none⟩) (show w.heap.size ≠ w.heap.size + 1 by omega) (.int .i32 qb)
      obtain ⟨r0, r1, _, _⟩ := blk_cells (blk_two (u := .int .i64 0) (v := .int .i32 0) hb3)
      have RR := Lib.hid (And.intro r0 r1)
      clear r0 r1 hb hb1 hb2 hb3 hk hk2
      go_wp2_with fail
      refine bodyPost_ret (v := .tuple #[.agg #[.int .i64 0, .int .i32 0], .int .i64 0, .int .i64 z]) (by simp [results, Tryd.results9, go_sem, RR.out.1, RR.out.2]) rfl ⟨rfl, ?_⟩
      exact ((((n1.trans x2).setCell (p := ⟨w.heap.size + 1, 0, none⟩) (Nat.le_succ _) _).setCell (p := ⟨w.heap.size + 1, 1, none⟩) (Nat.le_succ _) _).setCell (p := ⟨w.heap.size, 0, none⟩) (Nat.le_refl _) _).setCell (p := ⟨w.heap.size, 1, none⟩) (Nat.le_refl _) _
end Go.Proofs.YtmfccecjphfkiaaDoor.walk
