/-
  The walk of the law KeysWhole: it returns true for every input. No condition but the library's two tables. (The clamp's cases were printed by a program of mine, gen16d.py.)
-/
import Derived.Test.YtmfccecjphfkiaaDoorLaw16d
namespace Go.Proofs.YtmfccecjphfkiaaDoor.walk
open Go.RowKit Go.Proofs.YtmfccecjphfkiaaDoor.kit Go.Proofs.YtmfccecjphfkiaaDoor.plain
set_option linter.unusedVariables false

theorem own_made (w : World) : (w.alloc (.cells #[] 23)).ownsRow w.heap.size 23 2 (.slice (some ⟨w.heap.size, 0, none⟩) 0 0) 0 [] := World.ownsRow_made w #[] 0 (Nat.le_refl _) (Nat.zero_le _) (by simp)
/-- at the head of the second loop -/
def WR (w0 : World) (KS : List KEY) (RR : List UInt8) (S : ByteArray) (ks : List KEY) (v : Value) (wr : World) : Prop :=
  wr.ownsRow w0.heap.size 23 2 v ks.length (flatK ks) ∧ KL ks S KS RR ∧ Nx w0 wr
theorem WR.step {w0 : World} {KS : List KEY} {RR : List UInt8} {S : ByteArray} {ks : List KEY} {v : Value} {wr w1 w2 : World} {o1 o2 : Obj} {g cap : Nat} {ka kb : Int} {n : Nat}
    (h : WR w0 KS RR S ks v wr) (he : one (L S) = ((ka, kb), n, 0)) (x1 : Nx wr w1)
    (r1 : w2.ownsRow w0.heap.size 23 2 (.slice (some ⟨g, 0, none⟩) (ks.length + 1) cap) (ks.length + 1) (flatK ks ++ [.int .i64 ka, .int .i32 kb]))
    (r2 : ((w1.alloc o1).alloc o2).grownBy w2 v.ownBlock) :
    WR w0 KS RR (S.extract n S.size) (ks ++ [(ka, kb)]) (.slice (some ⟨g, 0, none⟩) (ks.length + 1) cap) w2 ∧ (S.extract n S.size).size < S.size := by
  obtain ⟨h4, h5, h6⟩ := h
  obtain ⟨_, _, k3, k4⟩ := KL.step h5 (by rw [he])
  rw [he] at k3 k4
  have hlt := h4.lt
  have y := (x1.alloc o1).alloc o2
  refine ⟨⟨?_, k3, ?_⟩, k4⟩
  · rw [List.length_append, List.length_singleton, flatK_snoc]
    exact r1
  · exact (h6.trans y).grown r2 (fun k hk => (hlt k hk).1)

set_option maxRecDepth 100000 in
set_option maxHeartbeats 4000000 in
theorem keysWhole_walk (w : World) (hT : TB w) (s : ByteArray) (ws : s.size ≤ 9223372036854775807) (t : Int) (wt : (Lit.int .i64 t).wf = true) (wait : Int) (ww : (Lit.int .i64 wait).wf = true) :
    Calls Tryd.prog 7 #[.string s, .int .i64 t, .int .i64 wait] w fun e w' => e = .returned (.bool true) ∧ Below w.heap.size w w' := by
  clear wt ww
  by_cases hd1 : (300 : Int) < (s.size : Int)
  · have d1 : decide ((300 : Int) < (s.size : Int)) = true := decide_eq_true hd1
    go_enter Tryd.func7, Tryd.ntmps7
    go_wp2_with fail
    refine (keyed_any _ hT).mono ?_
    rintro e w1 ⟨rfl, x1⟩
    go_wp2_with fail
    go_ret
    exact ⟨rfl, x1⟩
  have d1 : decide ((300 : Int) < (s.size : Int)) = false := decide_eq_false hd1
  by_cases hd2 : t < 0
  · have d2 : decide (t < 0) = true := decide_eq_true hd2
    go_enter Tryd.func7, Tryd.ntmps7
    go_wp2_with fail
    refine (keyed_any _ hT).mono ?_
    rintro e w1 ⟨rfl, x1⟩
    go_wp2_with fail
    go_ret
    exact ⟨rfl, x1⟩
  have d2 : decide (t < 0) = false := decide_eq_false hd2
  by_cases hd3 : 1073741824 < t
  · have d3 : decide (1073741824 < t) = true := decide_eq_true hd3
    go_enter Tryd.func7, Tryd.ntmps7
    go_wp2_with fail
    refine (keyed_any _ hT).mono ?_
    rintro e w1 ⟨rfl, x1⟩
    go_wp2_with fail
    go_ret
    exact ⟨rfl, x1⟩
  have d3 : decide (1073741824 < t) = false := decide_eq_false hd3
  by_cases hd4 : wait < 1
  · have d4 : decide (wait < 1) = true := decide_eq_true hd4
    go_enter Tryd.func7, Tryd.ntmps7
    go_wp2_with fail
    refine (keyed_any _ hT).mono ?_
    rintro e w1 ⟨rfl, x1⟩
    go_wp2_with fail
    go_ret
    exact ⟨rfl, x1⟩
  have d4 : decide (wait < 1) = false := decide_eq_false hd4
  by_cases hd5 : 1000 < wait
  · have d5 : decide (1000 < wait) = true := decide_eq_true hd5
    go_enter Tryd.func7, Tryd.ntmps7
    go_wp2_with fail
    refine (keyed_any _ hT).mono ?_
    rintro e w1 ⟨rfl, x1⟩
    go_wp2_with fail
    go_ret
    exact ⟨rfl, x1⟩
  have d5 : decide (1000 < wait) = false := decide_eq_false hd5
  have ht : tickB t = true := decide_eq_true (by omega)
  have hw : waitB wait = true := decide_eq_true (by omega)
  have HT := Lib.hid ht
  have HW := Lib.hid hw
  clear ht hw
  go_enter Tryd.func7, Tryd.ntmps7
  go_wp2_with fail
  go_loopw [8, 9, 10, 11, 12] (fun got i _ _ _ wr => ∃ (k : Nat), k ≤ s.size ∧ i = .int .i64 k ∧ Blk wr w.heap.size 30 #[.string (mkK (restOf ((L s).take k))), .int .i64 (atK (restOf ((L s).take k)) t)] ∧ wr.ownsRow (w.heap.size + 1) 23 2 got (keysOf ((L s).take k)).length (flatK (keysOf ((L s).take k))) ∧ Nx w wr) (fun _ i _ _ _ _ => s.size - (intOf i).toNat)
  case atStart =>
    have o0 := own_made (w.alloc (.cells #[.string ⟨#[]⟩, .int .i64 0] 30))
    rw [World.size_alloc] at o0
    exact ⟨0, Nat.zero_le _, rfl, (Blk.new _ _ _).alloc _, o0, ((Nx.refl _).alloc _).alloc _⟩
  case round =>
    obtain ⟨k, hk, rfl, hB, hO, hN⟩ := hrel
    have hsz := hB.lt
    by_cases hlt : k < s.size
    · have q1 : decide ((k : Int) < (s.size : Int)) = true := decide_eq_true (by omega)
      have q1' : decide (k < s.size) = true := decide_eq_true hlt
      have hi0 : (0 : Int) ≤ (k : Int) := by omega
      have hi1 : (k : Int) < (s.size : Int) := by omega
      have e1 := of_decide_eq_false d1
      have c1 := fun W hW => ((feed_next s k hlt t wait HT.out HW.out).1 W hW).mono fun e w' h => FP.fo h
      have hkk := (feed_next s k hlt t wait HT.out HW.out).2
      have l1 := keys_len ((L s).take k)
      have l2 := keys_len ((L s).take (k + 1))
      rw [List.length_take, L_length] at l1 l2
      rw [get!_lt s k hlt] at c1 hkk
      obtain ⟨q0, h0⟩ : ∃ x, mkK (restOf ((L s).take k)) = x := ⟨_, rfl⟩
      obtain ⟨a0, h1⟩ : ∃ x, atK (restOf ((L s).take k)) t = x := ⟨_, rfl⟩
      obtain ⟨q, h2⟩ : ∃ x, mkK (restOf ((L s).take (k + 1))) = x := ⟨_, rfl⟩
      obtain ⟨a, h3⟩ : ∃ x, atK (restOf ((L s).take (k + 1))) t = x := ⟨_, rfl⟩
      obtain ⟨ks, h4⟩ : ∃ x, keysOf (restOf ((L s).take k) ++ [s[k]'hlt]) = x := ⟨_, rfl⟩
      obtain ⟨xs, h5⟩ : ∃ x, keysOf ((L s).take k) = x := ⟨_, rfl⟩
      rw [h0, h1, h2, h3, h4] at c1
      rw [h0, h1] at hB
      rw [h5] at hO l1
      rw [h4, h5] at hkk
      rw [hkk, List.length_append] at l2
      have hlx : xs.length + ks.length ≤ 3000000 := by omega
      have C1 := Lib.hid c1
      have H2 := Lib.hid h2
      have H3 := Lib.hid h3
      have HK := Lib.hid hkk
      have HO := Lib.hid hO
      clear c1 h0 h1 h2 h3 h4 h5 hkk hO l1 l2
      have HS : ∀ W, Nx wr W → W.cell? ⟨w.heap.size, 0, none⟩ = some (.string q0) ∧ W.cell? ⟨w.heap.size, 1, none⟩ = some (.int .i64 a0) := fun W hW => by
        have e1 := hB.nx hW
        exact ⟨(blk_cells e1).1, (blk_cells e1).2.1⟩
      have HS' := Lib.hid HS
      clear HS
      have nd : Nx w (wr.alloc (.cells #[.string ⟨#[]⟩, .int .i64 0] 30)).drew := (hN.alloc _).drew
      have nd' : Nx wr (wr.alloc (.cells #[.string ⟨#[]⟩, .int .i64 0] 30)).drew := ((Nx.refl wr).alloc _).drew
      have hsd : (wr.alloc (.cells #[.string ⟨#[]⟩, .int .i64 0] 30)).drew.heap.size = wr.heap.size + 1 := World.size_alloc _ _
      go_upto_region 8 with fail
      go_cut [10, 11, 12] (fun s7 s8 s9 wx => ∃ g A cap b2, s7 = .pointer (some ⟨g, 0, none⟩) ∧ s8 = .slice A ks.length cap ∧ s9 = .int .i64 0 ∧ Blk wx g 30 #[.string q, .int .i64 a] ∧ wr.heap.size ≤ g ∧ wx.ownsRow b2 23 2 (.slice A ks.length cap) ks.length (flatK ks) ∧ Nx wr wx)
      case first =>
        obtain ⟨z0, z1⟩ := HS'.out _ (Nx.drew (Nx.refl wr))
        go_region_held3 (fun W => W.cell? ⟨w.heap.size, 0, none⟩ = some (.string q0) ∧ W.cell? ⟨w.heap.size, 1, none⟩ = some (.int .i64 a0))
          (first | exact HS'.out _ m1 | exact HS'.out _ (Nx.alloc m1 _) | exact HS'.out _ m2 | exact HS'.out _ (Nx.setCell (Nx.setCell m2 (p := ⟨wr.heap.size, 0, none⟩) (Nat.le_refl _) _) (p := ⟨wr.heap.size, 1, none⟩) (Nat.le_refl _) _) | exact HS'.out _ nd' | exact HS'.out _ (Nx.drew (Nx.refl wr)) | go_keep)
          (first | (go_at_call 21; refine (C1.out _ (hT.nx nd)).mono ?_; rintro e vv ⟨A1, cap1, rfl, i1, m3⟩; have m2 := nd'.trans m3; obtain ⟨f0, f1, f2, f3⟩ := blk_cells ((Blk.new wr 30 #[.string ⟨#[]⟩, .int .i64 0]).drew.nx m3); rw [hsd] at i1; have I1 := Lib.hid i1; clear i1) | (go_at_call 21; refine (C1.out _ (hT.nx hN.drew)).mono ?_; rintro e vv ⟨A1, cap1, rfl, i1, m3⟩; have m1 := ((Nx.refl wr).drew).trans m3; have I1 := Lib.hid i1; clear i1))
        all_goals first
          | (have m4 := m1.size; have hG := Blk.new vv 30 #[.string q, .int .i64 a]; have HG := Lib.hid hG; clear hG; go_wp2_with fail; go_meet; case rel => exact ⟨vv.heap.size, A1, cap1, _, rfl, rfl, rfl, HG.out, m4, I1.out.alloc _, m1.alloc _⟩)
          | (have hG := blk_two (u := .string q) (v := .int .i64 a) ((Blk.new wr 30 #[.string ⟨#[]⟩, .int .i64 0]).drew.nx m3); have HG := Lib.hid hG; clear hG; go_wp2_with fail; go_meet; case rel => exact ⟨wr.heap.size, A1, cap1, _, rfl, rfl, rfl, HG.out, Nat.le_refl _, own_keep I1.out fun g hg _ => (Below.heap_setCell _ ⟨wr.heap.size, 1, none⟩ _ g (show g ≠ wr.heap.size by omega)).trans (Below.heap_setCell _ ⟨wr.heap.size, 0, none⟩ _ g (show g ≠ wr.heap.size by omega)), (m2.setCell (p := ⟨wr.heap.size, 0, none⟩) (Nat.le_refl _) _).setCell (p := ⟨wr.heap.size, 1, none⟩) (Nat.le_refl _) _⟩)
      case rest =>
        obtain ⟨g, A1, cap1, b2, rfl, rfl, rfl, hG, hg, hR, hx⟩ := hcut
        have hB2 := hB.nx hx
        have hN2 := hN.trans hx
        have hO2 := own_nx HO.out hx
        have hlt2 := HO.out.lt
        have hsx := hx.size
        have O2 := Lib.hid hO2
        have R2 := Lib.hid hR
        have LT := Lib.hid hlt2
        clear hB hN hx HS' C1 nd nd' HO hO2 hR hlt2
        go_wp2_with (at_builtin; refine wpList_append_keys rfl (.tmp 60) (.tmp 61) rfl _ _ xs rfl O2.out A1 cap1 _ ks rfl R2.out hlx (by omega) ?_)
        intro v' w4 r1 r2
        have hG4 := hG.grown r2 (fun e => by have := LT.out g e.symm; omega)
        have hB4 := blk_grown hB2 r2 (fun k hk => (LT.out k hk).1) (by omega)
        have hN4 := hN2.grown r2 (fun k hk => by have := (LT.out k hk).1; omega)
        obtain ⟨g0, g1, _, _⟩ := blk_cells hG4
        obtain ⟨p0, p1, p2, p3⟩ := blk_cells hB4
        have hB5 := blk_two (u := .string q) (v := .int .i64 a) hB4
        have hN5 := (Nx.setCell hN4 (p := ⟨w.heap.size, 0, none⟩) (Nat.le_refl _) (.string q)).setCell (p := ⟨w.heap.size, 1, none⟩) (Nat.le_refl _) (.int .i64 a)
        have hO5 : ((w4.setCell ⟨w.heap.size, 0, none⟩ (.string q)).setCell ⟨w.heap.size, 1, none⟩ (.int .i64 a)).ownsRow (w.heap.size + 1) 23 2 v' (xs.length + ks.length) (flatK (xs ++ ks)) :=
          own_keep r1 fun g hg _ => (Below.heap_setCell _ ⟨w.heap.size, 1, none⟩ _ g (show g ≠ w.heap.size by omega)).trans (Below.heap_setCell _ ⟨w.heap.size, 0, none⟩ _ g (show g ≠ w.heap.size by omega))
        have HB5 := Lib.hid hB5
        have HO5 := Lib.hid hO5
        clear hB5 hO5 hG hB2 hN2 hG4 hB4 hN4 r1 r2 O2 R2 LT
        go_wp2_with fail
        go_roundw
        case rel => exact ⟨k + 1, by omega, by go_num, by rw [H2.out, H3.out]; exact HB5.out, by rw [HK.out, List.length_append]; exact HO5.out, hN5⟩
        case measure => simp [intOf]; omega
    · obtain rfl : k = s.size := by omega
      have q1 : decide ((s.size : Int) < (s.size : Int)) = false := decide_eq_false (by omega)
      have q1' : decide (s.size < s.size) = false := decide_eq_false (by omega)
      have e1 := of_decide_eq_false d1
      rw [show (L s).take s.size = L s by rw [← L_length]; exact List.take_length] at hB hO
      have l1 := keys_len (L s)
      rw [L_length] at l1
      obtain ⟨A0, cap0, rfl⟩ := own_form hO
      have hKL : KL [] s (keysOf (L s)) (restOf (L s)) := ⟨rfl, rfl, by simp; omega, by omega⟩
      generalize keysOf (L s) = KS at *
      obtain ⟨RR, hRR⟩ : ∃ x, restOf (L s) = x := ⟨_, rfl⟩
      rw [hRR] at hB hKL
      have I0 := Lib.hid (own_keys hO).1
      have hWR : WR wr KS RR s [] (.slice (some ⟨wr.heap.size, 0, none⟩) 0 0) (wr.alloc (.cells #[] 23)) := ⟨own_made wr, hKL, (Nx.refl wr).alloc _⟩
      have HWR := Lib.hid hWR
      have HB := Lib.hid hB
      clear hWR hKL hB hO hRR
      obtain ⟨i0, hi, hz0, hzs, hz2⟩ := info_parts infoK
      have J0 := Lib.hid (And.intro hi (And.intro hz0 (And.intro hzs hz2)))
      clear hi hz0 hzs hz2
      go_wp2_with fail
      go_loopw [0, 13, 14, 15, 16, 17] (fun x v n _ _ _ wq => ∃ (S : ByteArray) (ks : List KEY) (j : Nat), x = .string S ∧ n = .int .i64 j ∧ j + S.size ≤ 300 ∧ WR wr KS RR S ks v wq) (fun x _ _ _ _ _ _ => strLen x)
      case atStart => exact ⟨s, [], 0, rfl, rfl, by omega, HWR.out⟩
      case round =>
        clear HWR
        obtain ⟨S, ks, j, rfl, rfl, hj, hR⟩ := hrel
        have HR := Lib.hid hR
        obtain ⟨r4, r5, r6⟩ := hR
        have hlen := r5.2.2.1
        have hlen2 := r5.2.2.2
        have hsz := r6.size
        have dj : decide ((j : Int) ≤ 300) = true := decide_eq_true (by omega)
        have CO := Lib.hid (one_any S _ (hT.nx (hN.trans r6)) (by omega))
        rcases one_form (L S) with ⟨ka, kb, m, e, hne⟩ | ⟨e, hne⟩ | ⟨e, hnil⟩
        · obtain ⟨k1, k2, _, _⟩ := KL.step r5 (by rw [e])
          rw [e] at CO k1 k2
          have k1' : 1 ≤ m := k1
          have k2' : m ≤ S.size := k2
          rw [show keyV ((ka, kb), m, 0) = .tuple #[.agg #[.int .i64 ka, .int .i32 kb], .int .i64 m, .int .i64 0] from rfl] at CO
          have E := Lib.hid e
          clear e hne k1 k2 r5
          have dm1 : decide ((m : Int) < 1) = false := decide_eq_false (by omega)
          have dm2 : decide ((S.size : Int) < (m : Int)) = false := decide_eq_false (by omega)
          have dm2' : decide (S.size < m) = false := decide_eq_false (by omega)
          go_wp2_with fail
          refine CO.out.mono ?_
          rintro e w1 ⟨rfl, x1⟩
          clear CO
          have hs1 := x1.size
          have hO := (own_nx r4 x1).alloc (.cells #[.int .i64 ka, .int .i32 kb] 23)
          clear r4 r6
          have i0' : (0 : Int) ≤ (m : Int) := by omega
          have i1' : (m : Int) ≤ (S.size : Int) := by omega
          go_upto_region 20 with fail
          go_wp2_with (at_builtin; refine wpList_append_lies _ rfl (.tmp 110) (.tmp 112) _ rfl _ 23 i0 _ 2 16 Tryd.underlying31 J0.out.1 J0.out.2.1 J0.out.2.2.1 J0.out.2.2.2 rfl (by omega) u13 ks.length (flatK ks) rfl (hO.alloc _) ⟨w1.heap.size + 1, 0, none⟩ 1 1 [_, _] rfl rfl (key_new2 _ _ _ _ _) key_one (by omega) (by unfold maxLen; omega) (by omega) ?_ (w1.heap.size + 1 + 1) (by simp) ?_)
          · first | omega | (simp; omega)
          · intro g4 c4 w4 r1 r2 r3 r4
            obtain ⟨hR4, hlt4⟩ := WR.step HR.out E.out x1 r1 r2
            have HR4 := Lib.hid hR4
            have HLT := Lib.hid hlt4
            clear hR4 hlt4 r1 r2 r3 hO HR E
            go_wp2_with fail
            go_roundw
            case rel => exact ⟨_, _, j + 1, rfl, by go_num, by rw [(size_rest S m).1]; omega, HR4.out⟩
            case measure => exact HLT.out
        · obtain ⟨k1, k2⟩ := KL.out r5 (by rw [e]; simp)
          rw [e] at CO
          rw [show keyV ((0, 0), 0, 3) = .tuple #[.agg #[.int .i64 0, .int .i32 0], .int .i64 0, .int .i64 3] from rfl] at CO
          have hBq := HB.out
          rw [← k2, mkK_L] at hBq
          have hI0 := I0.out
          subst k1
          have hs1 : 1 ≤ S.size := by
            rcases Nat.eq_zero_or_pos S.size with h | h
            · exact absurd (List.eq_nil_of_length_eq_zero (by rw [L_length]; exact h)) hne
            · exact h
          have t1 := (str_ne hs1).1
          have t2 := (str_ne hs1).2
          have t3 : (S.toList == []) = false := by cases h : S.toList with | nil => rw [h] at t1; simp at t1 | cons a b => rfl
          have t4 : S.toList ≠ [] := fun h => by rw [h] at t1; simp at t1
          obtain ⟨A3, cap3, rfl⟩ := own_form r4
          have i3 := (own_keys r4).1
          clear e hne k2 r5 HB I0 HR J0 r4
          go_wp2_with fail
          refine CO.out.mono ?_
          rintro e w1 ⟨rfl, x1⟩
          clear CO
          have y1 := x1.alloc (.cells #[.int .i64 0, .int .i32 0] 23)
          have z1 := r6.trans y1
          have nN := hN.trans z1
          have I4 := Lib.hid (hI0.keep z1)
          have I5 := Lib.hid (i3.keep y1)
          have B4 := Lib.hid (hBq.nx z1)
          clear hI0 i3 hBq hN r6 x1 y1 z1
          go_wp2_with fail
          refine (keyed_any _ (hT.nx nN)).mono ?_
          rintro e v2 ⟨rfl, x2⟩
          obtain ⟨f0, f1, _, _⟩ := blk_cells (B4.out.nx x2)
          have I6 := Lib.hid (I4.out.keep x2)
          have I7 := Lib.hid (I5.out.keep x2)
          have nM := nN.trans x2
          clear I4 I5 B4 x2 nN
          go_wp2_with fail
          refine (same_keys _ _ _ _ _ _ ks I6.out I7.out (by omega)).mono ?_
          rintro e v3 ⟨rfl, x3⟩
          go_wp2_with fail
          go_ret
          exact ⟨rfl, nM.trans x3⟩
        · obtain ⟨k1, k2⟩ := KL.out r5 (by rw [e]; simp)
          rw [e] at CO
          rw [show keyV ((0, 0), 0, 6) = .tuple #[.agg #[.int .i64 0, .int .i32 0], .int .i64 0, .int .i64 6] from rfl] at CO
          have hBq := HB.out
          rw [← k2, mkK_L] at hBq
          have hI0 := I0.out
          subst k1
          obtain rfl : S = ⟨#[]⟩ := L_inj hnil
          obtain ⟨A3, cap3, rfl⟩ := own_form r4
          have i3 := (own_keys r4).1
          clear e hnil k2 r5 HB I0 HR J0 r4
          go_wp2_with fail
          refine CO.out.mono ?_
          rintro e w1 ⟨rfl, x1⟩
          clear CO
          have y1 := x1.alloc (.cells #[.int .i64 0, .int .i32 0] 23)
          have z1 := r6.trans y1
          have nN := hN.trans z1
          have I4 := Lib.hid (hI0.keep z1)
          have I5 := Lib.hid (i3.keep y1)
          have B4 := Lib.hid (hBq.nx z1)
          clear hI0 i3 hBq hN r6 x1 y1 z1
          go_wp2_with fail
          refine (keyed_any _ (hT.nx nN)).mono ?_
          rintro e v2 ⟨rfl, x2⟩
          obtain ⟨f0, f1, _, _⟩ := blk_cells (B4.out.nx x2)
          have I6 := Lib.hid (I4.out.keep x2)
          have I7 := Lib.hid (I5.out.keep x2)
          have nM := nN.trans x2
          clear I4 I5 B4 x2 nN
          go_wp2_with fail
          refine (same_keys _ _ _ _ _ _ ks I6.out I7.out (by omega)).mono ?_
          rintro e v3 ⟨rfl, x3⟩
          go_wp2_with fail
          go_ret
          exact ⟨rfl, nM.trans x3⟩
end Go.Proofs.YtmfccecjphfkiaaDoor.walk
