/-
  The walk of the law KeysLate: it returns true for every input. No condition but the library's two tables. (The clamp's cases were printed by a program of mine, gen16d.py.)
-/
import Derived.Test.YtmfccecjphfkiaaDoorWalk16q
namespace Go.Proofs.YtmfccecjphfkiaaDoor.walk
open Go.RowKit Go.Proofs.YtmfccecjphfkiaaDoor.kit Go.Proofs.YtmfccecjphfkiaaDoor.plain
set_option linter.unusedVariables false

/-- what Feed answers, its row owned -/
def FO (p : ByteArray) (a : Int) (ks : List KEY) (w : World) (e : Ending) (w' : World) : Prop :=
  ∃ A cap, e = .returned (.tuple #[.agg #[.string p, .int .i64 a], .slice A ks.length cap, .int .i64 0]) ∧ w'.ownsRow w.heap.size 23 2 (.slice A ks.length cap) ks.length (flatK ks) ∧ Nx w w'
theorem FP.fo {rr : List UInt8} {t : Int} {ks : List KEY} {w : World} {e : Ending} {w' : World} (h : FP rr t ks w e w') : FO (mkK rr) (atK rr t) ks w e w' := by
  obtain ⟨A, n, cap, h1, h2, h3⟩ := h
  obtain ⟨g1, g2⟩ := own_keys h2
  subst g2
  exact ⟨A, cap, h1, h2, h3⟩
def KO (ks : List KEY) (w : World) (e : Ending) (w' : World) : Prop := ∃ A cap, e = .returned (.slice A ks.length cap) ∧ w'.ownsRow w.heap.size 23 2 (.slice A ks.length cap) ks.length (flatK ks) ∧ Nx w w'
theorem KP.ko {ks : List KEY} {w : World} {e : Ending} {w' : World} (h : KP ks w e w') : KO ks w e w' := by
  obtain ⟨A, n, cap, h1, h2, h3⟩ := h
  obtain ⟨g1, g2⟩ := own_keys h2
  subst g2
  exact ⟨A, cap, h1, h2, h3⟩

set_option maxRecDepth 100000 in
set_option maxHeartbeats 4000000 in
theorem keysLate_walk (w : World) (hT : TB w) (s : ByteArray) (ws : s.size ≤ 9223372036854775807) (b : Int) (wb : (Lit.int .u8 b).wf = true) (t : Int) (wt : (Lit.int .i64 t).wf = true) (wait : Int) (ww : (Lit.int .i64 wait).wf = true) (late : Int) (wl : (Lit.int .i64 late).wf = true) :
    Calls Tryd.prog 8 #[.string s, .int .u8 b, .int .i64 t, .int .i64 wait, .int .i64 late] w fun e w' => e = .returned (.bool true) ∧ Below w.heap.size w w' := by
  clear wb wt ww wl
  by_cases hd1 : (300 : Int) < (s.size : Int)
  · have d1 : decide ((300 : Int) < (s.size : Int)) = true := decide_eq_true hd1
    go_enter Tryd.func8, Tryd.ntmps8
    go_wp2_with fail
    refine (keyed_any _ hT).mono ?_
    rintro e w1 ⟨rfl, x1⟩
    go_wp2_with fail
    go_ret
    exact ⟨rfl, x1⟩
  have d1 : decide ((300 : Int) < (s.size : Int)) = false := decide_eq_false hd1
  by_cases hd2 : t < 0
  · have d2 : decide (t < 0) = true := decide_eq_true hd2
    go_enter Tryd.func8, Tryd.ntmps8
    go_wp2_with fail
    refine (keyed_any _ hT).mono ?_
    rintro e w1 ⟨rfl, x1⟩
    go_wp2_with fail
    go_ret
    exact ⟨rfl, x1⟩
  have d2 : decide (t < 0) = false := decide_eq_false hd2
  by_cases hd3 : 1000 < t
  · have d3 : decide (1000 < t) = true := decide_eq_true hd3
    go_enter Tryd.func8, Tryd.ntmps8
    go_wp2_with fail
    refine (keyed_any _ hT).mono ?_
    rintro e w1 ⟨rfl, x1⟩
    go_wp2_with fail
    go_ret
    exact ⟨rfl, x1⟩
  have d3 : decide (1000 < t) = false := decide_eq_false hd3
  by_cases hd4 : wait < 1
  · have d4 : decide (wait < 1) = true := decide_eq_true hd4
    go_enter Tryd.func8, Tryd.ntmps8
    go_wp2_with fail
    refine (keyed_any _ hT).mono ?_
    rintro e w1 ⟨rfl, x1⟩
    go_wp2_with fail
    go_ret
    exact ⟨rfl, x1⟩
  have d4 : decide (wait < 1) = false := decide_eq_false hd4
  by_cases hd5 : 1000 < wait
  · have d5 : decide (1000 < wait) = true := decide_eq_true hd5
    go_enter Tryd.func8, Tryd.ntmps8
    go_wp2_with fail
    refine (keyed_any _ hT).mono ?_
    rintro e w1 ⟨rfl, x1⟩
    go_wp2_with fail
    go_ret
    exact ⟨rfl, x1⟩
  have d5 : decide (1000 < wait) = false := decide_eq_false hd5
  by_cases hd6 : late < 0
  · have d6 : decide (late < 0) = true := decide_eq_true hd6
    go_enter Tryd.func8, Tryd.ntmps8
    go_wp2_with fail
    refine (keyed_any _ hT).mono ?_
    rintro e w1 ⟨rfl, x1⟩
    go_wp2_with fail
    go_ret
    exact ⟨rfl, x1⟩
  have d6 : decide (late < 0) = false := decide_eq_false hd6
  by_cases hd7 : 2000 < late
  · have d7 : decide (2000 < late) = true := decide_eq_true hd7
    go_enter Tryd.func8, Tryd.ntmps8
    go_wp2_with fail
    refine (keyed_any _ hT).mono ?_
    rintro e w1 ⟨rfl, x1⟩
    go_wp2_with fail
    go_ret
    exact ⟨rfl, x1⟩
  have d7 : decide (2000 < late) = false := decide_eq_false hd7
  have ht : tickB t = true := decide_eq_true (by omega)
  have hw : waitB wait = true := decide_eq_true (by omega)
  have HT := Lib.hid ht
  have HW := Lib.hid hw
  clear ht hw
  go_enter Tryd.func8, Tryd.ntmps8
  go_wp2_with fail
  go_loopw [12, 13, 14, 15] (fun i _ _ _ wr => ∃ (k : Nat), k ≤ s.size ∧ i = .int .i64 k ∧ Blk wr w.heap.size 30 #[.string (mkK (restOf ((L s).take k))), .int .i64 (atK (restOf ((L s).take k)) t)] ∧ Nx w wr) (fun i _ _ _ _ => s.size - (intOf i).toNat)
  case atStart => exact ⟨0, Nat.zero_le _, rfl, Blk.new _ _ _, (Nx.refl _).alloc _⟩
  case round =>
    obtain ⟨k, hk, rfl, hB, hN⟩ := hrel
    have hsz := hB.lt
    by_cases hlt : k < s.size
    · have q1 : decide ((k : Int) < (s.size : Int)) = true := decide_eq_true (by omega)
      have q1' : decide (k < s.size) = true := decide_eq_true hlt
      have hi0 : (0 : Int) ≤ (k : Int) := by omega
      have hi1 : (k : Int) < (s.size : Int) := by omega
      have c1 := fun W hW => ((feed_next s k hlt t wait HT.out HW.out).1 W hW).mono fun e w' h => FP.fo h
      rw [get!_lt s k hlt] at c1
      obtain ⟨q0, h0⟩ : ∃ x, mkK (restOf ((L s).take k)) = x := ⟨_, rfl⟩
      obtain ⟨a0, h1⟩ : ∃ x, atK (restOf ((L s).take k)) t = x := ⟨_, rfl⟩
      obtain ⟨q, h2⟩ : ∃ x, mkK (restOf ((L s).take (k + 1))) = x := ⟨_, rfl⟩
      obtain ⟨a, h3⟩ : ∃ x, atK (restOf ((L s).take (k + 1))) t = x := ⟨_, rfl⟩
      obtain ⟨ks, h4⟩ : ∃ x, keysOf (restOf ((L s).take k) ++ [s[k]'hlt]) = x := ⟨_, rfl⟩
      rw [h0, h1, h2, h3, h4] at c1
      rw [h0, h1] at hB
      have C1 := Lib.hid c1
      have H2 := Lib.hid h2
      have H3 := Lib.hid h3
      clear c1 h0 h1 h2 h3 h4
      have HS : ∀ W, Nx wr W → W.cell? ⟨w.heap.size, 0, none⟩ = some (.string q0) ∧ W.cell? ⟨w.heap.size, 1, none⟩ = some (.int .i64 a0) := fun W hW => by
        have e1 := hB.nx hW
        exact ⟨(blk_cells e1).1, (blk_cells e1).2.1⟩
      have HS' := Lib.hid HS
      clear HS
      have nd : Nx w (wr.alloc (.cells #[.string ⟨#[]⟩, .int .i64 0] 30)).drew := (hN.alloc _).drew
      have nd' : Nx wr (wr.alloc (.cells #[.string ⟨#[]⟩, .int .i64 0] 30)).drew := ((Nx.refl wr).alloc _).drew
      go_upto_region 7 with fail
      go_cut [13, 14, 15] (fun s7 s8 s9 wx => ∃ g, s7 = .pointer (some ⟨g, 0, none⟩) ∧ s9 = .int .i64 0 ∧ Blk wx g 30 #[.string q, .int .i64 a] ∧ wr.heap.size ≤ g ∧ Nx wr wx)
      case first =>
        obtain ⟨z0, z1⟩ := HS'.out _ (Nx.drew (Nx.refl wr))
        go_region_held3 (fun W => W.cell? ⟨w.heap.size, 0, none⟩ = some (.string q0) ∧ W.cell? ⟨w.heap.size, 1, none⟩ = some (.int .i64 a0))
          (first | exact HS'.out _ m1 | exact HS'.out _ (Nx.alloc m1 _) | exact HS'.out _ m2 | exact HS'.out _ (Nx.setCell (Nx.setCell m2 (p := ⟨wr.heap.size, 0, none⟩) (Nat.le_refl _) _) (p := ⟨wr.heap.size, 1, none⟩) (Nat.le_refl _) _) | exact HS'.out _ nd' | exact HS'.out _ (Nx.drew (Nx.refl wr)) | go_keep)
          (first | (go_at_call 21; refine (C1.out _ (hT.nx nd)).mono ?_; rintro e vv ⟨A1, cap1, rfl, i1, m3⟩; have m2 := nd'.trans m3; obtain ⟨f0, f1, f2, f3⟩ := blk_cells ((Blk.new wr 30 #[.string ⟨#[]⟩, .int .i64 0]).drew.nx m3)) | (go_at_call 21; refine (C1.out _ (hT.nx hN.drew)).mono ?_; rintro e vv ⟨A1, cap1, rfl, i1, m3⟩; have m1 := ((Nx.refl wr).drew).trans m3))
        all_goals first
          | (have m4 := m1.size; have hG := Blk.new vv 30 #[.string q, .int .i64 a]; have HG := Lib.hid hG; clear hG i1; go_wp2_with fail; go_meet; case rel => exact ⟨vv.heap.size, rfl, rfl, HG.out, m4, m1.alloc _⟩)
          | (have hG := blk_two (u := .string q) (v := .int .i64 a) ((Blk.new wr 30 #[.string ⟨#[]⟩, .int .i64 0]).drew.nx m3); have HG := Lib.hid hG; clear hG i1; go_wp2_with fail; go_meet; case rel => exact ⟨wr.heap.size, rfl, rfl, HG.out, Nat.le_refl _, (m2.setCell (p := ⟨wr.heap.size, 0, none⟩) (Nat.le_refl _) _).setCell (p := ⟨wr.heap.size, 1, none⟩) (Nat.le_refl _) _⟩)
      case rest =>
        obtain ⟨g, rfl, rfl, hG, hg, hx⟩ := hcut
        have hB2 := hB.nx hx
        have hN2 := hN.trans hx
        clear hB hN hx HS' C1 nd nd'
        obtain ⟨g0, g1, _, _⟩ := blk_cells hG
        obtain ⟨p0, p1, p2, p3⟩ := blk_cells hB2
        have hB4 := blk_two (u := .string q) (v := .int .i64 a) hB2
        have hN4 := (Nx.setCell hN2 (p := ⟨w.heap.size, 0, none⟩) (Nat.le_refl _) (.string q)).setCell (p := ⟨w.heap.size, 1, none⟩) (Nat.le_refl _) (.int .i64 a)
        have HB4 := Lib.hid hB4
        clear hB4 hB2 hG hN2
        go_wp2_with fail
        go_roundw
        case rel => exact ⟨k + 1, by omega, by go_num, by rw [H2.out, H3.out]; exact HB4.out, hN4⟩
        case measure => simp [intOf]; omega
    · obtain rfl : k = s.size := by omega
      have q1 : decide ((s.size : Int) < (s.size : Int)) = false := decide_eq_false (by omega)
      have q1' : decide (s.size < s.size) = false := decide_eq_false (by omega)
      have e2 := of_decide_eq_false d2
      have e3 := of_decide_eq_false d3
      have e4 := of_decide_eq_false d4
      have e5 := of_decide_eq_false d5
      have e6 := of_decide_eq_false d6
      have e7 := of_decide_eq_false d7
      have he := rest_e ((L s).take s.size)
      have hpl := (rest_len ((L s).take s.size)).1
      generalize restOf ((L s).take s.size) = p at *
      have HE := Lib.hid he
      clear he
      have HT2 := Lib.hid (show tickB (t + late) = true from decide_eq_true (by omega))
      have g1 : -9223372036854775808 ≤ t + late := by omega
      have g2 : t + late ≤ 9223372036854775807 := by omega
      obtain ⟨z0, z1, _, _⟩ := blk_cells hB
      by_cases hlw : late < wait
      · have dl : decide (late < wait) = true := decide_eq_true hlw
        have C1 := Lib.hid (fun W hW => (feed_early p b t late wait W hW HE.out HT.out HT2.out HW.out (by omega) (.inl hlw)).mono fun e w' h => FP.fo h)
        have c2 := fun W hW => (feed_early p b t 0 wait W hW HE.out HT.out (by rw [Int.add_zero]; exact HT.out) HW.out (by omega) (.inl (by omega))).mono fun e w' h => FP.fo h
        rw [Int.add_zero] at c2
        have C2 := Lib.hid c2
        clear c2
        have hks := keys_len (p ++ [UInt8.ofNat b.toNat])
        rw [List.length_append, List.length_singleton] at hks
        generalize keysOf (p ++ [UInt8.ofNat b.toNat]) = ks at *
        generalize mkK (restOf (p ++ [UInt8.ofNat b.toNat])) = q1 at *
        generalize atK (restOf (p ++ [UInt8.ofNat b.toNat])) (t + late) = a1 at *
        generalize atK (restOf (p ++ [UInt8.ofNat b.toNat])) t = a2 at *
        go_wp2_with fail
        refine (C1.out _ (hT.nx hN)).mono ?_
        rintro e v1 ⟨A1, cap1, rfl, o1, x1⟩
        clear C1 z0 z1
        have i1 := (own_keys o1).1
        have n1 := (hN.trans x1).alloc (.cells #[.string q1, .int .i64 a1] 30)
        have hK1 := (hB.nx x1).alloc (.cells #[.string q1, .int .i64 a1] 30)
        have hX1 := Blk.new v1 30 #[.string q1, .int .i64 a1]
        have I1 := Lib.hid (i1.keep ((Nx.refl v1).alloc (.cells #[.string q1, .int .i64 a1] 30)))
        obtain ⟨k0, k1, _, _⟩ := blk_cells hK1
        clear hB hN o1 i1 x1 hK1
        go_wp2_with fail
        refine (C2.out _ (hT.nx n1)).mono ?_
        rintro e v2 ⟨A2, cap2, rfl, o2, x2⟩
        clear C2 k0 k1
        have i2 := (own_keys o2).1
        have n2 := (n1.trans x2).alloc (.cells #[.string q1, .int .i64 a2] 30)
        have hX2 := (hX1.nx x2).alloc (.cells #[.string q1, .int .i64 a2] 30)
        have hY2 := Blk.new v2 30 #[.string q1, .int .i64 a2]
        have J1 := Lib.hid (I1.out.keep (x2.alloc (.cells #[.string q1, .int .i64 a2] 30)))
        have J2 := Lib.hid (i2.keep ((Nx.refl v2).alloc (.cells #[.string q1, .int .i64 a2] 30)))
        clear n1 hX1 x2 I1 i2 o2
        go_wp2_with fail
        refine (keyed_any _ (hT.nx n2)).mono ?_
        rintro e v3 ⟨rfl, x3⟩
        have n3 := n2.trans x3
        have H1 := Lib.hid (J1.out.keep x3)
        have H2 := Lib.hid (J2.out.keep x3)
        have hX3 := hX2.nx x3
        have hY3 := hY2.nx x3
        clear n2 hX2 hY2 x3 J1 J2
        go_wp2_with fail
        refine (same_keys _ A1 A2 _ _ _ ks H1.out H2.out (by omega)).mono ?_
        rintro e v4 ⟨rfl, x4⟩
        obtain ⟨a0, a1, _, _⟩ := blk_cells (hX3.nx x4)
        obtain ⟨b0, b1, _, _⟩ := blk_cells (hY3.nx x4)
        go_wp2_with fail
        go_ret
        exact ⟨rfl, n3.trans x4⟩
      have dl : decide (late < wait) = false := decide_eq_false hlw
      by_cases hpn : p = []
      · have hq0 : mkK p = ⟨#[]⟩ := by rw [hpn]; rfl
        have C1 := Lib.hid (fun W hW => (feed_early p b t late wait W hW HE.out HT.out HT2.out HW.out (by omega) (.inr hpn)).mono fun e w' h => FP.fo h)
        have c2 := fun W hW => (feed_early p b t 0 wait W hW HE.out HT.out (by rw [Int.add_zero]; exact HT.out) HW.out (by omega) (.inl (by omega))).mono fun e w' h => FP.fo h
        rw [Int.add_zero] at c2
        have C2 := Lib.hid c2
        clear c2
        have hks := keys_len (p ++ [UInt8.ofNat b.toNat])
        rw [List.length_append, List.length_singleton] at hks
        generalize keysOf (p ++ [UInt8.ofNat b.toNat]) = ks at *
        generalize mkK (restOf (p ++ [UInt8.ofNat b.toNat])) = q1 at *
        generalize atK (restOf (p ++ [UInt8.ofNat b.toNat])) (t + late) = a1 at *
        generalize atK (restOf (p ++ [UInt8.ofNat b.toNat])) t = a2 at *
        rw [hq0] at hB z0 C1 C2
        clear hpn hq0
        go_wp2_with fail
        refine (C1.out _ (hT.nx hN)).mono ?_
        rintro e v1 ⟨A1, cap1, rfl, o1, x1⟩
        clear C1 z0 z1
        have i1 := (own_keys o1).1
        have n1 := (hN.trans x1).alloc (.cells #[.string q1, .int .i64 a1] 30)
        have hK1 := (hB.nx x1).alloc (.cells #[.string q1, .int .i64 a1] 30)
        have hX1 := Blk.new v1 30 #[.string q1, .int .i64 a1]
        have I1 := Lib.hid (i1.keep ((Nx.refl v1).alloc (.cells #[.string q1, .int .i64 a1] 30)))
        obtain ⟨k0, k1, _, _⟩ := blk_cells hK1
        clear hB hN o1 i1 x1 hK1
        go_wp2_with fail
        refine (C2.out _ (hT.nx n1)).mono ?_
        rintro e v2 ⟨A2, cap2, rfl, o2, x2⟩
        clear C2 k0 k1
        have i2 := (own_keys o2).1
        have n2 := (n1.trans x2).alloc (.cells #[.string q1, .int .i64 a2] 30)
        have hX2 := (hX1.nx x2).alloc (.cells #[.string q1, .int .i64 a2] 30)
        have hY2 := Blk.new v2 30 #[.string q1, .int .i64 a2]
        have J1 := Lib.hid (I1.out.keep (x2.alloc (.cells #[.string q1, .int .i64 a2] 30)))
        have J2 := Lib.hid (i2.keep ((Nx.refl v2).alloc (.cells #[.string q1, .int .i64 a2] 30)))
        clear n1 hX1 x2 I1 i2 o2
        go_wp2_with fail
        refine (keyed_any _ (hT.nx n2)).mono ?_
        rintro e v3 ⟨rfl, x3⟩
        have n3 := n2.trans x3
        have H1 := Lib.hid (J1.out.keep x3)
        have H2 := Lib.hid (J2.out.keep x3)
        have hX3 := hX2.nx x3
        have hY3 := hY2.nx x3
        clear n2 hX2 hY2 x3 J1 J2
        go_wp2_with fail
        refine (same_keys _ A1 A2 _ _ _ ks H1.out H2.out (by omega)).mono ?_
        rintro e v4 ⟨rfl, x4⟩
        obtain ⟨a0, a1, _, _⟩ := blk_cells (hX3.nx x4)
        obtain ⟨b0, b1, _, _⟩ := blk_cells (hY3.nx x4)
        go_wp2_with fail
        go_ret
        exact ⟨rfl, n3.trans x4⟩
      · have C1 := Lib.hid (fun W hW => (feed_late p b t late wait W hW HE.out hpn HT.out HT2.out HW.out (by omega) (by omega)).mono fun e w' h => FP.fo h)
        have C2 := Lib.hid (show ∀ W, TB W → Calls Tryd.prog 21 #[.agg #[.string ⟨#[]⟩, .int .i64 0], .agg #[.int .u8 b, .int .i64 (t + late)], .int .i64 wait] W (FO (mkK (restOf [UInt8.ofNat b.toNat])) (atK (restOf [UInt8.ofNat b.toNat]) (t + late)) (keysOf [UInt8.ofNat b.toNat]) W) from
          fun W hW => (feed_early [] b t late wait W hW (by decide) HT.out HT2.out HW.out (by omega) (.inr rfl)).mono fun e w' h => FP.fo h)
        have c3 := fun W => (settle_any (mkK p) W (by rw [← L_length, L_mkK]; omega)).mono fun e w' h => KP.ko h
        rw [L_mkK] at c3
        have C3 := Lib.hid c3
        clear c3
        have hks := keys_len [UInt8.ofNat b.toNat]
        have hls := settle_len p
        rw [List.length_singleton] at hks
        have hq : 1 ≤ (mkK p).size := by
          rw [← L_length, L_mkK]
          cases p with
          | nil => exact absurd rfl hpn
          | cons _ _ => simp
        obtain ⟨sp1, sp2⟩ := str_ne hq
        obtain ⟨zs, hzs⟩ : ∃ x, settleK p ++ keysOf [UInt8.ofNat b.toNat] = x := ⟨_, rfl⟩
        rw [hzs] at C1
        have hzl : zs.length ≤ 1000 := by rw [← hzs, List.length_append]; omega
        generalize keysOf [UInt8.ofNat b.toNat] = ys at *
        generalize settleK p = xs at *
        generalize mkK (restOf [UInt8.ofNat b.toNat]) = q1 at *
        generalize atK (restOf [UInt8.ofNat b.toNat]) (t + late) = a1 at *
        generalize mkK p = q0 at *
        generalize atK p t = a0 at *
        have HZ := Lib.hid hzs
        clear hzs hpn
        go_wp2_with fail
        refine (C1.out _ (hT.nx hN)).mono ?_
        rintro e v1 ⟨A1, cap1, rfl, o1, x1⟩
        clear C1 z0 z1
        have i1 := (own_keys o1).1
        have n1 := (hN.trans x1).alloc (.cells #[.string q1, .int .i64 a1] 30)
        have hK1 := (hB.nx x1).alloc (.cells #[.string q1, .int .i64 a1] 30)
        have hX1 := Blk.new v1 30 #[.string q1, .int .i64 a1]
        have I1 := Lib.hid (i1.keep ((Nx.refl v1).alloc (.cells #[.string q1, .int .i64 a1] 30)))
        obtain ⟨k0, k1, _, _⟩ := blk_cells hK1
        clear hB hN o1 i1 x1
        go_wp2_with fail
        refine (C2.out _ (hT.nx n1)).mono ?_
        rintro e v2 ⟨A2, cap2, rfl, o2, x2⟩
        clear C2 k0 k1
        have n2 := (n1.trans x2).alloc (.cells #[.string q1, .int .i64 a1] 30)
        have hK2 := (hK1.nx x2).alloc (.cells #[.string q1, .int .i64 a1] 30)
        have hX2 := (hX1.nx x2).alloc (.cells #[.string q1, .int .i64 a1] 30)
        have hY2 := Blk.new v2 30 #[.string q1, .int .i64 a1]
        have J1 := Lib.hid (I1.out.keep (x2.alloc (.cells #[.string q1, .int .i64 a1] 30)))
        have O2 := Lib.hid (o2.alloc (.cells #[.string q1, .int .i64 a1] 30))
        obtain ⟨k0, k1, _, _⟩ := blk_cells hK2
        clear n1 hX1 hK1 x2 I1 o2
        go_wp2_with fail
        refine (C3.out _).mono ?_
        rintro e v3 ⟨A3, cap3, rfl, o3, x3⟩
        clear C3 k0 k1 hK2
        have O2' := Lib.hid (own_nx O2.out x3)
        have O3 := Lib.hid o3
        have hs3 := x3.size
        clear O2 o3
        go_wp2_with (at_builtin; refine wpList_append_keys rfl (.tmp 139) (.tmp 140) rfl _ _ xs rfl O3.out A2 cap2 _ ys rfl O2'.out (by omega) (by omega) ?_)
        intro v' v4 r1 r2
        rw [show xs.length + ys.length = zs.length by rw [← HZ.out, List.length_append], HZ.out] at r1
        obtain ⟨A4, cap4, rfl⟩ := own_form r1
        have i4 := (own_keys r1).1
        have hlt4 := own_grown_lt O3.out
        have x4 := x3.grown r2 hlt4
        have n4 := n2.trans x4
        have H1 := Lib.hid (J1.out.keep x4)
        have H4 := Lib.hid i4
        have hX4 := hX2.nx x4
        have hY4 := hY2.nx x4
        clear n2 hX2 hY2 J1 O3 O2' r1 r2 i4 x3 x4 hlt4 hs3
        go_wp2_with fail
        refine (keyed_any _ (hT.nx n4)).mono ?_
        rintro e v5 ⟨rfl, x5⟩
        have K1 := Lib.hid (H1.out.keep x5)
        have K4 := Lib.hid (H4.out.keep x5)
        clear H1 H4
        go_wp2_with fail
        refine (same_keys _ A1 A4 _ _ _ zs K1.out K4.out (by omega)).mono ?_
        rintro e v6 ⟨rfl, x6⟩
        have x56 := x5.trans x6
        obtain ⟨a0, a1, _, _⟩ := blk_cells (hX4.nx x56)
        obtain ⟨b0, b1, _, _⟩ := blk_cells (hY4.nx x56)
        go_wp2_with fail
        go_ret
        exact ⟨rfl, n4.trans x56⟩
end Go.Proofs.YtmfccecjphfkiaaDoor.walk
