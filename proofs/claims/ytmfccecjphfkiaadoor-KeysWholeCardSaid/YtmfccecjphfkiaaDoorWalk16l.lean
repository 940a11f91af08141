/-
  Keys: one byte more that is taken (Feed). No condition but the library's two tables and a bound on the bytes' number.
-/
import Derived.Test.YtmfccecjphfkiaaDoorWalk16k
namespace Go.Proofs.YtmfccecjphfkiaaDoor.walk
open Go.RowKit Go.Proofs.YtmfccecjphfkiaaDoor.kit Go.Proofs.YtmfccecjphfkiaaDoor.plain
set_option linter.unusedVariables false

set_option maxRecDepth 100000 in
set_option maxHeartbeats 4000000 in
theorem feed_go (p : ByteArray) (at' b t wait : Int) (w : World) (hT : TB w) (hs : p.size ≤ 1000000) (h1 : isK (L p) at' = true) (h2 : waitB wait = true) (h3 : tickB t = true) (h4 : at' ≤ t)
    (p' : ByteArray) (a' : Int) (k0 : List KEY) (hp : p'.size ≤ 900000) (hk0 : k0.length ≤ 1000000) (CR0 : ∀ W, TB W → Calls Tryd.prog 12 #[.agg #[.string p, .int .i64 at'], .int .i64 t, .int .i64 wait] W (RP p' a' k0 W)) :
    Calls Tryd.prog 21 #[.agg #[.string p, .int .i64 at'], .agg #[.int .u8 b, .int .i64 t], .int .i64 wait] w (FP (restOf (L p' ++ [UInt8.ofNat b.toNat])) t (k0 ++ keysOf (L p' ++ [UInt8.ofNat b.toNat])) w) := by
  obtain ⟨i0, hi, hz0, hzs, hz2⟩ := info_parts infoK
  have I0 := Lib.hid (And.intro hi (And.intro hz0 (And.intro hzs hz2)))
  clear hi hz0 hzs hz2
  have n1 := (((Nx.refl w).alloc (.cells #[.string p, .int .i64 at'] 30)).alloc (.cells #[.int .u8 b, .int .i64 t] 40)).alloc (.cells #[.string ⟨#[]⟩, .int .i64 0] 30)
  have hb := ((Blk.new w 30 #[.string p, .int .i64 at']).alloc (.cells #[.int .u8 b, .int .i64 t] 40)).alloc (.cells #[.string ⟨#[]⟩, .int .i64 0] 30)
  have hd := (Blk.new (w.alloc (.cells #[.string p, .int .i64 at'] 30)) 40 #[.int .u8 b, .int .i64 t]).alloc (.cells #[.string ⟨#[]⟩, .int .i64 0] 30)
  have hk := Blk.new ((w.alloc (.cells #[.string p, .int .i64 at'] 30)).alloc (.cells #[.int .u8 b, .int .i64 t] 40)) 30 #[.string ⟨#[]⟩, .int .i64 0]
  rw [World.size_alloc] at hd
  rw [World.size_alloc, World.size_alloc] at hk
  have C1 := Lib.hid (isk_any p at' _ (hT.nx n1) hs)
  have C2 := Lib.hid (fun W => waits_any wait W)
  have C3 := Lib.hid (fun W => tick_any t W)
  rw [h1] at C1
  rw [h2] at C2
  rw [h3] at C3
  have CR := Lib.hid CR0
  have q1 : decide (t < at') = false := decide_eq_false (by omega)
  clear h1 h2 h3 CR0
  obtain ⟨l0, hl0⟩ : ∃ l0, L p' ++ [UInt8.ofNat b.toNat] = l0 := ⟨_, rfl⟩
  rw [hl0]
  have HL0 := Lib.hid hl0
  clear hl0
  generalize hKS : k0 ++ keysOf l0 = KS
  generalize hRR : restOf l0 = RR
  have HKS := Lib.hid hKS
  have HRR := Lib.hid hRR
  clear hKS hRR
  go_enter Tryd.func21, Tryd.ntmps21
  go_wp2_with fail
  refine C1.out.mono ?_
  rintro e w1 ⟨rfl, x1⟩
  clear C1
  obtain ⟨b0, b1, _, _⟩ := blk_cells (hb.nx x1)
  obtain ⟨d0, d1, _, _⟩ := blk_cells (hd.nx x1)
  go_wp2_with fail
  refine (C2.out _).mono ?_
  rintro e w2 ⟨rfl, rfl⟩
  clear C2
  go_wp2_with fail
  refine (C3.out _).mono ?_
  rintro e w2 ⟨rfl, rfl⟩
  clear C3
  go_wp2_with fail
  refine (CR.out _ (hT.nx (n1.trans x1))).mono ?_
  rintro e w2 ⟨A, n, cap, rfl, o2, x2⟩
  clear CR b0 b1 d0 d1
  have hn : k0.length = n := by have := o2.1; rw [flatK_length] at this; omega
  have x12 := (n1.trans x1).trans x2
  have hsz : w.heap.size + 3 ≤ w1.heap.size := by have := x1.size; simp at this; omega
  have hb2 := (hb.nx x1).nx x2
  have hd2 := (hd.nx x1).nx x2
  have hk2 := (hk.nx x1).nx x2
  obtain ⟨b0, b1, f0, f1⟩ := blk_cells hb2
  have hl2 := hk2.lt
  clear x1 x2 hb hd hk n1
  have hb3 := blk_two (u := .string p') (v := .int .i64 a') hb2
  have hd3 := (hd2.far (p := ⟨w.heap.size, 0, none⟩) (show w.heap.size + 1 ≠ w.heap.size by omega) (.string p')).far (p := ⟨w.heap.size, 1, none⟩) (show w.heap.size + 1 ≠ w.heap.size by omega) (.int .i64 a')
  have hk3 := (hk2.far (p := ⟨w.heap.size, 0, none⟩) (show w.heap.size + 1 + 1 ≠ w.heap.size by omega) (.string p')).far (p := ⟨w.heap.size, 1, none⟩) (show w.heap.size + 1 + 1 ≠ w.heap.size by omega) (.int .i64 a')
  have o3 : ((w2.setCell ⟨w.heap.size, 0, none⟩ (.string p')).setCell ⟨w.heap.size, 1, none⟩ (.int .i64 a')).ownsRow (w.heap.size + 3) 23 2 (.slice A n cap) n (flatK k0) :=
    own_keep (own_more o2 hsz) fun g hg _ => (Below.heap_setCell _ ⟨w.heap.size, 1, none⟩ _ g (show g ≠ w.heap.size by omega)).trans (Below.heap_setCell _ ⟨w.heap.size, 0, none⟩ _ g (show g ≠ w.heap.size by omega))
  have x3 := (x12.setCell (p := ⟨w.heap.size, 0, none⟩) (Nat.le_refl _) (.string p')).setCell (p := ⟨w.heap.size, 1, none⟩) (Nat.le_refl _) (.int .i64 a')
  have cv := conv_new ((w2.setCell ⟨w.heap.size, 0, none⟩ (.string p')).setCell ⟨w.heap.size, 1, none⟩ (.int .i64 a')) [b] _ 1 rfl rfl
  simp only [List.map_cons, List.map_nil] at cv
  rw [show ((w2.setCell ⟨w.heap.size, 0, none⟩ (.string p')).setCell ⟨w.heap.size, 1, none⟩ (.int .i64 a')).heap.size = w2.heap.size by simp [World.setCell]] at cv
  have hl1 : L (strOfNums [b]) = [UInt8.ofNat b.toNat] := L_nums [b]
  have hSl : L (p' ++ strOfNums [b]) = l0 := by rw [L_app, hl1, HL0.out]
  have hz1 : (strOfNums [b]).size ≤ 1 := by rw [← L_length, hl1]; simp
  have hSz : (p' ++ strOfNums [b]).size ≤ 1000000 := by rw [ByteArray.size_append]; omega
  generalize strOfNums [b] = B at *
  obtain ⟨e0, _, _, _⟩ := blk_cells hb3
  obtain ⟨d0, _, _, _⟩ := blk_cells hd3
  have hb4 := hb3.alloc (.cells #[.int .u8 b] 5)
  have hd4 := hd3.alloc (.cells #[.int .u8 b] 5)
  obtain ⟨m0, m1, j0, j1⟩ := blk_cells hb4
  obtain ⟨_, d1, _, _⟩ := blk_cells hd4
  have hFR : FR w b t KS RR (p' ++ B) k0 (.slice A n cap) (((((w2.setCell ⟨w.heap.size, 0, none⟩ (.string p')).setCell ⟨w.heap.size, 1, none⟩ (.int .i64 a')).alloc (.cells #[.int .u8 b] 5)).setCell ⟨w.heap.size, 0, none⟩ (.string (p' ++ B))).setCell ⟨w.heap.size, 1, none⟩ (.int .i64 t)) := by
    refine ⟨blk_two hb4, (hd4.far (p := ⟨w.heap.size, 0, none⟩) (show w.heap.size + 1 ≠ w.heap.size by omega) _).far (p := ⟨w.heap.size, 1, none⟩) (show w.heap.size + 1 ≠ w.heap.size by omega) _, ((hk3.alloc _).far (p := ⟨w.heap.size, 0, none⟩) (show w.heap.size + 1 + 1 ≠ w.heap.size by omega) _).far (p := ⟨w.heap.size, 1, none⟩) (show w.heap.size + 1 + 1 ≠ w.heap.size by omega) _, ?_, ⟨?_, ?_, ?_, ?_⟩, ?_⟩
    · rw [hn]
      exact own_keep (o3.alloc _) fun g hg _ => (Below.heap_setCell _ ⟨w.heap.size, 1, none⟩ _ g (show g ≠ w.heap.size by omega)).trans (Below.heap_setCell _ ⟨w.heap.size, 0, none⟩ _ g (show g ≠ w.heap.size by omega))
    · rw [hSl]; exact HKS.out
    · rw [hSl]; exact HRR.out
    · omega
    · omega
    · exact ((x3.alloc _).setCell (p := ⟨w.heap.size, 0, none⟩) (Nat.le_refl _) _).setCell (p := ⟨w.heap.size, 1, none⟩) (Nat.le_refl _) _
  have HFR := Lib.hid hFR
  have hlw2 := hl2
  clear hFR hb2 hd2 hk2 hb3 hd3 hk3 hb4 hd4 o2 o3 x3 x12 hn hSl HKS HRR HL0 hl1
  go_wp2_with fail
  go_loopw [9, 10, 11, 12] (fun v _ _ _ wr => ∃ (S : ByteArray) (ks : List KEY), FR w b t KS RR S ks v wr) (fun _ _ _ _ wr => memLen w.heap.size wr)
  case atStart => exact ⟨_, _, HFR.out⟩
  case round =>
    clear HFR b0 b1 f0 f1 e0 d0 m0 m1 j0 j1 d1 cv hlw2 hl2 hsz hz1 hSz
    obtain ⟨S, ks, hR⟩ := hrel
    have HR := Lib.hid hR
    obtain ⟨r1, r2, r3, r4, r5, r6⟩ := hR
    obtain ⟨c0, c1, f0, f1⟩ := blk_cells r1
    have hM := Lib.hid (memLen_of c0)
    have hlen := r5.2.2.1
    have hlen2 := r5.2.2.2
    have hsz := r6.size
    have hl3 := r3.lt
    have CO := Lib.hid (one_any S wr (hT.nx r6) (by omega))
    rcases one_form (L S) with ⟨ka, kb, m, e, hne⟩ | ⟨e, hne⟩ | ⟨e, hnil⟩
    · obtain ⟨k1, k2, _, _⟩ := KL.step r5 (by rw [e])
      rw [e] at CO k1 k2
      have k1' : 1 ≤ m := k1
      have k2' : m ≤ S.size := k2
      rw [show keyV ((ka, kb), m, 0) = .tuple #[.agg #[.int .i64 ka, .int .i32 kb], .int .i64 m, .int .i64 0] from rfl] at CO
      have E := Lib.hid e
      clear e hne k1 k2 r5
      go_wp2_with fail
      refine CO.out.mono ?_
      rintro e w1 ⟨rfl, x1⟩
      clear CO
      have hs1 := x1.size
      have hO := (own_nx r4 x1).alloc (.cells #[.int .i64 ka, .int .i32 kb] 23)
      clear r1 r2 r3 r4 r6 c0 c1 f0 f1
      go_wp2_with (at_builtin; refine wpList_append_lies _ rfl (.tmp 65) (.tmp 67) _ rfl (w.heap.size + 3) 23 i0 _ 2 16 Tryd.underlying31 I0.out.1 I0.out.2.1 I0.out.2.2.1 I0.out.2.2.2 rfl (by omega) u9 ks.length (flatK ks) rfl (hO.alloc _) ⟨w1.heap.size + 1, 0, none⟩ 1 1 [_, _] rfl rfl (key_new2 _ _ _ _ _) key_one (by omega) (by unfold maxLen; omega) (by omega) ?_ (w1.heap.size + 1 + 1) (by simp) ?_)
      · first | omega | (simp; omega)
      · intro g4 c4 w4 r1 r2 r3 r4
        obtain ⟨hR4, hB4, hlt4⟩ := FR.step HR.out E.out x1 r1 r2
        obtain ⟨c0, c1, f0, f1⟩ := blk_cells hB4
        have HR4 := Lib.hid hR4
        have hM4 := Lib.hid (memLen_of (blk_cells hR4.1).1)
        have HLT := Lib.hid hlt4
        have i0' : (0 : Int) ≤ (m : Int) := by omega
        have i1' : (m : Int) ≤ (S.size : Int) := by omega
        clear hR4 hB4 hlt4 r1 r2 r3 hO HR E
        go_wp2_with fail
        go_roundw
        case rel => exact ⟨_, _, HR4.out⟩
        case measure => rw [hM4.out, hM.out]; exact HLT.out
    · obtain ⟨e1, e2⟩ := KL.out r5 (by rw [e]; decide)
      rw [e] at CO
      rw [show keyV ((0, 0), 0, 3) = .tuple #[.agg #[.int .i64 0, .int .i32 0], .int .i64 0, .int .i64 3] from rfl] at CO
      subst e1
      have E2 := Lib.hid e2
      have HNE := Lib.hid hne
      clear e hne e2 r5
      obtain ⟨A4, cap4, rfl⟩ := own_form r4
      go_wp2_with fail
      refine CO.out.mono ?_
      rintro e w1 ⟨rfl, x1⟩
      clear CO
      have hB := (r1.nx x1).alloc (.cells #[.int .i64 0, .int .i32 0] 23)
      have hK := (r3.nx x1).alloc (.cells #[.int .i64 0, .int .i32 0] 23)
      obtain ⟨c0', c1', _, _⟩ := blk_cells hB
      obtain ⟨t0, t1, g0, g1⟩ := blk_cells hK
      obtain ⟨s0, s1, _, _⟩ := blk_cells ((blk_two (u := .string S) (v := .int .i64 t) (r3.nx x1)).alloc (.cells #[.int .i64 0, .int .i32 0] 23))
      obtain ⟨t0', t1', g0', g1'⟩ := blk_cells (r3.nx x1)
      have RR' := Lib.hid (And.intro s0 s1)
      have hO := Lib.hid (own_nx r4 x1)
      have hN := Lib.hid (r6.trans x1)
      have hl1 := (r3.nx x1).lt
      have hs1 := x1.size
      clear s0 s1 hB hK r1 r2 r3 r4 r6 c0 c1 f0 f1 x1 HR
      go_wp2_with fail
      refine bodyPost_ret (v := .tuple #[.agg #[.string S, .int .i64 t], .slice A4 ks.length cap4, .int .i64 0]) (by simp [results, Tryd.results21, go_sem, RR'.out.1, RR'.out.2]) rfl ⟨A4, ks.length, cap4, ?_, ?_, ?_⟩
      · rw [← E2.out, mkK_L, if_neg HNE.out]
      · exact own_more (World.ownsRow.alloc (own_keep hO.out fun g hg _ => (Below.heap_setCell _ ⟨w.heap.size + 2, 1, none⟩ _ g (show g ≠ w.heap.size + 2 by omega)).trans (Below.heap_setCell _ ⟨w.heap.size + 2, 0, none⟩ _ g (show g ≠ w.heap.size + 2 by omega))) _) (by omega)
      · exact ((hN.out.setCell (p := ⟨w.heap.size + 2, 0, none⟩) (show w.heap.size ≤ w.heap.size + 2 by omega) _).setCell (p := ⟨w.heap.size + 2, 1, none⟩) (show w.heap.size ≤ w.heap.size + 2 by omega) _).alloc _
    · obtain ⟨e1, e2⟩ := KL.out r5 (by rw [e]; decide)
      rw [e] at CO
      rw [show keyV ((0, 0), 0, 6) = .tuple #[.agg #[.int .i64 0, .int .i32 0], .int .i64 0, .int .i64 6] from rfl] at CO
      subst e1
      have E2 := Lib.hid (e2.symm.trans hnil)
      clear e e2 r5 hnil
      obtain ⟨A4, cap4, rfl⟩ := own_form r4
      go_wp2_with fail
      refine CO.out.mono ?_
      rintro e w1 ⟨rfl, x1⟩
      clear CO
      have hB := (r1.nx x1).alloc (.cells #[.int .i64 0, .int .i32 0] 23)
      have hK := (r3.nx x1).alloc (.cells #[.int .i64 0, .int .i32 0] 23)
      obtain ⟨c0', c1', _, _⟩ := blk_cells hB
      obtain ⟨t0, t1, g0, g1⟩ := blk_cells hK
      obtain ⟨s0, s1, _, _⟩ := blk_cells ((blk_two (u := .string ⟨#[]⟩) (v := .int .i64 0) (r3.nx x1)).alloc (.cells #[.int .i64 0, .int .i32 0] 23))
      obtain ⟨t0', t1', g0', g1'⟩ := blk_cells (r3.nx x1)
      have RR' := Lib.hid (And.intro s0 s1)
      have hO := Lib.hid (own_nx r4 x1)
      have hN := Lib.hid (r6.trans x1)
      have hl1 := (r3.nx x1).lt
      have hs1 := x1.size
      clear s0 s1 hB hK r1 r2 r3 r4 r6 c0 c1 f0 f1 x1 HR
      go_wp2_with fail
      refine bodyPost_ret (v := .tuple #[.agg #[.string ⟨#[]⟩, .int .i64 0], .slice A4 ks.length cap4, .int .i64 0]) (by simp [results, Tryd.results21, go_sem, RR'.out.1, RR'.out.2]) rfl ⟨A4, ks.length, cap4, ?_, ?_, ?_⟩
      · rw [E2.out, if_pos rfl]; rfl
      · exact own_more (World.ownsRow.alloc (own_keep hO.out fun g hg _ => (Below.heap_setCell _ ⟨w.heap.size + 2, 1, none⟩ _ g (show g ≠ w.heap.size + 2 by omega)).trans (Below.heap_setCell _ ⟨w.heap.size + 2, 0, none⟩ _ g (show g ≠ w.heap.size + 2 by omega))) _) (by omega)
      · exact ((hN.out.setCell (p := ⟨w.heap.size + 2, 0, none⟩) (show w.heap.size ≤ w.heap.size + 2 by omega) _).setCell (p := ⟨w.heap.size + 2, 1, none⟩) (show w.heap.size ≤ w.heap.size + 2 by omega) _).alloc _
end Go.Proofs.YtmfccecjphfkiaaDoor.walk
