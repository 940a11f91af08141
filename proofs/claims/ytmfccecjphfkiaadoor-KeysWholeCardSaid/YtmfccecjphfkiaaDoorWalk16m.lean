/-
  Keys: one byte more, by the reference (Feed). No condition but a bound on the bytes' number.
-/
import Derived.Test.YtmfccecjphfkiaaDoorWalk16l
namespace Go.Proofs.YtmfccecjphfkiaaDoor.walk
open Go.RowKit Go.Proofs.YtmfccecjphfkiaaDoor.kit Go.Proofs.YtmfccecjphfkiaaDoor.plain
set_option linter.unusedVariables false

set_option maxHeartbeats 2000000 in
theorem rfeed_bad (p : ByteArray) (at' b t wait : Int) (w : World) (hs : p.size ≤ 1000000) (hbad : isK (L p) at' = false ∨ waitB wait = false ∨ tickB t = false ∨ t < at') :
    Calls Tryd.prog 22 #[.agg #[.string p, .int .i64 at'], .agg #[.int .u8 b, .int .i64 t], .int .i64 wait] w fun e w' => e = .returned (.tuple #[.agg #[.string ⟨#[]⟩, .int .i64 0], .slice none 0 0, .int .i64 1]) ∧ Nx w w' := by
  have n1 := (((Nx.refl w).alloc (.cells #[.string p, .int .i64 at'] 30)).alloc (.cells #[.int .u8 b, .int .i64 t] 40)).alloc (.cells #[.string ⟨#[]⟩, .int .i64 0] 30)
  have hb := ((Blk.new w 30 #[.string p, .int .i64 at']).alloc (.cells #[.int .u8 b, .int .i64 t] 40)).alloc (.cells #[.string ⟨#[]⟩, .int .i64 0] 30)
  have hd := (Blk.new (w.alloc (.cells #[.string p, .int .i64 at'] 30)) 40 #[.int .u8 b, .int .i64 t]).alloc (.cells #[.string ⟨#[]⟩, .int .i64 0] 30)
  have hk := Blk.new ((w.alloc (.cells #[.string p, .int .i64 at'] 30)).alloc (.cells #[.int .u8 b, .int .i64 t] 40)) 30 #[.string ⟨#[]⟩, .int .i64 0]
  rw [World.size_alloc] at hd
  rw [World.size_alloc, World.size_alloc] at hk
  have C1 := Lib.hid (risk_any p at' (((w.alloc (.cells #[.string p, .int .i64 at'] 30)).alloc (.cells #[.int .u8 b, .int .i64 t] 40)).alloc (.cells #[.string ⟨#[]⟩, .int .i64 0] 30)) hs)
  have C3 := Lib.hid (fun W => rtick_any t W)
  cases h1 : isK (L p) at' with
  | false =>
    rw [h1] at C1
    clear h1 hbad C3
    go_enter Tryd.func22, Tryd.ntmps22
    go_wp2_with fail
    refine C1.out.mono ?_
    rintro e w1 ⟨rfl, x1⟩
    clear C1
    have hk1 := hk.nx x1
    obtain ⟨b0, b1, _, _⟩ := blk_cells (hb.nx x1)
    obtain ⟨d0, d1, _, _⟩ := blk_cells (hd.nx x1)
    obtain ⟨k0, k1, f0, f1⟩ := blk_cells hk1
    obtain ⟨r0, r1, _, _⟩ := blk_cells (blk_two (u := .string ⟨#[]⟩) (v := .int .i64 0) hk1)
    have R := Lib.hid (And.intro r0 r1)
    clear r0 r1 hb hd hk hk1
    go_wp2_with fail
    refine bodyPost_ret (v := .tuple #[.agg #[.string ⟨#[]⟩, .int .i64 0], .slice none 0 0, .int .i64 1]) (by simp [results, Tryd.results22, go_sem, R.out.1, R.out.2]) rfl ⟨rfl, ?_⟩
    exact ((n1.trans x1).setCell (p := ⟨w.heap.size + 1 + 1, 0, none⟩) (show w.heap.size ≤ w.heap.size + 1 + 1 by omega) _).setCell (p := ⟨w.heap.size + 1 + 1, 1, none⟩) (show w.heap.size ≤ w.heap.size + 1 + 1 by omega) _
  | true =>
    rw [h1] at C1 hbad
    by_cases hw1 : wait < 1
    · have d1 : decide (wait < 1) = true := decide_eq_true hw1
      clear h1 hbad C3
      go_enter Tryd.func22, Tryd.ntmps22
      go_wp2_with fail
      refine C1.out.mono ?_
      rintro e w1 ⟨rfl, x1⟩
      clear C1
      have hk1 := hk.nx x1
      obtain ⟨b0, b1, _, _⟩ := blk_cells (hb.nx x1)
      obtain ⟨d0, d1, _, _⟩ := blk_cells (hd.nx x1)
      obtain ⟨k0, k1, f0, f1⟩ := blk_cells hk1
      obtain ⟨r0, r1, _, _⟩ := blk_cells (blk_two (u := .string ⟨#[]⟩) (v := .int .i64 0) hk1)
      have R := Lib.hid (And.intro r0 r1)
      clear r0 r1 hb hd hk hk1
      go_wp2_with fail
      refine bodyPost_ret (v := .tuple #[.agg #[.string ⟨#[]⟩, .int .i64 0], .slice none 0 0, .int .i64 1]) (by simp [results, Tryd.results22, go_sem, R.out.1, R.out.2]) rfl ⟨rfl, ?_⟩
      exact ((n1.trans x1).setCell (p := ⟨w.heap.size + 1 + 1, 0, none⟩) (show w.heap.size ≤ w.heap.size + 1 + 1 by omega) _).setCell (p := ⟨w.heap.size + 1 + 1, 1, none⟩) (show w.heap.size ≤ w.heap.size + 1 + 1 by omega) _
    have dw1 : decide (wait < 1) = false := decide_eq_false hw1
    by_cases hw2 : 1000 < wait
    · have d2 : decide (1000 < wait) = true := decide_eq_true hw2
      clear h1 hbad C3
      go_enter Tryd.func22, Tryd.ntmps22
      go_wp2_with fail
      refine C1.out.mono ?_
      rintro e w1 ⟨rfl, x1⟩
      clear C1
      have hk1 := hk.nx x1
      obtain ⟨b0, b1, _, _⟩ := blk_cells (hb.nx x1)
      obtain ⟨d0, d1, _, _⟩ := blk_cells (hd.nx x1)
      obtain ⟨k0, k1, f0, f1⟩ := blk_cells hk1
      obtain ⟨r0, r1, _, _⟩ := blk_cells (blk_two (u := .string ⟨#[]⟩) (v := .int .i64 0) hk1)
      have R := Lib.hid (And.intro r0 r1)
      clear r0 r1 hb hd hk hk1
      go_wp2_with fail
      refine bodyPost_ret (v := .tuple #[.agg #[.string ⟨#[]⟩, .int .i64 0], .slice none 0 0, .int .i64 1]) (by simp [results, Tryd.results22, go_sem, R.out.1, R.out.2]) rfl ⟨rfl, ?_⟩
      exact ((n1.trans x1).setCell (p := ⟨w.heap.size + 1 + 1, 0, none⟩) (show w.heap.size ≤ w.heap.size + 1 + 1 by omega) _).setCell (p := ⟨w.heap.size + 1 + 1, 1, none⟩) (show w.heap.size ≤ w.heap.size + 1 + 1 by omega) _
    have dw2 : decide (1000 < wait) = false := decide_eq_false hw2
    rw [show waitB wait = true by simp [waitB]; omega] at hbad
    cases h3 : tickB t with
    | false =>
      rw [h3] at C3
      clear h1 h3 hbad
      go_enter Tryd.func22, Tryd.ntmps22
      go_wp2_with fail
      refine C1.out.mono ?_
      rintro e w1 ⟨rfl, x1⟩
      clear C1
      have hk1 := hk.nx x1
      obtain ⟨b0, b1, _, _⟩ := blk_cells (hb.nx x1)
      obtain ⟨d0, d1, _, _⟩ := blk_cells (hd.nx x1)
      obtain ⟨k0, k1, f0, f1⟩ := blk_cells hk1
      obtain ⟨r0, r1, _, _⟩ := blk_cells (blk_two (u := .string ⟨#[]⟩) (v := .int .i64 0) hk1)
      have R := Lib.hid (And.intro r0 r1)
      clear r0 r1 hb hd hk hk1
      go_wp2_with fail
      refine (C3.out _).mono ?_
      rintro e w2 ⟨rfl, rfl⟩
      clear C3
      go_wp2_with fail
      refine bodyPost_ret (v := .tuple #[.agg #[.string ⟨#[]⟩, .int .i64 0], .slice none 0 0, .int .i64 1]) (by simp [results, Tryd.results22, go_sem, R.out.1, R.out.2]) rfl ⟨rfl, ?_⟩
      exact ((n1.trans x1).setCell (p := ⟨w.heap.size + 1 + 1, 0, none⟩) (show w.heap.size ≤ w.heap.size + 1 + 1 by omega) _).setCell (p := ⟨w.heap.size + 1 + 1, 1, none⟩) (show w.heap.size ≤ w.heap.size + 1 + 1 by omega) _
    | true =>
      rw [h3] at C3 hbad
      have ht := tickB_t h3
      clear h3
      have hlt : t < at' := by simpa using hbad
      have q1 : decide (t < at') = true := decide_eq_true hlt
      have hp1 : 1 ≤ p.size := by
        rcases Nat.lt_or_ge p.size 1 with g | g
        · obtain rfl := size_nil (show p.size = 0 by omega)
          rw [isK_nil, decide_eq_true_eq] at h1
          omega
        · exact g
      obtain ⟨p1, p2⟩ := str_ne hp1
      clear hbad h1
      go_enter Tryd.func22, Tryd.ntmps22
      go_wp2_with fail
      refine C1.out.mono ?_
      rintro e w1 ⟨rfl, x1⟩
      clear C1
      have hk1 := hk.nx x1
      obtain ⟨b0, b1, _, _⟩ := blk_cells (hb.nx x1)
      obtain ⟨d0, d1, _, _⟩ := blk_cells (hd.nx x1)
      obtain ⟨k0, k1, f0, f1⟩ := blk_cells hk1
      obtain ⟨r0, r1, _, _⟩ := blk_cells (blk_two (u := .string ⟨#[]⟩) (v := .int .i64 0) hk1)
      have R := Lib.hid (And.intro r0 r1)
      clear r0 r1 hb hd hk hk1
      go_wp2_with fail
      refine (C3.out _).mono ?_
      rintro e w2 ⟨rfl, rfl⟩
      clear C3
      go_wp2_with fail
      refine bodyPost_ret (v := .tuple #[.agg #[.string ⟨#[]⟩, .int .i64 0], .slice none 0 0, .int .i64 1]) (by simp [results, Tryd.results22, go_sem, R.out.1, R.out.2]) rfl ⟨rfl, ?_⟩
      exact ((n1.trans x1).setCell (p := ⟨w.heap.size + 1 + 1, 0, none⟩) (show w.heap.size ≤ w.heap.size + 1 + 1 by omega) _).setCell (p := ⟨w.heap.size + 1 + 1, 1, none⟩) (show w.heap.size ≤ w.heap.size + 1 + 1 by omega) _

/-- at the head of the reference's loop -/
def RFR (w : World) (b t : Int) (KS : List KEY) (RR : List UInt8) (S : ByteArray) (ks : List KEY) (v : Value) (wr : World) : Prop :=
  Blk wr (w.heap.size + 1) 40 #[.int .u8 b, .int .i64 t] ∧ Blk wr (w.heap.size + 2) 30 #[.string ⟨#[]⟩, .int .i64 0] ∧
    wr.ownsRow (w.heap.size + 3) 23 2 v ks.length (flatK ks) ∧ KL ks S KS RR ∧ Nx w wr
theorem RFR.step {w : World} {b t : Int} {KS : List KEY} {RR : List UInt8} {S : ByteArray} {ks : List KEY} {v : Value} {wr w1 w2 : World} {o1 o2 : Obj} {g cap : Nat} {ka kb : Int} {n : Nat}
    (h : RFR w b t KS RR S ks v wr) (he : one (L S) = ((ka, kb), n, 0)) (x1 : Nx wr w1)
    (r1 : w2.ownsRow (w.heap.size + 3) 23 2 (.slice (some ⟨g, 0, none⟩) (ks.length + 1) cap) (ks.length + 1) (flatK ks ++ [.int .i64 ka, .int .i32 kb]))
    (r2 : ((w1.alloc o1).alloc o2).grownBy w2 v.ownBlock) :
    RFR w b t KS RR (S.extract n S.size) (ks ++ [(ka, kb)]) (.slice (some ⟨g, 0, none⟩) (ks.length + 1) cap) w2 ∧ (S.extract n S.size).size < S.size := by
  obtain ⟨h2, h3, h4, h5, h6⟩ := h
  obtain ⟨_, _, k3, k4⟩ := KL.step h5 (by rw [he])
  rw [he] at k3 k4
  have hlt := h4.lt
  have hrow : ∀ k, v.ownBlock = some k → w.heap.size + 3 ≤ k := fun k hk => (hlt k hk).1
  have y := (x1.alloc o1).alloc o2
  refine ⟨⟨blk_grown (h2.nx y) r2 hrow (by omega), blk_grown (h3.nx y) r2 hrow (by omega), ?_, k3, ?_⟩, k4⟩
  · rw [List.length_append, List.length_singleton, flatK_snoc]
    exact r1
  · exact (h6.trans y).grown r2 (fun k hk => by have := hrow k hk; omega)

set_option maxRecDepth 100000 in
set_option maxHeartbeats 4000000 in
theorem rfeed_go (p : ByteArray) (at' b t wait : Int) (w : World) (hs : p.size ≤ 1000000) (h1 : isK (L p) at' = true) (h2 : waitB wait = true) (h3 : tickB t = true) (h4 : at' ≤ t)
    (p' : ByteArray) (a' : Int) (k0 : List KEY) (hp : p'.size ≤ 900000) (hk0 : k0.length ≤ 1000000) (CR0 : ∀ W, Calls Tryd.prog 13 #[.agg #[.string p, .int .i64 at'], .int .i64 t, .int .i64 wait] W (RP p' a' k0 W)) :
    Calls Tryd.prog 22 #[.agg #[.string p, .int .i64 at'], .agg #[.int .u8 b, .int .i64 t], .int .i64 wait] w (FP (restOf (L p' ++ [UInt8.ofNat b.toNat])) t (k0 ++ keysOf (L p' ++ [UInt8.ofNat b.toNat])) w) := by
  obtain ⟨i0, hi, hz0, hzs, hz2⟩ := info_parts infoK
  have I0 := Lib.hid (And.intro hi (And.intro hz0 (And.intro hzs hz2)))
  clear hi hz0 hzs hz2
  have n1 := (((Nx.refl w).alloc (.cells #[.string p, .int .i64 at'] 30)).alloc (.cells #[.int .u8 b, .int .i64 t] 40)).alloc (.cells #[.string ⟨#[]⟩, .int .i64 0] 30)
  have hb := ((Blk.new w 30 #[.string p, .int .i64 at']).alloc (.cells #[.int .u8 b, .int .i64 t] 40)).alloc (.cells #[.string ⟨#[]⟩, .int .i64 0] 30)
  have hd := (Blk.new (w.alloc (.cells #[.string p, .int .i64 at'] 30)) 40 #[.int .u8 b, .int .i64 t]).alloc (.cells #[.string ⟨#[]⟩, .int .i64 0] 30)
  have hk := Blk.new ((w.alloc (.cells #[.string p, .int .i64 at'] 30)).alloc (.cells #[.int .u8 b, .int .i64 t] 40)) 30 #[.string ⟨#[]⟩, .int .i64 0]
  rw [World.size_alloc] at hd
  rw [World.size_alloc, World.size_alloc] at hk
  have C1 := Lib.hid (risk_any p at' (((w.alloc (.cells #[.string p, .int .i64 at'] 30)).alloc (.cells #[.int .u8 b, .int .i64 t] 40)).alloc (.cells #[.string ⟨#[]⟩, .int .i64 0] 30)) hs)
  have C3 := Lib.hid (fun W => rtick_any t W)
  have hwt := waitB_t h2
  have dw1 : decide (wait < 1) = false := decide_eq_false (by omega)
  have dw2 : decide (1000 < wait) = false := decide_eq_false (by omega)
  rw [h1] at C1
  rw [h3] at C3
  have CR := Lib.hid CR0
  have q1 : decide (t < at') = false := decide_eq_false (by omega)
  clear h1 h2 h3 CR0
  obtain ⟨l0, hl0⟩ : ∃ l0, L p' ++ [UInt8.ofNat b.toNat] = l0 := ⟨_, rfl⟩
  rw [hl0]
  have HL0 := Lib.hid hl0
  clear hl0
  generalize hKS : k0 ++ keysOf l0 = KS
  generalize hRR : restOf l0 = RR
  have HKS := Lib.hid hKS
  have HRR := Lib.hid hRR
  clear hKS hRR
  rcases Nat.lt_or_ge p.size 1 with hp1 | hp1
  · obtain rfl := size_nil (show p.size = 0 by omega)
    go_enter Tryd.func22, Tryd.ntmps22
    go_wp2_with fail
    refine C1.out.mono ?_
    rintro e w1 ⟨rfl, x1⟩
    clear C1
    obtain ⟨b0, b1, _, _⟩ := blk_cells (hb.nx x1)
    obtain ⟨d0, d1, _, _⟩ := blk_cells (hd.nx x1)
    go_wp2_with fail
    refine (C3.out _).mono ?_
    rintro e w2 ⟨rfl, rfl⟩
    clear C3
    go_wp2_with fail
    refine (CR.out _).mono ?_
    rintro e w2 ⟨A, n, cap, rfl, o2, x2⟩
    clear CR b0 b1 d0 d1
    have hn : k0.length = n := by have := o2.1; rw [flatK_length] at this; omega
    have x12 := (n1.trans x1).trans x2
    have hsz : w.heap.size + 3 ≤ w1.heap.size := by have := x1.size; simp at this; omega
    have hb2 := (hb.nx x1).nx x2
    have hd2 := (hd.nx x1).nx x2
    have hk2 := (hk.nx x1).nx x2
    obtain ⟨b0, b1, f0, f1⟩ := blk_cells hb2
    have hl2 := hk2.lt
    clear x1 x2 hb hd hk n1
    have hb3 := blk_two (u := .string p') (v := .int .i64 a') hb2
    have hd3 := (hd2.far (p := ⟨w.heap.size, 0, none⟩) (show w.heap.size + 1 ≠ w.heap.size by omega) (.string p')).far (p := ⟨w.heap.size, 1, none⟩) (show w.heap.size + 1 ≠ w.heap.size by omega) (.int .i64 a')
    have hk3 := (hk2.far (p := ⟨w.heap.size, 0, none⟩) (show w.heap.size + 1 + 1 ≠ w.heap.size by omega) (.string p')).far (p := ⟨w.heap.size, 1, none⟩) (show w.heap.size + 1 + 1 ≠ w.heap.size by omega) (.int .i64 a')
    have o3 : ((w2.setCell ⟨w.heap.size, 0, none⟩ (.string p')).setCell ⟨w.heap.size, 1, none⟩ (.int .i64 a')).ownsRow (w.heap.size + 3) 23 2 (.slice A n cap) n (flatK k0) :=
      own_keep (own_more o2 hsz) fun g hg _ => (Below.heap_setCell _ ⟨w.heap.size, 1, none⟩ _ g (show g ≠ w.heap.size by omega)).trans (Below.heap_setCell _ ⟨w.heap.size, 0, none⟩ _ g (show g ≠ w.heap.size by omega))
    have x3 := (x12.setCell (p := ⟨w.heap.size, 0, none⟩) (Nat.le_refl _) (.string p')).setCell (p := ⟨w.heap.size, 1, none⟩) (Nat.le_refl _) (.int .i64 a')
    have cv := conv_new ((w2.setCell ⟨w.heap.size, 0, none⟩ (.string p')).setCell ⟨w.heap.size, 1, none⟩ (.int .i64 a')) [b] _ 1 rfl rfl
    simp only [List.map_cons, List.map_nil] at cv
    rw [show ((w2.setCell ⟨w.heap.size, 0, none⟩ (.string p')).setCell ⟨w.heap.size, 1, none⟩ (.int .i64 a')).heap.size = w2.heap.size by simp [World.setCell]] at cv
    have hl1 : L (strOfNums [b]) = [UInt8.ofNat b.toNat] := L_nums [b]
    have hSl : L (p' ++ strOfNums [b]) = l0 := by rw [L_app, hl1, HL0.out]
    have hz1 : (strOfNums [b]).size ≤ 1 := by rw [← L_length, hl1]; simp
    have hSz : (p' ++ strOfNums [b]).size ≤ 1000000 := by rw [ByteArray.size_append]; omega
    generalize strOfNums [b] = B at *
    obtain ⟨e0, _, _, _⟩ := blk_cells hb3
    obtain ⟨d0, _, _, _⟩ := blk_cells hd3
    have hFR : RFR w b t KS RR (p' ++ B) k0 (.slice A n cap) (((w2.setCell ⟨w.heap.size, 0, none⟩ (.string p')).setCell ⟨w.heap.size, 1, none⟩ (.int .i64 a')).alloc (.cells #[.int .u8 b] 5)) := by
      refine ⟨hd3.alloc _, hk3.alloc _, ?_, ⟨?_, ?_, ?_, ?_⟩, x3.alloc _⟩
      · rw [hn]; exact o3.alloc _
      · rw [hSl]; exact HKS.out
      · rw [hSl]; exact HRR.out
      · omega
      · omega
    have HFR := Lib.hid hFR
    clear hFR hb2 hd2 hk2 hb3 hd3 hk3 o2 o3 x3 x12 hn hSl HKS HRR HL0 hl1
    go_wp2_with fail
    go_loopw [9, 10, 11, 12, 13] (fun v x _ _ _ wr => ∃ (S : ByteArray) (ks : List KEY), x = .string S ∧ RFR w b t KS RR S ks v wr) (fun _ x _ _ _ _ => strLen x)
    case atStart => exact ⟨_, _, rfl, HFR.out⟩
    case round =>
      clear HFR b0 b1 f0 f1 e0 d0 cv hl2 hsz hz1 hSz
      obtain ⟨S, ks, rfl, hR⟩ := hrel
      have HR := Lib.hid hR
      obtain ⟨r2, r3, r4, r5, r6⟩ := hR
      have hlen := r5.2.2.1
      have hlen2 := r5.2.2.2
      have hsz := r6.size
      have hl3 := r3.lt
      have CO := Lib.hid (rone_any S wr (by omega))
      rcases one_form (L S) with ⟨ka, kb, m, e, hne⟩ | ⟨e, hne⟩ | ⟨e, hnil⟩
      · obtain ⟨k1, k2, _, _⟩ := KL.step r5 (by rw [e])
        rw [e] at CO k1 k2
        have k1' : 1 ≤ m := k1
        have k2' : m ≤ S.size := k2
        rw [show keyV ((ka, kb), m, 0) = .tuple #[.agg #[.int .i64 ka, .int .i32 kb], .int .i64 m, .int .i64 0] from rfl] at CO
        have E := Lib.hid e
        clear e hne k1 k2 r5
        go_wp2_with fail
        refine CO.out.mono ?_
        rintro e w1 ⟨rfl, x1⟩
        clear CO
        have hs1 := x1.size
        have hO := (own_nx r4 x1).alloc (.cells #[.int .i64 ka, .int .i32 kb] 23)
        clear r2 r3 r4 r6
        have i0' : (0 : Int) ≤ (m : Int) := by omega
        have i1' : (m : Int) ≤ (S.size : Int) := by omega
        go_wp2_with (at_builtin; refine wpList_append_lies _ rfl (.tmp 67) (.tmp 69) _ rfl (w.heap.size + 3) 23 i0 _ 2 16 Tryd.underlying31 I0.out.1 I0.out.2.1 I0.out.2.2.1 I0.out.2.2.2 rfl (by omega) u9 ks.length (flatK ks) rfl (hO.alloc _) ⟨w1.heap.size + 1, 0, none⟩ 1 1 [_, _] rfl rfl (key_new2 _ _ _ _ _) key_one (by omega) (by unfold maxLen; omega) (by omega) ?_ (w1.heap.size + 1 + 1) (by simp) ?_)
        · first | omega | (simp; omega)
        · intro g4 c4 w4 r1 r2 r3 r4
          obtain ⟨hR4, hlt4⟩ := RFR.step HR.out E.out x1 r1 r2
          have HR4 := Lib.hid hR4
          have HLT := Lib.hid hlt4
          clear hR4 hlt4 r1 r2 r3 hO HR E
          go_wp2_with fail
          go_roundw
          case rel => exact ⟨_, _, rfl, HR4.out⟩
          case measure => exact HLT.out
      · obtain ⟨e1, e2⟩ := KL.out r5 (by rw [e]; decide)
        rw [e] at CO
        rw [show keyV ((0, 0), 0, 3) = .tuple #[.agg #[.int .i64 0, .int .i32 0], .int .i64 0, .int .i64 3] from rfl] at CO
        subst e1
        have E2 := Lib.hid e2
        have HNE := Lib.hid hne
        have hS1 : 1 ≤ S.size := by
          rcases Nat.lt_or_ge S.size 1 with g | g
          · exact absurd (List.eq_nil_of_length_eq_zero (by rw [L_length]; omega)) hne
          · exact g
        obtain ⟨sp1, sp2⟩ := str_ne hS1
        clear e hne e2 r5
        obtain ⟨A4, cap4, rfl⟩ := own_form r4
        go_wp2_with fail
        refine CO.out.mono ?_
        rintro e w1 ⟨rfl, x1⟩
        clear CO
        have hB := (r2.nx x1).alloc (.cells #[.int .i64 0, .int .i32 0] 23)
        have hK := (r3.nx x1).alloc (.cells #[.int .i64 0, .int .i32 0] 23)
        obtain ⟨c0', c1', _, _⟩ := blk_cells hB
        obtain ⟨t0, t1, g0, g1⟩ := blk_cells hK
        obtain ⟨s0, s1, _, _⟩ := blk_cells ((blk_two (u := .string S) (v := .int .i64 t) (r3.nx x1)).alloc (.cells #[.int .i64 0, .int .i32 0] 23))
        obtain ⟨t0', t1', g0', g1'⟩ := blk_cells (r3.nx x1)
        have RR' := Lib.hid (And.intro s0 s1)
        have hO := Lib.hid (own_nx r4 x1)
        have hN := Lib.hid (r6.trans x1)
        have hl1 := (r3.nx x1).lt
        have hs1 := x1.size
        clear s0 s1 hB hK r2 r3 r4 r6 x1 HR
        go_wp2_with fail
        refine bodyPost_ret (v := .tuple #[.agg #[.string S, .int .i64 t], .slice A4 ks.length cap4, .int .i64 0]) (by simp [results, Tryd.results22, go_sem, RR'.out.1, RR'.out.2]) rfl ⟨A4, ks.length, cap4, ?_, ?_, ?_⟩
        · rw [← E2.out, mkK_L, if_neg HNE.out]
        · exact own_more (World.ownsRow.alloc (own_keep hO.out fun g hg _ => (Below.heap_setCell _ ⟨w.heap.size + 2, 1, none⟩ _ g (show g ≠ w.heap.size + 2 by omega)).trans (Below.heap_setCell _ ⟨w.heap.size + 2, 0, none⟩ _ g (show g ≠ w.heap.size + 2 by omega))) _) (by omega)
        · exact ((hN.out.setCell (p := ⟨w.heap.size + 2, 0, none⟩) (show w.heap.size ≤ w.heap.size + 2 by omega) _).setCell (p := ⟨w.heap.size + 2, 1, none⟩) (show w.heap.size ≤ w.heap.size + 2 by omega) _).alloc _
      · obtain ⟨e1, e2⟩ := KL.out r5 (by rw [e]; decide)
        rw [e] at CO
        rw [show keyV ((0, 0), 0, 6) = .tuple #[.agg #[.int .i64 0, .int .i32 0], .int .i64 0, .int .i64 6] from rfl] at CO
        subst e1
        have E2 := Lib.hid (e2.symm.trans hnil)
        obtain rfl : S = ⟨#[]⟩ := L_inj hnil
        clear e e2 r5 hnil
        obtain ⟨A4, cap4, rfl⟩ := own_form r4
        go_wp2_with fail
        refine CO.out.mono ?_
        rintro e w1 ⟨rfl, x1⟩
        clear CO
        have hK := (r3.nx x1).alloc (.cells #[.int .i64 0, .int .i32 0] 23)
        obtain ⟨t0, t1, g0, g1⟩ := blk_cells hK
        obtain ⟨s0, s1, _, _⟩ := blk_cells ((blk_two (u := .string ⟨#[]⟩) (v := .int .i64 0) (r3.nx x1)).alloc (.cells #[.int .i64 0, .int .i32 0] 23))
        obtain ⟨t0', t1', g0', g1'⟩ := blk_cells (r3.nx x1)
        have RR' := Lib.hid (And.intro s0 s1)
        have hO := Lib.hid (own_nx r4 x1)
        have hN := Lib.hid (r6.trans x1)
        have hl1 := (r3.nx x1).lt
        have hs1 := x1.size
        clear s0 s1 hK r2 r3 r4 r6 x1 HR
        go_wp2_with fail
        refine bodyPost_ret (v := .tuple #[.agg #[.string ⟨#[]⟩, .int .i64 0], .slice A4 ks.length cap4, .int .i64 0]) (by simp [results, Tryd.results22, go_sem, RR'.out.1, RR'.out.2]) rfl ⟨A4, ks.length, cap4, ?_, ?_, ?_⟩
        · rw [E2.out, if_pos rfl]; rfl
        · exact own_more (World.ownsRow.alloc (own_keep hO.out fun g hg _ => (Below.heap_setCell _ ⟨w.heap.size + 2, 1, none⟩ _ g (show g ≠ w.heap.size + 2 by omega)).trans (Below.heap_setCell _ ⟨w.heap.size + 2, 0, none⟩ _ g (show g ≠ w.heap.size + 2 by omega))) _) (by omega)
        · exact ((hN.out.setCell (p := ⟨w.heap.size + 2, 0, none⟩) (show w.heap.size ≤ w.heap.size + 2 by omega) _).setCell (p := ⟨w.heap.size + 2, 1, none⟩) (show w.heap.size ≤ w.heap.size + 2 by omega) _).alloc _
  · obtain ⟨pp1, pp2⟩ := str_ne hp1
    go_enter Tryd.func22, Tryd.ntmps22
    go_wp2_with fail
    refine C1.out.mono ?_
    rintro e w1 ⟨rfl, x1⟩
    clear C1
    obtain ⟨b0, b1, _, _⟩ := blk_cells (hb.nx x1)
    obtain ⟨d0, d1, _, _⟩ := blk_cells (hd.nx x1)
    go_wp2_with fail
    refine (C3.out _).mono ?_
    rintro e w2 ⟨rfl, rfl⟩
    clear C3
    go_wp2_with fail
    refine (CR.out _).mono ?_
    rintro e w2 ⟨A, n, cap, rfl, o2, x2⟩
    clear CR b0 b1 d0 d1
    have hn : k0.length = n := by have := o2.1; rw [flatK_length] at this; omega
    have x12 := (n1.trans x1).trans x2
    have hsz : w.heap.size + 3 ≤ w1.heap.size := by have := x1.size; simp at this; omega
    have hb2 := (hb.nx x1).nx x2
    have hd2 := (hd.nx x1).nx x2
    have hk2 := (hk.nx x1).nx x2
    obtain ⟨b0, b1, f0, f1⟩ := blk_cells hb2
    have hl2 := hk2.lt
    clear x1 x2 hb hd hk n1
    have hb3 := blk_two (u := .string p') (v := .int .i64 a') hb2
    have hd3 := (hd2.far (p := ⟨w.heap.size, 0, none⟩) (show w.heap.size + 1 ≠ w.heap.size by omega) (.string p')).far (p := ⟨w.heap.size, 1, none⟩) (show w.heap.size + 1 ≠ w.heap.size by omega) (.int .i64 a')
    have hk3 := (hk2.far (p := ⟨w.heap.size, 0, none⟩) (show w.heap.size + 1 + 1 ≠ w.heap.size by omega) (.string p')).far (p := ⟨w.heap.size, 1, none⟩) (show w.heap.size + 1 + 1 ≠ w.heap.size by omega) (.int .i64 a')
    have o3 : ((w2.setCell ⟨w.heap.size, 0, none⟩ (.string p')).setCell ⟨w.heap.size, 1, none⟩ (.int .i64 a')).ownsRow (w.heap.size + 3) 23 2 (.slice A n cap) n (flatK k0) :=
      own_keep (own_more o2 hsz) fun g hg _ => (Below.heap_setCell _ ⟨w.heap.size, 1, none⟩ _ g (show g ≠ w.heap.size by omega)).trans (Below.heap_setCell _ ⟨w.heap.size, 0, none⟩ _ g (show g ≠ w.heap.size by omega))
    have x3 := (x12.setCell (p := ⟨w.heap.size, 0, none⟩) (Nat.le_refl _) (.string p')).setCell (p := ⟨w.heap.size, 1, none⟩) (Nat.le_refl _) (.int .i64 a')
    have cv := conv_new ((w2.setCell ⟨w.heap.size, 0, none⟩ (.string p')).setCell ⟨w.heap.size, 1, none⟩ (.int .i64 a')) [b] _ 1 rfl rfl
    simp only [List.map_cons, List.map_nil] at cv
    rw [show ((w2.setCell ⟨w.heap.size, 0, none⟩ (.string p')).setCell ⟨w.heap.size, 1, none⟩ (.int .i64 a')).heap.size = w2.heap.size by simp [World.setCell]] at cv
    have hl1 : L (strOfNums [b]) = [UInt8.ofNat b.toNat] := L_nums [b]
    have hSl : L (p' ++ strOfNums [b]) = l0 := by rw [L_app, hl1, HL0.out]
    have hz1 : (strOfNums [b]).size ≤ 1 := by rw [← L_length, hl1]; simp
    have hSz : (p' ++ strOfNums [b]).size ≤ 1000000 := by rw [ByteArray.size_append]; omega
    generalize strOfNums [b] = B at *
    obtain ⟨e0, _, _, _⟩ := blk_cells hb3
    obtain ⟨d0, _, _, _⟩ := blk_cells hd3
    have hFR : RFR w b t KS RR (p' ++ B) k0 (.slice A n cap) (((w2.setCell ⟨w.heap.size, 0, none⟩ (.string p')).setCell ⟨w.heap.size, 1, none⟩ (.int .i64 a')).alloc (.cells #[.int .u8 b] 5)) := by
      refine ⟨hd3.alloc _, hk3.alloc _, ?_, ⟨?_, ?_, ?_, ?_⟩, x3.alloc _⟩
      · rw [hn]; exact o3.alloc _
      · rw [hSl]; exact HKS.out
      · rw [hSl]; exact HRR.out
      · omega
      · omega
    have HFR := Lib.hid hFR
    clear hFR hb2 hd2 hk2 hb3 hd3 hk3 o2 o3 x3 x12 hn hSl HKS HRR HL0 hl1
    go_wp2_with fail
    go_loopw [9, 10, 11, 12, 13] (fun v x _ _ _ wr => ∃ (S : ByteArray) (ks : List KEY), x = .string S ∧ RFR w b t KS RR S ks v wr) (fun _ x _ _ _ _ => strLen x)
    case atStart => exact ⟨_, _, rfl, HFR.out⟩
    case round =>
      clear HFR b0 b1 f0 f1 e0 d0 cv hl2 hsz hz1 hSz
      obtain ⟨S, ks, rfl, hR⟩ := hrel
      have HR := Lib.hid hR
      obtain ⟨r2, r3, r4, r5, r6⟩ := hR
      have hlen := r5.2.2.1
      have hlen2 := r5.2.2.2
      have hsz := r6.size
      have hl3 := r3.lt
      have CO := Lib.hid (rone_any S wr (by omega))
      rcases one_form (L S) with ⟨ka, kb, m, e, hne⟩ | ⟨e, hne⟩ | ⟨e, hnil⟩
      · obtain ⟨k1, k2, _, _⟩ := KL.step r5 (by rw [e])
        rw [e] at CO k1 k2
        have k1' : 1 ≤ m := k1
        have k2' : m ≤ S.size := k2
        rw [show keyV ((ka, kb), m, 0) = .tuple #[.agg #[.int .i64 ka, .int .i32 kb], .int .i64 m, .int .i64 0] from rfl] at CO
        have E := Lib.hid e
        clear e hne k1 k2 r5
        go_wp2_with fail
        refine CO.out.mono ?_
        rintro e w1 ⟨rfl, x1⟩
        clear CO
        have hs1 := x1.size
        have hO := (own_nx r4 x1).alloc (.cells #[.int .i64 ka, .int .i32 kb] 23)
        clear r2 r3 r4 r6
        have i0' : (0 : Int) ≤ (m : Int) := by omega
        have i1' : (m : Int) ≤ (S.size : Int) := by omega
        go_wp2_with (at_builtin; refine wpList_append_lies _ rfl (.tmp 67) (.tmp 69) _ rfl (w.heap.size + 3) 23 i0 _ 2 16 Tryd.underlying31 I0.out.1 I0.out.2.1 I0.out.2.2.1 I0.out.2.2.2 rfl (by omega) u9 ks.length (flatK ks) rfl (hO.alloc _) ⟨w1.heap.size + 1, 0, none⟩ 1 1 [_, _] rfl rfl (key_new2 _ _ _ _ _) key_one (by omega) (by unfold maxLen; omega) (by omega) ?_ (w1.heap.size + 1 + 1) (by simp) ?_)
        · first | omega | (simp; omega)
        · intro g4 c4 w4 r1 r2 r3 r4
          obtain ⟨hR4, hlt4⟩ := RFR.step HR.out E.out x1 r1 r2
          have HR4 := Lib.hid hR4
          have HLT := Lib.hid hlt4
          clear hR4 hlt4 r1 r2 r3 hO HR E
          go_wp2_with fail
          go_roundw
          case rel => exact ⟨_, _, rfl, HR4.out⟩
          case measure => exact HLT.out
      · obtain ⟨e1, e2⟩ := KL.out r5 (by rw [e]; decide)
        rw [e] at CO
        rw [show keyV ((0, 0), 0, 3) = .tuple #[.agg #[.int .i64 0, .int .i32 0], .int .i64 0, .int .i64 3] from rfl] at CO
        subst e1
        have E2 := Lib.hid e2
        have HNE := Lib.hid hne
        have hS1 : 1 ≤ S.size := by
          rcases Nat.lt_or_ge S.size 1 with g | g
          · exact absurd (List.eq_nil_of_length_eq_zero (by rw [L_length]; omega)) hne
          · exact g
        obtain ⟨sp1, sp2⟩ := str_ne hS1
        clear e hne e2 r5
        obtain ⟨A4, cap4, rfl⟩ := own_form r4
        go_wp2_with fail
        refine CO.out.mono ?_
        rintro e w1 ⟨rfl, x1⟩
        clear CO
        have hB := (r2.nx x1).alloc (.cells #[.int .i64 0, .int .i32 0] 23)
        have hK := (r3.nx x1).alloc (.cells #[.int .i64 0, .int .i32 0] 23)
        obtain ⟨c0', c1', _, _⟩ := blk_cells hB
        obtain ⟨t0, t1, g0, g1⟩ := blk_cells hK
        obtain ⟨s0, s1, _, _⟩ := blk_cells ((blk_two (u := .string S) (v := .int .i64 t) (r3.nx x1)).alloc (.cells #[.int .i64 0, .int .i32 0] 23))
        obtain ⟨t0', t1', g0', g1'⟩ := blk_cells (r3.nx x1)
        have RR' := Lib.hid (And.intro s0 s1)
        have hO := Lib.hid (own_nx r4 x1)
        have hN := Lib.hid (r6.trans x1)
        have hl1 := (r3.nx x1).lt
        have hs1 := x1.size
        clear s0 s1 hB hK r2 r3 r4 r6 x1 HR
        go_wp2_with fail
        refine bodyPost_ret (v := .tuple #[.agg #[.string S, .int .i64 t], .slice A4 ks.length cap4, .int .i64 0]) (by simp [results, Tryd.results22, go_sem, RR'.out.1, RR'.out.2]) rfl ⟨A4, ks.length, cap4, ?_, ?_, ?_⟩
        · rw [← E2.out, mkK_L, if_neg HNE.out]
        · exact own_more (World.ownsRow.alloc (own_keep hO.out fun g hg _ => (Below.heap_setCell _ ⟨w.heap.size + 2, 1, none⟩ _ g (show g ≠ w.heap.size + 2 by omega)).trans (Below.heap_setCell _ ⟨w.heap.size + 2, 0, none⟩ _ g (show g ≠ w.heap.size + 2 by omega))) _) (by omega)
        · exact ((hN.out.setCell (p := ⟨w.heap.size + 2, 0, none⟩) (show w.heap.size ≤ w.heap.size + 2 by omega) _).setCell (p := ⟨w.heap.size + 2, 1, none⟩) (show w.heap.size ≤ w.heap.size + 2 by omega) _).alloc _
      · obtain ⟨e1, e2⟩ := KL.out r5 (by rw [e]; decide)
        rw [e] at CO
        rw [show keyV ((0, 0), 0, 6) = .tuple #[.agg #[.int .i64 0, .int .i32 0], .int .i64 0, .int .i64 6] from rfl] at CO
        subst e1
        have E2 := Lib.hid (e2.symm.trans hnil)
        obtain rfl : S = ⟨#[]⟩ := L_inj hnil
        clear e e2 r5 hnil
        obtain ⟨A4, cap4, rfl⟩ := own_form r4
        go_wp2_with fail
        refine CO.out.mono ?_
        rintro e w1 ⟨rfl, x1⟩
        clear CO
        have hK := (r3.nx x1).alloc (.cells #[.int .i64 0, .int .i32 0] 23)
        obtain ⟨t0, t1, g0, g1⟩ := blk_cells hK
        obtain ⟨s0, s1, _, _⟩ := blk_cells ((blk_two (u := .string ⟨#[]⟩) (v := .int .i64 0) (r3.nx x1)).alloc (.cells #[.int .i64 0, .int .i32 0] 23))
        obtain ⟨t0', t1', g0', g1'⟩ := blk_cells (r3.nx x1)
        have RR' := Lib.hid (And.intro s0 s1)
        have hO := Lib.hid (own_nx r4 x1)
        have hN := Lib.hid (r6.trans x1)
        have hl1 := (r3.nx x1).lt
        have hs1 := x1.size
        clear s0 s1 hK r2 r3 r4 r6 x1 HR
        go_wp2_with fail
        refine bodyPost_ret (v := .tuple #[.agg #[.string ⟨#[]⟩, .int .i64 0], .slice A4 ks.length cap4, .int .i64 0]) (by simp [results, Tryd.results22, go_sem, RR'.out.1, RR'.out.2]) rfl ⟨A4, ks.length, cap4, ?_, ?_, ?_⟩
        · rw [E2.out, if_pos rfl]; rfl
        · exact own_more (World.ownsRow.alloc (own_keep hO.out fun g hg _ => (Below.heap_setCell _ ⟨w.heap.size + 2, 1, none⟩ _ g (show g ≠ w.heap.size + 2 by omega)).trans (Below.heap_setCell _ ⟨w.heap.size + 2, 0, none⟩ _ g (show g ≠ w.heap.size + 2 by omega))) _) (by omega)
        · exact ((hN.out.setCell (p := ⟨w.heap.size + 2, 0, none⟩) (show w.heap.size ≤ w.heap.size + 2 by omega) _).setCell (p := ⟨w.heap.size + 2, 1, none⟩) (show w.heap.size ≤ w.heap.size + 2 by omega) _).alloc _
end Go.Proofs.YtmfccecjphfkiaaDoor.walk
