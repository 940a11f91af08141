/-
  The walk of the law KeysStays: it returns true for every input. No condition but the library's two tables.
-/
import Derived.Test.YtmfccecjphfkiaaDoorWalk16p
namespace Go.Proofs.YtmfccecjphfkiaaDoor.walk
open Go.RowKit Go.Proofs.YtmfccecjphfkiaaDoor.kit Go.Proofs.YtmfccecjphfkiaaDoor.plain
set_option linter.unusedVariables false

set_option maxRecDepth 100000 in
set_option maxHeartbeats 4000000 in
theorem keysStays_walk (w : World) (hT : TB w) (A : Option Addr) (n cap : Nat) (l : List (Int × Int)) (hw : StIn w A n l ∧ n ≤ cap ∧ cap ≤ maxLen) (wait : Int) (wf2 : (Lit.int .i64 wait).wf = true) :
    Calls Tryd.prog 6 #[.slice A n cap, .int .i64 wait] w fun e w' => e = .returned (.bool true) ∧ Below w.heap.size w w' := by
  obtain ⟨hz, hnc, hcm⟩ := hw
  clear wf2 hnc hcm
  by_cases hn : 300 < n
  · have d1 : decide ((300 : Int) < (n : Int)) = true := decide_eq_true (by omega)
    clear hz
    go_enter Tryd.func6, Tryd.ntmps6
    go_wp2_with fail
    go_ret
    exact ⟨rfl, Nx.refl _⟩
  have d1 : decide ((300 : Int) < (n : Int)) = false := decide_eq_false (by omega)
  have HZ := Lib.hid hz
  clear hz
  go_enter Tryd.func6, Tryd.ntmps6
  go_wp2_with fail
  go_loopw [6, 7, 8, 9] (fun i _ _ _ wr => ∃ (k : Nat) (P : ByteArray) (t : Int), k ≤ n ∧ i = .int .i64 k ∧ Blk wr w.heap.size 30 #[.string P, .int .i64 t] ∧ isK (L P) t = true ∧ Nx w wr) (fun i _ _ _ _ => n - (intOf i).toNat)
  case atStart => exact ⟨0, ⟨#[]⟩, 0, Nat.zero_le _, rfl, Blk.new _ _ _, rfl, (Nx.refl _).alloc _⟩
  case round =>
    obtain ⟨k, P, t, hk, rfl, hB, hI, hN⟩ := hrel
    have hsz := hB.lt
    have hP : P.size ≤ 10 := by have := isK_len hI; rwa [L_length] at this
    by_cases hlt : k < n
    · have q1 : decide ((k : Int) < (n : Int)) = true := decide_eq_true (by omega)
      have q1' : decide (k < n) = true := decide_eq_true hlt
      obtain ⟨b, off, rfl, hlb, hc0, hc1⟩ := HZ.out.at_ hlt
      have hd0 := (hN.cell (p := ⟨b, off + k * 2, none⟩) hlb).trans hc0
      have hd1 := (hN.cell (p := ⟨b, off + k * 2 + 1, none⟩) hlb).trans hc1
      clear hc0 hc1
      have hi0 : (0 : Int) ≤ (k : Int) := by omega
      have hi1 : (k : Int) < (n : Int) := by omega
      generalize (qth l k).1 = B at hd0
      generalize (qth l k).2 = T at hd1
      have hbw : b < wr.heap.size := Nat.lt_of_lt_of_le hlb hN.size
      have HS : ∀ W, Nx wr W → W.cell? ⟨w.heap.size, 0, none⟩ = some (.string P) ∧ W.cell? ⟨w.heap.size, 1, none⟩ = some (.int .i64 t) ∧ W.cell? ⟨b, off + k * 2, none⟩ = some (.int .u8 B) ∧ W.cell? ⟨b, off + k * 2 + 1, none⟩ = some (.int .i64 T) := fun W hW => by
        have e1 := hB.nx hW
        exact ⟨(blk_cells e1).1, (blk_cells e1).2.1, (hW.cell (p := ⟨b, off + k * 2, none⟩) hbw).trans hd0, (hW.cell (p := ⟨b, off + k * 2 + 1, none⟩) hbw).trans hd1⟩
      have HS' := Lib.hid HS
      clear HS
      have HI := Lib.hid hI
      clear hI
      have nd : Nx w (wr.alloc (.cells #[.string ⟨#[]⟩, .int .i64 0] 30)).drew := (hN.alloc _).drew
      have nd' : Nx wr (wr.alloc (.cells #[.string ⟨#[]⟩, .int .i64 0] 30)).drew := ((Nx.refl wr).alloc _).drew
      rcases feed_res P t B T wait (by omega) with c1 | ⟨q, a, ks, c1, hq, hqa⟩
      · have C1 := Lib.hid c1
        clear c1
        go_upto_region 7 with fail
        go_cut [7, 8, 9] (fun s7 s8 s9 wx => s9 = .int .i64 1 ∧ Nx wr wx)
        case first =>
          obtain ⟨z0, z1, z2, z3⟩ := HS'.out _ (Nx.drew (Nx.refl wr))
          go_region_held3 (fun W => W.cell? ⟨w.heap.size, 0, none⟩ = some (.string P) ∧ W.cell? ⟨w.heap.size, 1, none⟩ = some (.int .i64 t) ∧ W.cell? ⟨b, off + k * 2, none⟩ = some (.int .u8 B) ∧ W.cell? ⟨b, off + k * 2 + 1, none⟩ = some (.int .i64 T))
            (first | exact HS'.out _ m1 | exact HS'.out _ (Nx.alloc m1 _) | exact HS'.out _ m2 | exact HS'.out _ (Nx.setCell (Nx.setCell m2 (p := ⟨wr.heap.size, 0, none⟩) (Nat.le_refl _) _) (p := ⟨wr.heap.size, 1, none⟩) (Nat.le_refl _) _) | exact HS'.out _ nd' | exact HS'.out _ (Nx.drew (Nx.refl wr)) | go_keep)
            (first | (go_at_call 21; refine (C1.out _ (hT.nx nd)).mono ?_; rintro e vv ⟨rfl, m3⟩; have m2 := nd'.trans m3; obtain ⟨f0, f1, f2, f3⟩ := blk_cells ((Blk.new wr 30 #[.string ⟨#[]⟩, .int .i64 0]).drew.nx m3)) | (go_at_call 21; refine (C1.out _ (hT.nx hN.drew)).mono ?_; rintro e vv ⟨rfl, m3⟩; have m1 := ((Nx.refl wr).drew).trans m3))
          · go_wp2_with fail
            go_meet
            case rel => exact ⟨rfl, m1.alloc _⟩
          · go_wp2_with fail
            go_meet
            case rel => exact ⟨rfl, (m2.setCell (p := ⟨wr.heap.size, 0, none⟩) (Nat.le_refl _) _).setCell (p := ⟨wr.heap.size, 1, none⟩) (Nat.le_refl _) _⟩
        case rest =>
          obtain ⟨rfl, hx⟩ := hcut
          have hB2 := hB.nx hx
          have hN2 := hN.trans hx
          clear hB hN hx HS' C1 nd nd'
          go_wp2_with fail
          go_roundw
          case rel => exact ⟨k + 1, P, t, by omega, by go_num, hB2, HI.out, hN2⟩
          case measure => simp [intOf]; omega
      · have C1 := Lib.hid c1
        have CI := isk_any q a
        have hq10 : q.size ≤ 10 := by have := isK_len hq; rwa [L_length] at this
        rw [hq] at CI
        have HI2 := Lib.hid hq
        have CI' := Lib.hid (fun W hW => CI W hW (by omega))
        have HQ := Lib.hid hqa
        clear c1 CI hq hqa
        go_upto_region 7 with fail
        go_cut [7, 8, 9] (fun s7 s8 s9 wx => ∃ g, s7 = .pointer (some ⟨g, 0, none⟩) ∧ s9 = .int .i64 0 ∧ Blk wx g 30 #[.string q, .int .i64 a] ∧ wr.heap.size ≤ g ∧ Nx wr wx)
        case first =>
          clear HQ CI'
          obtain ⟨z0, z1, z2, z3⟩ := HS'.out _ (Nx.drew (Nx.refl wr))
          go_region_held3 (fun W => W.cell? ⟨w.heap.size, 0, none⟩ = some (.string P) ∧ W.cell? ⟨w.heap.size, 1, none⟩ = some (.int .i64 t) ∧ W.cell? ⟨b, off + k * 2, none⟩ = some (.int .u8 B) ∧ W.cell? ⟨b, off + k * 2 + 1, none⟩ = some (.int .i64 T))
            (first | exact HS'.out _ m1 | exact HS'.out _ (Nx.alloc m1 _) | exact HS'.out _ m2 | exact HS'.out _ (Nx.setCell (Nx.setCell m2 (p := ⟨wr.heap.size, 0, none⟩) (Nat.le_refl _) _) (p := ⟨wr.heap.size, 1, none⟩) (Nat.le_refl _) _) | exact HS'.out _ nd' | exact HS'.out _ (Nx.drew (Nx.refl wr)) | go_keep)
            (first | (go_at_call 21; refine (C1.out _ (hT.nx nd)).mono ?_; rintro e vv ⟨A1, mm, cap1, rfl, i1, l1, m3⟩; have m2 := nd'.trans m3; obtain ⟨f0, f1, f2, f3⟩ := blk_cells ((Blk.new wr 30 #[.string ⟨#[]⟩, .int .i64 0]).drew.nx m3)) | (go_at_call 21; refine (C1.out _ (hT.nx hN.drew)).mono ?_; rintro e vv ⟨A1, mm, cap1, rfl, i1, l1, m3⟩; have m1 := ((Nx.refl wr).drew).trans m3))
          · have m3 := m1.size
            have hG := Blk.new vv 30 #[.string q, .int .i64 a]
            have HG := Lib.hid hG
            clear hG
            go_wp2_with fail
            go_meet
            case rel => exact ⟨vv.heap.size, rfl, rfl, HG.out, m3, m1.alloc _⟩
          · have hG := blk_two (u := .string q) (v := .int .i64 a) ((Blk.new wr 30 #[.string ⟨#[]⟩, .int .i64 0]).drew.nx m3)
            have HG := Lib.hid hG
            clear hG
            go_wp2_with fail
            go_meet
            case rel => exact ⟨wr.heap.size, rfl, rfl, HG.out, Nat.le_refl _, (m2.setCell (p := ⟨wr.heap.size, 0, none⟩) (Nat.le_refl _) _).setCell (p := ⟨wr.heap.size, 1, none⟩) (Nat.le_refl _) _⟩
        case rest =>
          obtain ⟨g, rfl, rfl, hG, hg, hx⟩ := hcut
          have hB2 := hB.nx hx
          have hN2 := hN.trans hx
          have hT2 := (HS'.out _ hx).2.2.2
          have hbc : b < wc.heap.size := Nat.lt_of_lt_of_le hbw hx.size
          clear hB hN hx HS' C1 nd nd'
          have v1 := fun d os => Calls.regrown_of (w := wc) (d := d) (os := os) (CI'.out _ (hT.nx (hN2.trans (below_regrown wc d os))))
          have a2 : ∀ d os, (Sort.grow (redrawn wc d) os).cell? ⟨b, off + k * 2 + 1, none⟩ = some (.int .i64 T) := cell_regrown hT2
          obtain ⟨g0, g1, _, _⟩ := blk_cells hG
          rcases HQ.out with ⟨rfl, rfl⟩ | ⟨hq1, rfl⟩
          · have a0 : ∀ d os, (Sort.grow (redrawn wc d) os).cell? ⟨g, 0, none⟩ = some (.string ⟨#[]⟩) := cell_regrown g0
            have a1 : ∀ d os, (Sort.grow (redrawn wc d) os).cell? ⟨g, 1, none⟩ = some (.int .i64 0) := cell_regrown g1
            go_wp2_with fail
            refine wp_region_quiet_below (by kernel_rfl) (by kernel_rfl) ?_
            repeat (go_big_quiet_step (first | with_reducible exact v1 _ _))
            refine wpQuiet_nil ?_
            intro _ hw'
            obtain ⟨⟨dq, osq⟩, hw''⟩ := hw'
            subst hw''
            have hx2 := below_regrown wc dq osq
            generalize Sort.grow (redrawn wc dq) osq = V at *
            clear a0 a1 a2 v1 g0 g1
            have hB3 := hB2.nx hx2
            obtain ⟨g0, g1, _, _⟩ := blk_cells (hG.nx hx2)
            obtain ⟨p0, p1, p2, p3⟩ := blk_cells hB3
            have hB4 := blk_two (u := .string ⟨#[]⟩) (v := .int .i64 0) hB3
            have hN4 := (Nx.setCell (hN2.trans hx2) (p := ⟨w.heap.size, 0, none⟩) (Nat.le_refl _) (.string ⟨#[]⟩)).setCell (p := ⟨w.heap.size, 1, none⟩) (Nat.le_refl _) (.int .i64 0)
            have HB4 := Lib.hid hB4
            clear hB4 hB3 hB2 hG hN2 hx2
            go_wp2_with fail
            go_roundw
            case rel => exact ⟨k + 1, _, _, by omega, by go_num, HB4.out, HI2.out, hN4⟩
            case measure => simp [intOf]; omega
          · have a0 : ∀ d os, (Sort.grow (redrawn wc d) os).cell? ⟨g, 0, none⟩ = some (.string q) := cell_regrown g0
            have a1 : ∀ d os, (Sort.grow (redrawn wc d) os).cell? ⟨g, 1, none⟩ = some (.int .i64 a) := cell_regrown g1
            obtain ⟨sp1, sp2⟩ := str_ne hq1
            have sz : decide ((10 : Int) < (q.size : Int)) = false := decide_eq_false (by omega)
            have se : (a != a) = false := by simp
            go_wp2_with fail
            refine wp_region_quiet_below (by kernel_rfl) (by kernel_rfl) ?_
            repeat (go_big_quiet_step (first | with_reducible exact v1 _ _))
            refine wpQuiet_nil ?_
            intro _ hw'
            obtain ⟨⟨dq, osq⟩, hw''⟩ := hw'
            subst hw''
            have hx2 := below_regrown wc dq osq
            generalize Sort.grow (redrawn wc dq) osq = V at *
            clear a0 a1 a2 v1 g0 g1
            have hB3 := hB2.nx hx2
            obtain ⟨g0, g1, _, _⟩ := blk_cells (hG.nx hx2)
            obtain ⟨p0, p1, p2, p3⟩ := blk_cells hB3
            have hB4 := blk_two (u := .string q) (v := .int .i64 a) hB3
            have hN4 := (Nx.setCell (hN2.trans hx2) (p := ⟨w.heap.size, 0, none⟩) (Nat.le_refl _) (.string q)).setCell (p := ⟨w.heap.size, 1, none⟩) (Nat.le_refl _) (.int .i64 a)
            have HB4 := Lib.hid hB4
            clear hB4 hB3 hB2 hG hN2 hx2
            go_wp2_with fail
            go_roundw
            case rel => exact ⟨k + 1, _, _, by omega, by go_num, HB4.out, HI2.out, hN4⟩
            case measure => simp [intOf]; omega
    · obtain rfl : k = n := by omega
      have q1 : decide ((k : Int) < (k : Int)) = false := decide_eq_false (by omega)
      have q1' : decide (k < k) = false := decide_eq_false (by omega)
      clear hB
      go_wp2_with fail
      refine (keyed_any _ (hT.nx hN)).mono ?_
      rintro e w9 ⟨rfl, x9⟩
      go_wp2_with fail
      go_ret
      exact ⟨rfl, hN.trans x9⟩
end Go.Proofs.YtmfccecjphfkiaaDoor.walk
