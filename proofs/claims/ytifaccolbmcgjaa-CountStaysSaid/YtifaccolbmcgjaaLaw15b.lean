/-
  The walk of the law CountStays: it returns true for every input. No condition.
-/
import Derived.Test.YtifaccolbmcgjaaWalk15e
import Derived.Test.YtifaccolbmcgjaaOpen15
import Derived.RegionTactic
namespace Go.Proofs.Ytifaccolbmcgjaa.walk
open Go.RowKit Go.Proofs.Ytifaccolbmcgjaa.kit Go.Proofs.Ytifaccolbmcgjaa.plain
set_option linter.unusedVariables false

theorem open_box {w W : World} {g : Nat} {t : TypeId} {x y z : Value} (h : Blk W g t #[x, y, z]) : W.cell? ⟨g, 0, none⟩ = some x ∧ W.cell? ⟨g, 1, none⟩ = some y ∧ W.cell? ⟨g, 2, none⟩ = some z := ⟨h.cell 0, h.cell 1, h.cell 2⟩

theorem digit_one (h g : Bool) (n x : Int) (W : World) : Calls Try.prog 8 #[.agg #[.bool h, .bool g, .int .i64 n], .slice (some ⟨W.heap.size, 0, none⟩) 1 1] (W.alloc (.cells #[.int .i64 x] 3)).drew
    fun e w' => e = .returned (.agg #[.bool (digH h g n [x]), .bool g, .int .i64 (digN h g n [x])]) ∧ Nx (W.alloc (.cells #[.int .i64 x] 3)).drew w' :=
  digit_at h g n W.heap.size 1 1 [x] _ rfl (by simp [World.drew]) (fun j hj => by
    match j, hj with
    | 0, _ => exact (Blk.new W 3 #[.int .i64 x]).drew.cell 0) _ _ rfl rfl (by omega)
theorem box_after {wr w2 : World} {g : Nat} {t : TypeId} {x y z : Value} {o : Obj} (h : Blk wr g t #[x, y, z]) (hn : Nx (wr.alloc o).drew w2) :
    (w2.cell? ⟨g, 0, none⟩ = some x ∧ w2.cell? ⟨g, 1, none⟩ = some y ∧ w2.cell? ⟨g, 2, none⟩ = some z) ∧ w2.frozen? ⟨g, 0, none⟩ = false ∧ w2.frozen? ⟨g, 1, none⟩ = false ∧ w2.frozen? ⟨g, 2, none⟩ = false := by
  have h2 : Blk w2 g t #[x, y, z] := (h.alloc o).drew.nx hn
  exact ⟨open_box (w := wr) h2, h2.frozen 0, h2.frozen 1, h2.frozen 2⟩
theorem blk_all {W : World} {b : Nat} {t : TypeId} {x y z u v p : Value} (h : Blk W b t #[x, y, z]) : Blk (((W.setCell ⟨b, 0, none⟩ u).setCell ⟨b, 1, none⟩ v).setCell ⟨b, 2, none⟩ p) b t #[u, v, p] := ((h.set_ 0 u).set_ 1 v).set_ 2 p

set_option maxHeartbeats 1000000 in
theorem countStays_walk (w : World) (h g : Bool) (n : Int) (A : Option Addr) (len cap : Nat) (zs : List Int) (hw : IntsIn .i64 w A len zs ∧ len ≤ cap ∧ cap ≤ maxLen ∧ ∀ z ∈ zs, (Lit.int .i64 z).wf = true) :
    Calls Try.prog 5 #[.agg #[.bool h, .bool g, .int .i64 n], .slice A len cap] w fun e w' => e = .returned (.bool true) ∧ Below w.heap.size w w' := by
  have hz := hw.1
  clear hw
  by_cases hl : 1000 < len
  · clear hz
    go_enter Try.func5, Try.ntmps5
    go_wp2_with (go_at_call 7; refine (counted_any _).mono ?_; rintro e w1 ⟨rfl, hx⟩)
    go_ret
    exact ⟨rfl, ((Nx.refl _).alloc _).trans hx⟩
  · have hle : len ≤ 1000 := by omega
    have hd : decide ((1000 : Int) < (len : Int)) = false := by simp; omega
    clear hl
    obtain ⟨b, hb⟩ : ∃ b, isB h g n = b := ⟨_, rfl⟩
    cases b
    · clear hz
      have H := Lib.hid hb
      clear hb
      go_enter Try.func5, Try.ntmps5
      go_wp2_with (first | (go_at_call 10; refine (is_any _ _ _ _).mono ?_; rw [H.out]; rintro e w1 ⟨rfl, rfl⟩) | (go_at_call 7; refine (counted_any _).mono ?_; rintro e w1 ⟨rfl, hx⟩))
      go_ret
      exact ⟨rfl, (((Nx.refl _).alloc _).alloc _).trans hx⟩
    · have H := Lib.hid hb
      clear hb
      go_enter Try.func5, Try.ntmps5
      go_wp2_with (first | (go_at_call 10; refine (is_any _ _ _ _).mono ?_; rw [H.out]; rintro e w1 ⟨rfl, rfl⟩))
      refine (digit_any h g n A len cap zs _ (hz.keep (((Nx.refl _).alloc _).alloc _)) (by omega)).mono ?_
      rintro e w1 ⟨rfl, hx⟩
      have hB0 : Blk w1 w.heap.size 23 #[.bool h, .bool g, .int .i64 n] := (((Blk.new w _ _).alloc _).nx hx)
      have hN := (((Nx.refl w).alloc _).alloc _).trans hx
      clear hx
      have q := open_box (w := w) hB0
      obtain ⟨q0, q1, q2⟩ := q
      have hlt0 := hB0.lt
      go_wp2_with fail
      have hx0 : Blk ((w1.alloc (.cells #[.bool (digH h g n zs), .bool g, .int .i64 (digN h g n zs)] 23)).alloc (.cells #[.bool h, .bool g, .int .i64 n] 23)) w.heap.size 23 #[.bool h, .bool g, .int .i64 n] := (hB0.alloc _).alloc _
      have hx1 : Blk ((w1.alloc (.cells #[.bool (digH h g n zs), .bool g, .int .i64 (digN h g n zs)] 23)).alloc (.cells #[.bool h, .bool g, .int .i64 n] 23)) w1.heap.size 23 #[.bool (digH h g n zs), .bool g, .int .i64 (digN h g n zs)] := (Blk.new _ _ _).alloc _
      have hx2 : Blk ((w1.alloc (.cells #[.bool (digH h g n zs), .bool g, .int .i64 (digN h g n zs)] 23)).alloc (.cells #[.bool h, .bool g, .int .i64 n] 23)) (w1.heap.size + 1) 23 #[.bool h, .bool g, .int .i64 n] := by
        have := Blk.new (w1.alloc (.cells #[.bool (digH h g n zs), .bool g, .int .i64 (digN h g n zs)] 23)) 23 #[.bool h, .bool g, .int .i64 n]
        rw [World.size_alloc] at this
        exact this
      have hNx : Nx w ((w1.alloc (.cells #[.bool (digH h g n zs), .bool g, .int .i64 (digN h g n zs)] 23)).alloc (.cells #[.bool h, .bool g, .int .i64 n] 23)) := (hN.alloc _).alloc _
      have hs1 := hN.size
      clear hN hB0 q0 q1 q2
      generalize (w1.alloc (.cells #[.bool (digH h g n zs), .bool g, .int .i64 (digN h g n zs)] 23)).alloc (.cells #[.bool h, .bool g, .int .i64 n] 23) = W at *
      generalize w1.heap.size = g1 at *
      go_loopw [7] (fun i wr => ∃ k : Nat, k ≤ len ∧ i = .int .i64 k ∧ Blk wr w.heap.size 23 #[.bool h, .bool g, .int .i64 n] ∧ Blk wr g1 23 #[.bool (digH h g n zs), .bool g, .int .i64 (digN h g n zs)] ∧ Blk wr (g1 + 1) 23 #[.bool (digH h g n (zs.take k)), .bool g, .int .i64 (digN h g n (zs.take k))] ∧ Nx w wr)
        (fun i _ => len - (intOf i).toNat)
      case atStart => exact ⟨0, Nat.zero_le _, rfl, hx0, hx1, by simpa [digH, digN, foldH, foldN] using hx2, hNx⟩
      case round =>
        clear hx0 hx1 hx2 hNx
        obtain ⟨k, hk, rfl, hx0, hx1, hx2, hNx⟩ := hrel
        obtain ⟨p0, p1, p2⟩ := open_box (w := w) hx2
        have f0 := hx2.frozen 0; have f1 := hx2.frozen 1; have f2 := hx2.frozen 2
        by_cases hlt : k < len
        · obtain ⟨b, off, rfl, hlb, hc⟩ := hz.at_ hlt
          have hcell := (hNx.cell (p := ⟨b, off + k, none⟩) hlb).trans hc
          have hi0 : (0 : Int) ≤ (k : Int) := by omega
          have hi1 : (k : Int) < (len : Int) := by omega
          have l2 := hx2.lt
          have lb : b < wr.heap.size := Nat.lt_of_lt_of_le hlb hNx.size
          have nb1 : g1 + 1 ≠ wr.heap.size := by omega
          have nb2 : b ≠ wr.heap.size := by omega
          go_wp2
          go_region_with ((go_at_call 8; refine (digit_one _ _ _ _ _).mono ?_; rintro e w2 ⟨rfl, hw2⟩; obtain ⟨⟨z0, z1, z2⟩, z3, z4, z5⟩ := box_after hx2 hw2))
          all_goals
            go_wp2
            go_roundw
            case rel =>
              have hkz : k < zs.length := by rw [hz.1]; exact hlt
              have hn0 := (hNx.alloc (.cells #[.int .i64 (nth zs k)] 3)).drew.trans hw2
              have hsz := hNx.size
              refine ⟨k + 1, by omega, by go_num, ?_, ?_, ?_, ((hn0.setCell (by show w.heap.size ≤ g1 + 1; omega) _).setCell (by show w.heap.size ≤ g1 + 1; omega) _).setCell (by show w.heap.size ≤ g1 + 1; omega) _⟩
              · exact (((((hx0.alloc _).drew.nx hw2).far (by show w.heap.size ≠ g1 + 1; omega) _).far (by show w.heap.size ≠ g1 + 1; omega) _).far (by show w.heap.size ≠ g1 + 1; omega) _)
              · exact (((((hx1.alloc _).drew.nx hw2).far (by show g1 ≠ g1 + 1; omega) _).far (by show g1 ≠ g1 + 1; omega) _).far (by show g1 ≠ g1 + 1; omega) _)
              · rw [take_nth hkz, digH_snoc H.out, digN_snoc H.out]
                exact blk_all ((hx2.alloc _).drew.nx hw2)
            case measure => simp [intOf]; omega
        · have ek : zs.take k = zs := List.take_of_length_le (by rw [hz.1]; omega)
          rw [ek] at hx2
          clear p0 p1 p2 f0 f1 f2 hz ek
          have I1 := dig_is H.out zs
          have V1 := val_range I1
          have hm : minH h g n = true ∧ ((h = true ∧ minG h g n = g) ∨ (h = false ∧ minG h g n = true ∧ valB true true n = -1)) := by
            have hb := isB_true.1 H.out
            cases h
            · obtain ⟨rfl, rfl⟩ : g = false ∧ n = 0 := by simpa using hb.2.2
              exact ⟨rfl, .inr ⟨rfl, rfl, rfl⟩⟩
            · exact ⟨rfl, .inl ⟨rfl, by simp [minG]⟩⟩
          obtain ⟨mh, hm⟩ := hm
          have I2 : isB true (minG h g n) n = true := by
            have hb := isB_true.1 H.out
            exact isB_true_h hb.1 hb.2.1
          have q := open_box (w := w) hx0
          obtain ⟨q0, q1, q2⟩ := q
          have lt0 := hx0.lt
          have R := Lib.hid (And.intro I1 (And.intro V1 (And.intro mh (And.intro hm I2))))
          clear I1 V1 mh hm I2
          go_wp2_with fail
          refine (minus_at h g n true (minG h g n) R.out.2.2.1 rfl _).mono ?_
          rintro e w3 ⟨rfl, hw3⟩
          go_upto_region 10 with fail
          have hN4 := (hNx.trans hw3).alloc (.cells #[.bool true, .bool (minG h g n), .int .i64 n] 23)
          have y0 := (hx0.nx hw3).alloc (.cells #[.bool true, .bool (minG h g n), .int .i64 n] 23)
          have y1 := (hx1.nx hw3).alloc (.cells #[.bool true, .bool (minG h g n), .int .i64 n] 23)
          have y2 := (hx2.nx hw3).alloc (.cells #[.bool true, .bool (minG h g n), .int .i64 n] 23)
          have y3 := Blk.new w3 23 #[.bool true, .bool (minG h g n), .int .i64 n]
          clear hw3 hx0 hx1 hx2 hNx lt0 q0 q1 q2
          generalize w3.alloc (.cells #[.bool true, .bool (minG h g n), .int .i64 n] 23) = W4 at *
          generalize w3.heap.size = g4 at *
          generalize w.heap.size = g0 at *
          have a0 : ∀ d os, (Sort.grow (redrawn W4 d) os).cell? ⟨g0, 0, none⟩ = some (.bool h) := cell_regrown (y0.cell 0)
          have a1 : ∀ d os, (Sort.grow (redrawn W4 d) os).cell? ⟨g0, 1, none⟩ = some (.bool g) := cell_regrown (y0.cell 1)
          have a2 : ∀ d os, (Sort.grow (redrawn W4 d) os).cell? ⟨g0, 2, none⟩ = some (.int .i64 n) := cell_regrown (y0.cell 2)
          have b0 : ∀ d os, (Sort.grow (redrawn W4 d) os).cell? ⟨g1, 0, none⟩ = some (.bool (digH h g n zs)) := cell_regrown (y1.cell 0)
          have b1 : ∀ d os, (Sort.grow (redrawn W4 d) os).cell? ⟨g1, 1, none⟩ = some (.bool g) := cell_regrown (y1.cell 1)
          have b2 : ∀ d os, (Sort.grow (redrawn W4 d) os).cell? ⟨g1, 2, none⟩ = some (.int .i64 (digN h g n zs)) := cell_regrown (y1.cell 2)
          have c0 : ∀ d os, (Sort.grow (redrawn W4 d) os).cell? ⟨g1 + 1, 0, none⟩ = some (.bool (digH h g n zs)) := cell_regrown (y2.cell 0)
          have c1 : ∀ d os, (Sort.grow (redrawn W4 d) os).cell? ⟨g1 + 1, 1, none⟩ = some (.bool g) := cell_regrown (y2.cell 1)
          have c2 : ∀ d os, (Sort.grow (redrawn W4 d) os).cell? ⟨g1 + 1, 2, none⟩ = some (.int .i64 (digN h g n zs)) := cell_regrown (y2.cell 2)
          have d0 : ∀ d os, (Sort.grow (redrawn W4 d) os).cell? ⟨g4, 0, none⟩ = some (.bool true) := cell_regrown (y3.cell 0)
          have d1 : ∀ d os, (Sort.grow (redrawn W4 d) os).cell? ⟨g4, 1, none⟩ = some (.bool (minG h g n)) := cell_regrown (y3.cell 1)
          have d2 : ∀ d os, (Sort.grow (redrawn W4 d) os).cell? ⟨g4, 2, none⟩ = some (.int .i64 n) := cell_regrown (y3.cell 2)
          clear y0 y1 y2 y3
          have hv1 : decide ((-9999 : Int) ≤ valB (digH h g n zs) g (digN h g n zs)) = true := decide_eq_true R.out.2.1.1
          have hv2 : decide (valB (digH h g n zs) g (digN h g n zs) ≤ (9999 : Int)) = true := decide_eq_true R.out.2.1.2
          have v1 := fun d os => Calls.regrown_of (w := W4) (d := d) (os := os) (counted_any _)
          have v2 := fun d os => Calls.regrown_of (w := W4) (d := d) (os := os) (is_at (digH h g n zs) g (digN h g n zs) true R.out.1 _)
          have v3 := fun d os => Calls.regrown_of (w := W4) (d := d) (os := os) (is_at true (minG h g n) n true R.out.2.2.2.2 _)
          have v4 := fun d os => Calls.regrown_of (w := W4) (d := d) (os := os) (value_any (digH h g n zs) g (digN h g n zs) _)
          rcases R.out.2.2.2.1 with ⟨rfl, em⟩ | ⟨rfl, em, ev⟩
          · rw [em] at d1 v3 ⊢
            clear em
            refine wp_region_plain_below ?_
            repeat (go_big_quiet_step (first | with_reducible exact v1 _ _ | with_reducible exact v2 _ _ | with_reducible exact v3 _ _ | with_reducible exact v4 _ _))
            refine wpQuiet_nil ?_
            intro _ hw'
            obtain ⟨⟨dq, osq⟩, hw''⟩ := hw'
            subst hw''
            go_wp2
            go_ret
            exact ⟨rfl, hN4.trans (below_regrown W4 dq osq)⟩
          · have v5 := fun d os => Calls.regrown_of (w := W4) (d := d) (os := os) (value_at true true n (-1) ev _)
            rw [em] at d1 v3 ⊢
            clear em ev
            refine wp_region_plain_below ?_
            repeat (go_big_quiet_step (first | with_reducible exact v1 _ _ | with_reducible exact v2 _ _ | with_reducible exact v3 _ _ | with_reducible exact v4 _ _ | with_reducible exact v5 _ _))
            refine wpQuiet_nil ?_
            intro _ hw'
            obtain ⟨⟨dq, osq⟩, hw''⟩ := hw'
            subst hw''
            go_wp2
            go_ret
            exact ⟨rfl, hN4.trans (below_regrown W4 dq osq)⟩
end Go.Proofs.Ytifaccolbmcgjaa.walk
