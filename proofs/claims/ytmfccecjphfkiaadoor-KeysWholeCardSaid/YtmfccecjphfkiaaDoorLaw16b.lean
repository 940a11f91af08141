/-
  The walk of the law KeysRest: it returns true for every input. No condition but the library's two tables.
-/
import Derived.Test.YtmfccecjphfkiaaDoorWalk16o
import Derived.Deep.RegionHeld3
namespace Go.Proofs.YtmfccecjphfkiaaDoor.walk
open Go.RowKit Go.Proofs.YtmfccecjphfkiaaDoor.kit Go.Proofs.YtmfccecjphfkiaaDoor.plain
set_option linter.unusedVariables false

def RX (p : ByteArray) (a : Int) (ks : List KEY) (w : World) (e : Ending) (w' : World) : Prop :=
  ∃ A cap, e = .returned (.tuple #[.agg #[.string p, .int .i64 a], .slice A ks.length cap]) ∧ KsIn w' A ks.length ks ∧ Nx w w'
theorem RP.rx {p : ByteArray} {a : Int} {ks : List KEY} {w : World} {e : Ending} {w' : World} (h : RP p a ks w e w') : RX p a ks w e w' := by
  obtain ⟨A, n, cap, h1, h2, h3⟩ := h
  obtain ⟨g1, g2⟩ := own_keys h2
  subst g2
  exact ⟨A, cap, h1, g1, h3⟩
def KX (ks : List KEY) (w : World) (e : Ending) (w' : World) : Prop := ∃ A cap, e = .returned (.slice A ks.length cap) ∧ KsIn w' A ks.length ks ∧ Nx w w'
theorem KP.kx {ks : List KEY} {w : World} {e : Ending} {w' : World} (h : KP ks w e w') : KX ks w e w' := by
  obtain ⟨A, n, cap, h1, h2, h3⟩ := h
  obtain ⟨g1, g2⟩ := own_keys h2
  subst g2
  exact ⟨A, cap, h1, g1, h3⟩
theorem rest_both (p : ByteArray) (at' t wait : Int) (hs : p.size ≤ 1000000) :
    ∃ (q : ByteArray) (a : Int) (ks : List KEY), ks.length ≤ 1000000 ∧ (∀ w, TB w → Calls Tryd.prog 12 #[.agg #[.string p, .int .i64 at'], .int .i64 t, .int .i64 wait] w (RX q a ks w)) ∧
      (∀ w, Calls Tryd.prog 13 #[.agg #[.string p, .int .i64 at'], .int .i64 t, .int .i64 wait] w (RX q a ks w)) := by
  have hsl := settle_len (L p)
  rw [L_length] at hsl
  cases hD : dueK (L p) at' t wait with
  | true => exact ⟨⟨#[]⟩, 0, settleK (L p), by omega, fun w hT => (rest_yes p at' t wait w hT hs hD).mono fun e w' h => h.rx, fun w => (rrest_yes p at' t wait w hs hD).mono fun e w' h => h.rx⟩
  | false => exact ⟨p, at', [], by simp, fun w hT => (rest_no p at' t wait w hT hs hD).mono fun e w' h => h.rx, fun w => (rrest_no p at' t wait w hs hD).mono fun e w' h => h.rx⟩
theorem settle_both (s : ByteArray) (hs : s.size ≤ 1000000) :
    ∃ (ks : List KEY), ks.length ≤ 1000000 ∧ (∀ w, Calls Tryd.prog 15 #[.string s] w (KX ks w)) ∧ (∀ w, Calls Tryd.prog 16 #[.string s] w (KX ks w)) := by
  have hsl := settle_len (L s)
  rw [L_length] at hsl
  exact ⟨_, by omega, fun w => (settle_any s w hs).mono fun e w' h => h.kx, fun w => (rsettle_any s w hs).mono fun e w' h => h.kx⟩
theorem is_both (p : ByteArray) (at' : Int) (hs : p.size ≤ 1000000) :
    ∃ b, (∀ w, TB w → Calls Tryd.prog 17 #[.agg #[.string p, .int .i64 at']] w fun e w' => e = .returned (.bool b) ∧ Nx w w') ∧ (∀ w, Calls Tryd.prog 18 #[.agg #[.string p, .int .i64 at']] w fun e w' => e = .returned (.bool b) ∧ Nx w w') :=
  ⟨_, fun w hT => isk_any p at' w hT hs, fun w => risk_any p at' w hs⟩
theorem due_both (p : ByteArray) (at' t wait : Int) (hs : p.size ≤ 1000000) :
    ∃ b, (∀ w, TB w → Calls Tryd.prog 19 #[.agg #[.string p, .int .i64 at'], .int .i64 t, .int .i64 wait] w fun e w' => e = .returned (.bool b) ∧ Nx w w') ∧ (∀ w, Calls Tryd.prog 20 #[.agg #[.string p, .int .i64 at'], .int .i64 t, .int .i64 wait] w fun e w' => e = .returned (.bool b) ∧ Nx w w') :=
  ⟨_, fun w hT => due_any p at' t wait w hT hs, fun w => rdue_any p at' t wait w hs⟩

set_option maxRecDepth 100000 in
set_option maxHeartbeats 4000000 in
theorem keysRest_walk (w : World) (hT : TB w) (p : ByteArray) (at' now : Int) (wf1 : (Lit.int .i64 now).wf = true) (wait : Int) (wf2 : (Lit.int .i64 wait).wf = true) (s : ByteArray) (ws : s.size ≤ 9223372036854775807) :
    Calls Tryd.prog 4 #[.agg #[.string p, .int .i64 at'], .int .i64 now, .int .i64 wait, .string s] w fun e w' => e = .returned (.bool true) ∧ Below w.heap.size w w' := by
  clear wf1 wf2
  have n0 := (Nx.refl w).alloc (.cells #[.string p, .int .i64 at'] 30)
  have hK := Blk.new w 30 #[.string p, .int .i64 at']
  by_cases hs : 1000 < s.size
  · have d1 : decide ((1000 : Int) < (s.size : Int)) = true := decide_eq_true (by omega)
    clear hK
    go_enter Tryd.func4, Tryd.ntmps4
    go_wp2_with fail
    go_ret
    exact ⟨rfl, n0⟩
  have d1 : decide ((1000 : Int) < (s.size : Int)) = false := decide_eq_false (by omega)
  by_cases hp : 1000 < p.size
  · have d2 : decide ((1000 : Int) < (p.size : Int)) = true := decide_eq_true (by omega)
    clear hK
    go_enter Tryd.func4, Tryd.ntmps4
    go_wp2_with fail
    go_ret
    exact ⟨rfl, n0⟩
  have d2 : decide ((1000 : Int) < (p.size : Int)) = false := decide_eq_false (by omega)
  obtain ⟨q, a, ks, hks, c1, c2⟩ := rest_both p at' now wait (by omega)
  obtain ⟨ls, hls, c3, c4⟩ := settle_both s (by omega)
  obtain ⟨bI, c5, c6⟩ := is_both p at' (by omega)
  obtain ⟨bD, c7, c8⟩ := due_both p at' now wait (by omega)
  have C1 := Lib.hid c1
  have C2 := Lib.hid c2
  have C3 := Lib.hid c3
  have C4 := Lib.hid c4
  have C5 := Lib.hid c5
  have C6 := Lib.hid c6
  have C7 := Lib.hid c7
  have C8 := Lib.hid c8
  clear c1 c2 c3 c4 c5 c6 c7 c8
  go_enter Tryd.func4, Tryd.ntmps4
  go_wp2_with fail
  refine (C1.out _ (hT.nx n0)).mono ?_
  rintro e w1 ⟨A1, cap1, rfl, i1, x1⟩
  clear C1
  have n1 := (n0.trans x1).alloc (.cells #[.string q, .int .i64 a] 30)
  have hK1 := (hK.nx x1).alloc (.cells #[.string q, .int .i64 a] 30)
  have hX1 := Blk.new w1 30 #[.string q, .int .i64 a]
  have I1 := Lib.hid (i1.keep ((Nx.refl w1).alloc (.cells #[.string q, .int .i64 a] 30)))
  obtain ⟨k0, k1, _, _⟩ := blk_cells hK1
  clear hK n0 x1 i1
  go_wp2_with fail
  refine (C2.out _).mono ?_
  rintro e w2 ⟨A2, cap2, rfl, i2, x2⟩
  clear C2 k0 k1
  have n2 := (n1.trans x2).alloc (.cells #[.string q, .int .i64 a] 30)
  have hK2 := (hK1.nx x2).alloc (.cells #[.string q, .int .i64 a] 30)
  have hX2 := (hX1.nx x2).alloc (.cells #[.string q, .int .i64 a] 30)
  have hY2 := Blk.new w2 30 #[.string q, .int .i64 a]
  have J1 := Lib.hid (I1.out.keep (x2.alloc (.cells #[.string q, .int .i64 a] 30)))
  have J2 := Lib.hid (i2.keep ((Nx.refl w2).alloc (.cells #[.string q, .int .i64 a] 30)))
  clear n1 hX1 hK1 x2 I1 i2
  go_wp2_with fail
  generalize w2.alloc (.cells #[.string q, .int .i64 a] 30) = V at *
  generalize w2.heap.size = gy at *
  generalize w1.heap.size = gx at *
  have HS : ∀ W, Nx V.drew W → W.cell? ⟨w.heap.size, 0, none⟩ = some (.string p) ∧ W.cell? ⟨w.heap.size, 1, none⟩ = some (.int .i64 at') ∧ W.cell? ⟨gx, 0, none⟩ = some (.string q) ∧ W.cell? ⟨gx, 1, none⟩ = some (.int .i64 a) ∧ W.cell? ⟨gy, 0, none⟩ = some (.string q) ∧ W.cell? ⟨gy, 1, none⟩ = some (.int .i64 a) := fun W hW => by
    have e1 := hK2.drew.nx hW
    have e2 := hX2.drew.nx hW
    have e3 := hY2.drew.nx hW
    exact ⟨(blk_cells e1).1, (blk_cells e1).2.1, (blk_cells e2).1, (blk_cells e2).2.1, (blk_cells e3).1, (blk_cells e3).2.1⟩
  obtain ⟨z0, z1, z2, z3, z4, z5⟩ := HS _ (Nx.refl _)
  have HS' := Lib.hid HS
  clear HS hK2 hX2 hY2
  have nd := n2.drew
  have K1 := Lib.hid (J1.out.keep (Nx.refl V).drew)
  have K2 := Lib.hid (J2.out.keep (Nx.refl V).drew)
  clear J1 J2 n2
  go_region_held3 (fun W => W.cell? ⟨w.heap.size, 0, none⟩ = some (.string p) ∧ W.cell? ⟨w.heap.size, 1, none⟩ = some (.int .i64 at') ∧ W.cell? ⟨gx, 0, none⟩ = some (.string q) ∧ W.cell? ⟨gx, 1, none⟩ = some (.int .i64 a) ∧ W.cell? ⟨gy, 0, none⟩ = some (.string q) ∧ W.cell? ⟨gy, 1, none⟩ = some (.int .i64 a))
    (first | exact HS'.out _ m9 | exact HS'.out _ m8 | exact HS'.out _ m7 | exact HS'.out _ m6 | exact HS'.out _ m5 | exact HS'.out _ m4 | exact HS'.out _ m3 | exact HS'.out _ m2 | exact HS'.out _ m1 | exact HS'.out _ (Nx.refl _) | go_keep)
    (first | (go_at_call 20; refine (C8.out _).mono ?_; rintro e u9 ⟨rfl, y9⟩; have m9 := m8.trans y9) | (go_at_call 19; refine (C7.out _ (hT.nx (nd.trans m7))).mono ?_; rintro e u8 ⟨rfl, y8⟩; have m8 := m7.trans y8) | (go_at_call 18; refine (C6.out _).mono ?_; rintro e u7 ⟨rfl, y7⟩; have m7 := m6.trans y7) | (go_at_call 17; refine (C5.out _ (hT.nx (nd.trans m5))).mono ?_; rintro e u6 ⟨rfl, y6⟩; have m6 := m5.trans y6) | (go_at_call 14; refine (same_keys _ A3 A4 _ _ _ ls (G3.out.keep y4) G4.out (by omega)).mono ?_; rintro e u5 ⟨rfl, y5⟩; have m5 := m4.trans y5) | (go_at_call 16; refine (C4.out _).mono ?_; rintro e u4 ⟨A4, cap4, rfl, g4, y4⟩; have m4 := m3.trans y4; have G4 := Lib.hid g4; clear g4) | (go_at_call 15; refine (C3.out _).mono ?_; rintro e u3 ⟨A3, cap3, rfl, g3, y3⟩; have m3 := m2.trans y3; have G3 := Lib.hid g3; clear g3) | (go_at_call 14; refine (same_keys _ A1 A2 _ _ _ ks (K1.out.keep m1) (K2.out.keep m1) (by omega)).mono ?_; rintro e u2 ⟨rfl, y2⟩; have m2 := m1.trans y2) | (go_at_call 11; refine (keyed_any _ (hT.nx nd)).mono ?_; rintro e u1 ⟨rfl, m1⟩))
  go_wp2_with fail
  go_ret
  exact ⟨rfl, nd.trans m9⟩
end Go.Proofs.YtmfccecjphfkiaaDoor.walk
