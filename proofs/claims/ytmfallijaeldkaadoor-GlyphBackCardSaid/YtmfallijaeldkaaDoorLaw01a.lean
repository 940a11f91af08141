/-
  The walks of the laws GlyphPuts, GlyphNext, GlyphLists, GlyphBack: each returns true for every input. No condition but the library's two tables.
-/
import Derived.Test.YtmfallijaeldkaaDoorWalk01j
namespace Go.Proofs.YtmfallijaeldkaaDoor.walk
open Go.RowKit Go.Proofs.YtmfallijaeldkaaDoor.kit Go.Proofs.YtmfallijaeldkaaDoor.plain
set_option linter.unusedVariables false

set_option maxRecDepth 100000 in
set_option maxHeartbeats 2000000 in
theorem glyphPuts_walk (w : World) (hT : TB w) (r : Int) (wr0 : (Lit.int .i32 r).wf = true) :
    Calls Tryd.prog 3 #[.int .i32 r] w fun e w' => e = .returned (.bool true) ∧ Below w.heap.size w w' := by
  clear wr0
  cases hb : vB r with
  | true =>
    have C1 := Lib.hid (put_ok r w hb)
    have C2 := Lib.hid (rput_ok r w hb)
    have C3 := Lib.hid (fun W => is_any r W)
    have C4 := Lib.hid (fun W => ris_any r W)
    rw [hb] at C3 C4
    clear hb
    generalize Utf8.encode r = S at *
    go_enter Tryd.func3, Tryd.ntmps3
    go_wp2_with fail
    refine C1.out.mono ?_
    rintro e w1 ⟨rfl, rfl⟩
    clear C1
    go_wp2_with fail
    refine C2.out.mono ?_
    rintro e w1 ⟨rfl, x1⟩
    clear C2
    go_wp2_with fail
    refine (glyphs_any _ (hT.nx x1)).mono ?_
    rintro e w2 ⟨rfl, x2⟩
    go_wp2_with fail
    refine (C3.out _).mono ?_
    rintro e w3 ⟨rfl, rfl⟩
    go_wp2_with fail
    refine (C4.out _).mono ?_
    rintro e w3 ⟨rfl, rfl⟩
    clear C3 C4
    go_wp2_with fail
    go_ret
    exact ⟨rfl, x1.trans x2⟩
  | false =>
    have C1 := Lib.hid (put_bad r w hb)
    have C2 := Lib.hid (rput_bad r w hb)
    have C3 := Lib.hid (fun W => is_any r W)
    have C4 := Lib.hid (fun W => ris_any r W)
    rw [hb] at C3 C4
    clear hb
    go_enter Tryd.func3, Tryd.ntmps3
    go_wp2_with fail
    refine C1.out.mono ?_
    rintro e w1 ⟨rfl, rfl⟩
    clear C1
    go_wp2_with fail
    refine C2.out.mono ?_
    rintro e w1 ⟨rfl, rfl⟩
    clear C2
    go_wp2_with fail
    refine (glyphs_any _ hT).mono ?_
    rintro e w2 ⟨rfl, x2⟩
    go_wp2_with fail
    refine (C3.out _).mono ?_
    rintro e w3 ⟨rfl, rfl⟩
    go_wp2_with fail
    refine (C4.out _).mono ?_
    rintro e w3 ⟨rfl, rfl⟩
    clear C3 C4
    go_wp2_with fail
    go_ret
    exact ⟨rfl, x2⟩

theorem nxV_form (l : List UInt8) : ∃ a b c : Int, nxV l = .tuple #[.int .i32 a, .int .i64 b, .int .i64 c] := ⟨_, _, _, rfl⟩
set_option maxRecDepth 100000 in
set_option maxHeartbeats 2000000 in
theorem glyphNext_walk (w : World) (hT : TB w) (s : ByteArray) (ws : s.size ≤ 9223372036854775807) :
    Calls Tryd.prog 4 #[.string s] w fun e w' => e = .returned (.bool true) ∧ Below w.heap.size w w' := by
  by_cases hs : 1000 < s.size
  · have d1 : decide ((1000 : Int) < (s.size : Int)) = true := decide_eq_true (by omega)
    go_enter Tryd.func4, Tryd.ntmps4
    go_wp2_with fail
    go_ret
    exact ⟨rfl, Nx.refl _⟩
  · have d1 : decide ((1000 : Int) < (s.size : Int)) = false := decide_eq_false (by omega)
    have c1 := next_any s w hT
    have c2 := fun W => rnext_any s W (by omega)
    obtain ⟨a, b, c, e⟩ := nxV_form (L s)
    rw [e] at c1 c2
    have C1 := Lib.hid c1
    have C2 := Lib.hid c2
    clear c1 c2 e
    go_enter Tryd.func4, Tryd.ntmps4
    go_wp2_with fail
    refine C1.out.mono ?_
    rintro e w1 ⟨rfl, x1⟩
    clear C1
    go_wp2_with fail
    refine (C2.out _).mono ?_
    rintro e w2 ⟨rfl, x2⟩
    clear C2
    go_wp2_with fail
    refine (glyphs_any _ ((hT.nx x1).nx x2)).mono ?_
    rintro e w3 ⟨rfl, x3⟩
    go_wp2_with fail
    go_ret
    exact ⟨rfl, (x1.trans x2).trans x3⟩

set_option maxRecDepth 100000 in
set_option maxHeartbeats 2000000 in
theorem glyphLists_walk (w : World) (hT : TB w) (s : ByteArray) (ws : s.size ≤ 9223372036854775807) (A : Option Addr) (n cap : Nat) (zs : List Int)
    (hw : IntsIn .i32 w A n zs ∧ n ≤ cap ∧ cap ≤ maxLen ∧ ∀ z ∈ zs, (Lit.int .i32 z).wf = true) :
    Calls Tryd.prog 5 #[.string s, .slice A n cap] w fun e w' => e = .returned (.bool true) ∧ Below w.heap.size w w' := by
  obtain ⟨hz, hnc, hcm, hwz⟩ := hw
  have hnm : n ≤ 9223372036854775807 := by unfold maxLen at hcm; omega
  by_cases hs : 1000 < s.size
  · have d1 : decide ((1000 : Int) < (s.size : Int)) = true := decide_eq_true (by omega)
    clear hz hwz
    go_enter Tryd.func5, Tryd.ntmps5
    go_wp2_with fail
    go_ret
    exact ⟨rfl, Nx.refl _⟩
  have d1 : decide ((1000 : Int) < (s.size : Int)) = false := decide_eq_false (by omega)
  by_cases hn : 1000 < n
  · have d2 : decide ((1000 : Int) < (n : Int)) = true := decide_eq_true (by omega)
    clear hz hwz
    go_enter Tryd.func5, Tryd.ntmps5
    go_wp2_with fail
    go_ret
    exact ⟨rfl, Nx.refl _⟩
  have d2 : decide ((1000 : Int) < (n : Int)) = false := decide_eq_false (by omega)
  have HZ := Lib.hid hz
  have HW := Lib.hid hwz
  clear hz hwz
  go_enter Tryd.func5, Tryd.ntmps5
  go_wp2_with fail
  refine (glyphs_any _ hT).mono ?_
  rintro e w1 ⟨rfl, x1⟩
  go_wp2_with fail
  refine (decode_any s _ (by omega)).mono ?_
  rintro e w2 ⟨A2, n2, c2, rfl, o2, x2⟩
  go_wp2_with fail
  refine (rdecode_any s _ (by omega)).mono ?_
  rintro e w3 ⟨A3, n3, c3, rfl, o3, x3⟩
  obtain ⟨i2, e2, _⟩ := own_read o2
  obtain ⟨i3, e3, _⟩ := own_read o3
  have hl := decI_length (L s)
  rw [L_length] at hl
  obtain rfl : n3 = n2 := e3.trans e2.symm
  have i2' := i2.keep x3
  have hn3 : n3 ≤ 1000 := by omega
  have I2 := Lib.hid i2'
  have I3 := Lib.hid i3
  clear o2 o3 i2 i2' i3 e2 e3 hl
  go_wp2_with fail
  refine (same_eq _ _ _ _ _ _ _ I2.out I3.out (by omega)).mono ?_
  rintro e w4 ⟨rfl, x4⟩
  clear I2 I3
  have x5 := ((x1.trans x2).trans x3).trans x4
  clear x1 x2 x3 x4
  go_wp2_with fail
  refine (encode_any _ _ _ _ _ (HZ.out.keep x5) HW.out (by omega)).mono ?_
  rintro e w5 ⟨rfl, x6⟩
  have C2 := Lib.hid (rencode_any A n cap zs w5 (HZ.out.keep (x5.trans x6)) (by omega))
  generalize mkS (encs zs) = S at *
  go_wp2_with fail
  refine C2.out.mono ?_
  rintro e w6 ⟨rfl, x7⟩
  clear C2
  go_wp2_with fail
  go_ret
  exact ⟨rfl, (x5.trans x6).trans x7⟩

set_option maxRecDepth 100000 in
set_option maxHeartbeats 2000000 in
theorem glyphBack_walk (w : World) (hT : TB w) (r : Int) (wr0 : (Lit.int .i32 r).wf = true) (s : ByteArray) (ws : s.size ≤ 9223372036854775807) :
    Calls Tryd.prog 6 #[.int .i32 r, .string s] w fun e w' => e = .returned (.bool true) ∧ Below w.heap.size w w' := by
  clear wr0
  by_cases hs : 1000 < s.size
  · have d1 : decide ((1000 : Int) < (s.size : Int)) = true := decide_eq_true (by omega)
    go_enter Tryd.func6, Tryd.ntmps6
    go_wp2_with fail
    go_ret
    exact ⟨rfl, Nx.refl _⟩
  have d1 : decide ((1000 : Int) < (s.size : Int)) = false := decide_eq_false (by omega)
  have C3 := Lib.hid (fun W => is_any r W)
  cases hb : vB r with
  | false =>
    have C1 := Lib.hid (put_bad r w hb)
    rw [hb] at C3
    clear hb
    go_enter Tryd.func6, Tryd.ntmps6
    go_wp2_with fail
    refine C1.out.mono ?_
    rintro e w1 ⟨rfl, rfl⟩
    clear C1
    go_wp2_with fail
    refine (glyphs_any _ hT).mono ?_
    rintro e w2 ⟨rfl, x2⟩
    go_wp2_with fail
    refine (C3.out _).mono ?_
    rintro e w3 ⟨rfl, rfl⟩
    go_wp2_with fail
    go_ret
    exact ⟨rfl, x2⟩
  | true =>
    have C1 := Lib.hid (put_ok r w hb)
    rw [hb] at C3
    obtain ⟨hv, hl⟩ := encode_vB hb
    have hvr := vB_t hb
    have hnx : nx (L (Utf8.encode r ++ s)) = (r.toNat, encLen r.toNat, 0) := by rw [L_app, hl]; exact nx_enc _ hv _
    have hsz : (Utf8.encode r).size = encLen r.toNat := size_enc hl
    have hp := encLen_pos r.toNat
    have hpre : ∀ i, 1 ≤ i → i < (Utf8.encode r).size → nxV (L ((Utf8.encode r).extract 0 i)) = .tuple #[.int .i32 0, .int .i64 0, .int .i64 3] := fun i h1 h2 => by
      have := nx_part _ hv i (by omega) (by omega)
      rw [L_extract, hl, List.drop_zero, nxV, this]
      rfl
    have hv1 : nxV (L (Utf8.encode r ++ s)) = .tuple #[.int .i32 r, .int .i64 (Utf8.encode r).size, .int .i64 0] := by
      rw [nxV, hnx, hsz]
      show Value.tuple #[.int .i32 ((r.toNat : Nat) : Int), _, _] = _
      rw [show ((r.toNat : Nat) : Int) = r by omega]
      rfl
    have hz1 : 1 ≤ (Utf8.encode r).size := by omega
    have hz4 : (Utf8.encode r).size ≤ 4 := by omega
    have HP := Lib.hid hpre
    have HV := Lib.hid hv1
    clear hb hv hl hvr hnx hsz hp hpre hv1
    generalize Utf8.encode r = S at *
    have q1 : ((S.size : Int) != (S.size : Int)) = false := by simp
    go_enter Tryd.func6, Tryd.ntmps6
    go_wp2_with fail
    refine C1.out.mono ?_
    rintro e w1 ⟨rfl, rfl⟩
    clear C1
    go_wp2_with fail
    refine (next_any _ _ hT).mono ?_
    rw [HV.out]
    rintro e w2 ⟨rfl, x2⟩
    clear HV
    have q2 : decide ((S.size : Int) < 1) = false := decide_eq_false (by omega)
    have q3 : decide ((4 : Int) < (S.size : Int)) = false := decide_eq_false (by omega)
    go_wp2_with fail
    go_loopw [4, 10, 11, 12, 13] (fun _ i _ _ _ wr => ∃ k : Nat, i = .int .i64 k ∧ 1 ≤ k ∧ k ≤ S.size ∧ Nx w wr) (fun _ i _ _ _ _ => 5 - (intOf i).toNat)
    case atStart => exact ⟨1, rfl, by omega, by omega, x2⟩
    case round =>
      clear x2
      obtain ⟨k, rfl, hk1, hk2, hN⟩ := hrel
      by_cases hlt : k < S.size
      · have q4 : decide ((k : Int) < (S.size : Int)) = true := decide_eq_true (by omega)
        have q4' : decide (k < S.size) = true := decide_eq_true (by omega)
        have i0 : (0 : Int) ≤ (k : Int) := by omega
        have i1 : (k : Int) ≤ (S.size : Int) := by omega
        have hv := HP.out k hk1 hlt
        have HVV := Lib.hid hv
        clear hv
        go_wp2_with fail
        refine (next_any _ _ (hT.nx hN)).mono ?_
        rw [HVV.out]
        rintro e w3 ⟨rfl, x3⟩
        clear HVV
        go_wp2_with fail
        go_roundw
        case rel => exact ⟨k + 1, by go_num, by omega, by omega, hN.trans x3⟩
        case measure => simp [intOf]; omega
      · have q4 : decide ((k : Int) < (S.size : Int)) = false := decide_eq_false (by omega)
        have q4' : decide (k < S.size) = false := decide_eq_false (by omega)
        go_wp2_with fail
        refine (glyphs_any _ (hT.nx hN)).mono ?_
        rintro e w4 ⟨rfl, x4⟩
        go_wp2_with fail
        refine (C3.out _).mono ?_
        rintro e w5 ⟨rfl, rfl⟩
        go_wp2_with fail
        go_ret
        exact ⟨rfl, hN.trans x4⟩
end Go.Proofs.YtmfallijaeldkaaDoor.walk
