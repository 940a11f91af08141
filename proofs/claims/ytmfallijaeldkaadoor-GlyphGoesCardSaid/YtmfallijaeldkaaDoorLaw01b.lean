/-
  The walk of the law GlyphGoes: it returns true for every input. No condition but the library's two tables.
-/
import Derived.Test.YtmfallijaeldkaaDoorWalk01j
namespace Go.Proofs.YtmfallijaeldkaaDoor.walk
open Go.RowKit Go.Proofs.YtmfallijaeldkaaDoor.kit Go.Proofs.YtmfallijaeldkaaDoor.plain
set_option linter.unusedVariables false

theorem decI_encs (zs : List Int) (t : List UInt8) : decI (encs zs ++ t) = (zs.map fun z => ((fixN z : Nat) : Int)) ++ decI t := by
  unfold decI
  rw [dec_encs, List.map_append, List.map_map]
  rfl
theorem decI_valid (l : List UInt8) (i : Nat) (h : i < (decI l).length) : vB (nth (decI l) i) = true := by
  have hm := nth_mem h
  obtain ⟨n, hn, he⟩ := List.mem_map.1 hm
  rw [← he]
  exact (validN_iff n).2 (dec_valid l n hn)
theorem nth_map {zs : List Int} {f : Int → Int} {i : Nat} (h : i < zs.length) : nth (zs.map f) i = f (nth zs i) := by
  rw [nth_eq (by simpa using h), nth_eq h]; simp
theorem nth_app_lt {a b : List Int} {i : Nat} (h : i < a.length) : nth (a ++ b) i = nth a i := by
  simp [nth, List.getElem?_append_left h]
theorem nth_app_ge {a b : List Int} {i : Nat} (h : a.length ≤ i) : nth (a ++ b) i = nth b (i - a.length) := by
  simp [nth, List.getElem?_append_right h]

theorem quiet_left {P : Program} {f : FuncId} {args : Array Value} {w : World} {n : Nat} {v : Value}
    (h : Calls P f args (w.drewN n) fun e w' => e = .returned v ∧ w.drewN n = w') : Calls P f args (w.drewN n) fun e w'' => e = .returned v ∧ ∃ m, w'' = w.drewN m :=
  h.mono fun _ _ ⟨he, hm⟩ => ⟨he, n, hm.symm⟩
set_option maxRecDepth 100000 in
set_option maxHeartbeats 4000000 in
theorem glyphGoes_walk (w : World) (hT : TB w) (A : Option Addr) (n cap : Nat) (zs : List Int)
    (hw : IntsIn .i32 w A n zs ∧ n ≤ cap ∧ cap ≤ maxLen ∧ ∀ z ∈ zs, (Lit.int .i32 z).wf = true) (s : ByteArray) (ws : s.size ≤ 9223372036854775807) :
    Calls Tryd.prog 7 #[.slice A n cap, .string s] w fun e w' => e = .returned (.bool true) ∧ Below w.heap.size w w' := by
  obtain ⟨hz, hnc, hcm, hwz⟩ := hw
  have hnm : n ≤ 9223372036854775807 := by unfold maxLen at hcm; omega
  by_cases hs : 1000 < s.size
  · have d1 : decide ((1000 : Int) < (s.size : Int)) = true := decide_eq_true (by omega)
    clear hz hwz
    go_enter Tryd.func7, Tryd.ntmps7
    go_wp2_with fail
    go_ret
    exact ⟨rfl, Nx.refl _⟩
  have d1 : decide ((1000 : Int) < (s.size : Int)) = false := decide_eq_false (by omega)
  by_cases hn : 1000 < n
  · have d2 : decide ((1000 : Int) < (n : Int)) = true := decide_eq_true (by omega)
    clear hz hwz
    go_enter Tryd.func7, Tryd.ntmps7
    go_wp2_with fail
    go_ret
    exact ⟨rfl, Nx.refl _⟩
  have d2 : decide ((1000 : Int) < (n : Int)) = false := decide_eq_false (by omega)
  have HZ := Lib.hid hz
  have C1 := Lib.hid (encode_any A n cap zs w hz hwz (by omega))
  have hel := encs_length zs
  have hzl : zs.length = n := hz.1
  have hS : ∃ S : ByteArray, mkS (encs zs) = S ∧ L S = encs zs := ⟨_, rfl, L_mkS _⟩
  obtain ⟨S, e1, e2⟩ := hS
  have hss : S.size ≤ 4000 := by rw [← L_length, e2]; omega
  rw [e1] at C1
  have e3 : decI (L (S ++ s)) = (zs.map fun z => ((fixN z : Nat) : Int)) ++ decI (L s) := by rw [L_app, e2, decI_encs]
  have E3 := Lib.hid e3
  have hbl := decI_length (L s)
  rw [L_length] at hbl
  clear hz hwz e1 e2 e3 hel hzl
  go_enter Tryd.func7, Tryd.ntmps7
  go_wp2_with fail
  refine C1.out.mono ?_
  rintro e w1 ⟨rfl, x1⟩
  clear C1
  have hsz2 : (S ++ s).size ≤ 5000 := by rw [ByteArray.size_append]; omega
  go_wp2_with fail
  refine (decode_any (S ++ s) _ (by omega)).mono ?_
  rintro e w2 ⟨A2, n2, c2, rfl, o2, x2⟩
  obtain ⟨i2, e2, _⟩ := own_read o2
  have I2 := Lib.hid i2
  have E2 := Lib.hid e2
  clear o2 i2 e2
  go_wp2_with fail
  refine (decode_any s _ (by omega)).mono ?_
  rintro e w3 ⟨A3, n3, c3, rfl, o3, x3⟩
  obtain ⟨i3, e3, _⟩ := own_read o3
  have hn3 : n3 ≤ s.size := by omega
  have I3 := Lib.hid i3
  have E33 := Lib.hid e3
  have hl2 : n2 = n + n3 := by rw [E2.out, E3.out, List.length_append, List.length_map, HZ.out.1, e3]
  clear o3 i3 e3 hbl
  have hl2a : n2 ≤ n + n3 := by omega
  have hl2b : n + n3 ≤ n2 := by omega
  have q1 : ((n2 : Int) != (n : Int) + (n3 : Int)) = false := by
    rw [hl2]; simp
  have q1' : ((n2 : Int) == (n : Int) + (n3 : Int)) = true := by
    rw [hl2]; simp
  have q2 : decide ((s.size : Int) < (n3 : Int)) = false := decide_eq_false (by omega)
  have q2' : decide (s.size < n3) = false := decide_eq_false (by omega)
  have HL2 := Lib.hid hl2
  clear hl2
  have x4 := (x1.trans x2).trans x3
  have J2 := Lib.hid (I2.out.keep x3)
  clear I2 x1 x2 x3
  go_wp2_with fail
  go_loopw [4, 7] (fun _ i wr => ∃ k : Nat, i = .int .i64 k ∧ k ≤ n2 ∧ Nx w3 wr) (fun _ i _ => n2 - (intOf i).toNat)
  case atStart => exact ⟨0, rfl, by omega, Nx.refl _⟩
  case round =>
    obtain ⟨k, rfl, hk, hN⟩ := hrel
    by_cases hlt : k < n2
    · have q3 : decide ((k : Int) < (n2 : Int)) = true := decide_eq_true (by omega)
      have q3' : decide (k < n2) = true := decide_eq_true hlt
      have hi0 : (0 : Int) ≤ (k : Int) := by omega
      have hi1 : (k : Int) < (n2 : Int) := by omega
      obtain ⟨b2, o2, rfl, l2, c2'⟩ := J2.out.at_ hlt
      have c2x := (hN.cell (p := ⟨b2, o2 + k, none⟩) l2).trans c2'
      have hX : vB (nth (decI (L (S ++ s))) k) = true := decI_valid _ _ (by rw [← E2.out]; exact hlt)
      clear c2'
      by_cases hkn : k < n
      · have q4 : decide ((k : Int) < (n : Int)) = true := decide_eq_true (by omega)
        have q4' : decide (k < n) = true := decide_eq_true hkn
        have q5 : decide ((n : Int) ≤ (k : Int)) = false := decide_eq_false (by omega)
        have q5' : decide (n ≤ k) = false := decide_eq_false (by omega)
        have hi2 : (k : Int) < (n : Int) := by omega
        obtain ⟨b0, o0, rfl, l0, c0'⟩ := HZ.out.at_ hkn
        have c0x := ((x4.trans hN).cell (p := ⟨b0, o0 + k, none⟩) l0).trans c0'
        have hXY : nth (decI (L (S ++ s))) k = ((fixN (nth zs k) : Nat) : Int) := by
          rw [E3.out, nth_app_lt (by rw [List.length_map, HZ.out.1]; exact hkn), nth_map (by rw [HZ.out.1]; exact hkn)]
        rw [hXY] at c2x hX
        clear c0' hXY
        generalize nth zs k = Y at *
        cases hY : vB Y with
        | true =>
          rw [fixN_of hY] at c2x hX
          have C5 := Lib.hid (fun W => is_any Y W)
          rw [hY] at C5
          clear hX hY
          go_wp2_with fail
          refine (C5.out _).mono ?_
          rintro e w5 ⟨rfl, rfl⟩
          clear C5
          have q6 : (Y != Y) = false := by simp
          go_wp2_with fail
          go_quiet (fail)
          go_wp2_with fail
          go_quiet (fail)
          go_wp2_with fail
          go_roundw
          case rel => exact ⟨k + 1, by go_num, by omega, hN.drewN _⟩
          case measure => simp [intOf]; omega
        | false =>
          have hf : fixN Y = 65533 := by unfold fixN; rw [if_neg (by simpa [vB] using hY)]
          rw [hf] at c2x hX
          have C5 := Lib.hid (fun W => is_any 65533 W)
          rw [show vB 65533 = true by kernel_rfl] at C5
          have C6 := Lib.hid (fun W => is_any Y W)
          rw [hY] at C6
          have hne := vB_f hY
          clear hX hY hf
          go_wp2_with fail
          refine (C5.out _).mono ?_
          rintro e w5 ⟨rfl, rfl⟩
          clear C5
          have q6 : ((65533 : Int) != Y) = true := by simp; omega
          clear hne
          go_wp2_with fail
          go_quiet ((go_at_call 12; exact quiet_left (C6.out _)))
          go_wp2_with fail
          go_quiet (fail)
          go_wp2_with fail
          go_roundw
          case rel => exact ⟨k + 1, by go_num, by omega, hN.drewN _⟩
          case measure => simp [intOf]; omega
      · have q4 : decide ((k : Int) < (n : Int)) = false := decide_eq_false (by omega)
        have q4' : decide (k < n) = false := decide_eq_false hkn
        have q5 : decide ((n : Int) ≤ (k : Int)) = true := decide_eq_true (by omega)
        have q5' : decide (n ≤ k) = true := decide_eq_true (by omega)
        have hlt3 : k - n < n3 := by omega
        obtain ⟨b3, o3, rfl, l3, c3'⟩ := I3.out.at_ hlt3
        have c3x := (hN.cell (p := ⟨b3, o3 + (k - n), none⟩) l3).trans c3'
        have hXY : nth (decI (L (S ++ s))) k = nth (decI (L s)) (k - n) := by
          rw [E3.out, nth_app_ge (by rw [List.length_map, HZ.out.1]; omega), List.length_map, HZ.out.1]
        rw [hXY] at c2x hX
        clear c3' hXY
        generalize nth (decI (L s)) (k - n) = Y at *
        have C5 := Lib.hid (fun W => is_any Y W)
        rw [hX] at C5
        clear hX
        go_wp2_with fail
        refine (C5.out _).mono ?_
        rintro e w5 ⟨rfl, rfl⟩
        clear C5
        have q6 : (Y != Y) = false := by simp
        have w1 : IntKind.i64.wrap ((k : Int) - (n : Int)) = (k : Int) - (n : Int) := IntWalk.i64_in _ (by omega)
        have w2 : (0 : Int) ≤ (k : Int) - (n : Int) := by omega
        have w3 : (k : Int) - (n : Int) < (n3 : Int) := by omega
        have w4 : ((k : Int) - (n : Int)).toNat = k - n := by omega
        go_wp2_with fail
        go_quiet (fail)
        go_wp2_with fail
        go_quiet (fail)
        go_wp2_with fail
        clear w1 w2 w3 w4
        go_roundw
        case rel => exact ⟨k + 1, by go_num, by omega, hN.drewN _⟩
        case measure => simp [intOf]; omega
    · have q3 : decide ((k : Int) < (n2 : Int)) = false := decide_eq_false (by omega)
      have q3' : decide (k < n2) = false := decide_eq_false hlt
      go_wp2_with fail
      refine (glyphs_any _ (hT.nx (x4.trans hN))).mono ?_
      rintro e w5 ⟨rfl, x5⟩
      go_wp2_with fail
      go_ret
      exact ⟨rfl, (x4.trans hN).trans x5⟩
end Go.Proofs.YtmfallijaeldkaaDoor.walk
