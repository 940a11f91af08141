/-
  The walk of the law GlyphMore: it returns true for every input. No condition but the library's two tables.
-/
import Derived.Test.YtmfallijaeldkaaDoorWalk01j
namespace Go.Proofs.YtmfallijaeldkaaDoor.walk
open Go.RowKit Go.Proofs.YtmfallijaeldkaaDoor.kit Go.Proofs.YtmfallijaeldkaaDoor.plain
set_option linter.unusedVariables false

theorem str_ne_q {s : ByteArray} (h : 1 ≤ s.size) : (s.toList == []) = false := by
  have := (str_ne h).1
  cases hs : s.toList with
  | nil => rw [hs] at this; simp at this
  | cons _ _ => rfl
set_option maxRecDepth 100000 in
set_option maxHeartbeats 4000000 in
theorem glyphMore_walk (w : World) (hT : TB w) (s : ByteArray) (ws : s.size ≤ 9223372036854775807) (b : Int) (wb : (Lit.int .u8 b).wf = true) :
    Calls Tryd.prog 8 #[.string s, .int .u8 b] w fun e w' => e = .returned (.bool true) ∧ Below w.heap.size w w' := by
  have C1 := Lib.hid (next_any s w hT)
  rcases nx_kinds (L s) with ⟨r, k, e⟩ | e | ⟨e, e'⟩
  · have hs : 1 ≤ s.size := by
      rcases Nat.lt_or_ge s.size 1 with h | h
      · obtain rfl := size_nil (show s.size = 0 by omega)
        rw [show L ⟨#[]⟩ = [] from rfl, nx_nil] at e
        simp at e
      · exact h
    obtain ⟨z, z', hv⟩ : ∃ z z' : Int, nxV (L s) = .tuple #[.int .i32 z, .int .i64 z', .int .i64 0] := ⟨_, _, by rw [nxV, e]; rfl⟩
    rw [hv] at C1
    obtain ⟨n1, n2⟩ := str_ne hs
    have n3 := str_ne_q hs
    clear hv e wb
    go_enter Tryd.func8, Tryd.ntmps8
    go_wp2_with fail
    refine C1.out.mono ?_
    rintro e w1 ⟨rfl, x1⟩
    clear C1
    go_wp2_with fail
    refine (glyphs_any _ (hT.nx x1)).mono ?_
    rintro e w2 ⟨rfl, x2⟩
    go_wp2_with fail
    go_ret
    exact ⟨rfl, x1.trans x2⟩
  · have hv : nxV (L s) = .tuple #[.int .i32 0, .int .i64 0, .int .i64 3] := by rw [nxV, e]; rfl
    rw [hv] at C1
    have hm := nx_more _ e
    rw [L_length] at hm
    have hs1 : 1 ≤ s.size := hm.1
    have hs3 : s.size ≤ 3 := hm.2.1
    have hd : decI (L s) = List.replicate s.size 65533 := by rw [decI, dec_more _ e, L_length, List.map_replicate]; rfl
    have HD := Lib.hid hd
    have hb : 0 ≤ b ∧ b ≤ 255 := by
      have h := wb
      simp only [Lit.wf, Bool.and_eq_true, decide_eq_true_eq] at h
      exact h
    have HN := Lib.hid (nx_snoc _ e (UInt8.ofNat b.toNat))
    clear hm hv e wb hd
    have q1 : decide ((s.size : Int) < 1) = false := decide_eq_false (by omega)
    have q2 : decide ((3 : Int) < (s.size : Int)) = false := decide_eq_false (by omega)
    go_enter Tryd.func8, Tryd.ntmps8
    go_wp2_with fail
    refine C1.out.mono ?_
    rintro e w1 ⟨rfl, x1⟩
    clear C1
    go_wp2_with fail
    refine (decode_any s _ (by omega)).mono ?_
    rintro e w2 ⟨A2, n2, c2, rfl, o2, x2⟩
    obtain ⟨i2, e2, _⟩ := own_read o2
    rw [HD.out] at i2 e2
    rw [List.length_replicate] at e2
    subst e2
    have I2 := Lib.hid i2
    have x3 := x1.trans x2
    clear o2 i2 x1 x2
    go_wp2_with fail
    go_loopw [4, 9] (fun _ i wr => ∃ k : Nat, i = .int .i64 k ∧ k ≤ s.size ∧ Nx w2 wr) (fun _ i _ => 4 - (intOf i).toNat)
    case atStart => exact ⟨0, rfl, by omega, Nx.refl _⟩
    case round =>
      obtain ⟨k, rfl, hk, hN⟩ := hrel
      by_cases hlt : k < s.size
      · have q3 : decide ((k : Int) < (s.size : Int)) = true := decide_eq_true (by omega)
        have q3' : decide (k < s.size) = true := decide_eq_true hlt
        have hi0 : (0 : Int) ≤ (k : Int) := by omega
        have hi1 : (k : Int) < (s.size : Int) := by omega
        obtain ⟨b2, o2, rfl, l2, c2'⟩ := I2.out.at_ hlt
        have c2x := (hN.cell (p := ⟨b2, o2 + k, none⟩) l2).trans c2'
        rw [show nth (List.replicate s.size 65533) k = 65533 by simp [nth, hlt]] at c2x
        clear c2'
        go_wp2_with fail
        go_roundw
        case rel => exact ⟨k + 1, by go_num, by omega, hN⟩
        case measure => simp [intOf]; omega
      · have q3 : decide ((k : Int) < (s.size : Int)) = false := decide_eq_false (by omega)
        have q3' : decide (k < s.size) = false := decide_eq_false hlt
        have cv := conv_new wr [b] _ 1 rfl rfl
        simp only [List.map_cons, List.map_nil] at cv
        have hl1 : L (strOfNums [b]) = [UInt8.ofNat b.toNat] := L_nums [b]
        have hl2 : L (s ++ strOfNums [b]) = L s ++ [UInt8.ofNat b.toNat] := by rw [L_app, hl1]
        have hz1 : (strOfNums [b]).size ≤ 1 := by rw [← L_length, hl1]; simp
        rw [← hl2] at HN
        clear hl1 hl2
        generalize strOfNums [b] = B at *
        have q4 : ((s.size : Int) == (s.size : Int)) = true := by simp
        have x4 := (x3.trans hN).alloc (.cells #[.int .u8 b] 5)
        have CN := Lib.hid (next_any (s ++ B) _ (hT.nx x4))
        rcases HN.out with h | ⟨r, hv, h⟩ | h
        · rw [show nxV (L (s ++ B)) = .tuple #[.int .i32 0, .int .i64 0, .int .i64 3] by rw [nxV, h]; rfl] at CN
          clear HN h
          go_wp2_with fail
          refine CN.out.mono ?_
          rintro e w5 ⟨rfl, x5⟩
          clear CN
          go_wp2_with fail
          refine (glyphs_any _ (hT.nx (x4.trans x5))).mono ?_
          rintro e w6 ⟨rfl, x6⟩
          go_wp2_with fail
          go_ret
          exact ⟨rfl, (x4.trans x5).trans x6⟩
        · have CI := Lib.hid (fun W => is_any (r : Int) W)
          rw [show vB (r : Int) = true from (validN_iff r).2 hv] at CI
          have hvv : nxV (L (s ++ B)) = .tuple #[.int .i32 r, .int .i64 ((s.size : Int) + 1), .int .i64 0] := by rw [nxV, h, L_length]; rfl
          rw [hvv] at CN
          clear HN h hvv hv
          obtain ⟨z, hz⟩ : ∃ z : Int, (r : Int) = z := ⟨_, rfl⟩
          rw [hz] at CN CI
          clear hz
          have q5 : (((s.size : Int) + 1) == ((s.size : Int) + 1)) = true := by simp
          go_wp2_with fail
          refine CN.out.mono ?_
          rintro e w5 ⟨rfl, x5⟩
          clear CN
          go_wp2_with fail
          refine (glyphs_any _ (hT.nx (x4.trans x5))).mono ?_
          rintro e w6 ⟨rfl, x6⟩
          go_wp2_with fail
          refine (CI.out _).mono ?_
          rintro e w7 ⟨rfl, rfl⟩
          clear CI
          go_wp2_with fail
          go_ret
          exact ⟨rfl, (x4.trans x5).trans x6⟩
        · rw [show nxV (L (s ++ B)) = .tuple #[.int .i32 65533, .int .i64 1, .int .i64 0] by rw [nxV, h]; rfl] at CN
          clear HN h
          have q5 : ((1 : Int) == ((s.size : Int) + 1)) = false := by
            rw [beq_eq_false_iff_ne]; omega
          go_wp2_with fail
          refine CN.out.mono ?_
          rintro e w5 ⟨rfl, x5⟩
          clear CN
          go_wp2_with fail
          refine (glyphs_any _ (hT.nx (x4.trans x5))).mono ?_
          rintro e w6 ⟨rfl, x6⟩
          go_wp2_with fail
          go_ret
          exact ⟨rfl, (x4.trans x5).trans x6⟩
  · obtain rfl : s = ⟨#[]⟩ := L_inj e'
    rw [show nxV (L ⟨#[]⟩) = .tuple #[.int .i32 0, .int .i64 0, .int .i64 6] from rfl] at C1
    clear e e' wb
    go_enter Tryd.func8, Tryd.ntmps8
    go_wp2_with fail
    refine C1.out.mono ?_
    rintro e w1 ⟨rfl, x1⟩
    clear C1
    go_wp2_with fail
    refine (glyphs_any _ (hT.nx x1)).mono ?_
    rintro e w2 ⟨rfl, x2⟩
    go_wp2_with fail
    go_ret
    exact ⟨rfl, x1.trans x2⟩
end Go.Proofs.YtmfallijaeldkaaDoor.walk
