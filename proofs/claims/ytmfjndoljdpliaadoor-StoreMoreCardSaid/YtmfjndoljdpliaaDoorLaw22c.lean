/-
  The walk of the law StoreMore: it returns true for every input. No condition but the library's two tables.
-/
import Derived.Test.YtmfjndoljdpliaaDoorLaw22a
namespace Go.Proofs.YtmfjndoljdpliaaDoor.walk
open Go.RowKit Go.Proofs.YtmfjndoljdpliaaDoor.kit Go.Proofs.YtmfjndoljdpliaaDoor.plain
set_option linter.unusedVariables false

theorem RowsIn.front {w : World} {A : Option Addr} {n : Nat} {ls : List (List Int)} {l : List Int} (h : RowsIn w A (n + 1) (ls ++ [l])) (hl : ls.length = n) : RowsIn w A n ls :=
  ⟨hl, fun hn => by
    obtain ⟨b, off, e, hlt, hc⟩ := h.2 (by omega)
    refine ⟨b, off, e, hlt, fun j hj => ?_⟩
    have := hc j (by omega)
    rwa [nthL_old (by omega)] at this⟩
/-- a line of any length -/
theorem rone_all (A : Option Addr) (n cap : Nat) (zs : List Int) (w : World) (hz : IntsIn .i32 w A n zs) :
    Calls Tryd.prog 13 #[.slice A n cap] w fun e w' => e = .returned (.bool (okLine zs)) ∧ Nx w w' := by
  by_cases h : n ≤ 1000000
  · exact rone_any A n cap zs w hz h
  · have hl := hz.1
    have hr : okLine zs = false := by simp [okLine]; omega
    rw [hr]
    have d1 : decide ((0 : Int) < (n : Int)) = true := decide_eq_true (by omega)
    have d1' : decide (0 < n) = true := decide_eq_true (by omega)
    have d2 : decide ((n : Int) ≤ (200 : Int)) = false := decide_eq_false (by omega)
    have d2' : decide (n ≤ 200) = false := decide_eq_false (by omega)
    clear hr hl h
    go_enter Tryd.func13, Tryd.ntmps13
    go_wp2_with fail
    go_ret
    exact ⟨rfl, Nx.refl _⟩
theorem okPast_one {l : List Int} (h : okLine l = true) : okPast 1 0 [l] = true :=
  okPast_mk (by rfl) (by simp) (fun x hx => by simp at hx; subst hx; exact h)
theorem short_one {l : List Int} (h : okLine l = true) : Short [l] := by
  intro x hx
  simp at hx
  subst hx
  have := (okLine_t h).2.1
  omega
theorem put_more {R D : Int} {ls : List (List Int)} {l : List Int} (h : okPast R D ls = true) (hr : (ls.length : Int) < R) (hl : okLine l = true) (T : ByteArray) (hT : T = mkS (putL 1 0 [l])) :
    isPut (L (mkS (putL R D ls) ++ T.extract 3 T.size)) R D (ls ++ [l]) ∧ (mkS (putL R D ls) ++ T.extract 3 T.size).size ≤ 1000000 ∧ 3 ≤ T.size := by
  have h1 := putL_length h
  have h2 := putL_length (okPast_one hl)
  have e : L (mkS (putL R D ls) ++ T.extract 3 T.size) = putL R D (ls ++ [l]) := by
    rw [L_app, (size_rest T 3).2, L_mkS, hT, L_mkS, putL_snoc]
  have ho := okPast_snoc h hr hl
  refine ⟨⟨ho, e.symm⟩, ?_, ?_⟩
  · rw [← L_length, e]
    have := putL_length ho
    omega
  · rw [hT, ← L_length, L_mkS]; exact h2.1

set_option maxRecDepth 100000 in
set_option maxHeartbeats 4000000 in
theorem storeMore_walk (w : World) (hT : TB w) (R D : Int) (A : Option Addr) (n cap : Nat) (ls : List (List Int)) (hz : RowsIn w A n ls ∧ n ≤ cap ∧ cap ≤ maxLen)
    (B : Option Addr) (m c : Nat) (zs : List Int) (hy : IntsIn .i32 w B m zs ∧ m ≤ c ∧ c ≤ maxLen) :
    Calls Tryd.prog 4 #[.agg #[.int .i64 R, .int .i64 D, .slice A n cap], .slice B m c] w fun e w' => e = .returned (.bool true) ∧ Below w.heap.size w w' := by
  have n1 := (Nx.refl w).alloc (.cells #[.int .i64 R, .int .i64 D, .slice A n cap] 24)
  have hB := Blk.new w 24 #[.int .i64 R, .int .i64 D, .slice A n cap]
  have CB := Lib.hid (fun s W hw => big_any R D A n cap ls s W hw)
  have HZ := Lib.hid hz.1
  have HY := Lib.hid hy
  have CS := Lib.hid (fun W hw => stored_any W (hT.nx hw))
  clear hz hy
  have b0 := blk3 hB
  go_enter Tryd.func4, Tryd.ntmps4
  go_wp2_with fail
  refine (CB.out _ _ (HZ.out.keep n1)).mono ?_
  clear b0
  rintro e w1 ⟨rfl | ⟨rfl, hl, hm, hk⟩, x1⟩
  · have n2 := n1.trans x1
    clear CB hB x1 n1 HZ HY
    go_wp2_with fail
    refine (CS.out _ n2).mono ?_
    clear CS
    rintro e w2 ⟨rfl, x2⟩
    go_wp2_with fail
    go_ret
    exact ⟨rfl, n2.trans x2⟩
  · have hs := short_of hm
    have n2 := n1.trans x1
    have hB1 := hB.nx x1
    have b1 := blk3 hB1
    have CI := Lib.hid (isp_any R D A n cap ls w1 (HZ.out.keep n2) hs)
    have HS := Lib.hid hs
    clear hB CB hl hm hk hs x1 n1
    cases hok : okPast R D ls with
    | false =>
      rw [hok] at CI
      clear HZ HY HS hok
      go_wp2_with fail
      refine CI.out.mono ?_
      clear CI
      rintro e w2 ⟨rfl, x2⟩
      have n3 := n2.trans x2
      clear b1 hB1 x2 n2
      go_wp2_with fail
      refine (CS.out _ n3).mono ?_
      clear CS
      rintro e w3 ⟨rfl, x3⟩
      go_wp2_with fail
      go_ret
      exact ⟨rfl, n3.trans x3⟩
    | true =>
      rw [hok] at CI
      have HL := Lib.hid HZ.out.1
      by_cases hR : R ≤ (n : Int)
      · have d1 : decide (R ≤ (n : Int)) = true := decide_eq_true hR
        clear HZ HY HS hok
        go_wp2_with fail
        refine CI.out.mono ?_
        clear CI
        rintro e w2 ⟨rfl, x2⟩
        have n3 := n2.trans x2
        have b2 := blk3 (hB1.nx x2)
        clear b1 hB1 x2 n2
        go_wp2_with fail
        refine (CS.out _ n3).mono ?_
        clear CS
        rintro e w3 ⟨rfl, x3⟩
        go_wp2_with fail
        go_ret
        exact ⟨rfl, n3.trans x3⟩
      · have d1 : decide (R ≤ (n : Int)) = false := decide_eq_false hR
        go_wp2_with fail
        refine CI.out.mono ?_
        clear CI
        rintro e w2 ⟨rfl, x2⟩
        have n3 := n2.trans x2
        have hB2 := hB1.nx x2
        have b2 := blk3 hB2
        have CO := Lib.hid (rone_all B m c zs w2 (HY.out.1.keep n3))
        clear b1 hB1 x2 n2
        cases hol : okLine zs with
        | false =>
          rw [hol] at CO
          clear HZ HY HS hok hol
          go_wp2_with fail
          refine CO.out.mono ?_
          clear CO
          rintro e w3 ⟨rfl, x3⟩
          have n4 := n3.trans x3
          clear b2 hB2 x3 n3
          go_wp2_with fail
          refine (CS.out _ n4).mono ?_
          clear CS
          rintro e w4 ⟨rfl, x4⟩
          go_wp2_with fail
          go_ret
          exact ⟨rfl, n4.trans x4⟩
        | true =>
          rw [hol] at CO
          obtain ⟨S, hS⟩ : ∃ S, mkS (putL R D ls) = S := ⟨_, rfl⟩
          obtain ⟨T, hT'⟩ : ∃ T, mkS (putL 1 0 [zs]) = T := ⟨_, rfl⟩
          obtain ⟨g1, g2, g3⟩ := put_more hok (by rw [HL.out]; omega) hol T hT'.symm
          rw [hS] at g1 g2
          have hSz : S.size ≤ 12819 := by rw [← hS, ← L_length, L_mkS]; exact (putL_length hok).2
          have hTz : T.size ≤ 12819 := by rw [← hT', ← L_length, L_mkS]; exact (putL_length (okPast_one hol)).2
          have hTx := (size_rest T 3).1
          have HG := Lib.hid g1
          have HE := Lib.hid hS
          have HE' := Lib.hid hT'
          have HOK := Lib.hid hok
          have HOL := Lib.hid hol
          clear g1 hS hT' hok hol
          go_wp2_with fail
          refine CO.out.mono ?_
          clear CO
          rintro e w3 ⟨rfl, x3⟩
          have n4 := n3.trans x3
          have hB3 := hB2.nx x3
          have b3 := blk3 hB3
          have C1 := Lib.hid (putp_ok R D A n cap ls w3 (HZ.out.keep n4) HS.out HOK.out)
          rw [HE.out] at C1
          clear b2 hB2 x3 n3
          go_wp2_with fail
          refine C1.out.mono ?_
          clear C1
          rintro e w4 ⟨rfl, x4⟩
          have n5 := n4.trans x4
          have hB4 := (hB3.nx x4).alloc (.cells #[.slice B m c] 34)
          have hI4 := HY.out.1.keep n5
          have C2 := Lib.hid (putp_ok 1 0 (some ⟨w4.heap.size, 0, none⟩) 1 1 [zs] _ (rows_one w4 B m c zs 34 hI4 HY.out.2.1 HY.out.2.2) (short_one HOL.out) (okPast_one HOL.out))
          rw [HE'.out] at C2
          have n6 := n5.alloc (.cells #[.slice B m c] 34)
          clear b3 hB3 x4 n4 n5 hI4
          go_wp2_with fail
          refine C2.out.mono ?_
          clear C2
          rintro e w5 ⟨rfl, x5⟩
          have n7 := n6.trans x5
          have hB5 := hB4.nx x5
          have b5 := blk3 hB5
          have d3 : decide ((T.size : Int) < 3) = false := decide_eq_false (by omega)
          have d3' : decide (T.size < 3) = false := decide_eq_false (by omega)
          have c3 : (3 : Int) ≤ (T.size : Int) := by omega
          have C3 := Lib.hid (getp_any _ w5 (hT.nx n7) g2)
          clear hB4 x5 n6
          go_wp2_with fail
          refine C3.out.mono ?_
          clear C3
          intro e w6 h6
          obtain ⟨A', cap', rfl, r6, l6, _, x6⟩ := h6.put HG.out
          have hl1 : (ls ++ [zs]).length = n + 1 := by rw [List.length_append, List.length_singleton, HL.out]
          rw [hl1] at r6 l6 ⊢
          have hR16 : n ≤ 16 := by
            have h1 := okPast_t HOK.out
            have h2 := okHead_t h1.1
            have h3 := HL.out
            omega
          have n8 := n7.trans x6
          have hB6 := (hB5.nx x6).alloc (.cells #[.int .i64 R, .int .i64 D, .slice A' (n + 1) cap'] 24)
          have hQ6 := Blk.new w6 24 #[.int .i64 R, .int .i64 D, .slice A' (n + 1) cap']
          have n9 := n8.alloc (.cells #[.int .i64 R, .int .i64 D, .slice A' (n + 1) cap'] 24)
          have r9 := r6.keep ((Nx.refl w6).alloc (.cells #[.int .i64 R, .int .i64 D, .slice A' (n + 1) cap'] 24))
          have b9 := blk3 hB6
          have q9 := blk3 hQ6
          have a5 : IntKind.i64.wrap ((n : Int) + 1) = (n : Int) + 1 := IntWalk.i64_in _ (by omega)
          have e1 : ((((n + 1 : Nat) : Int)) != (n : Int) + 1) = false := by simp
          have e2 : (((n : Int) + 1) != (n : Int) + 1) = false := by simp
          have e3 : (R != R) = false := by simp
          have e4 : (D != D) = false := by simp
          have HR9 := Lib.hid r9
          have HB6 := Lib.hid hB6
          have HQ6 := Lib.hid hQ6
          clear b5 hB5 x6 n7 n8 h6 r6 r9 hB6 hQ6 HG hSz hTz hTx g2 g3 d3 d3' c3
          go_wp2_with fail
          clear b9 q9 e1 e2 e3 e4 a5 d1 hR
          generalize w6.alloc _ = W9 at *
          obtain ⟨b, off, B', m', c', hA', lb, gc, hI', hm', hc'⟩ := HR9.out.at_ (j := n) (by omega)
          subst hA'
          have hnn : nthL (ls ++ [zs]) n = zs := by rw [← HL.out]; exact nthL_snoc ls zs
          rw [hnn] at hI'
          obtain rfl : m' = m := by rw [← hI'.1, ← HY.out.1.1]
          have f0 : ∀ d os, (Sort.grow (redrawn W9 d) os).cell? ⟨w.heap.size, 2, none⟩ = some (.slice A n cap) := cell_regrown (blk3 HB6.out).2.2
          have f1 : ∀ d os, (Sort.grow (redrawn W9 d) os).cell? ⟨w6.heap.size, 2, none⟩ = some (.slice (some ⟨b, off, none⟩) (n + 1) cap') := cell_regrown (blk3 HQ6.out).2.2
          have f2 : ∀ d os, (Sort.grow (redrawn W9 d) os).cell? ⟨b, off + n, none⟩ = some (.slice B' m' c') := cell_regrown gc
          have v1 := fun d os => Calls.regrown_of (w := W9) (d := d) (os := os) (CS.out _ (n9.trans (below_regrown W9 d os)))
          have v2 := fun d os => Calls.regrown_of (w := W9) (d := d) (os := os) (sames_eq _ (some ⟨b, off, none⟩) A n cap' cap ls ((HR9.out.front HL.out).keep (below_regrown W9 d os)) (HZ.out.keep (n9.trans (below_regrown W9 d os))) HS.out (by omega))
          have hml := (okLine_t HOL.out).2.1
          have v3 := fun d os => Calls.regrown_of (w := W9) (d := d) (os := os) (same_eq _ B' B m' c' c zs (hI'.keep (below_regrown W9 d os)) (HY.out.1.keep (n9.trans (below_regrown W9 d os))) (by rw [← HY.out.1.1]; omega))
          have p0 : (0 : Int) ≤ (n : Int) := by omega
          have p1 : (n : Int) ≤ (cap' : Int) := by omega
          have p2 : (n : Int) < ((n + 1 : Nat) : Int) := by omega
          have p3 : (n : Int) < (n : Int) + 1 := by omega
          have p4 : n ≤ cap' := by omega
          clear gc hI' hnn HZ HY HS HL HR9 HB6 HQ6 CS HE HE' HOK HOL
          refine wp_region_quiet_below (by kernel_rfl) (by kernel_rfl) ?_
          repeat (go_big_quiet_step (first | with_reducible exact v1 _ _ | with_reducible exact v2 _ _ | with_reducible exact v3 _ _))
          refine wpQuiet_nil ?_
          intro _ hw'
          obtain ⟨⟨dq, osq⟩, hw''⟩ := hw'
          subst hw''
          go_wp2_with fail
          go_ret
          exact ⟨rfl, n9.trans (below_regrown W9 dq osq)⟩
end Go.Proofs.YtmfjndoljdpliaaDoor.walk
