/-
  A past, the document's: is it one; are two the same? No condition but a bound on the rows. (New, One and Is are turned from the walks of the program's own by a small program.)
-/
import Derived.Test.YtmfjndoljdpliaaDoorWalk22b
namespace Go.Proofs.YtmfjndoljdpliaaDoor.walk
open Go.RowKit Go.Proofs.YtmfjndoljdpliaaDoor.kit Go.Proofs.YtmfjndoljdpliaaDoor.plain
set_option linter.unusedVariables false

set_option maxHeartbeats 1000000 in
theorem rnew_ok (R D : Int) (w : World) (h : okHead R D = true) : Calls Tryd.prog 34 #[.int .i64 R, .int .i64 D] w fun e w' => e = .returned (.tuple #[.agg #[.int .i64 R, .int .i64 D, .slice none 0 0], .int .i64 0]) ∧ Nx w w' := by
  have hh := okHead_t h
  clear h
  have d1 : decide (R < 1) = false := decide_eq_false (by omega)
  have d2 : decide (16 < R) = false := decide_eq_false (by omega)
  have d3 : decide (D < 0) = false := decide_eq_false (by omega)
  have d4 : decide (2 < D) = false := decide_eq_false (by omega)
  go_enter Tryd.func34, Tryd.ntmps34
  go_wp2_with fail
  refine bodyPost_ret (v := .tuple #[.agg #[.int .i64 R, .int .i64 D, .slice none 0 0], .int .i64 0]) (by simp [results, Tryd.results34, go_sem]) rfl ⟨rfl, ?_⟩
  exact (Nx.refl w).alloc _
set_option maxHeartbeats 2000000 in
theorem rnew_bad (R D : Int) (w : World) (h : okHead R D = false) : Calls Tryd.prog 34 #[.int .i64 R, .int .i64 D] w fun e w' => e = .returned (.tuple #[.agg #[.int .i64 0, .int .i64 0, .slice none 0 0], .int .i64 4]) ∧ Nx w w' := by
  have hh := of_decide_eq_false h
  clear h
  rcases (show R < 1 ∨ (1 ≤ R ∧ 16 < R) ∨ (1 ≤ R ∧ R ≤ 16 ∧ D < 0) ∨ (1 ≤ R ∧ R ≤ 16 ∧ 0 ≤ D ∧ 2 < D) by omega) with g | ⟨g, k⟩ | ⟨g, k, m⟩ | ⟨g, k, m, n⟩
  · clear hh
    have d1 : decide (R < 1) = true := decide_eq_true (by omega)
    go_enter Tryd.func34, Tryd.ntmps34
    go_wp2_with fail
    refine bodyPost_ret (v := .tuple #[.agg #[.int .i64 0, .int .i64 0, .slice none 0 0], .int .i64 4]) (by simp [results, Tryd.results34, go_sem]) rfl ⟨rfl, ?_⟩
    exact (Nx.refl w).alloc _
  · clear hh
    have d1 : decide (R < 1) = false := decide_eq_false (by omega)
    have d2 : decide (16 < R) = true := decide_eq_true (by omega)
    go_enter Tryd.func34, Tryd.ntmps34
    go_wp2_with fail
    refine bodyPost_ret (v := .tuple #[.agg #[.int .i64 0, .int .i64 0, .slice none 0 0], .int .i64 4]) (by simp [results, Tryd.results34, go_sem]) rfl ⟨rfl, ?_⟩
    exact (Nx.refl w).alloc _
  · clear hh
    have d1 : decide (R < 1) = false := decide_eq_false (by omega)
    have d2 : decide (16 < R) = false := decide_eq_false (by omega)
    have d3 : decide (D < 0) = true := decide_eq_true (by omega)
    go_enter Tryd.func34, Tryd.ntmps34
    go_wp2_with fail
    refine bodyPost_ret (v := .tuple #[.agg #[.int .i64 0, .int .i64 0, .slice none 0 0], .int .i64 4]) (by simp [results, Tryd.results34, go_sem]) rfl ⟨rfl, ?_⟩
    exact (Nx.refl w).alloc _
  · clear hh
    have d1 : decide (R < 1) = false := decide_eq_false (by omega)
    have d2 : decide (16 < R) = false := decide_eq_false (by omega)
    have d3 : decide (D < 0) = false := decide_eq_false (by omega)
    have d4 : decide (2 < D) = true := decide_eq_true (by omega)
    go_enter Tryd.func34, Tryd.ntmps34
    go_wp2_with fail
    refine bodyPost_ret (v := .tuple #[.agg #[.int .i64 0, .int .i64 0, .slice none 0 0], .int .i64 4]) (by simp [results, Tryd.results34, go_sem]) rfl ⟨rfl, ?_⟩
    exact (Nx.refl w).alloc _

set_option maxHeartbeats 1000000 in
theorem rall_any (A : Option Addr) (n cap : Nat) (zs : List Int) (w : World) (hz : IntsIn .i32 w A n zs) (hn : n ≤ 1000000) :
    Calls Tryd.prog 23 #[.slice A n cap] w fun e w' => e = .returned (.bool (zs.all valI)) ∧ Nx w w' := by
  obtain ⟨res, hres⟩ : ∃ q, zs.all valI = q := ⟨_, rfl⟩
  rw [hres]
  have HR := Lib.hid hres
  clear hres
  go_enter Tryd.func23, Tryd.ntmps23
  go_wp2_with fail
  go_loopw [3] (fun i wr => ∃ (k : Nat), k ≤ n ∧ i = .int .i64 k ∧ (zs.take k).all valI = true ∧ Nx w wr) (fun i _ => n - (intOf i).toNat)
  case atStart => exact ⟨0, Nat.zero_le _, rfl, rfl, Nx.refl _⟩
  case round =>
    obtain ⟨k, hk, rfl, ha, hN⟩ := hrel
    have HA := Lib.hid ha
    clear ha
    by_cases hlt : k < n
    · obtain ⟨b, off, rfl, lb, b0⟩ := hz.at_ hlt
      have c0 := (hN.cell (p := ⟨b, off + k, none⟩) lb).trans b0
      have q1 : decide ((k : Int) < (n : Int)) = true := decide_eq_true (by omega)
      have q1' : decide (k < n) = true := decide_eq_true hlt
      have hi0 : (0 : Int) ≤ (k : Int) := by omega
      have hi1 : (k : Int) < (n : Int) := by omega
      have HT := Lib.hid (take_nth (zs := zs) (i := k) (by rw [hz.1]; exact hlt))
      have HM := Lib.hid (nth_mem (zs := zs) (i := k) (by rw [hz.1]; exact hlt))
      generalize nth zs k = r at *
      have CA := Lib.hid (ris_any r wr)
      clear b0
      cases hvk : vB r with
      | true =>
        rw [hvk] at CA
        have HK := Lib.hid (show valI r = true from hvk)
        clear hvk
        go_wp2_with fail
        refine CA.out.mono ?_
        rintro e w1 ⟨rfl, rfl⟩
        clear CA
        go_wp2_with fail
        go_roundw
        case rel => exact ⟨k + 1, by omega, by go_num, by rw [HT.out, List.all_append, HA.out]; simp [HK.out], hN⟩
        case measure => simp [intOf]; omega
      | false =>
        rw [hvk] at CA
        have hrf : res = false := by
          rw [← HR.out, List.all_eq_false]
          exact ⟨r, HM.out, by rw [show valI r = false from hvk]; simp⟩
        subst hrf
        clear hvk HR
        go_wp2_with fail
        refine CA.out.mono ?_
        rintro e w1 ⟨rfl, rfl⟩
        clear CA
        go_wp2_with fail
        go_ret
        exact ⟨rfl, hN⟩
    · have q1 : decide ((k : Int) < (n : Int)) = false := decide_eq_false (by omega)
      have q1' : decide (k < n) = false := decide_eq_false hlt
      have hrt : res = true := by
        rw [← HR.out, ← HA.out, List.take_of_length_le (by rw [hz.1]; omega)]
      subst hrt
      clear HR HA
      go_wp2_with fail
      go_ret
      exact ⟨rfl, hN⟩
theorem rone_any (A : Option Addr) (n cap : Nat) (zs : List Int) (w : World) (hz : IntsIn .i32 w A n zs) (hn : n ≤ 1000000) :
    Calls Tryd.prog 13 #[.slice A n cap] w fun e w' => e = .returned (.bool (okLine zs)) ∧ Nx w w' := by
  have hl := hz.1
  have C1 := Lib.hid (rall_any A n cap zs w hz hn)
  clear hz
  rcases (show n = 0 ∨ (1 ≤ n ∧ 200 < n) ∨ (1 ≤ n ∧ n ≤ 200) by omega) with g | ⟨g, k⟩ | ⟨g, k⟩
  · have hr : okLine zs = false := by simp [okLine]; omega
    rw [hr]
    have d1 : decide ((0 : Int) < (n : Int)) = false := decide_eq_false (by omega)
    have d1' : decide (0 < n) = false := decide_eq_false (by omega)
    clear hr hl g
    go_enter Tryd.func13, Tryd.ntmps13
    go_wp2_with fail
    go_ret
    exact ⟨rfl, Nx.refl _⟩
  · have hr : okLine zs = false := by simp [okLine]; omega
    rw [hr]
    have d1 : decide ((0 : Int) < (n : Int)) = true := decide_eq_true (by omega)
    have d1' : decide (0 < n) = true := decide_eq_true (by omega)
    have d2 : decide ((n : Int) ≤ (200 : Int)) = false := decide_eq_false (by omega)
    have d2' : decide (n ≤ 200) = false := decide_eq_false (by omega)
    clear hr hl
    go_enter Tryd.func13, Tryd.ntmps13
    go_wp2_with fail
    go_ret
    exact ⟨rfl, Nx.refl _⟩
  · have hr : okLine zs = zs.all valI := by simp [okLine, hl]; omega
    rw [hr]
    have d1 : decide ((0 : Int) < (n : Int)) = true := decide_eq_true (by omega)
    have d1' : decide (0 < n) = true := decide_eq_true (by omega)
    have d2 : decide ((n : Int) ≤ (200 : Int)) = true := decide_eq_true (by omega)
    have d2' : decide (n ≤ 200) = true := decide_eq_true (by omega)
    clear hr hl
    generalize zs.all valI = q at *
    go_enter Tryd.func13, Tryd.ntmps13
    go_wp2_with fail
    refine C1.out.mono ?_
    rintro e w1 ⟨rfl, x1⟩
    clear C1
    go_wp2_with fail
    go_ret
    exact ⟨by simp, x1⟩
set_option maxHeartbeats 2000000 in
theorem risp_head (R D : Int) (A : Option Addr) (n cap : Nat) (w : World) (h : okHead R D = false) :
    Calls Tryd.prog 24 #[.agg #[.int .i64 R, .int .i64 D, .slice A n cap]] w fun e w' => e = .returned (.bool false) ∧ Nx w w' := by
  have C1 := Lib.hid (fun W => rnew_bad R D W h)
  clear h
  go_enter Tryd.func24, Tryd.ntmps24
  go_wp2_with fail
  refine (C1.out _).mono ?_
  rintro e w1 ⟨rfl, x1⟩
  clear C1
  have n1 := ((Nx.refl w).alloc _).trans x1
  go_wp2_with fail
  go_ret
  exact ⟨rfl, n1.alloc _⟩
set_option maxHeartbeats 2000000 in
theorem risp_many (R D : Int) (A : Option Addr) (n cap : Nat) (w : World) (h : okHead R D = true) (hR : R < (n : Int)) :
    Calls Tryd.prog 24 #[.agg #[.int .i64 R, .int .i64 D, .slice A n cap]] w fun e w' => e = .returned (.bool false) ∧ Nx w w' := by
  have C1 := Lib.hid (fun W => rnew_ok R D W h)
  clear h
  have d1 : decide (R < (n : Int)) = true := decide_eq_true hR
  have hB := Blk.new w 24 #[.int .i64 R, .int .i64 D, .slice A n cap]
  go_enter Tryd.func24, Tryd.ntmps24
  go_wp2_with fail
  refine (C1.out _).mono ?_
  rintro e w1 ⟨rfl, x1⟩
  clear C1
  have n1 := ((Nx.refl w).alloc _).trans x1
  obtain ⟨b0, b1, b2⟩ := blk3 ((hB.nx x1).alloc (.cells #[.int .i64 R, .int .i64 D, .slice none 0 0] 24))
  clear hB
  go_wp2_with fail
  go_ret
  exact ⟨rfl, n1.alloc _⟩
set_option maxRecDepth 100000 in
set_option maxHeartbeats 4000000 in
theorem risp_loop (R D : Int) (A : Option Addr) (n cap : Nat) (ls : List (List Int)) (w : World) (h : okHead R D = true) (hR : (n : Int) ≤ R) (hz : RowsIn w A n ls) (hs : Short ls) :
    Calls Tryd.prog 24 #[.agg #[.int .i64 R, .int .i64 D, .slice A n cap]] w fun e w' => e = .returned (.bool (ls.all okLine)) ∧ Nx w w' := by
  have hh := okHead_t h
  have C1 := Lib.hid (fun W => rnew_ok R D W h)
  clear h
  have d1 : decide (R < (n : Int)) = false := decide_eq_false (by omega)
  have hB := Blk.new w 24 #[.int .i64 R, .int .i64 D, .slice A n cap]
  have hl := hz.1
  obtain ⟨res, hres⟩ : ∃ q, ls.all okLine = q := ⟨_, rfl⟩
  rw [hres]
  have HR := Lib.hid hres
  have HL := Lib.hid hl
  clear hres hl
  go_enter Tryd.func24, Tryd.ntmps24
  go_wp2_with fail
  refine (C1.out _).mono ?_
  rintro e w1 ⟨rfl, x1⟩
  clear C1
  have n1 := (((Nx.refl w).alloc _).trans x1).alloc (.cells #[.int .i64 R, .int .i64 D, .slice none 0 0] 24)
  have hB1 := (hB.nx x1).alloc (.cells #[.int .i64 R, .int .i64 D, .slice none 0 0] 24)
  obtain ⟨b0, b1, b2⟩ := blk3 hB1
  have HB := Lib.hid hB1
  clear hB hB1
  go_wp2_with fail
  go_loopw [5] (fun i wr => ∃ (k : Nat), k ≤ n ∧ i = .int .i64 k ∧ (ls.take k).all okLine = true ∧ Blk wr w.heap.size 24 #[.int .i64 R, .int .i64 D, .slice A n cap] ∧ Nx w wr) (fun i _ => n - (intOf i).toNat)
  case atStart => exact ⟨0, Nat.zero_le _, rfl, rfl, HB.out, n1⟩
  case round =>
    clear b0 b1 b2 HB
    obtain ⟨k, hk, rfl, ha, hB, hN⟩ := hrel
    obtain ⟨b0, b1, b2⟩ := blk3 hB
    have HA := Lib.hid ha
    have HB := Lib.hid hB
    clear ha hB
    by_cases hlt : k < n
    · obtain ⟨b, off, B, m, c, rfl, lb, g0, hI, hmc, hcm⟩ := hz.at_ hlt
      have c0 := (hN.cell (p := ⟨b, off + k, none⟩) lb).trans g0
      have q1 : decide ((k : Int) < (n : Int)) = true := decide_eq_true (by omega)
      have q1' : decide (k < n) = true := decide_eq_true hlt
      have hi0 : (0 : Int) ≤ (k : Int) := by omega
      have hi1 : (k : Int) < (n : Int) := by omega
      have hkl : k < ls.length := by rw [HL.out]; exact hlt
      have HT := Lib.hid (take_nthL (ls := ls) (i := k) hkl)
      have hsh := hs.at_ hkl
      have hmm := nthL_mem hkl
      have HM := Lib.hid hmm
      clear hmm
      generalize nthL ls k = l at *
      have CA := Lib.hid (rone_any B m c l wr (hI.keep hN) (by rw [← hI.1]; exact hsh))
      clear g0 hI
      cases hv : okLine l with
      | true =>
        rw [hv] at CA
        have HK := Lib.hid hv
        clear hv
        go_wp2_with fail
        refine CA.out.mono ?_
        rintro e w2 ⟨rfl, x2⟩
        clear CA
        go_wp2_with fail
        go_roundw
        case rel => exact ⟨k + 1, by omega, by go_num, by rw [HT.out, List.all_append, HA.out]; simp [HK.out], HB.out.nx x2, hN.trans x2⟩
        case measure => simp [intOf]; omega
      | false =>
        rw [hv] at CA
        have hrf : res = false := by
          rw [← HR.out, List.all_eq_false]
          exact ⟨l, HM.out, by rw [hv]; simp⟩
        subst hrf
        clear hv HR
        go_wp2_with fail
        refine CA.out.mono ?_
        rintro e w2 ⟨rfl, x2⟩
        clear CA
        go_wp2_with fail
        go_ret
        exact ⟨rfl, hN.trans x2⟩
    · have q1 : decide ((k : Int) < (n : Int)) = false := decide_eq_false (by omega)
      have q1' : decide (k < n) = false := decide_eq_false hlt
      have hrt : res = true := by
        rw [← HR.out, ← HA.out, List.take_of_length_le (by rw [HL.out]; omega)]
      subst hrt
      clear HR HA
      go_wp2_with fail
      go_ret
      exact ⟨rfl, hN⟩
theorem risp_any (R D : Int) (A : Option Addr) (n cap : Nat) (ls : List (List Int)) (w : World) (hz : RowsIn w A n ls) (hs : Short ls) :
    Calls Tryd.prog 24 #[.agg #[.int .i64 R, .int .i64 D, .slice A n cap]] w fun e w' => e = .returned (.bool (okPast R D ls)) ∧ Nx w w' := by
  have hl := hz.1
  cases h : okHead R D with
  | false =>
    rw [show okPast R D ls = false by simp [okPast, h]]
    exact risp_head R D A n cap w h
  | true =>
    by_cases hR : R < (n : Int)
    · rw [show okPast R D ls = false by simp [okPast]; omega]
      exact risp_many R D A n cap w h hR
    · rw [show okPast R D ls = ls.all okLine by unfold okPast; rw [h, decide_eq_true (show (ls.length : Int) ≤ R by omega)]; simp]
      exact risp_loop R D A n cap ls w h (by omega) hz hs
set_option maxRecDepth 100000 in
set_option maxHeartbeats 2000000 in
/-- rows of the same rows are the same -/
theorem sames_eq (w : World) (A B : Option Addr) (n ca cb : Nat) (ls : List (List Int)) (h1 : RowsIn w A n ls) (h2 : RowsIn w B n ls) (hs : Short ls) (hn : n ≤ 1000000) :
    Calls Tryd.prog 14 #[.slice A n ca, .slice B n cb] w fun e w' => e = .returned (.bool true) ∧ Nx w w' := by
  have q0 : ((n : Int) != (n : Int)) = false := by simp
  have HL := Lib.hid h1.1
  go_enter Tryd.func14, Tryd.ntmps14
  go_wp2_with fail
  go_loopw [5] (fun i wr => ∃ k : Nat, k ≤ n ∧ i = .int .i64 k ∧ Nx w wr) (fun i _ => n - (intOf i).toNat)
  case atStart => exact ⟨0, Nat.zero_le _, rfl, Nx.refl _⟩
  case round =>
    obtain ⟨k, hk, rfl, hN⟩ := hrel
    by_cases hlt : k < n
    · obtain ⟨a, off, Y, m, c, rfl, la, a0, hI, hmc, hcm⟩ := h1.at_ hlt
      obtain ⟨b, of2, Z, m2, c2, rfl, lb, b0, hJ, _, _⟩ := h2.at_ hlt
      have hm : m2 = m := by rw [← hI.1, ← hJ.1]
      subst hm
      have hsh := hs.at_ (j := k) (by rw [HL.out]; exact hlt)
      rw [hI.1] at hsh
      have c0 := (hN.cell (p := ⟨a, off + k, none⟩) la).trans a0
      have d0 := (hN.cell (p := ⟨b, of2 + k, none⟩) lb).trans b0
      have e0 : ∀ d os, (Sort.grow (redrawn wr d) os).cell? ⟨a, off + k, none⟩ = some (.slice Y m2 c) := cell_regrown c0
      have e1 : ∀ d os, (Sort.grow (redrawn wr d) os).cell? ⟨b, of2 + k, none⟩ = some (.slice Z m2 c2) := cell_regrown d0
      have q1 : decide ((k : Int) < (n : Int)) = true := decide_eq_true (by omega)
      have q1' : decide (k < n) = true := decide_eq_true hlt
      have hi0 : (0 : Int) ≤ (k : Int) := by omega
      have hi1 : (k : Int) < (n : Int) := by omega
      have v1 := fun d os => Calls.regrown_of (w := wr) (d := d) (os := os) (same_eq _ Y Z m2 c c2 (nthL ls k) (hI.keep (hN.trans (below_regrown wr d os))) (hJ.keep (hN.trans (below_regrown wr d os))) (by omega))
      clear a0 b0 hI hJ c0 d0
      go_wp2_with fail
      refine wp_region_quiet_below (by kernel_rfl) (by kernel_rfl) ?_
      repeat (go_big_quiet_step (with_reducible exact v1 _ _))
      refine wpQuiet_nil ?_
      intro _ hw'
      obtain ⟨⟨dq, osq⟩, hw''⟩ := hw'
      subst hw''
      have hN2 := hN.trans (below_regrown wr dq osq)
      clear v1 e0 e1
      generalize Sort.grow (redrawn wr dq) osq = W at *
      go_wp2_with fail
      go_roundw
      case rel => exact ⟨k + 1, by omega, by go_num, hN2⟩
      case measure => simp [intOf]; omega
    · have q1 : decide ((k : Int) < (n : Int)) = false := decide_eq_false (by omega)
      have q1' : decide (k < n) = false := decide_eq_false hlt
      go_wp2_with fail
      go_ret
      exact ⟨rfl, hN⟩
set_option maxHeartbeats 2000000 in
theorem psame_eq (R D : Int) (w : World) (A B : Option Addr) (n ca cb : Nat) (ls : List (List Int)) (h1 : RowsIn w A n ls) (h2 : RowsIn w B n ls) (hs : Short ls) (hn : n ≤ 1000000) :
    Calls Tryd.prog 10 #[.agg #[.int .i64 R, .int .i64 D, .slice A n ca], .agg #[.int .i64 R, .int .i64 D, .slice B n cb]] w fun e w' => e = .returned (.bool true) ∧ Nx w w' := by
  have nn := ((Nx.refl w).alloc (.cells #[.int .i64 R, .int .i64 D, .slice A n ca] 24)).alloc (.cells #[.int .i64 R, .int .i64 D, .slice B n cb] 24)
  have C1 := Lib.hid (sames_eq _ A B n ca cb ls (h1.keep nn) (h2.keep nn) hs hn)
  have q1 : (R == R) = true := by simp
  have q2 : (D == D) = true := by simp
  clear h1 h2
  go_enter Tryd.func10, Tryd.ntmps10
  go_wp2_with fail
  refine C1.out.mono ?_
  rintro e w1 ⟨rfl, x1⟩
  clear C1
  go_wp2_with fail
  go_ret
  exact ⟨rfl, nn.trans x1⟩
end Go.Proofs.YtmfjndoljdpliaaDoor.walk
