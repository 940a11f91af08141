/-
  A past: is it one (past.Is)? No condition but a bound on the rows.
-/
import Derived.Test.YtmfjndoljdpliaaDoorWalk22a
namespace Go.Proofs.YtmfjndoljdpliaaDoor.walk
open Go.RowKit Go.Proofs.YtmfjndoljdpliaaDoor.kit Go.Proofs.YtmfjndoljdpliaaDoor.plain
set_option linter.unusedVariables false

def ObjP (R D : Int) (A : Option Addr) (n cap : Nat) : Obj := .cells #[.int .i64 R, .int .i64 D, .slice A n cap] 24
/-- the lines' bound -/
def Short (ls : List (List Int)) : Prop := ∀ l ∈ ls, l.length ≤ 1000000
theorem Short.at_ {ls : List (List Int)} (h : Short ls) {j : Nat} (hj : j < ls.length) : (nthL ls j).length ≤ 1000000 := h _ (nthL_mem hj)

set_option maxHeartbeats 2000000 in
theorem isp_head (R D : Int) (A : Option Addr) (n cap : Nat) (w : World) (h : okHead R D = false) :
    Calls Tryd.prog 12 #[.agg #[.int .i64 R, .int .i64 D, .slice A n cap]] w fun e w' => e = .returned (.bool false) ∧ Nx w w' := by
  have C1 := Lib.hid (fun W => new_bad R D W h)
  clear h
  go_enter Tryd.func12, Tryd.ntmps12
  go_wp2_with fail
  refine (C1.out _).mono ?_
  rintro e w1 ⟨rfl, x1⟩
  clear C1
  have n1 := ((Nx.refl w).alloc _).trans x1
  go_wp2_with fail
  go_ret
  exact ⟨rfl, n1.alloc _⟩
set_option maxHeartbeats 2000000 in
theorem isp_many (R D : Int) (A : Option Addr) (n cap : Nat) (w : World) (h : okHead R D = true) (hR : R < (n : Int)) :
    Calls Tryd.prog 12 #[.agg #[.int .i64 R, .int .i64 D, .slice A n cap]] w fun e w' => e = .returned (.bool false) ∧ Nx w w' := by
  have C1 := Lib.hid (fun W => new_ok R D W h)
  clear h
  have d1 : decide (R < (n : Int)) = true := decide_eq_true hR
  have hB := Blk.new w 24 #[.int .i64 R, .int .i64 D, .slice A n cap]
  go_enter Tryd.func12, Tryd.ntmps12
  go_wp2_with fail
  refine (C1.out _).mono ?_
  rintro e w1 ⟨rfl, x1⟩
  clear C1
  have n1 := ((Nx.refl w).alloc _).trans x1
  obtain ⟨b0, b1, b2⟩ := blk3 ((hB.nx x1).alloc (.cells #[.int .i64 R, .int .i64 D, .slice none 0 0] 24))
  clear hB
  go_wp2_with fail
  go_ret
  exact ⟨rfl, n1.alloc _⟩
set_option maxRecDepth 100000 in
set_option maxHeartbeats 4000000 in
theorem isp_loop (R D : Int) (A : Option Addr) (n cap : Nat) (ls : List (List Int)) (w : World) (h : okHead R D = true) (hR : (n : Int) ≤ R) (hz : RowsIn w A n ls) (hs : Short ls) :
    Calls Tryd.prog 12 #[.agg #[.int .i64 R, .int .i64 D, .slice A n cap]] w fun e w' => e = .returned (.bool (ls.all okLine)) ∧ Nx w w' := by
  have hh := okHead_t h
  have C1 := Lib.hid (fun W => new_ok R D W h)
  clear h
  have d1 : decide (R < (n : Int)) = false := decide_eq_false (by omega)
  have hB := Blk.new w 24 #[.int .i64 R, .int .i64 D, .slice A n cap]
  have hl := hz.1
  obtain ⟨res, hres⟩ : ∃ q, ls.all okLine = q := ⟨_, rfl⟩
  rw [hres]
  have HR := Lib.hid hres
  have HL := Lib.hid hl
  clear hres hl
  go_enter Tryd.func12, Tryd.ntmps12
  go_wp2_with fail
  refine (C1.out _).mono ?_
  rintro e w1 ⟨rfl, x1⟩
  clear C1
  have n1 := (((Nx.refl w).alloc _).trans x1).alloc (.cells #[.int .i64 R, .int .i64 D, .slice none 0 0] 24)
  obtain ⟨b0, b1, b2⟩ := blk3 ((hB.nx x1).alloc (.cells #[.int .i64 R, .int .i64 D, .slice none 0 0] 24))
  clear hB
  go_wp2_with fail
  go_loopw [6, 28] (fun _ i wr => ∃ (k : Nat), k ≤ n ∧ i = .int .i64 k ∧ (ls.take k).all okLine = true ∧ Nx w wr) (fun _ i _ => n - (intOf i).toNat)
  case atStart => exact ⟨0, Nat.zero_le _, rfl, rfl, n1⟩
  case round =>
    obtain ⟨k, hk, rfl, ha, hN⟩ := hrel
    have HA := Lib.hid ha
    clear ha b0 b1 b2
    by_cases hlt : k < n
    · obtain ⟨b, off, B, m, c, rfl, lb, g0, hI, hmc, hcm⟩ := hz.at_ hlt
      have c0 := (hN.cell (p := ⟨b, off + k, none⟩) lb).trans g0
      have q1 : decide ((k : Int) < (n : Int)) = true := decide_eq_true (by omega)
      have q1' : decide (k < n) = true := decide_eq_true hlt
      have hi0 : (0 : Int) ≤ (k : Int) := by omega
      have hi1 : (k : Int) < (n : Int) := by omega
      have hkl : k < ls.length := by rw [HL.out]; exact hlt
      have HT := Lib.hid (take_nthL (ls := ls) (i := k) hkl)
      have hsh := hs.at_ hkl
      have hmm := nthL_mem hkl
      have HM := Lib.hid hmm
      clear hmm
      generalize nthL ls k = l at *
      have CA := Lib.hid (line_any B m c l wr (hI.keep hN) (by rw [← hI.1]; exact hsh))
      clear g0 hI
      cases hv : okLine l with
      | true =>
        rw [hv] at CA
        have HK := Lib.hid hv
        clear hv
        go_wp2_with fail
        refine CA.out.mono ?_
        rintro e w2 ⟨rfl, x2⟩
        clear CA
        go_wp2_with fail
        go_roundw
        case rel => exact ⟨k + 1, by omega, by go_num, by rw [HT.out, List.all_append, HA.out]; simp [HK.out], hN.trans x2⟩
        case measure => simp [intOf]; omega
      | false =>
        rw [hv] at CA
        have hrf : res = false := by
          rw [← HR.out, List.all_eq_false]
          exact ⟨l, HM.out, by rw [hv]; simp⟩
        subst hrf
        clear hv HR
        go_wp2_with fail
        refine CA.out.mono ?_
        rintro e w2 ⟨rfl, x2⟩
        clear CA
        go_wp2_with fail
        go_ret
        exact ⟨rfl, hN.trans x2⟩
    · have q1 : decide ((k : Int) < (n : Int)) = false := decide_eq_false (by omega)
      have q1' : decide (k < n) = false := decide_eq_false hlt
      have hrt : res = true := by
        rw [← HR.out, ← HA.out, List.take_of_length_le (by rw [HL.out]; omega)]
      subst hrt
      clear HR HA
      go_wp2_with fail
      go_ret
      exact ⟨rfl, hN⟩
theorem isp_any (R D : Int) (A : Option Addr) (n cap : Nat) (ls : List (List Int)) (w : World) (hz : RowsIn w A n ls) (hs : Short ls) :
    Calls Tryd.prog 12 #[.agg #[.int .i64 R, .int .i64 D, .slice A n cap]] w fun e w' => e = .returned (.bool (okPast R D ls)) ∧ Nx w w' := by
  have hl := hz.1
  cases h : okHead R D with
  | false =>
    rw [show okPast R D ls = false by simp [okPast, h]]
    exact isp_head R D A n cap w h
  | true =>
    by_cases hR : R < (n : Int)
    · rw [show okPast R D ls = false by simp [okPast]; omega]
      exact isp_many R D A n cap w h hR
    · rw [show okPast R D ls = ls.all okLine by unfold okPast; rw [h, decide_eq_true (show (ls.length : Int) ≤ R by omega)]; simp]
      exact isp_loop R D A n cap ls w h (by omega) hz hs
end Go.Proofs.YtmfjndoljdpliaaDoor.walk
