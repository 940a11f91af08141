/-
  A past: rows of rows of signs that lie in memory ('RowsIn'); is there room and a way (past.New), are all signs of a line some (past.line)? No condition.
-/
import Derived.Test.YtmfjndoljdpliaaDoorWalk01i
import Derived.Test.YtmfjndoljdpliaaDoorPlain22
import Derived.Lib.AppendStr
namespace Go.Proofs.YtmfjndoljdpliaaDoor.walk
open Go.RowKit Go.Proofs.YtmfjndoljdpliaaDoor.kit Go.Proofs.YtmfjndoljdpliaaDoor.plain
set_option linter.unusedVariables false

def nthL (ls : List (List Int)) (i : Nat) : List Int := ls.getD i []
theorem nthL_eq {ls : List (List Int)} {i : Nat} (h : i < ls.length) : nthL ls i = ls[i] := by simp [nthL, h]
theorem nthL_mem {ls : List (List Int)} {i : Nat} (h : i < ls.length) : nthL ls i ∈ ls := by rw [nthL_eq h]; exact List.getElem_mem h
theorem take_nthL {ls : List (List Int)} {i : Nat} (h : i < ls.length) : ls.take (i + 1) = ls.take i ++ [nthL ls i] := by
  rw [nthL_eq h]; exact List.take_succ_eq_append_getElem h
/-- a row of rows of signs that lies in memory -/
def RowsIn (w : World) (A : Option Addr) (n : Nat) (ls : List (List Int)) : Prop :=
  ls.length = n ∧ (0 < n → ∃ b off, A = some ⟨b, off, none⟩ ∧ b < w.heap.size ∧ ∀ j, j < n → ∃ B m c, w.cell? ⟨b, off + j, none⟩ = some (.slice B m c) ∧ IntsIn .i32 w B m (nthL ls j) ∧ m ≤ c ∧ c ≤ maxLen)
theorem RowsIn.keep {w w' : World} {A : Option Addr} {n : Nat} {ls : List (List Int)} (h : RowsIn w A n ls) (hb : Nx w w') : RowsIn w' A n ls :=
  ⟨h.1, fun hn => by
    obtain ⟨b, off, e, hlt, hc⟩ := h.2 hn
    refine ⟨b, off, e, Nat.lt_of_lt_of_le hlt hb.size, fun j hj => ?_⟩
    obtain ⟨B, m, c, h1, h2, h3⟩ := hc j hj
    exact ⟨B, m, c, (hb.cell hlt).trans h1, h2.keep hb, h3⟩⟩
theorem RowsIn.nil {w : World} {A : Option Addr} : RowsIn w A 0 [] := ⟨rfl, fun h => absurd h (by omega)⟩
theorem RowsIn.at_ {w : World} {A : Option Addr} {n : Nat} {ls : List (List Int)} (h : RowsIn w A n ls) {j : Nat} (hj : j < n) :
    ∃ b off B m c, A = some ⟨b, off, none⟩ ∧ b < w.heap.size ∧ w.cell? ⟨b, off + j, none⟩ = some (.slice B m c) ∧ IntsIn .i32 w B m (nthL ls j) ∧ m ≤ c ∧ c ≤ maxLen := by
  obtain ⟨b, off, e, hlt, hc⟩ := h.2 (by omega)
  obtain ⟨B, m, c, h1, h2, h3⟩ := hc j hj
  exact ⟨b, off, B, m, c, e, hlt, h1, h2, h3⟩

theorem blk3 {w : World} {g : Nat} {t : TypeId} {x y z : Value} (h : Blk w g t #[x, y, z]) : w.cell? ⟨g, 0, none⟩ = some x ∧ w.cell? ⟨g, 1, none⟩ = some y ∧ w.cell? ⟨g, 2, none⟩ = some z := ⟨h.cell 0, h.cell 1, h.cell 2⟩
theorem blk3f {w : World} {g : Nat} {t : TypeId} {x y z : Value} (h : Blk w g t #[x, y, z]) : w.frozen? ⟨g, 0, none⟩ = false ∧ w.frozen? ⟨g, 1, none⟩ = false ∧ w.frozen? ⟨g, 2, none⟩ = false := ⟨h.frozen 0, h.frozen 1, h.frozen 2⟩
theorem blk_three {w : World} {g : Nat} {t : TypeId} {x y z : Value} (u v q : Value) (h : Blk w g t #[x, y, z]) : Blk (((w.setCell ⟨g, 0, none⟩ u).setCell ⟨g, 1, none⟩ v).setCell ⟨g, 2, none⟩ q) g t #[u, v, q] := ((h.set_ 0 u).set_ 1 v).set_ 2 q
theorem nx_three {w w' : World} (h : Nx w w') {g : Nat} (hg : w.heap.size ≤ g) (u v q : Value) : Nx w (((w'.setCell ⟨g, 0, none⟩ u).setCell ⟨g, 1, none⟩ v).setCell ⟨g, 2, none⟩ q) := ((h.setCell (p := ⟨g, 0, none⟩) hg u).setCell (p := ⟨g, 1, none⟩) hg v).setCell (p := ⟨g, 2, none⟩) hg q

set_option maxHeartbeats 1000000 in
theorem new_ok (R D : Int) (w : World) (h : okHead R D = true) : Calls Tryd.prog 21 #[.int .i64 R, .int .i64 D] w fun e w' => e = .returned (.tuple #[.agg #[.int .i64 R, .int .i64 D, .slice none 0 0], .int .i64 0]) ∧ Nx w w' := by
  have hh := okHead_t h
  clear h
  have d1 : decide (R < 1) = false := decide_eq_false (by omega)
  have d2 : decide (16 < R) = false := decide_eq_false (by omega)
  have d3 : decide (D < 0) = false := decide_eq_false (by omega)
  have d4 : decide (2 < D) = false := decide_eq_false (by omega)
  go_enter Tryd.func21, Tryd.ntmps21
  go_wp2_with fail
  refine bodyPost_ret (v := .tuple #[.agg #[.int .i64 R, .int .i64 D, .slice none 0 0], .int .i64 0]) (by simp [results, Tryd.results21, go_sem]) rfl ⟨rfl, ?_⟩
  exact (Nx.refl w).alloc _
set_option maxHeartbeats 2000000 in
theorem new_bad (R D : Int) (w : World) (h : okHead R D = false) : Calls Tryd.prog 21 #[.int .i64 R, .int .i64 D] w fun e w' => e = .returned (.tuple #[.agg #[.int .i64 0, .int .i64 0, .slice none 0 0], .int .i64 4]) ∧ Nx w w' := by
  have hh := of_decide_eq_false h
  clear h
  rcases (show R < 1 ∨ (1 ≤ R ∧ 16 < R) ∨ (1 ≤ R ∧ R ≤ 16 ∧ D < 0) ∨ (1 ≤ R ∧ R ≤ 16 ∧ 0 ≤ D ∧ 2 < D) by omega) with g | ⟨g, k⟩ | ⟨g, k, m⟩ | ⟨g, k, m, n⟩
  · clear hh
    have d1 : decide (R < 1) = true := decide_eq_true (by omega)
    go_enter Tryd.func21, Tryd.ntmps21
    go_wp2_with fail
    refine bodyPost_ret (v := .tuple #[.agg #[.int .i64 0, .int .i64 0, .slice none 0 0], .int .i64 4]) (by simp [results, Tryd.results21, go_sem]) rfl ⟨rfl, ?_⟩
    exact (Nx.refl w).alloc _
  · clear hh
    have d1 : decide (R < 1) = false := decide_eq_false (by omega)
    have d2 : decide (16 < R) = true := decide_eq_true (by omega)
    go_enter Tryd.func21, Tryd.ntmps21
    go_wp2_with fail
    refine bodyPost_ret (v := .tuple #[.agg #[.int .i64 0, .int .i64 0, .slice none 0 0], .int .i64 4]) (by simp [results, Tryd.results21, go_sem]) rfl ⟨rfl, ?_⟩
    exact (Nx.refl w).alloc _
  · clear hh
    have d1 : decide (R < 1) = false := decide_eq_false (by omega)
    have d2 : decide (16 < R) = false := decide_eq_false (by omega)
    have d3 : decide (D < 0) = true := decide_eq_true (by omega)
    go_enter Tryd.func21, Tryd.ntmps21
    go_wp2_with fail
    refine bodyPost_ret (v := .tuple #[.agg #[.int .i64 0, .int .i64 0, .slice none 0 0], .int .i64 4]) (by simp [results, Tryd.results21, go_sem]) rfl ⟨rfl, ?_⟩
    exact (Nx.refl w).alloc _
  · clear hh
    have d1 : decide (R < 1) = false := decide_eq_false (by omega)
    have d2 : decide (16 < R) = false := decide_eq_false (by omega)
    have d3 : decide (D < 0) = false := decide_eq_false (by omega)
    have d4 : decide (2 < D) = true := decide_eq_true (by omega)
    go_enter Tryd.func21, Tryd.ntmps21
    go_wp2_with fail
    refine bodyPost_ret (v := .tuple #[.agg #[.int .i64 0, .int .i64 0, .slice none 0 0], .int .i64 4]) (by simp [results, Tryd.results21, go_sem]) rfl ⟨rfl, ?_⟩
    exact (Nx.refl w).alloc _

theorem none_any (r : Int) (w : World) : Calls Tryd.prog 30 #[.int .i32 r] w fun e w' => e = .returned (.bool (!vB r)) ∧ w = w' := by
  go_enter Tryd.func30, Tryd.ntmps30
  go_wp2_with (go_at_call 31; refine (is_any r w).mono ?_; rintro e w1 ⟨rfl, rfl⟩)
  go_ret
  exact ⟨rfl, rfl⟩
set_option maxHeartbeats 1000000 in
/-- all of them are signs: the place of the first that is none is -1 -/
theorem index_none (A : Option Addr) (n cap : Nat) (zs : List Int) (w : World) (hz : IntsIn .i32 w A n zs) (hv : zs.all valI = true) (hn : n ≤ 1000000) :
    Calls Tryd.prog 42 #[.slice A n cap, .func (.func 30) #[] #[]] w fun e w' => e = .returned (.int .i64 (-1)) ∧ Nx w w' := by
  have HV := Lib.hid hv
  clear hv
  go_enter Tryd.func42, Tryd.ntmps42
  go_wp2_with fail
  go_loopw [5, 8] (fun _ i wr => ∃ (k : Nat), k ≤ n ∧ i = .int .i64 k ∧ Nx w wr) (fun _ i _ => n - (intOf i).toNat)
  case atStart => exact ⟨0, Nat.zero_le _, rfl, Nx.refl _⟩
  case round =>
    obtain ⟨k, hk, rfl, hN⟩ := hrel
    by_cases hlt : k < n
    · obtain ⟨b, off, rfl, lb, b0⟩ := hz.at_ hlt
      have c0 := (hN.cell (p := ⟨b, off + k, none⟩) lb).trans b0
      have q1 : decide ((k : Int) < (n : Int)) = true := decide_eq_true (by omega)
      have q1' : decide (k < n) = true := decide_eq_true hlt
      have hi0 : (0 : Int) ≤ (k : Int) := by omega
      have hi1 : (k : Int) < (n : Int) := by omega
      have hvk : vB (nth zs k) = true := List.all_eq_true.1 HV.out _ (nth_mem (zs := zs) (i := k) (by rw [hz.1]; exact hlt))
      generalize nth zs k = r at *
      have CA := Lib.hid (none_any r wr)
      rw [hvk] at CA
      clear b0 hvk
      go_wp2_with fail
      refine CA.out.mono ?_
      rintro e w1 ⟨rfl, rfl⟩
      clear CA
      go_wp2_with fail
      go_roundw
      case rel => exact ⟨k + 1, by omega, by go_num, hN⟩
      case measure => simp [intOf]; omega
    · have q1 : decide ((k : Int) < (n : Int)) = false := decide_eq_false (by omega)
      have q1' : decide (k < n) = false := decide_eq_false hlt
      go_wp2_with fail
      go_ret
      exact ⟨rfl, hN⟩
/-- the place of one that is none -/
def IdxP (w : World) (e : Ending) (w' : World) : Prop := ∃ k : Nat, e = .returned (.int .i64 k) ∧ Nx w w'
set_option maxHeartbeats 1000000 in
theorem index_some (A : Option Addr) (n cap : Nat) (zs : List Int) (w : World) (hz : IntsIn .i32 w A n zs) (hv : zs.all valI = false) (hn : n ≤ 1000000) :
    Calls Tryd.prog 42 #[.slice A n cap, .func (.func 30) #[] #[]] w (IdxP w) := by
  have HV := Lib.hid hv
  clear hv
  go_enter Tryd.func42, Tryd.ntmps42
  go_wp2_with fail
  go_loopw [5, 8] (fun _ i wr => ∃ (k : Nat), k ≤ n ∧ i = .int .i64 k ∧ (zs.take k).all valI = true ∧ Nx w wr) (fun _ i _ => n - (intOf i).toNat)
  case atStart => exact ⟨0, Nat.zero_le _, rfl, rfl, Nx.refl _⟩
  case round =>
    obtain ⟨k, hk, rfl, ha, hN⟩ := hrel
    have HA := Lib.hid ha
    clear ha
    by_cases hlt : k < n
    · obtain ⟨b, off, rfl, lb, b0⟩ := hz.at_ hlt
      have c0 := (hN.cell (p := ⟨b, off + k, none⟩) lb).trans b0
      have q1 : decide ((k : Int) < (n : Int)) = true := decide_eq_true (by omega)
      have q1' : decide (k < n) = true := decide_eq_true hlt
      have hi0 : (0 : Int) ≤ (k : Int) := by omega
      have hi1 : (k : Int) < (n : Int) := by omega
      have HT := Lib.hid (take_nth (zs := zs) (i := k) (by rw [hz.1]; exact hlt))
      generalize nth zs k = r at *
      have CA := Lib.hid (none_any r wr)
      clear b0
      cases hvk : vB r with
      | true =>
        rw [hvk] at CA
        have HK := Lib.hid (show valI r = true from hvk)
        clear hvk
        go_wp2_with fail
        refine CA.out.mono ?_
        rintro e w1 ⟨rfl, rfl⟩
        clear CA
        go_wp2_with fail
        go_roundw
        case rel => exact ⟨k + 1, by omega, by go_num, by rw [HT.out, List.all_append, HA.out]; simp [HK.out], hN⟩
        case measure => simp [intOf]; omega
      | false =>
        rw [hvk] at CA
        clear hvk
        go_wp2_with fail
        refine CA.out.mono ?_
        rintro e w1 ⟨rfl, rfl⟩
        clear CA
        go_wp2_with fail
        go_ret
        exact ⟨k, rfl, hN⟩
    · exfalso
      have h1 := HA.out
      rw [List.take_of_length_le (by rw [hz.1]; omega), HV.out] at h1
      simp at h1
theorem contains_any (A : Option Addr) (n cap : Nat) (zs : List Int) (w : World) (hz : IntsIn .i32 w A n zs) (hn : n ≤ 1000000) :
    Calls Tryd.prog 32 #[.slice A n cap, .func (.func 30) #[] #[]] w fun e w' => e = .returned (.bool (!zs.all valI)) ∧ Nx w w' := by
  cases hv : zs.all valI with
  | true =>
    have C1 := Lib.hid (index_none A n cap zs w hz hv hn)
    clear hv hz
    go_enter Tryd.func32, Tryd.ntmps32
    go_wp2_with fail
    refine C1.out.mono ?_
    rintro e w1 ⟨rfl, x1⟩
    clear C1
    go_wp2_with fail
    go_ret
    exact ⟨rfl, x1⟩
  | false =>
    have C1 := Lib.hid (index_some A n cap zs w hz hv hn)
    clear hv hz
    go_enter Tryd.func32, Tryd.ntmps32
    go_wp2_with fail
    refine C1.out.mono ?_
    rintro e w1 ⟨k, rfl, x1⟩
    clear C1
    have q1 : decide ((0 : Int) ≤ (k : Int)) = true := decide_eq_true (by omega)
    go_wp2_with fail
    go_ret
    exact ⟨rfl, x1⟩
/-- may a row be one of a past? -/
theorem line_any (A : Option Addr) (n cap : Nat) (zs : List Int) (w : World) (hz : IntsIn .i32 w A n zs) (hn : n ≤ 1000000) :
    Calls Tryd.prog 22 #[.slice A n cap] w fun e w' => e = .returned (.bool (okLine zs)) ∧ Nx w w' := by
  have hl := hz.1
  have C1 := Lib.hid (contains_any A n cap zs w hz hn)
  clear hz
  rcases (show n = 0 ∨ (1 ≤ n ∧ 200 < n) ∨ (1 ≤ n ∧ n ≤ 200) by omega) with g | ⟨g, k⟩ | ⟨g, k⟩
  · have hr : okLine zs = false := by simp [okLine]; omega
    rw [hr]
    have d1 : decide ((0 : Int) < (n : Int)) = false := decide_eq_false (by omega)
    have d1' : decide (0 < n) = false := decide_eq_false (by omega)
    clear hr hl g
    go_enter Tryd.func22, Tryd.ntmps22
    go_wp2_with fail
    go_ret
    exact ⟨rfl, Nx.refl _⟩
  · have hr : okLine zs = false := by simp [okLine]; omega
    rw [hr]
    have d1 : decide ((0 : Int) < (n : Int)) = true := decide_eq_true (by omega)
    have d1' : decide (0 < n) = true := decide_eq_true (by omega)
    have d2 : decide ((n : Int) ≤ (200 : Int)) = false := decide_eq_false (by omega)
    have d2' : decide (n ≤ 200) = false := decide_eq_false (by omega)
    clear hr hl
    go_enter Tryd.func22, Tryd.ntmps22
    go_wp2_with fail
    go_ret
    exact ⟨rfl, Nx.refl _⟩
  · have hr : okLine zs = zs.all valI := by simp [okLine, hl]; omega
    rw [hr]
    have d1 : decide ((0 : Int) < (n : Int)) = true := decide_eq_true (by omega)
    have d1' : decide (0 < n) = true := decide_eq_true (by omega)
    have d2 : decide ((n : Int) ≤ (200 : Int)) = true := decide_eq_true (by omega)
    have d2' : decide (n ≤ 200) = true := decide_eq_true (by omega)
    clear hr hl
    generalize zs.all valI = q at *
    go_enter Tryd.func22, Tryd.ntmps22
    go_wp2_with fail
    refine C1.out.mono ?_
    rintro e w1 ⟨rfl, x1⟩
    clear C1
    go_wp2_with fail
    go_ret
    exact ⟨by simp, x1⟩
end Go.Proofs.YtmfjndoljdpliaaDoor.walk
