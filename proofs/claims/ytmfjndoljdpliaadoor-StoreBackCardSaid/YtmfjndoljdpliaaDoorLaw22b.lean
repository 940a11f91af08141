/-
  The walk of the law StoreGets: it returns true for every input. No condition but the library's two tables.
-/
import Derived.Test.YtmfjndoljdpliaaDoorLaw22a
import Derived.Test.YtmfjndoljdpliaaDoorWalk22j
namespace Go.Proofs.YtmfjndoljdpliaaDoor.walk
open Go.RowKit Go.Proofs.YtmfjndoljdpliaaDoor.kit Go.Proofs.YtmfjndoljdpliaaDoor.plain
set_option linter.unusedVariables false

/-- what both readers answer: the rows may lie elsewhere -/
def GotP (R D : Int) (n : Nat) (ls : List (List Int)) (E : Int) (w : World) (e : Ending) (w' : World) : Prop :=
  ∃ A cap, e = .returned (.tuple #[.agg #[.int .i64 R, .int .i64 D, .slice A n cap], .int .i64 E]) ∧ RowsIn w' A n ls ∧ Nx w w'
theorem isPut_short {b : List UInt8} {R D : Int} {ls : List (List Int)} (h : isPut b R D ls) : Short ls ∧ ls.length ≤ 16 := by
  have h1 := okPast_t h.1
  have h2 := okHead_t h1.1
  exact ⟨fun l hl => by have := (okLine_t (h1.2.2 l hl)).2.1; omega, by omega⟩
theorem get_both (s : ByteArray) (hs : s.size ≤ 1000000) :
    ∃ (R D : Int) (n : Nat) (ls : List (List Int)) (E : Int), Short ls ∧ n ≤ 1000000 ∧
      (∀ W, TB W → Calls Tryd.prog 9 #[.string s] W (GotP R D n ls E W)) ∧ (∀ W, Calls Tryd.prog 17 #[.string s] W (GotP R D n ls E W)) := by
  by_cases h : ∃ R D ls, isPut (L s) R D ls
  · obtain ⟨R, D, ls, h⟩ := h
    refine ⟨R, D, ls.length, ls, 0, (isPut_short h).1, by have := (isPut_short h).2; omega, fun W hT => (getp_any s W hT hs).mono fun e w' hh => ?_, fun W => (rgetp_any s W hs).mono fun e w' hh => ?_⟩
    · obtain ⟨A, cap, e1, e2, _, _, e3⟩ := hh.put h
      exact ⟨A, cap, e1, e2, e3⟩
    · obtain ⟨A, cap, e1, e2, _, _, e3⟩ := hh.put h
      exact ⟨A, cap, e1, e2, e3⟩
  · have h' : ∀ R D ls, ¬ isPut (L s) R D ls := fun R D ls hh => h ⟨R, D, ls, hh⟩
    refine ⟨0, 0, 0, [], 2, (fun l hl => by cases hl), by omega, fun W hT => (getp_any s W hT hs).mono fun e w' hh => ?_, fun W => (rgetp_any s W hs).mono fun e w' hh => ?_⟩
    · obtain ⟨e1, e2⟩ := hh.no h'
      exact ⟨none, 0, e1, .nil, e2⟩
    · obtain ⟨e1, e2⟩ := hh.no h'
      exact ⟨none, 0, e1, .nil, e2⟩

set_option maxRecDepth 100000 in
set_option maxHeartbeats 4000000 in
theorem storeGets_walk (w : World) (hT : TB w) (s : ByteArray) (ws : s.size ≤ 9223372036854775807) :
    Calls Tryd.prog 6 #[.string s] w fun e w' => e = .returned (.bool true) ∧ Below w.heap.size w w' := by
  by_cases hs : 20000 < s.size
  · have d1 : decide ((20000 : Int) < (s.size : Int)) = true := decide_eq_true (by omega)
    have d1' : decide (20000 < s.size) = true := decide_eq_true hs
    go_enter Tryd.func6, Tryd.ntmps6
    go_wp2_with fail
    go_ret
    exact ⟨rfl, Nx.refl _⟩
  · have d1 : decide ((20000 : Int) < (s.size : Int)) = false := decide_eq_false (by omega)
    have d1' : decide (20000 < s.size) = false := decide_eq_false hs
    obtain ⟨R, D, n, ls, E, hsh, hn, c1, c2⟩ := get_both s (by omega)
    have C1 := Lib.hid c1
    have C2 := Lib.hid c2
    clear c1 c2 ws
    go_enter Tryd.func6, Tryd.ntmps6
    go_wp2_with fail
    refine (C1.out _ hT).mono ?_
    rintro e w1 ⟨A, cap, rfl, r1, x1⟩
    clear C1
    have hB := Blk.new w1 24 #[.int .i64 R, .int .i64 D, .slice A n cap]
    have n1 := x1.alloc (.cells #[.int .i64 R, .int .i64 D, .slice A n cap] 24)
    have r1' := r1.keep ((Nx.refl w1).alloc (.cells #[.int .i64 R, .int .i64 D, .slice A n cap] 24))
    clear r1 x1
    go_wp2_with fail
    refine (C2.out _).mono ?_
    rintro e w2 ⟨B, cb, rfl, r2, x2⟩
    clear C2
    have n2 := n1.trans x2
    have x2' := x2.alloc (.cells #[.int .i64 R, .int .i64 D, .slice B n cb] 24)
    have r1'' := r1'.keep x2'
    have r2' := r2.keep ((Nx.refl w2).alloc (.cells #[.int .i64 R, .int .i64 D, .slice B n cb] 24))
    have hB2 := hB.nx x2'
    have hC2 := Blk.new w2 24 #[.int .i64 R, .int .i64 D, .slice B n cb]
    have n2' := n2.alloc (.cells #[.int .i64 R, .int .i64 D, .slice B n cb] 24)
    have CS := Lib.hid (stored_any _ (hT.nx n2'))
    clear hB r1' r2 x2 x2' n1 n2
    go_wp2_with fail
    refine CS.out.mono ?_
    clear CS
    rintro e w3 ⟨rfl, x3⟩
    have n3 := n2'.trans x3
    have b3 := blk3 (hB2.nx x3)
    have c3 := blk3 (hC2.nx x3)
    have CP := Lib.hid (psame_eq R D w3 A B n cap cb ls (r1''.keep x3) (r2'.keep x3) hsh hn)
    clear hB2 hC2 r1'' r2' x3 n2'
    go_wp2_with fail
    refine CP.out.mono ?_
    rintro e w4 ⟨rfl, x4⟩
    clear CP
    go_wp2_with fail
    go_ret
    exact ⟨by simp, n3.trans x4⟩
end Go.Proofs.YtmfjndoljdpliaaDoor.walk
