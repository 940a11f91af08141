/-
  Fifos: what the program's fifo holds ('FI'), and pushing and taking. No condition but the fifo's own shape.
-/
import Derived.Test.YtldgfhngieipgaaWalk08b
namespace Go.Proofs.Ytldgfhngieipgaa.walk
open Go.RowKit Go.Proofs.Ytldgfhngieipgaa.kit
set_option linter.unusedVariables false

def qth (q : List (Int × Int)) (i : Nat) : Int × Int := q.getD i (0, 0)
theorem qth_snoc_lt {q : List (Int × Int)} {x : Int × Int} {i : Nat} (h : i < q.length) : qth (q ++ [x]) i = qth q i := by
  simp [qth, List.getElem?_append_left h]
theorem qth_snoc_eq {q : List (Int × Int)} {x : Int × Int} : qth (q ++ [x]) q.length = x := by simp [qth]
theorem qth_cons {q : List (Int × Int)} {x : Int × Int} {i : Nat} : qth (x :: q) (i + 1) = qth q i := by simp [qth]

theorem mod_two {x R : Nat} (h : x < 2 * R) : x % R = if x < R then x else x - R := by
  by_cases h1 : x < R
  · rw [if_pos h1, Nat.mod_eq_of_lt h1]
  · rw [if_neg h1, Nat.mod_eq_sub_mod (by omega), Nat.mod_eq_of_lt (by omega)]

/-- the fifo at block a, its row at block g, holds q, by its last tick and what it lost -/
def FI (w : World) (a g R : Nat) (q : List (Int × Int)) (last lost : Int) : Prop :=
  ∃ (fr : Nat) (cs : Array Value), Blk w a 44 #[.slice (some ⟨g, 0, none⟩) R R, .int .i64 fr, .int .i64 q.length, .int .i64 last, .int .i64 lost] ∧ Blk w g 31 cs ∧ cs.size = 2 * R ∧ fr < R ∧ q.length ≤ R ∧
    ∀ i, i < q.length → cs[(fr + i) % R * 2]? = some (.int .u8 (qth q i).1) ∧ cs[(fr + i) % R * 2 + 1]? = some (.int .i64 (qth q i).2)
theorem FI.nx {w w' : World} {a g R : Nat} {q : List (Int × Int)} {last lost : Int} (h : FI w a g R q last lost) (k : Nx w w') : FI w' a g R q last lost := by
  obtain ⟨fr, cs, h1, h2, h3⟩ := h
  exact ⟨fr, cs, h1.nx k, h2.nx k, h3⟩
theorem FI.lt {w : World} {a g R : Nat} {q : List (Int × Int)} {last lost : Int} (h : FI w a g R q last lost) : a < w.heap.size ∧ g < w.heap.size := by
  obtain ⟨fr, cs, h1, h2, h3⟩ := h
  exact ⟨h1.lt, h2.lt⟩
theorem FI.len {w : World} {a g R : Nat} {q : List (Int × Int)} {last lost : Int} (h : FI w a g R q last lost) : q.length ≤ R := by
  obtain ⟨fr, cs, _, _, _, _, h, _⟩ := h; exact h
theorem FI.only {w w' : World} {a g R x y : Nat} {q : List (Int × Int)} {last lost : Int} (h : FI w a g R q last lost) (k : Only2 x y w w') (h1 : a ≠ x) (h2 : a ≠ y) (h3 : g ≠ x) (h4 : g ≠ y) : FI w' a g R q last lost := by
  obtain ⟨fr, cs, b1, b2, h5⟩ := h
  exact ⟨fr, cs, Blk.only b1 k h1 h2, Blk.only b2 k h3 h4, h5⟩

theorem push_cells {R fr : Nat} {cs : Array Value} {q : List (Int × Int)} {b t : Int} (hs : cs.size = 2 * R) (hf : fr < R) (hq : q.length < R)
    (h : ∀ i, i < q.length → cs[(fr + i) % R * 2]? = some (.int .u8 (qth q i).1) ∧ cs[(fr + i) % R * 2 + 1]? = some (.int .i64 (qth q i).2)) :
    ∀ i, i < (q ++ [(b, t)]).length → ((cs.setIfInBounds ((fr + q.length) % R * 2) (.int .u8 b)).setIfInBounds ((fr + q.length) % R * 2 + 1) (.int .i64 t))[(fr + i) % R * 2]? = some (.int .u8 (qth (q ++ [(b, t)]) i).1) ∧
      ((cs.setIfInBounds ((fr + q.length) % R * 2) (.int .u8 b)).setIfInBounds ((fr + q.length) % R * 2 + 1) (.int .i64 t))[(fr + i) % R * 2 + 1]? = some (.int .i64 (qth (q ++ [(b, t)]) i).2) := by
  intro i hi
  rw [List.length_append, List.length_singleton] at hi
  have hn := Nat.mod_lt (fr + q.length) (show 0 < R by omega)
  have m1 := mod_two (x := fr + q.length) (R := R) (by omega)
  have m2 := mod_two (x := fr + i) (R := R) (by omega)
  rcases Nat.lt_or_ge i q.length with hlt | hge
  · have hne : (fr + i) % R ≠ (fr + q.length) % R := by rw [m1, m2]; split <;> split <;> omega
    obtain ⟨h1, h2⟩ := h i hlt
    rw [qth_snoc_lt hlt]
    generalize (fr + q.length) % R = I at *
    generalize (fr + i) % R = J at *
    simp only [Array.getElem?_setIfInBounds]
    rw [if_neg (by omega), if_neg (by omega), if_neg (by omega), if_neg (by omega)]
    exact ⟨h1, h2⟩
  · obtain rfl : i = q.length := by omega
    rw [qth_snoc_eq]
    generalize (fr + q.length) % R = I at *
    simp only [Array.getElem?_setIfInBounds, Array.size_setIfInBounds]
    rw [if_neg (by omega)]
    refine ⟨?_, ?_⟩
    · simp; omega
    · simp; omega
theorem pop_cells {R fr : Nat} {cs : Array Value} {q : List (Int × Int)} {x : Int × Int} (hs : cs.size = 2 * R) (hf : fr < R) (hq : q.length + 1 ≤ R)
    (h : ∀ i, i < (x :: q).length → cs[(fr + i) % R * 2]? = some (.int .u8 (qth (x :: q) i).1) ∧ cs[(fr + i) % R * 2 + 1]? = some (.int .i64 (qth (x :: q) i).2)) :
    ∀ i, i < q.length → ((cs.setIfInBounds (fr * 2) (.int .u8 0)).setIfInBounds (fr * 2 + 1) (.int .i64 0))[((fr + 1) % R + i) % R * 2]? = some (.int .u8 (qth q i).1) ∧
      ((cs.setIfInBounds (fr * 2) (.int .u8 0)).setIfInBounds (fr * 2 + 1) (.int .i64 0))[((fr + 1) % R + i) % R * 2 + 1]? = some (.int .i64 (qth q i).2) := by
  intro i hi
  have m0 := mod_two (x := fr + 1) (R := R) (by omega)
  have e : ((fr + 1) % R + i) % R = (fr + (i + 1)) % R := by rw [Nat.mod_add_mod]; congr 1; omega
  have m2 := mod_two (x := fr + (i + 1)) (R := R) (by omega)
  have hne : (fr + (i + 1)) % R ≠ fr := by rw [m2]; split <;> omega
  obtain ⟨h1, h2⟩ := h (i + 1) (by simpa using hi)
  rw [qth_cons] at h1 h2
  rw [e]
  generalize (fr + (i + 1)) % R = J at *
  simp only [Array.getElem?_setIfInBounds]
  rw [if_neg (by omega), if_neg (by omega), if_neg (by omega), if_neg (by omega)]
  exact ⟨h1, h2⟩

theorem put_fi (w : World) (a g R : Nat) (q : List (Int × Int)) (last lost b t : Int) (hR : R ≤ 64) (hag : a ≠ g) (hq : q.length < R) (h : FI w a g R q last lost) :
    Calls Try.prog 17 #[.pointer (some ⟨a, 0, none⟩), .agg #[.int .u8 b, .int .i64 t]] w fun e w' => e = .returned (.bool true) ∧ FI w' a g R (q ++ [(b, t)]) last lost ∧ Only2 a g w w' := by
  obtain ⟨fr, cs, h1, h2, hs, hf, _, hc⟩ := h
  refine (put_ok w a g R fr q.length last lost b t cs hR hq hf h1 h2 hs hag).mono ?_
  rintro e w' ⟨rfl, k1, k2, k3⟩
  refine ⟨rfl, ⟨fr, _, ?_, k2, by simpa using hs, hf, by simp; omega, push_cells hs hf hq hc⟩, k3⟩
  rw [List.length_append, List.length_singleton]
  exact k1
theorem take_fi (w : World) (a g R : Nat) (x : Int × Int) (q : List (Int × Int)) (last lost : Int) (hR : R ≤ 64) (hag : a ≠ g) (h : FI w a g R (x :: q) last lost) :
    Calls Try.prog 16 #[.pointer (some ⟨a, 0, none⟩)] w fun e w' => e = .returned (.tuple #[.agg #[.int .u8 x.1, .int .i64 x.2], .bool true]) ∧ FI w' a g R q last lost ∧ Only2 a g w w' := by
  obtain ⟨fr, cs, h1, h2, hs, hf, hq, hc⟩ := h
  rw [List.length_cons] at h1 hq
  obtain ⟨c0, c1⟩ := hc 0 (by simp)
  simp only [Nat.add_zero, Nat.mod_eq_of_lt hf] at c0 c1
  refine (take_ok w a g R fr q.length last lost x.1 x.2 cs hR hq hf h1 h2 hs hag c0 c1).mono ?_
  rintro e w' ⟨rfl, k1, k2, k3⟩
  exact ⟨rfl, ⟨(fr + 1) % R, _, k1, k2, by simpa using hs, Nat.mod_lt _ (by omega), by omega, pop_cells hs hf hq hc⟩, k3⟩
end Go.Proofs.Ytldgfhngieipgaa.walk
