/-
  Keys: what Feed leaves is right; a row of typed bytes that came in, opened. No condition but bounds and, for the program's side, the library's two tables.
-/
import Derived.Test.YtmfccecjphfkiaaDoorLaw16b
import Derived.Test.YtmfccecjphfkiaaDoorLaw16a
namespace Go.Proofs.YtmfccecjphfkiaaDoor.walk
open Go.RowKit Go.Proofs.YtmfccecjphfkiaaDoor.kit Go.Proofs.YtmfccecjphfkiaaDoor.plain
set_option linter.unusedVariables false

theorem isK_rest (l : List UInt8) (t : Int) (ht : tickB t = true) : isK (restOf l) (if restOf l = [] then 0 else t) = true := by
  have he := rest_e l
  unfold isK
  by_cases hn : restOf l = []
  · rw [if_pos hn, if_pos hn]; rfl
  · rw [if_neg hn, if_neg hn, ht]
    rcases one_e (restOf l) with ⟨g, _⟩ | ⟨g, _⟩ | ⟨_, g⟩
    · exact absurd g he
    · rw [g]; rfl
    · exact absurd g hn
theorem fed_two (l : List UInt8) (t : Int) : (mkK (restOf l) = ⟨#[]⟩ ∧ (if restOf l = [] then 0 else t) = 0) ∨ (1 ≤ (mkK (restOf l)).size ∧ (if restOf l = [] then 0 else t) = t) := by
  by_cases hn : restOf l = []
  · exact .inl ⟨by rw [hn]; rfl, by rw [if_pos hn]⟩
  · refine .inr ⟨?_, by rw [if_neg hn]⟩
    rw [← L_length, L_mkK]
    cases h : restOf l with
    | nil => exact absurd h hn
    | cons _ _ => simp
/-- Feed refuses, or leaves what is right -/
theorem feed_res (p : ByteArray) (at' b t wait : Int) (hs : p.size ≤ 1000000) :
    (∀ w, TB w → Calls Tryd.prog 21 #[.agg #[.string p, .int .i64 at'], .agg #[.int .u8 b, .int .i64 t], .int .i64 wait] w fun e w' => e = .returned (.tuple #[.agg #[.string ⟨#[]⟩, .int .i64 0], .slice none 0 0, .int .i64 1]) ∧ Nx w w') ∨
    ∃ (q : ByteArray) (a : Int) (ks : List KEY), (∀ w, TB w → Calls Tryd.prog 21 #[.agg #[.string p, .int .i64 at'], .agg #[.int .u8 b, .int .i64 t], .int .i64 wait] w (FX q a ks w)) ∧
      isK (L q) a = true ∧ ((q = ⟨#[]⟩ ∧ a = 0) ∨ (1 ≤ q.size ∧ a = t)) := by
  by_cases hbad : isK (L p) at' = false ∨ waitB wait = false ∨ tickB t = false ∨ t < at'
  · exact .inl fun w hT => feed_bad p at' b t wait w hT hs hbad
  · have h1 : isK (L p) at' = true := by
      cases h : isK (L p) at' with
      | true => rfl
      | false => exact absurd (.inl h) hbad
    have h2 : waitB wait = true := by
      cases h : waitB wait with
      | true => rfl
      | false => exact absurd (.inr (.inl h)) hbad
    have h3 : tickB t = true := by
      cases h : tickB t with
      | true => rfl
      | false => exact absurd (.inr (.inr (.inl h))) hbad
    have h4 : at' ≤ t := by
      rcases Int.lt_or_le t at' with h | h
      · exact absurd (.inr (.inr (.inr h))) hbad
      · exact h
    refine .inr ⟨_, _, _, fun w hT => (feed_ok p at' b t wait w hT h1 h2 h3 h4).mono fun e w' h => h.fx, ?_, fed_two _ _⟩
    rw [L_mkK]
    exact isK_rest _ _ h3

def qth (q : List (Int × Int)) (i : Nat) : Int × Int := q.getD i (0, 0)
section
open Go.WideShapes Go.ChangeShapes Go.Joins Go.Deep
def StIn (w : World) (A : Option Addr) (n : Nat) (l : List (Int × Int)) : Prop :=
  l.length = n ∧ (0 < n → ∃ b off, A = some ⟨b, off, none⟩ ∧ b < w.heap.size ∧ ∀ j, j < n → w.cell? ⟨b, off + j * 2, none⟩ = some (.int .u8 (qth l j).1) ∧ w.cell? ⟨b, off + j * 2 + 1, none⟩ = some (.int .i64 (qth l j).2))
theorem StIn.keep {w w' : World} {A : Option Addr} {n : Nat} {l : List (Int × Int)} (h : StIn w A n l) (hb : Nx w w') : StIn w' A n l :=
  ⟨h.1, fun hn => by
    obtain ⟨b, off, e, hlt, hc⟩ := h.2 hn
    exact ⟨b, off, e, Nat.lt_of_lt_of_le hlt hb.size, fun j hj => ⟨(hb.cell hlt).trans (hc j hj).1, (hb.cell hlt).trans (hc j hj).2⟩⟩⟩
theorem StIn.at_ {w : World} {A : Option Addr} {n : Nat} {l : List (Int × Int)} (h : StIn w A n l) {j : Nat} (hj : j < n) :
    ∃ b off, A = some ⟨b, off, none⟩ ∧ b < w.heap.size ∧ w.cell? ⟨b, off + j * 2, none⟩ = some (.int .u8 (qth l j).1) ∧ w.cell? ⟨b, off + j * 2 + 1, none⟩ = some (.int .i64 (qth l j).2) := by
  obtain ⟨b, off, e, hlt, hc⟩ := h.2 (by omega)
  exact ⟨b, off, e, hlt, (hc j hj).1, (hc j hj).2⟩
theorem add_eq (b off j : Nat) : (⟨b, off, none⟩ : Addr).add j = ⟨b, off + j, none⟩ := by
  unfold Addr.add; split
  · simp_all
  · rfl

theorem open_st {H : Type} {enc : TypeId × Value → H} {W : World} {b0 : Nat} {v : Value} {d : DataW H} {p : List MemPlace}
    (hv : Value.okWide Tryd.prog W .any b0 44 v) (h : DataW.Trod enc Tryd.prog W 0 (fun _ => true) true 44 v d p) :
    ∃ A len cap l, v = .slice A len cap ∧ (StIn W A len l ∧ len ≤ cap ∧ cap ≤ maxLen) := by
  obtain ⟨A, len, cap, rfl⟩ := okWide_slice Tryd.underlying44 hv
  obtain ⟨fuel, hf⟩ := h
  rcases open_slice Tryd.underlying44 hf with ⟨hcs, _⟩ | ⟨a, l', c', m, n, D, Pl, hcs, _, hl, hm, hmm, _, hi⟩
  · simp [Value.cells] at hcs
    obtain ⟨rfl, rfl, rfl⟩ := hcs
    exact ⟨none, 0, 0, [], rfl, ⟨rfl, fun h => absurd h (by omega)⟩, Nat.le_refl _, by unfold maxLen; omega⟩
  · simp [Value.cells] at hcs
    obtain ⟨rfl, rfl, rfl⟩ := hcs
    have hm' : m = cap := by simpa using hmm
    subst hm'
    have hC : Tryd.prog.cellsOf 40 = 2 := by kernel_rfl
    have key : ∀ i, i < len → ∃ x y : Int, W.cell? (a.add (i * 2)) = some (.int .u8 x) ∧ W.cell? ((a.add (i * 2)).add 1) = some (.int .i64 y) := by
      intro i hilt
      obtain ⟨cs', hc, ht'⟩ := hi i (by omega)
      rw [hC] at hc
      obtain ⟨_, hcl, hat⟩ := World.cells?_some hc
      obtain ⟨y0, y1, n', _, _, h0, h1⟩ := trod_struct2 Tryd.underlying40 ht'
      have c5 : Tryd.prog.cellsOf 5 = 1 := by kernel_rfl
      have c3 : Tryd.prog.cellsOf 3 = 1 := by kernel_rfl
      match cs', hcl, h0, h1, hat with
      | [p0, p1], _, h0, h1, hat =>
        have h0' : DataW.trod enc Tryd.prog W 0 (fun _ => true) true n' 5 [p0] = some y0 := by simpa [c5] using h0
        have h1' : DataW.trod enc Tryd.prog W 0 (fun _ => true) true n' 3 [p1] = some y1 := by simpa [c3] using h1
        obtain ⟨x, e0, _⟩ := DataW.trod_int Tryd.underlying5 h0'
        obtain ⟨y, e1, _⟩ := DataW.trod_int Tryd.underlying3 h1'
        simp at e0 e1
        subst e0 e1
        exact ⟨x, y, by simpa [Go.Deep.add_add] using hat 0 (by omega), hat 1 (by omega)⟩
    have pick : ∃ f : Nat → Int × Int, ∀ i, i < len → W.cell? (a.add (i * 2)) = some (.int .u8 (f i).1) ∧ W.cell? ((a.add (i * 2)).add 1) = some (.int .i64 (f i).2) :=
      ⟨fun i => if h : i < len then (Classical.choose (key i h), Classical.choose (Classical.choose_spec (key i h))) else (0, 0), fun i h => by
        simp only [dif_pos h]
        exact Classical.choose_spec (Classical.choose_spec (key i h))⟩
    obtain ⟨f, hf2⟩ := pick
    refine ⟨some a, len, m, (List.range len).map f, rfl, ⟨by simp, fun hn => ?_⟩, hl, hm⟩
    obtain ⟨b, off, spot⟩ := a
    have hc0 := (hf2 0 hn).1
    have hspot : spot = none := by simpa [Addr.add] using World.cell?_spot hc0
    subst hspot
    refine ⟨b, off, rfl, World.block_lt_of_cell? W ⟨b, off, none⟩ (by simpa [Addr.add] using hc0), fun j hj => ?_⟩
    obtain ⟨g0, g1⟩ := hf2 j hj
    rw [add_eq] at g0 g1
    rw [add_eq] at g1
    have e : qth ((List.range len).map f) j = f j := by simp [qth, hj]
    rw [e]
    exact ⟨g0, g1⟩
end
end Go.Proofs.YtmfccecjphfkiaaDoor.walk
