/-
  Words in plain Lean: kinds of signs, passing signs either way, beginnings and ends; that the two ways of telling them agree. No program in sight. No condition.
-/
namespace Go.Proofs.Ytmmgbmmphmldeaa.plain
set_option linter.unusedVariables false

def nth (zs : List Int) (i : Nat) : Int := zs.getD i 0
def inB (r : Int) : Bool := decide (48 ≤ r ∧ r ≤ 57 ∨ 65 ≤ r ∧ r ≤ 90 ∨ 97 ≤ r ∧ r ≤ 122 ∨ 128 ≤ r)
def kindI (r : Int) : Int := if r = 9 ∨ r = 32 then 0 else if inB r = true ∨ r = 95 then 1 else 2
/-- the first place from i on, of m places, that q holds of; behind them all, if there is none -/
def ff (q : Nat → Bool) : Nat → Nat → Nat
  | 0, i => i
  | m + 1, i => if q i then i else ff q m (i + 1)
/-- the last place down from i that q holds of; 0, if there is none -/
def ld (q : Nat → Bool) : Nat → Nat
  | 0 => 0
  | i + 1 => if q (i + 1) then i + 1 else ld q i
/-- passing towards the end, and towards the beginning, as long as p holds -/
def fwd (p : Int → Bool) (l : List Int) (a : Nat) : Nat := ff (fun i => !p (nth l i)) (l.length - a) a
def bwd (p : Int → Bool) (l : List Int) : Nat → Nat
  | 0 => 0
  | i + 1 => if p (nth l i) then bwd p l i else i + 1
def blankB (r : Int) : Bool := kindI r == 0
def isK (k r : Int) : Bool := kindI r == k
def notIn (r : Int) : Bool := !inB r
def place (l : List Int) (a : Int) : Nat := if a < 0 then 0 else if (l.length : Int) < a then l.length else a.toNat
def foreP (l : List Int) (a : Nat) : Nat := fwd inB l (fwd notIn l a)
def behindP (l : List Int) (a : Nat) : Nat := bwd inB l (bwd notIn l a)
def begins (l : List Int) (i : Nat) : Bool := !(kindI (nth l i) == 0) && (i == 0 || !(kindI (nth l (i - 1)) == kindI (nth l i)))
def tails (l : List Int) (i : Nat) : Bool := !(kindI (nth l i) == 0) && (i + 1 == l.length || !(kindI (nth l (i + 1)) == kindI (nth l i)))
def nextR (l : List Int) (a : Nat) : Nat := if l.length ≤ a then l.length else ff (begins l) (l.length - (a + 1)) (a + 1)
def nextP (l : List Int) (a : Nat) : Nat :=
  if a = l.length then a else fwd blankB l (if kindI (nth l a) = 0 then a else fwd (isK (kindI (nth l a))) l a)
def prevR (l : List Int) (a : Nat) : Nat := ld (begins l) (a - 1)
def prevP (l : List Int) (a : Nat) : Nat :=
  if bwd blankB l a = 0 then 0 else bwd (isK (kindI (nth l (bwd blankB l a - 1)))) l (bwd blankB l a)
def tailR (l : List Int) (a : Nat) : Nat := if l.length ≤ a then l.length else ff (tails l) (l.length - (a + 1)) (a + 1)
def tailP (l : List Int) (a : Nat) : Nat :=
  if l.length ≤ a + 1 then l.length else
  if fwd blankB l (a + 1) = l.length then l.length else fwd (isK (kindI (nth l (fwd blankB l (a + 1))))) l (fwd blankB l (a + 1)) - 1

theorem ff_spec (q : Nat → Bool) : ∀ (m i : Nat), i ≤ ff q m i ∧ ff q m i ≤ i + m ∧ (∀ j, i ≤ j → j < ff q m i → q j = false) ∧ (ff q m i < i + m → q (ff q m i) = true)
  | 0, i => by refine ⟨Nat.le_refl _, Nat.le_refl _, fun j h1 h2 => ?_, fun h => ?_⟩ <;> simp only [ff] at * <;> omega
  | m + 1, i => by
    unfold ff
    by_cases h : q i = true
    · rw [if_pos h]
      exact ⟨Nat.le_refl _, by omega, fun j h1 h2 => by omega, fun _ => h⟩
    · rw [if_neg h]
      obtain ⟨h1, h2, h3, h4⟩ := ff_spec q m (i + 1)
      refine ⟨by omega, by omega, fun j g1 g2 => ?_, fun g => h4 (by omega)⟩
      rcases Nat.lt_or_ge i j with hij | hij
      · exact h3 j hij g2
      · have : j = i := by omega
        subst this; simpa using h
theorem ff_eq {q : Nat → Bool} {m i e : Nat} (h1 : i ≤ e) (h2 : e ≤ i + m) (h3 : ∀ j, i ≤ j → j < e → q j = false) (h4 : e < i + m → q e = true) : ff q m i = e := by
  obtain ⟨g1, g2, g3, g4⟩ := ff_spec q m i
  rcases Nat.lt_trichotomy (ff q m i) e with h | h | h
  · have := g4 (by omega); rw [h3 _ g1 h] at this; cases this
  · exact h
  · have := h4 (by omega); rw [g3 _ h1 h] at this; cases this
theorem ld_spec (q : Nat → Bool) : ∀ i : Nat, ld q i ≤ i ∧ (∀ j, ld q i < j → j ≤ i → q j = false) ∧ (0 < ld q i → q (ld q i) = true)
  | 0 => ⟨Nat.le_refl _, fun j h1 h2 => by simp only [ld] at h1; omega, fun h => by simp only [ld] at h; omega⟩
  | i + 1 => by
    unfold ld
    by_cases h : q (i + 1) = true
    · rw [if_pos h]; exact ⟨Nat.le_refl _, fun j h1 h2 => by omega, fun _ => h⟩
    · rw [if_neg h]
      obtain ⟨h1, h2, h3⟩ := ld_spec q i
      refine ⟨by omega, fun j g1 g2 => ?_, h3⟩
      rcases Nat.lt_or_ge i j with hij | hij
      · have : j = i + 1 := by omega
        subst this; simpa using h
      · exact h2 j g1 hij
theorem ld_eq {q : Nat → Bool} {i e : Nat} (h1 : e ≤ i) (h2 : ∀ j, e < j → j ≤ i → q j = false) (h3 : 0 < e → q e = true) : ld q i = e := by
  obtain ⟨g1, g2, g3⟩ := ld_spec q i
  rcases Nat.lt_trichotomy (ld q i) e with h | h | h
  · have := h3 (by omega); rw [g2 _ h h1] at this; cases this
  · exact h
  · have := g3 (by omega); rw [h2 _ h g1] at this; cases this
theorem bwd_spec (p : Int → Bool) (l : List Int) : ∀ i : Nat, bwd p l i ≤ i ∧ (∀ j, bwd p l i ≤ j → j < i → p (nth l j) = true) ∧ (0 < bwd p l i → p (nth l (bwd p l i - 1)) = false)
  | 0 => ⟨Nat.le_refl _, fun j h1 h2 => by omega, fun h => by simp only [bwd] at h; omega⟩
  | i + 1 => by
    unfold bwd
    by_cases h : p (nth l i) = true
    · rw [if_pos h]
      obtain ⟨h1, h2, h3⟩ := bwd_spec p l i
      refine ⟨by omega, fun j g1 g2 => ?_, h3⟩
      rcases Nat.lt_or_ge j i with hij | hij
      · exact h2 j g1 hij
      · have : j = i := by omega
        subst this; exact h
    · rw [if_neg h]; exact ⟨Nat.le_refl _, fun j h1 h2 => by omega, fun _ => by simpa using h⟩
theorem bwd_eq {p : Int → Bool} {l : List Int} {i e : Nat} (h1 : e ≤ i) (h2 : ∀ j, e ≤ j → j < i → p (nth l j) = true) (h3 : 0 < e → p (nth l (e - 1)) = false) : bwd p l i = e := by
  obtain ⟨g1, g2, g3⟩ := bwd_spec p l i
  rcases Nat.lt_trichotomy (bwd p l i) e with h | h | h
  · have := h3 (by omega); rw [g2 (e - 1) (by omega) (by omega)] at this; cases this
  · exact h
  · have := g3 (by omega); rw [h2 (bwd p l i - 1) (by omega) (by omega)] at this; cases this
theorem fwd_spec (p : Int → Bool) (l : List Int) (a : Nat) (ha : a ≤ l.length) : a ≤ fwd p l a ∧ fwd p l a ≤ l.length ∧ (∀ j, a ≤ j → j < fwd p l a → p (nth l j) = true) ∧ (fwd p l a < l.length → p (nth l (fwd p l a)) = false) := by
  obtain ⟨h1, h2, h3, h4⟩ := ff_spec (fun i => !p (nth l i)) (l.length - a) a
  unfold fwd
  refine ⟨h1, by omega, fun j g1 g2 => by simpa using h3 j g1 g2, fun g => by simpa using h4 (by omega)⟩
theorem fwd_eq {p : Int → Bool} {l : List Int} {a e : Nat} (h1 : a ≤ e) (h2 : e ≤ l.length) (h3 : ∀ j, a ≤ j → j < e → p (nth l j) = true) (h4 : e < l.length → p (nth l e) = false) : fwd p l a = e := by
  unfold fwd
  exact ff_eq h1 (by omega) (fun j g1 g2 => by simp [h3 j g1 g2]) (fun g => by simp [h4 (by omega)])
theorem fwd_step {p : Int → Bool} {l : List Int} {a : Nat} (ha : a < l.length) (h : p (nth l a) = true) : fwd p l (a + 1) = fwd p l a := by
  unfold fwd
  have : l.length - a = (l.length - (a + 1)) + 1 := by omega
  rw [this]; simp [ff, h]
theorem fwd_stop {p : Int → Bool} {l : List Int} {a : Nat} (h : p (nth l a) = false) : fwd p l a = a := by
  unfold fwd
  rcases h0 : l.length - a with _ | m
  · rfl
  · simp [ff, h]
theorem fwd_end {p : Int → Bool} {l : List Int} {a : Nat} (h : l.length ≤ a) : fwd p l a = a := by
  unfold fwd
  have : l.length - a = 0 := by omega
  rw [this]; rfl
theorem bwd_step {p : Int → Bool} {l : List Int} {a : Nat} (h : p (nth l a) = true) : bwd p l (a + 1) = bwd p l a := by
  simp [bwd, h]
theorem bwd_stop {p : Int → Bool} {l : List Int} {a : Nat} (h : p (nth l a) = false) : bwd p l (a + 1) = a + 1 := by
  simp [bwd, h]
theorem place_le (l : List Int) (a : Int) : place l a ≤ l.length := by
  unfold place; split
  · omega
  · split <;> omega

theorem kind_cases (r : Int) : kindI r = 0 ∨ kindI r = 1 ∨ kindI r = 2 := by
  unfold kindI; split
  · exact .inl rfl
  · split
    · exact .inr (.inl rfl)
    · exact .inr (.inr rfl)

theorem blankB_true {r : Int} : blankB r = true ↔ kindI r = 0 := by simp [blankB]
theorem blankB_false {r : Int} : blankB r = false ↔ kindI r ≠ 0 := by simp [blankB]
theorem isK_true {k r : Int} : isK k r = true ↔ kindI r = k := by simp [isK]
theorem isK_false {k r : Int} : isK k r = false ↔ kindI r ≠ k := by simp [isK]
theorem begins_true {l : List Int} {i : Nat} : begins l i = true ↔ kindI (nth l i) ≠ 0 ∧ (i = 0 ∨ kindI (nth l (i - 1)) ≠ kindI (nth l i)) := by simp [begins]
theorem begins_false {l : List Int} {i : Nat} : begins l i = false ↔ kindI (nth l i) = 0 ∨ (i ≠ 0 ∧ kindI (nth l (i - 1)) = kindI (nth l i)) := by
  rw [← Bool.not_eq_true, begins_true]; constructor
  · intro h
    by_cases h0 : kindI (nth l i) = 0
    · exact .inl h0
    · refine .inr ⟨fun e => h ⟨h0, .inl e⟩, Decidable.byContradiction fun e => h ⟨h0, .inr e⟩⟩
  · rintro (h | ⟨h1, h2⟩) ⟨g1, g2⟩
    · exact g1 h
    · rcases g2 with g2 | g2
      · exact h1 g2
      · exact g2 h2
theorem tails_true {l : List Int} {i : Nat} : tails l i = true ↔ kindI (nth l i) ≠ 0 ∧ (i + 1 = l.length ∨ kindI (nth l (i + 1)) ≠ kindI (nth l i)) := by simp [tails]
theorem tails_false {l : List Int} {i : Nat} : tails l i = false ↔ kindI (nth l i) = 0 ∨ (i + 1 ≠ l.length ∧ kindI (nth l (i + 1)) = kindI (nth l i)) := by
  rw [← Bool.not_eq_true, tails_true]; constructor
  · intro h
    by_cases h0 : kindI (nth l i) = 0
    · exact .inl h0
    · refine .inr ⟨fun e => h ⟨h0, .inl e⟩, Decidable.byContradiction fun e => h ⟨h0, .inr e⟩⟩
  · rintro (h | ⟨h1, h2⟩) ⟨g1, g2⟩
    · exact g1 h
    · rcases g2 with g2 | g2
      · exact h1 g2
      · exact g2 h2

/-- what the next beginning is: it lies behind a, none is between, and it is one, or the end -/
theorem nextP_spec (l : List Int) (a : Nat) (ha : a < l.length) : a < nextP l a ∧ nextP l a ≤ l.length ∧ (∀ j, a < j → j < nextP l a → begins l j = false) ∧ (nextP l a < l.length → begins l (nextP l a) = true) := by
  unfold nextP
  rw [if_neg (by omega)]
  by_cases hk : kindI (nth l a) = 0
  · rw [if_pos hk]
    obtain ⟨h1, h2, h3, h4⟩ := fwd_spec blankB l a (by omega)
    have hgt : a < fwd blankB l a := by
      rcases Nat.lt_or_ge a (fwd blankB l a) with h | h
      · exact h
      · have e : fwd blankB l a = a := by omega
        have := h4 (by omega); rw [e, blankB_false] at this; exact absurd hk this
    refine ⟨hgt, h2, fun j g1 g2 => begins_false.2 (.inl (blankB_true.1 (h3 j (by omega) g2))), fun g => ?_⟩
    have k1 := blankB_false.1 (h4 g)
    have k0 := blankB_true.1 (h3 (fwd blankB l a - 1) (by omega) (by omega))
    exact begins_true.2 ⟨k1, .inr (by rw [k0]; exact fun e => k1 e.symm)⟩
  · rw [if_neg hk]
    obtain ⟨h1, h2, h3, h4⟩ := fwd_spec (isK (kindI (nth l a))) l a (by omega)
    generalize fwd (isK (kindI (nth l a))) l a = e1 at *
    have hgt : a < e1 := by
      rcases Nat.lt_or_ge a e1 with h | h
      · exact h
      · have e : e1 = a := by omega
        have := h4 (by omega); rw [e, isK_false] at this; exact absurd rfl this
    obtain ⟨g1, g2, g3, g4⟩ := fwd_spec blankB l e1 h2
    generalize fwd blankB l e1 = e2 at *
    refine ⟨by omega, g2, fun j j1 j2 => ?_, fun g => ?_⟩
    · rcases Nat.lt_or_ge j e1 with hj | hj
      · refine begins_false.2 (.inr ⟨by omega, ?_⟩)
        rw [isK_true.1 (h3 j (by omega) hj), isK_true.1 (h3 (j - 1) (by omega) (by omega))]
      · exact begins_false.2 (.inl (blankB_true.1 (g3 j hj j2)))
    · have k1 := blankB_false.1 (g4 g)
      refine begins_true.2 ⟨k1, .inr ?_⟩
      rcases Nat.lt_or_ge e1 e2 with h | h
      · have k0 := blankB_true.1 (g3 (e2 - 1) (by omega) (by omega))
        rw [k0]; exact fun e => k1 e.symm
      · have e : e2 = e1 := by omega
        subst e
        rw [isK_true.1 (h3 (e2 - 1) (by omega) (by omega))]
        exact fun e => isK_false.1 (h4 g) e.symm
theorem next_agree (l : List Int) (a : Nat) (ha : a ≤ l.length) : nextR l a = nextP l a := by
  unfold nextR
  by_cases he : a = l.length
  · rw [if_pos (by omega)]; unfold nextP; rw [if_pos he]; exact he.symm
  · rw [if_neg (by omega)]
    obtain ⟨h1, h2, h3, h4⟩ := nextP_spec l a (by omega)
    exact ff_eq h1 (by omega) (fun j g1 g2 => h3 j g1 g2) (fun g => h4 (by omega))

/-- what the beginning ahead of a is -/
theorem prevP_spec (l : List Int) (a : Nat) : prevP l a ≤ a - 1 ∧ (∀ j, prevP l a < j → j ≤ a - 1 → begins l j = false) ∧ (0 < prevP l a → begins l (prevP l a) = true) := by
  unfold prevP
  obtain ⟨h1, h2, h3⟩ := bwd_spec blankB l a
  generalize bwd blankB l a = b1 at *
  by_cases h0 : b1 = 0
  · rw [if_pos h0]
    exact ⟨by omega, fun j g1 g2 => begins_false.2 (.inl (blankB_true.1 (h2 j (by omega) (by omega)))), fun h => by omega⟩
  · rw [if_neg h0]
    have k1 := blankB_false.1 (h3 (by omega))
    obtain ⟨g1, g2, g3⟩ := bwd_spec (isK (kindI (nth l (b1 - 1)))) l b1
    generalize hb : bwd (isK (kindI (nth l (b1 - 1)))) l b1 = b at *
    have hlt : b < b1 := by
      rcases Nat.lt_or_ge b b1 with h | h
      · exact h
      · have e : b = b1 := by omega
        have := g3 (by omega); rw [e, isK_false] at this; exact absurd rfl this
    refine ⟨by omega, fun j j1 j2 => ?_, fun hp => ?_⟩
    · rcases Nat.lt_or_ge j b1 with hj | hj
      · refine begins_false.2 (.inr ⟨by omega, ?_⟩)
        rw [isK_true.1 (g2 j (by omega) hj), isK_true.1 (g2 (j - 1) (by omega) (by omega))]
      · exact begins_false.2 (.inl (blankB_true.1 (h2 j hj (by omega))))
    · have kb := isK_true.1 (g2 b (by omega) hlt)
      exact begins_true.2 ⟨by rw [kb]; exact k1, .inr (by rw [kb]; exact isK_false.1 (g3 hp))⟩
theorem prev_agree (l : List Int) (a : Nat) : prevR l a = prevP l a := by
  obtain ⟨h1, h2, h3⟩ := prevP_spec l a
  exact ld_eq h1 h2 h3

theorem tailP_spec (l : List Int) (a : Nat) (ha : a < l.length) : a + 1 ≤ tailP l a ∧ tailP l a ≤ l.length ∧ (∀ j, a + 1 ≤ j → j < tailP l a → tails l j = false) ∧ (tailP l a < l.length → tails l (tailP l a) = true) := by
  unfold tailP
  by_cases hs : l.length ≤ a + 1
  · rw [if_pos hs]; exact ⟨by omega, Nat.le_refl _, fun j g1 g2 => by omega, fun h => by omega⟩
  · rw [if_neg hs]
    obtain ⟨h1, h2, h3, h4⟩ := fwd_spec blankB l (a + 1) (by omega)
    generalize fwd blankB l (a + 1) = e1 at *
    by_cases he : e1 = l.length
    · rw [if_pos he]
      exact ⟨by omega, Nat.le_refl _, fun j g1 g2 => tails_false.2 (.inl (blankB_true.1 (h3 j g1 (by omega)))), fun h => by omega⟩
    · rw [if_neg he]
      have k1 := blankB_false.1 (h4 (by omega))
      obtain ⟨g1, g2, g3, g4⟩ := fwd_spec (isK (kindI (nth l e1))) l e1 (by omega)
      generalize fwd (isK (kindI (nth l e1))) l e1 = e2 at *
      have hgt : e1 < e2 := by
        rcases Nat.lt_or_ge e1 e2 with h | h
        · exact h
        · have e : e2 = e1 := by omega
          have := g4 (by omega); rw [e, isK_false] at this; exact absurd rfl this
      refine ⟨by omega, by omega, fun j j1 j2 => ?_, fun _ => ?_⟩
      · rcases Nat.lt_or_ge j e1 with hj | hj
        · exact tails_false.2 (.inl (blankB_true.1 (h3 j j1 hj)))
        · refine tails_false.2 (.inr ⟨by omega, ?_⟩)
          rw [isK_true.1 (g3 j hj (by omega)), isK_true.1 (g3 (j + 1) (by omega) (by omega))]
      · have kb := isK_true.1 (g3 (e2 - 1) (by omega) (by omega))
        refine tails_true.2 ⟨by rw [kb]; exact k1, ?_⟩
        have e : e2 - 1 + 1 = e2 := by omega
        rw [e]
        rcases Nat.lt_or_ge e2 l.length with h | h
        · exact .inr (by rw [kb]; exact isK_false.1 (g4 h))
        · exact .inl (by omega)
theorem tail_agree (l : List Int) (a : Nat) (ha : a ≤ l.length) : tailR l a = tailP l a := by
  unfold tailR
  by_cases he : a = l.length
  · rw [if_pos (by omega)]; unfold tailP; rw [if_pos (by omega)]
  · rw [if_neg (by omega)]
    obtain ⟨h1, h2, h3, h4⟩ := tailP_spec l a (by omega)
    exact ff_eq h1 (by omega) h3 (fun g => h4 (by omega))

/-! the row read from its end -/
theorem nth_reverse (l : List Int) (i : Nat) (h : i < l.length) : nth l.reverse i = nth l (l.length - 1 - i) := by
  unfold nth
  rw [List.getD_eq_getElem?_getD, List.getD_eq_getElem?_getD, List.getElem?_reverse h]
theorem bwd_mirror (p : Int → Bool) (l : List Int) (a : Nat) (ha : a ≤ l.length) : bwd p l.reverse (l.length - a) = l.length - fwd p l a := by
  obtain ⟨h1, h2, h3, h4⟩ := fwd_spec p l a ha
  refine bwd_eq (by omega) (fun j g1 g2 => ?_) (fun g => ?_)
  · rw [nth_reverse l j (by omega)]; exact h3 _ (by omega) (by omega)
  · rw [nth_reverse l _ (by omega)]
    have e : l.length - 1 - (l.length - fwd p l a - 1) = fwd p l a := by omega
    rw [e]; exact h4 (by omega)
theorem fwd_mirror (p : Int → Bool) (l : List Int) (a : Nat) (ha : a ≤ l.length) : fwd p l.reverse (l.length - a) = l.length - bwd p l a := by
  have := bwd_mirror p l.reverse (l.length - a) (by simp)
  rw [List.reverse_reverse, List.length_reverse] at this
  have e : l.length - (l.length - a) = a := by omega
  rw [e] at this
  have h := (fwd_spec p l.reverse (l.length - a) (by simp)).2.1
  rw [List.length_reverse] at h
  omega
theorem fwd_le (p : Int → Bool) (l : List Int) (a : Nat) (ha : a ≤ l.length) : fwd p l a ≤ l.length := (fwd_spec p l a ha).2.1
theorem bwd_le (p : Int → Bool) (l : List Int) (a : Nat) : bwd p l a ≤ a := (bwd_spec p l a).1
theorem mirror_behind (l : List Int) (a : Nat) (ha : a ≤ l.length) : foreP l.reverse (l.length - a) = l.length - behindP l a := by
  unfold foreP behindP
  have := bwd_le notIn l a
  rw [fwd_mirror notIn l a ha, fwd_mirror inB l _ (by omega)]
theorem mirror_fore (l : List Int) (a : Nat) (ha : a ≤ l.length) : behindP l.reverse (l.length - a) = l.length - foreP l a := by
  unfold foreP behindP
  rw [bwd_mirror notIn l a ha, bwd_mirror inB l _ (fwd_le _ _ _ ha)]
theorem mirror_tail (l : List Int) (a : Nat) (ha : a < l.length) (ht : tailP l a ≠ l.length) : prevP l.reverse (l.length - 1 - a) = l.length - 1 - tailP l a := by
  unfold tailP at ht ⊢
  by_cases hs : l.length ≤ a + 1
  · rw [if_pos hs] at ht; exact absurd rfl ht
  · rw [if_neg hs] at ht ⊢
    by_cases he : fwd blankB l (a + 1) = l.length
    · rw [if_pos he] at ht; exact absurd rfl ht
    · rw [if_neg he] at ht ⊢
      unfold prevP
      have e0 : l.length - 1 - a = l.length - (a + 1) := by omega
      have h1 := bwd_mirror blankB l (a + 1) (by omega)
      have h2 := fwd_spec blankB l (a + 1) (by omega)
      rw [e0, h1]
      rw [if_neg (by omega)]
      rw [nth_reverse l _ (by omega)]
      have e1 : l.length - 1 - (l.length - fwd blankB l (a + 1) - 1) = fwd blankB l (a + 1) := by omega
      rw [e1]
      have h3 := bwd_mirror (isK (kindI (nth l (fwd blankB l (a + 1))))) l (fwd blankB l (a + 1)) (by omega)
      have h4 := fwd_spec (isK (kindI (nth l (fwd blankB l (a + 1))))) l (fwd blankB l (a + 1)) (by omega)
      rw [h3]
      have hgt : fwd blankB l (a + 1) < fwd (isK (kindI (nth l (fwd blankB l (a + 1))))) l (fwd blankB l (a + 1)) := by
        rcases Nat.lt_or_ge (fwd blankB l (a + 1)) (fwd (isK (kindI (nth l (fwd blankB l (a + 1))))) l (fwd blankB l (a + 1))) with h | h
        · exact h
        · have e : fwd (isK (kindI (nth l (fwd blankB l (a + 1))))) l (fwd blankB l (a + 1)) = fwd blankB l (a + 1) := by omega
          have := h4.2.2.2 (by omega); rw [e, isK_false] at this; exact absurd rfl this
      omega

/-! what is passed -/
theorem fore_spec (l : List Int) (a : Nat) (ha : a ≤ l.length) : ∃ e1, a ≤ e1 ∧ e1 ≤ foreP l a ∧ foreP l a ≤ l.length ∧ (∀ j, a ≤ j → j < e1 → inB (nth l j) = false) ∧ (∀ j, e1 ≤ j → j < foreP l a → inB (nth l j) = true) ∧
    (foreP l a < l.length → inB (nth l (foreP l a)) = false) ∧ (foreP l a = e1 → e1 = l.length) := by
  obtain ⟨h1, h2, h3, h4⟩ := fwd_spec notIn l a ha
  refine ⟨fwd notIn l a, h1, ?_⟩
  unfold foreP
  generalize fwd notIn l a = e1 at *
  obtain ⟨g1, g2, g3, g4⟩ := fwd_spec inB l e1 h2
  refine ⟨g1, g2, fun j j1 j2 => by simpa [notIn] using h3 j j1 j2, g3, g4, fun e => ?_⟩
  rcases Nat.lt_or_ge e1 l.length with h | h
  · have k1 := h4 h
    have k2 := g4 (by omega)
    rw [e] at k2; simp [notIn, k2] at k1
  · omega
theorem fore_le (l : List Int) (a : Nat) (ha : a ≤ l.length) : foreP l a ≤ l.length := by obtain ⟨_, _, _, h, _⟩ := fore_spec l a ha; exact h
theorem behind_le (l : List Int) (a : Nat) : behindP l a ≤ a := Nat.le_trans (bwd_le _ _ _) (bwd_le _ _ _)
end Go.Proofs.Ytmmgbmmphmldeaa.plain
