/-
  Keys in plain Lean: what bytes begin with, what keys they are and what is left, what waits. No program in sight. No condition.
-/
import Derived.Test.YtmfccecjphfkiaaDoorPlain01b
namespace Go.Proofs.YtmfccecjphfkiaaDoor.plain
set_option linter.unusedVariables false

def isMark (b : UInt8) : Bool := decide (48 ≤ b.toNat ∧ b.toNat ≤ 63)
def marks (l : List UInt8) : Nat := (l.takeWhile isMark).length
theorem marks_le (l : List UInt8) : marks l ≤ l.length := by
  unfold marks; exact (List.takeWhile_sublist _).length_le
theorem marks_in (l : List UInt8) (j : Nat) (h : j < marks l) : 48 ≤ bt l j ∧ bt l j ≤ 63 := by
  induction l generalizing j with
  | nil => simp [marks] at h
  | cons b l ih =>
    by_cases hb : isMark b = true
    · have e : marks (b :: l) = marks l + 1 := by simp [marks, hb]
      rw [e] at h
      cases j with
      | zero => simpa [isMark, bt] using hb
      | succ j =>
        have : bt (b :: l) (j + 1) = bt l j := by simp [bt]
        rw [this]
        exact ih j (by omega)
    · have e : marks (b :: l) = 0 := by simp [marks, hb]
      rw [e] at h
      omega
theorem marks_out (l : List UInt8) (h : marks l < l.length) : ¬ (48 ≤ bt l (marks l) ∧ bt l (marks l) ≤ 63) := by
  induction l with
  | nil => simp at h
  | cons b l ih =>
    by_cases hb : isMark b = true
    · have e : marks (b :: l) = marks l + 1 := by simp [marks, hb]
      rw [e] at h ⊢
      have : bt (b :: l) (marks l + 1) = bt l (marks l) := by simp [bt]
      rw [this]
      exact ih (by simpa using h)
    · have e : marks (b :: l) = 0 := by simp [marks, hb]
      rw [e]
      have : bt (b :: l) 0 = b.toNat := by simp [bt]
      rw [this]
      simpa [isMark] using hb
/-- the count of marks is told by its bytes -/
theorem marks_eq (l : List UInt8) (k : Nat) (h1 : k ≤ l.length) (h2 : ∀ j, j < k → 48 ≤ bt l j ∧ bt l j ≤ 63) (h3 : k = l.length ∨ ¬ (48 ≤ bt l k ∧ bt l k ≤ 63)) : marks l = k := by
  rcases Nat.lt_trichotomy (marks l) k with h | h | h
  · exact absurd (h2 _ h) (marks_out l (by omega))
  · exact h
  · have := marks_in l k h
    have := marks_le l
    rcases h3 with h3 | h3
    · omega
    · exact absurd ‹_› h3

def kindOf (l : List UInt8) : Int :=
  if l = [65] then 3 else if l = [66] then 4 else if l = [67] then 5 else if l = [68] then 6 else if l = [72] then 7 else if l = [49, 126] then 7 else if l = [55, 126] then 7
  else if l = [70] then 8 else if l = [52, 126] then 8 else if l = [56, 126] then 8 else if l = [51, 126] then 9 else 11

/-- a key: its kind, its sign -/
abbrev KEY := Int × Int
/-- a sign as a key of kind k -/
def sg (k : Int) (l : List UInt8) : KEY × Nat × Nat := if (nx l).2.2 = 0 then ((k, ((nx l).1 : Int)), (nx l).2.1, 0) else ((0, 0), 0, (nx l).2.2)
/-- what stands behind 27 and 91 -/
def sq (l : List UInt8) : KEY × Nat × Nat :=
  if 8 < marks l then ((11, 0), 9, 0) else if marks l = l.length then ((0, 0), 0, 3)
  else if bt l (marks l) < 64 ∨ 126 < bt l (marks l) then ((11, 0), marks l, 0) else ((kindOf (l.take (marks l + 1)), 0), marks l + 1, 0)
/-- n bytes more -/
def upby (n : Nat) (q : KEY × Nat × Nat) : KEY × Nat × Nat := if q.2.2 = 0 then (q.1, n + q.2.1, 0) else ((0, 0), 0, q.2.2)
/-- the key that bytes begin with, its bytes' number, and 0; or 6: there is none; or 3: more is wanted -/
def one (l : List UInt8) : KEY × Nat × Nat :=
  if bt l 0 ≠ 27 then sg 1 l
  else if l.length = 1 then ((0, 0), 0, 3)
  else if bt l 1 = 27 then ((10, 0), 1, 0)
  else if bt l 1 = 91 then upby 2 (sq (l.drop 2))
  else upby 1 (sg 2 (l.drop 1))

theorem bt_drop (l : List UInt8) (k i : Nat) : bt (l.drop k) i = bt l (k + i) := by simp [bt]
theorem bt_ge {l : List UInt8} {i : Nat} (h : l.length ≤ i) : bt l i = 0 := by simp [bt, h]

/-- what is told well, or spoilt, stays so, whatever comes behind it -/
theorem nx_app (l t : List UInt8) (h : (nx l).2.2 = 0) : nx (l ++ t) = nx l := by
  rcases nx_kinds l with ⟨r, k, e⟩ | e | ⟨e, _⟩
  · rcases nx_ok _ _ _ e with ⟨rfl, rfl⟩ | ⟨hv, hk, hle, ht⟩
    · rw [e]
      have hn : 1 ≤ l.length := by
        rcases Nat.lt_or_ge l.length 1 with g | g
        · obtain rfl : l = [] := List.eq_nil_of_length_eq_zero (by omega)
          simp [nx_nil] at e
        · exact g
      rcases nx_kinds (l ++ t) with ⟨r, k, e'⟩ | e' | ⟨_, e'⟩
      · rcases nx_ok _ _ _ e' with ⟨rfl, rfl⟩ | ⟨hv, hk, hle, ht⟩
        · exact e'
        · exfalso
          rw [List.length_append] at hle
          have hp := encLen_pos r
          rcases Nat.lt_or_ge l.length k with g | g
          · have h1 := nx_part r hv l.length (by omega) (by omega)
            rw [← ht, List.take_take, Nat.min_eq_left (by omega), List.take_left] at h1
            rw [h1] at e; simp at e
          · rw [List.take_append_of_le_length g] at ht
            have h1 := nx_enc r hv (l.drop k)
            rw [← ht, List.take_append_drop, e] at h1
            simp only [Prod.mk.injEq, and_true] at h1
            have : encLen 65533 = 3 := rfl
            rw [← h1.1] at h1
            omega
      · exfalso
        obtain ⟨h1, h2, c, hv, hlt, he⟩ := nx_more _ e'
        rw [List.length_append] at hlt h1 h2
        have hpre : l = (enc c).take l.length := by
          rcases he with he | he <;> rw [he, List.append_assoc, List.take_left]
        have hq := nx_part c hv l.length (by omega) (by omega)
        rw [← hpre, e] at hq
        simp at hq
      · simp at e'; rw [e'.1] at hn; simp at hn
    · have h1 := nx_enc r hv (l.drop k ++ t)
      rw [← ht, ← List.append_assoc, List.take_append_drop] at h1
      rw [h1, e, hk]
  · rw [e] at h; simp at h
  · rw [e] at h; simp at h

theorem nx_some (l : List UInt8) (h : (nx l).2.2 = 0) : 1 ≤ (nx l).2.1 ∧ (nx l).2.1 ≤ l.length ∧ l ≠ [] := by
  have hn : l ≠ [] := by rintro rfl; simp [nx_nil] at h
  have := nd_ok l hn
  unfold nd at this
  rw [if_pos h] at this
  exact ⟨this.1, this.2.1, hn⟩
theorem nx_e (l : List UInt8) : ((nx l).2.2 = 0) ∨ ((nx l).2.2 = 3 ∧ 1 ≤ l.length ∧ l.length ≤ 3) ∨ ((nx l).2.2 = 6 ∧ l = []) := by
  rcases nx_kinds l with ⟨r, k, e⟩ | e | ⟨e, e'⟩
  · exact .inl (by rw [e])
  · have := nx_more l e
    exact .inr (.inl ⟨by rw [e], this.1, this.2.1⟩)
  · exact .inr (.inr ⟨by rw [e], e'⟩)

theorem sg_app (k : Int) (l t : List UInt8) (h : (sg k l).2.2 = 0) : sg k (l ++ t) = sg k l ∧ 1 ≤ (sg k l).2.1 ∧ (sg k l).2.1 ≤ l.length := by
  unfold sg at h ⊢
  by_cases c : (nx l).2.2 = 0
  · have e := nx_app l t c
    rw [e]
    simp only [if_pos c]
    exact ⟨trivial, (nx_some l c).1, (nx_some l c).2.1⟩
  · rw [if_neg c] at h
    exact absurd h c
theorem sg_e (k : Int) (l : List UInt8) : ((sg k l).2.2 = 0) ∨ ((sg k l) = ((0, 0), 0, 3) ∧ 1 ≤ l.length ∧ l.length ≤ 3) ∨ ((sg k l) = ((0, 0), 0, 6) ∧ l = []) := by
  unfold sg
  rcases nx_e l with h | ⟨h, h'⟩ | ⟨h, h'⟩
  · exact .inl (by rw [if_pos h])
  · exact .inr (.inl ⟨by rw [if_neg (by omega), h], h'⟩)
  · exact .inr (.inr ⟨by rw [if_neg (by omega), h], h'⟩)
theorem marks_app {l t : List UInt8} (h : marks l < l.length) : marks (l ++ t) = marks l :=
  marks_eq _ _ (by rw [List.length_append]; omega) (fun j hj => by rw [bt_app_lt (by omega)]; exact marks_in l j hj) (.inr (by rw [bt_app_lt h]; exact marks_out l h))
theorem marks_app_ge (l t : List UInt8) : marks l ≤ marks (l ++ t) := by
  rcases Nat.lt_or_ge (marks l) l.length with h | h
  · rw [marks_app h]; exact Nat.le_refl _
  · rcases Nat.lt_or_ge (marks (l ++ t)) (marks l) with g | g
    · have h1 := marks_out (l ++ t) (by rw [List.length_append]; have := marks_le l; omega)
      rw [bt_app_lt (by have := marks_le l; omega)] at h1
      exact absurd (marks_in l _ g) h1
    · exact g
theorem sq_app (l t : List UInt8) (h : (sq l).2.2 = 0) : sq (l ++ t) = sq l ∧ (sq l).2.1 ≤ l.length := by
  unfold sq at h ⊢
  have hle := marks_le l
  by_cases c1 : 8 < marks l
  · have := marks_app_ge l t
    simp only [if_pos c1, if_pos (show 8 < marks (l ++ t) by omega)]
    exact ⟨trivial, by omega⟩
  · simp only [if_neg c1] at h ⊢
    by_cases c2 : marks l = l.length
    · rw [if_pos c2] at h; simp at h
    · simp only [if_neg c2] at h ⊢
      have hlt : marks l < l.length := by omega
      rw [marks_app hlt, bt_app_lt hlt, if_neg c1, if_neg (by rw [List.length_append]; omega), List.take_append_of_le_length (by omega)]
      refine ⟨rfl, ?_⟩
      split
      · exact hle
      · exact hlt
theorem sq_e (l : List UInt8) : ((sq l).2.2 = 0) ∨ ((sq l) = ((0, 0), 0, 3) ∧ l.length ≤ 8) := by
  unfold sq
  by_cases c1 : 8 < marks l
  · exact .inl (by rw [if_pos c1])
  · rw [if_neg c1]
    by_cases c2 : marks l = l.length
    · exact .inr ⟨by rw [if_pos c2], by omega⟩
    · rw [if_neg c2]
      exact .inl (by split <;> rfl)
theorem upby_z {n : Nat} {q : KEY × Nat × Nat} (h : q.2.2 = 0) : upby n q = (q.1, n + q.2.1, 0) := if_pos h
theorem upby_e {n : Nat} {q : KEY × Nat × Nat} : (upby n q).2.2 = q.2.2 := by
  unfold upby; split
  · rename_i h; exact h.symm
  · rfl

theorem one_e (l : List UInt8) : ((one l).2.2 = 0 ∧ 1 ≤ (one l).2.1 ∧ (one l).2.1 ≤ l.length) ∨ (one l = ((0, 0), 0, 3) ∧ 1 ≤ l.length ∧ l.length ≤ 10) ∨ (one l = ((0, 0), 0, 6) ∧ l = []) := by
  unfold one
  by_cases c0 : bt l 0 ≠ 27
  · rw [if_pos c0]
    rcases sg_e 1 l with h | ⟨h, h1, h2⟩ | h
    · exact .inl ⟨h, (sg_app 1 l [] h).2⟩
    · exact .inr (.inl ⟨h, h1, by omega⟩)
    · exact .inr (.inr h)
  · rw [if_neg c0]
    have hn : 1 ≤ l.length := by
      rcases Nat.lt_or_ge l.length 1 with g | g
      · rw [bt_ge (by omega)] at c0; simp at c0
      · exact g
    by_cases c1 : l.length = 1
    · rw [if_pos c1]; exact .inr (.inl ⟨rfl, by omega, by omega⟩)
    · rw [if_neg c1]
      by_cases c2 : bt l 1 = 27
      · rw [if_pos c2]; exact .inl ⟨rfl, by simp, hn⟩
      · rw [if_neg c2]
        by_cases c3 : bt l 1 = 91
        · rw [if_pos c3]
          rcases sq_e (l.drop 2) with h | ⟨h, h2⟩
          · rw [upby_z h]
            have := (sq_app (l.drop 2) [] h).2
            rw [List.length_drop] at this
            exact .inl ⟨rfl, by show 1 ≤ 2 + (sq (l.drop 2)).2.1; omega, by show 2 + (sq (l.drop 2)).2.1 ≤ _; omega⟩
          · rw [h]
            rw [List.length_drop] at h2
            exact .inr (.inl ⟨rfl, by omega, by omega⟩)
        · rw [if_neg c3]
          rcases sg_e 2 (l.drop 1) with h | ⟨h, h1, h2⟩ | ⟨h, h'⟩
          · rw [upby_z h]
            have := (sg_app 2 (l.drop 1) [] h).2
            rw [List.length_drop] at this
            exact .inl ⟨rfl, by show 1 ≤ 1 + (sg 2 (l.drop 1)).2.1; omega, by show 1 + (sg 2 (l.drop 1)).2.1 ≤ _; omega⟩
          · rw [h]
            rw [List.length_drop] at h1 h2
            exact .inr (.inl ⟨rfl, by omega, by omega⟩)
          · have := congrArg List.length h'
            rw [List.length_drop] at this
            simp at this
            omega
theorem one_app (l t : List UInt8) (h : (one l).2.2 = 0) : one (l ++ t) = one l := by
  rcases one_e l with ⟨_, hn1, hn2⟩ | ⟨h', _⟩ | ⟨h', _⟩
  · have hn : 1 ≤ l.length := by omega
    unfold one at h ⊢
    have b0 : bt (l ++ t) 0 = bt l 0 := bt_app_lt (by omega)
    rw [b0]
    by_cases c0 : bt l 0 ≠ 27
    · rw [if_pos c0] at h ⊢
      rw [if_pos c0]
      exact (sg_app 1 l t h).1
    · rw [if_neg c0] at h ⊢
      rw [if_neg c0]
      by_cases c1 : l.length = 1
      · rw [if_pos c1] at h; simp at h
      · rw [if_neg c1] at h ⊢
        have b1 : bt (l ++ t) 1 = bt l 1 := bt_app_lt (by omega)
        rw [if_neg (by rw [List.length_append]; omega), b1]
        by_cases c2 : bt l 1 = 27
        · rw [if_pos c2, if_pos c2]
        · rw [if_neg c2] at h ⊢
          rw [if_neg c2]
          by_cases c3 : bt l 1 = 91
          · rw [if_pos c3] at h ⊢
            rw [if_pos c3, List.drop_append_of_le_length (by omega)]
            rw [upby_e] at h
            rw [(sq_app _ t h).1]
          · rw [if_neg c3] at h ⊢
            rw [if_neg c3, List.drop_append_of_le_length (by omega)]
            rw [upby_e] at h
            rw [(sg_app 2 _ t h).1]
  · rw [h'] at h; simp at h
  · rw [h'] at h; simp at h

/-- the keys of bytes, and what is left -/
def prs : Nat → List UInt8 → List KEY × List UInt8
  | 0, l => ([], l)
  | f + 1, l => if (one l).2.2 = 0 then ((one l).1 :: (prs f (l.drop (one l).2.1)).1, (prs f (l.drop (one l).2.1)).2) else ([], l)
def keysOf (l : List UInt8) : List KEY := (prs l.length l).1
def restOf (l : List UInt8) : List UInt8 := (prs l.length l).2
theorem prs_more : ∀ (f g : Nat) (l : List UInt8), l.length ≤ f → l.length ≤ g → prs f l = prs g l
  | 0, 0, l, _, _ => rfl
  | 0, g + 1, l, h, _ => by
    obtain rfl : l = [] := List.eq_nil_of_length_eq_zero (by omega)
    rfl
  | f + 1, 0, l, _, h => by
    obtain rfl : l = [] := List.eq_nil_of_length_eq_zero (by omega)
    rfl
  | f + 1, g + 1, l, h1, h2 => by
    unfold prs
    by_cases h : (one l).2.2 = 0
    · rw [if_pos h, if_pos h]
      rcases one_e l with ⟨_, hn1, hn2⟩ | ⟨h', _⟩ | ⟨h', _⟩
      · rw [prs_more f g (l.drop (one l).2.1) (by rw [List.length_drop]; omega) (by rw [List.length_drop]; omega)]
      · rw [h'] at h; simp at h
      · rw [h'] at h; simp at h
    · rw [if_neg h, if_neg h]
theorem prs_go (l : List UInt8) (h : (one l).2.2 = 0) : keysOf l = (one l).1 :: keysOf (l.drop (one l).2.1) ∧ restOf l = restOf (l.drop (one l).2.1) := by
  rcases one_e l with ⟨_, hn1, hn2⟩ | ⟨h', _⟩ | ⟨h', _⟩
  · have hf : prs l.length l = ((one l).1 :: (prs (l.drop (one l).2.1).length (l.drop (one l).2.1)).1, (prs (l.drop (one l).2.1).length (l.drop (one l).2.1)).2) := by
      obtain ⟨f, hf⟩ : ∃ f, l.length = f + 1 := ⟨l.length - 1, by omega⟩
      conv => lhs; rw [hf, prs]
      rw [if_pos h, prs_more f (l.drop (one l).2.1).length _ (by rw [List.length_drop]; omega) (Nat.le_refl _)]
    refine ⟨?_, ?_⟩
    · show (prs l.length l).1 = _
      rw [hf]; rfl
    · show (prs l.length l).2 = _
      rw [hf]; rfl
  · rw [h'] at h; simp at h
  · rw [h'] at h; simp at h
theorem prs_stop (l : List UInt8) (h : (one l).2.2 ≠ 0) : keysOf l = [] ∧ restOf l = l := by
  unfold keysOf restOf
  cases hl : l.length with
  | zero => exact ⟨rfl, rfl⟩
  | succ f => unfold prs; rw [if_neg h]; exact ⟨rfl, rfl⟩
theorem prs_ind {P : List UInt8 → Prop} (hs : ∀ l, (one l).2.2 ≠ 0 → P l) (hg : ∀ l, (one l).2.2 = 0 → P (l.drop (one l).2.1) → P l) : ∀ l, P l := by
  have : ∀ (f : Nat) (l : List UInt8), l.length ≤ f → P l := by
    intro f
    induction f with
    | zero =>
      intro l hl
      obtain rfl : l = [] := List.eq_nil_of_length_eq_zero (by omega)
      exact hs _ (by decide)
    | succ f ih =>
      intro l hl
      by_cases h : (one l).2.2 = 0
      · rcases one_e l with ⟨_, hn1, hn2⟩ | ⟨h', _⟩ | ⟨h', _⟩
        · exact hg l h (ih _ (by rw [List.length_drop]; omega))
        · rw [h'] at h; simp at h
        · rw [h'] at h; simp at h
      · exact hs l h
  exact fun l => this l.length l (Nat.le_refl _)
theorem rest_e (l : List UInt8) : (one (restOf l)).2.2 ≠ 0 := by
  refine prs_ind (P := fun l => (one (restOf l)).2.2 ≠ 0) (fun l h => ?_) (fun l h ih => ?_) l
  · rw [(prs_stop l h).2]; exact h
  · rw [(prs_go l h).2]; exact ih
theorem rest_len (l : List UInt8) : (restOf l).length ≤ 10 ∧ (restOf l).length ≤ l.length := by
  refine ⟨?_, ?_⟩
  · have h := rest_e l
    rcases one_e (restOf l) with ⟨h', _⟩ | ⟨_, _, h'⟩ | ⟨_, h'⟩
    · exact absurd h' h
    · exact h'
    · rw [h']; simp
  · refine prs_ind (P := fun l => (restOf l).length ≤ l.length) (fun l h => ?_) (fun l h ih => ?_) l
    · rw [(prs_stop l h).2]; exact Nat.le_refl _
    · rw [(prs_go l h).2]
      rw [List.length_drop] at ih
      omega
theorem keys_len (l : List UInt8) : (keysOf l).length ≤ l.length := by
  refine prs_ind (P := fun l => (keysOf l).length ≤ l.length) (fun l h => ?_) (fun l h ih => ?_) l
  · rw [(prs_stop l h).1]; simp
  · rw [(prs_go l h).1, List.length_cons]
    rw [List.length_drop] at ih
    rcases one_e l with ⟨_, hn1, hn2⟩ | ⟨h', _⟩ | ⟨h', _⟩
    · omega
    · rw [h'] at h; simp at h
    · rw [h'] at h; simp at h
/-- bytes that come in two parts -/
theorem prs_app (l t : List UInt8) : keysOf (l ++ t) = keysOf l ++ keysOf (restOf l ++ t) ∧ restOf (l ++ t) = restOf (restOf l ++ t) := by
  refine prs_ind (P := fun l => keysOf (l ++ t) = keysOf l ++ keysOf (restOf l ++ t) ∧ restOf (l ++ t) = restOf (restOf l ++ t)) (fun l h => ?_) (fun l h ih => ?_) l
  · obtain ⟨e1, e2⟩ := prs_stop l h
    rw [e1, e2]; exact ⟨rfl, rfl⟩
  · obtain ⟨e1, e2⟩ := prs_go l h
    have ha := one_app l t h
    obtain ⟨g1, g2⟩ := prs_go (l ++ t) (by rw [ha]; exact h)
    have hle : (one l).2.1 ≤ l.length := by
      rcases one_e l with ⟨_, _, hn2⟩ | ⟨h', _⟩ | ⟨h', _⟩
      · exact hn2
      · rw [h'] at h; simp at h
      · rw [h'] at h; simp at h
    rw [ha, List.drop_append_of_le_length hle] at g1 g2
    rw [g1, g2, e1, e2, ih.1, ih.2]
    exact ⟨rfl, rfl⟩

/-- what is settled -/
def settleK (l : List UInt8) : List KEY := if bt l 0 = 27 then (10, 0) :: (dec (l.drop 1)).map fun r : Nat => (1, (r : Int)) else (dec l).map fun r : Nat => (1, (r : Int))
theorem settle_len (l : List UInt8) : (settleK l).length ≤ l.length := by
  unfold settleK
  split
  · rename_i h
    have hn : 1 ≤ l.length := by
      rcases Nat.lt_or_ge l.length 1 with g | g
      · rw [bt_ge (by omega)] at h; simp at h
      · exact g
    rw [List.length_cons, List.length_map]
    have := dec_length (l.drop 1)
    rw [List.length_drop] at this
    omega
  · rw [List.length_map]; exact dec_length l

def tickB (n : Int) : Bool := decide (0 ≤ n ∧ n ≤ 1073741824)
def waitB (n : Int) : Bool := decide (1 ≤ n ∧ n ≤ 1000)
/-- is what waits right? -/
def isK (p : List UInt8) (at' : Int) : Bool := if p = [] then decide (at' = 0) else (decide ((one p).2.2 = 3) && tickB at')
def dueK (p : List UInt8) (at' now wait : Int) : Bool := !decide (p = []) && isK p at' && waitB wait && tickB now && decide (at' + wait ≤ now)
end Go.Proofs.YtmfccecjphfkiaaDoor.plain
