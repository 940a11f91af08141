/-
  Signs and their bytes in plain Lean, more: what wants more can be made whole; rows of signs, put and told again. No program in sight. No condition.
-/
import Derived.Test.YtmfjndoljdpliaaDoorPlain01
namespace Go.Proofs.YtmfjndoljdpliaaDoor.plain
set_option linter.unusedVariables false

def KD (n : Nat) (x : Nat × Nat × Nat) : Prop := (∃ r k, x = (r, k, 0)) ∨ x = (0, 0, 3) ∨ (x = (0, 0, 6) ∧ n = 0)
theorem kd_ite {c : Prop} [Decidable c] {n : Nat} {a b : Nat × Nat × Nat} (h1 : c → KD n a) (h2 : ¬ c → KD n b) : KD n (if c then a else b) := by
  split
  · exact h1 ‹_›
  · exact h2 ‹_›
theorem nxN_kinds (n b0 b1 b2 b3 : Nat) : KD n (nxN n b0 b1 b2 b3) := by
  unfold nxN
  refine kd_ite (fun h => .inr (.inr ⟨rfl, h⟩)) fun _ => ?_
  repeat' (first | exact .inl ⟨_, _, rfl⟩ | exact .inr (.inl rfl) | (refine kd_ite (fun _ => ?_) fun _ => ?_))
theorem nx_kinds (l : List UInt8) : (∃ r k, nx l = (r, k, 0)) ∨ nx l = (0, 0, 3) ∨ (nx l = (0, 0, 6) ∧ l = []) := by
  rcases nxN_kinds l.length (bt l 0) (bt l 1) (bt l 2) (bt l 3) with h | h | ⟨h, h0⟩
  · exact .inl h
  · exact .inr (.inl h)
  · exact .inr (.inr ⟨h, List.eq_nil_of_length_eq_zero h0⟩)
theorem nx_nil : nx [] = (0, 0, 6) := rfl

theorem bt_app_ge {l t : List UInt8} {i : Nat} (h : l.length ≤ i) : bt (l ++ t) i = bt t (i - l.length) := by
  simp [bt, List.getElem?_append_right h]
theorem bt_rep (x : UInt8) (k i : Nat) (h : i < k) : bt (List.replicate k x) i = x.toNat := by
  simp [bt, h]
/-- what wants more can be made whole by bytes 128, or by bytes 191 -/
theorem nx_more (l : List UInt8) (h : nx l = (0, 0, 3)) : 1 ≤ l.length ∧ l.length ≤ 3 ∧
    ∃ c, validN c ∧ l.length < encLen c ∧ (enc c = l ++ List.replicate (encLen c - l.length) 128 ∨ enc c = l ++ List.replicate (encLen c - l.length) 191) := by
  obtain ⟨h1, h2, h3, h4, h5, h6, h7⟩ := nxN_more _ _ _ _ _ (bt_lt l 0) (bt_lt l 1) (bt_lt l 2) h
  refine ⟨h1, h2, ?_⟩
  obtain ⟨k, hk⟩ : ∃ k, k = (if bt l 0 < 224 then 2 else if bt l 0 < 240 then 3 else 4) := ⟨_, rfl⟩
  rw [← hk] at h5
  have key : ∀ x : UInt8, 128 ≤ x.toNat ∧ x.toNat ≤ 191 → (l.length = 1 → ¬ ((bt l 0 = 224 ∧ x.toNat < 160) ∨ (bt l 0 = 237 ∧ 159 < x.toNat) ∨ (bt l 0 = 240 ∧ x.toNat < 144) ∨ (bt l 0 = 244 ∧ 143 < x.toNat))) →
      ∃ c, validN c ∧ k = encLen c ∧ enc c = l ++ List.replicate (k - l.length) x := by
    intro x hx hx1
    have hl : (l ++ List.replicate (k - l.length) x).length = k := by rw [List.length_append, List.length_replicate]; omega
    have b0 : bt (l ++ List.replicate (k - l.length) x) 0 = bt l 0 := bt_app_lt (by omega)
    have b1 : (2 ≤ l.length → bt (l ++ List.replicate (k - l.length) x) 1 = bt l 1) ∧ (l.length < 2 → 1 < k → bt (l ++ List.replicate (k - l.length) x) 1 = x.toNat) :=
      ⟨fun g => bt_app_lt (by omega), fun g g' => by rw [bt_app_ge (by omega), bt_rep _ _ _ (by omega)]⟩
    have b2 : (3 ≤ l.length → bt (l ++ List.replicate (k - l.length) x) 2 = bt l 2) ∧ (l.length < 3 → 2 < k → bt (l ++ List.replicate (k - l.length) x) 2 = x.toNat) :=
      ⟨fun g => bt_app_lt (by omega), fun g g' => by rw [bt_app_ge (by omega), bt_rep _ _ _ (by omega)]⟩
    have b3 : 3 < k → bt (l ++ List.replicate (k - l.length) x) 3 = x.toNat := fun g' => by rw [bt_app_ge (by omega), bt_rep _ _ _ (by omega)]
    obtain ⟨r, hr⟩ : ∃ r, nx (l ++ List.replicate (k - l.length) x) = (r, k, 0) := by
      unfold nx
      rw [hl, b0]
      generalize bt (l ++ List.replicate (k - l.length) x) 1 = B1 at *
      generalize bt (l ++ List.replicate (k - l.length) x) 2 = B2 at *
      generalize bt (l ++ List.replicate (k - l.length) x) 3 = B3 at *
      have e1 : ¬ (B1 < 128 ∨ 191 < B1 ∨ (bt l 0 = 224 ∧ B1 < 160) ∨ (bt l 0 = 237 ∧ 159 < B1) ∨ (bt l 0 = 240 ∧ B1 < 144) ∨ (bt l 0 = 244 ∧ 143 < B1)) := by
        rcases Nat.lt_or_ge l.length 2 with g | g
        · rw [b1.2 g (by omega)]
          have := hx1 (by omega)
          omega
        · rw [b1.1 g]; exact h6 g
      unfold nxN
      rw [if_neg (by omega), if_neg (by omega), if_neg (by omega), if_neg (by omega), if_neg e1]
      by_cases g1 : bt l 0 < 224
      · rw [if_pos g1] at hk
        subst hk
        rw [if_pos g1]; exact ⟨_, rfl⟩
      · rw [if_neg g1] at hk
        have e2 : ¬ (B2 < 128 ∨ 191 < B2) := by
          rcases Nat.lt_or_ge l.length 3 with g | g
          · rw [b2.2 g (by split at hk <;> omega)]; omega
          · rw [b2.1 g]; have := h7 g; omega
        rw [if_neg g1]
        by_cases g2 : bt l 0 < 240
        · rw [if_pos g2] at hk
          subst hk
          rw [if_neg (by omega), if_neg e2, if_pos g2]; exact ⟨_, rfl⟩
        · rw [if_neg g2] at hk
          subst hk
          have b3 := b3 (by omega)
          rw [if_neg (by omega), if_neg e2, if_neg g2, if_neg (by omega), if_neg (by omega)]; exact ⟨_, rfl⟩
    have hk2 : 2 ≤ k := by rw [hk]; (repeat' split) <;> omega
    rcases nx_ok _ _ _ hr with ⟨_, hb⟩ | ⟨hv, he, hle, ht⟩
    · omega
    · refine ⟨r, hv, he, ?_⟩
      rw [← ht, List.take_of_length_le (by omega)]
  by_cases g : bt l 0 = 224 ∨ bt l 0 = 240
  · obtain ⟨c, hv, hc, he⟩ := key 191 ⟨by decide, by decide⟩ (fun _ => by have : (191 : UInt8).toNat = 191 := rfl; omega)
    exact ⟨c, hv, by omega, .inr (by rw [← hc]; exact he)⟩
  · obtain ⟨c, hv, hc, he⟩ := key 128 ⟨by decide, by decide⟩ (fun _ => by have : (128 : UInt8).toNat = 128 := rfl; omega)
    exact ⟨c, hv, by omega, .inl (by rw [← hc]; exact he)⟩

theorem nd_ok (l : List UInt8) (h : l ≠ []) : 1 ≤ (nd l).2 ∧ (nd l).2 ≤ l.length ∧ validN (nd l).1 := by
  have hp : 0 < l.length := List.length_pos_iff.2 h
  unfold nd
  rcases nx_kinds l with ⟨r, k, e⟩ | e | ⟨_, e⟩
  · rw [e]
    simp only [if_true]
    rcases nx_ok _ _ _ e with ⟨rfl, rfl⟩ | ⟨hv, hk, hle, _⟩
    · exact ⟨by omega, by omega, by unfold validN; omega⟩
    · have := encLen_pos r
      exact ⟨by omega, hle, hv⟩
  · rw [e]
    exact ⟨Nat.le_refl _, hp, by unfold validN; simp⟩
  · exact absurd e h

def decF : Nat → List UInt8 → List Nat
  | 0, _ => []
  | f + 1, l => if l = [] then [] else (nd l).1 :: decF f (l.drop (nd l).2)
/-- the signs of bytes -/
def dec (l : List UInt8) : List Nat := decF l.length l
theorem decF_more : ∀ (f g : Nat) (l : List UInt8), l.length ≤ f → l.length ≤ g → decF f l = decF g l
  | 0, 0, l, _, _ => rfl
  | 0, g + 1, l, h, _ => by
    obtain rfl : l = [] := List.eq_nil_of_length_eq_zero (by omega)
    simp [decF]
  | f + 1, 0, l, _, h => by
    obtain rfl : l = [] := List.eq_nil_of_length_eq_zero (by omega)
    simp [decF]
  | f + 1, g + 1, l, h1, h2 => by
    unfold decF
    by_cases h : l = []
    · simp [h]
    · rw [if_neg h, if_neg h]
      have := nd_ok l h
      rw [decF_more f g (l.drop (nd l).2) (by rw [List.length_drop]; omega) (by rw [List.length_drop]; omega)]
theorem dec_nil : dec [] = [] := rfl
theorem dec_cons (l : List UInt8) (h : l ≠ []) : dec l = (nd l).1 :: dec (l.drop (nd l).2) := by
  have hp : 0 < l.length := List.length_pos_iff.2 h
  have hk := nd_ok l h
  unfold dec
  obtain ⟨f, hf⟩ : ∃ f, l.length = f + 1 := ⟨l.length - 1, by omega⟩
  rw [hf, decF, if_neg h]
  congr 1
  exact decF_more _ _ _ (by rw [List.length_drop]; omega) (Nat.le_refl _)
theorem dec_ind {P : List UInt8 → Prop} (h0 : P []) (hs : ∀ l, l ≠ [] → P (l.drop (nd l).2) → P l) : ∀ l, P l := by
  have : ∀ (f : Nat) (l : List UInt8), l.length ≤ f → P l := by
    intro f
    induction f with
    | zero => intro l hl; obtain rfl : l = [] := List.eq_nil_of_length_eq_zero (by omega); exact h0
    | succ f ih =>
      intro l hl
      by_cases h : l = []
      · subst h; exact h0
      · have := nd_ok l h
        exact hs l h (ih _ (by rw [List.length_drop]; omega))
  exact fun l => this l.length l (Nat.le_refl _)
theorem dec_valid (l : List UInt8) : ∀ r ∈ dec l, validN r := by
  refine dec_ind (P := fun l => ∀ r ∈ dec l, validN r) (by simp [dec_nil]) (fun l h ih r hr => ?_) l
  rw [dec_cons l h] at hr
  rcases List.mem_cons.1 hr with rfl | hr
  · exact (nd_ok l h).2.2
  · exact ih r hr
theorem dec_length (l : List UInt8) : (dec l).length ≤ l.length := by
  refine dec_ind (P := fun l => (dec l).length ≤ l.length) (by simp [dec_nil]) (fun l h ih => ?_) l
  have := nd_ok l h
  rw [dec_cons l h, List.length_cons]
  rw [List.length_drop] at ih
  omega

/-- a number, or the bad sign in its place -/
def fixN (r : Int) : Nat := if Utf8.valid r then r.toNat else 65533
theorem fixN_valid (r : Int) : validN (fixN r) := by
  unfold fixN validN
  split
  · rename_i h
    simp [Utf8.valid] at h
    omega
  · omega
theorem fixN_of {r : Int} (h : Utf8.valid r = true) : ((fixN r : Nat) : Int) = r := by
  unfold fixN
  rw [if_pos h]
  simp [Utf8.valid] at h
  omega
theorem validN_iff (n : Nat) : Utf8.valid (n : Int) = true ↔ validN n := by
  simp [Utf8.valid, validN]
  omega
theorem enc_eq (r : Int) : (Utf8.encode r).data.toList = enc (fixN r) := by
  unfold Utf8.encode enc fixN Utf8.runeError
  simp only
  (repeat' split) <;> rfl
/-- the bytes of numbers -/
def encs (rs : List Int) : List UInt8 := rs.flatMap fun r => enc (fixN r)
theorem encs_nil : encs [] = [] := rfl
theorem encs_cons (r : Int) (rs : List Int) : encs (r :: rs) = enc (fixN r) ++ encs rs := rfl
theorem encs_snoc (rs : List Int) (r : Int) : encs (rs ++ [r]) = encs rs ++ enc (fixN r) := by simp [encs]
theorem enc_ne_nil (c : Nat) : enc c ≠ [] := by
  intro h
  have := enc_length c
  have h2 := encLen_pos c
  rw [h] at this
  simp at this
  omega
theorem nd_enc (c : Nat) (h : validN c) (t : List UInt8) : nd (enc c ++ t) = (c, encLen c) := by
  unfold nd
  rw [nx_enc c h t]
  rfl
theorem dec_enc (c : Nat) (h : validN c) (t : List UInt8) : dec (enc c ++ t) = c :: dec t := by
  rw [dec_cons _ (by simp [enc_ne_nil]), nd_enc c h t]
  simp only
  rw [List.drop_append_of_le_length (by rw [enc_length]; omega), List.drop_of_length_le (by rw [enc_length]; omega), List.nil_append]
theorem dec_encs (rs : List Int) (t : List UInt8) : dec (encs rs ++ t) = rs.map fixN ++ dec t := by
  induction rs with
  | nil => rfl
  | cons r rs ih => rw [encs_cons, List.append_assoc, dec_enc _ (fixN_valid r), ih]; rfl
theorem encs_length (rs : List Int) : (encs rs).length ≤ 4 * rs.length ∧ rs.length ≤ (encs rs).length := by
  induction rs with
  | nil => simp [encs_nil]
  | cons r rs ih =>
    have := encLen_pos (fixN r)
    rw [encs_cons, List.length_append, enc_length, List.length_cons]
    omega

/-- a byte that goes on with a sign is none by itself -/
theorem nd_cont (l : List UInt8) (h : 1 ≤ l.length) (h1 : 128 ≤ bt l 0) (h2 : bt l 0 < 194) : nd l = (65533, 1) := by
  have : nx l = (65533, 1, 0) := by
    unfold nx nxN
    rw [if_neg (by omega), if_neg (by omega), if_pos (by omega)]
  unfold nd
  rw [this]; rfl
theorem dec_conts : ∀ (l : List UInt8), (∀ i, i < l.length → 128 ≤ bt l i ∧ bt l i < 194) → dec l = List.replicate l.length 65533
  | [], _ => rfl
  | b :: l, h => by
    have h0 := h 0 (by simp)
    rw [dec_cons _ (by simp), nd_cont _ (by simp) h0.1 h0.2]
    simp only [List.drop_succ_cons, List.drop_zero, List.length_cons]
    rw [dec_conts l (fun i hi => h (i + 1) (by simpa using hi))]
    rfl
theorem dec_more (l : List UInt8) (h : nx l = (0, 0, 3)) : dec l = List.replicate l.length 65533 := by
  obtain ⟨h1, h2, h3, h4, h5, h6, h7⟩ := nxN_more _ _ _ _ _ (bt_lt l 0) (bt_lt l 1) (bt_lt l 2) h
  have hn : l ≠ [] := by intro e; subst e; simp at h1
  have hd : nd l = (65533, 1) := by unfold nd; rw [h]; rfl
  rw [dec_cons l hn, hd]
  simp only
  have hdl : (l.drop 1).length = l.length - 1 := by simp
  rw [dec_conts (l.drop 1), hdl]
  · obtain ⟨k, hk⟩ : ∃ k, l.length = k + 1 := ⟨l.length - 1, by omega⟩
    rw [hk]; rfl
  · intro i hi
    rw [hdl] at hi
    have e : bt (l.drop 1) i = bt l (i + 1) := by simp [bt]
    rw [e]
    rcases (show i = 0 ∨ i = 1 by omega) with rfl | rfl
    · have := h6 (by omega); show 128 ≤ bt l 1 ∧ bt l 1 < 194; omega
    · have := h7 (by omega); show 128 ≤ bt l 2 ∧ bt l 2 < 194; omega
/-- one byte more makes it a sign, or a longer beginning, or spoils it -/
theorem nx_snoc (l : List UInt8) (h : nx l = (0, 0, 3)) (b : UInt8) : nx (l ++ [b]) = (0, 0, 3) ∨ (∃ r, validN r ∧ nx (l ++ [b]) = (r, l.length + 1, 0)) ∨ nx (l ++ [b]) = (65533, 1, 0) := by
  rcases nx_kinds (l ++ [b]) with ⟨r, k, e⟩ | e | ⟨_, e⟩
  · rcases nx_ok _ _ _ e with ⟨rfl, rfl⟩ | ⟨hv, hk, hle, ht⟩
    · exact .inr (.inr e)
    · rw [List.length_append, List.length_singleton] at hle
      rcases Nat.lt_or_ge l.length k with g | g
      · exact .inr (.inl ⟨r, hv, by rw [e, show k = l.length + 1 by omega]⟩)
      · rw [List.take_append_of_le_length g] at ht
        have hh := nx_enc r hv (l.drop k)
        rw [← ht, List.take_append_drop, h] at hh
        simp at hh
  · exact .inl e
  · simp at e

/-- the model's own reading of a string at a place -/
theorem decodeN_nd (n b0 b1 b2 b3 : Nat) (hn : 1 ≤ n) (h0 : b0 < 256) (h1 : b1 < 256) (h2 : b2 < 256) (h3 : b3 < 256) :
    Lib.decodeN n b0 b1 b2 b3 = if (nxN n b0 b1 b2 b3).2.2 = 0 then ((nxN n b0 b1 b2 b3).1, (nxN n b0 b1 b2 b3).2.1) else (65533, 1) := by
  by_cases c1 : b0 < 128
  · have e : nxN n b0 b1 b2 b3 = (b0, 1, 0) := by unfold nxN; rw [if_neg (by omega), if_pos c1]
    rw [e]; unfold Lib.decodeN; rw [if_pos c1]; rfl
  by_cases c2 : b0 < 194 ∨ 244 < b0
  · have e : nxN n b0 b1 b2 b3 = (65533, 1, 0) := by unfold nxN; rw [if_neg (by omega), if_neg c1, if_pos c2]
    rw [e]; unfold Lib.decodeN; rw [if_neg c1]
    simp only [if_true]
    (repeat' split) <;> first | rfl | (exfalso; omega)
  by_cases c3 : n < 2
  · have e : nxN n b0 b1 b2 b3 = (0, 0, 3) := by unfold nxN; rw [if_neg (by omega), if_neg c1, if_neg c2, if_pos c3]
    rw [e]; unfold Lib.decodeN; rw [if_neg c1, if_neg (by omega), if_neg (by omega), if_neg (by omega)]; rfl
  by_cases c4 : b1 < 128 ∨ 191 < b1 ∨ (b0 = 224 ∧ b1 < 160) ∨ (b0 = 237 ∧ 159 < b1) ∨ (b0 = 240 ∧ b1 < 144) ∨ (b0 = 244 ∧ 143 < b1)
  · have e : nxN n b0 b1 b2 b3 = (65533, 1, 0) := by unfold nxN; rw [if_neg (by omega), if_neg c1, if_neg c2, if_neg c3, if_pos c4]
    rw [e]; unfold Lib.decodeN; rw [if_neg c1]
    simp only [if_true]
    (repeat' split) <;> first | rfl | (exfalso; omega)
  by_cases c5 : b0 < 224
  · have e : nxN n b0 b1 b2 b3 = ((b0 - 192) * 64 + (b1 - 128), 2, 0) := by unfold nxN; rw [if_neg (by omega), if_neg c1, if_neg c2, if_neg c3, if_neg c4, if_pos c5]
    rw [e]; unfold Lib.decodeN; rw [if_neg c1, if_pos (by omega), if_pos (by omega)]
    simp only [if_true, Prod.mk.injEq, and_true]; omega
  by_cases c6 : n < 3
  · have e : nxN n b0 b1 b2 b3 = (0, 0, 3) := by unfold nxN; rw [if_neg (by omega), if_neg c1, if_neg c2, if_neg c3, if_neg c4, if_neg c5, if_pos c6]
    rw [e]; unfold Lib.decodeN; rw [if_neg c1, if_neg (by omega), if_neg (by omega), if_neg (by omega)]; rfl
  by_cases c7 : b2 < 128 ∨ 191 < b2
  · have e : nxN n b0 b1 b2 b3 = (65533, 1, 0) := by unfold nxN; rw [if_neg (by omega), if_neg c1, if_neg c2, if_neg c3, if_neg c4, if_neg c5, if_neg c6, if_pos c7]
    rw [e]; unfold Lib.decodeN; rw [if_neg c1, if_neg (by omega), if_neg (by omega), if_neg (by omega)]; rfl
  by_cases c8 : b0 < 240
  · have e : nxN n b0 b1 b2 b3 = ((b0 - 224) * 4096 + (b1 - 128) * 64 + (b2 - 128), 3, 0) := by unfold nxN; rw [if_neg (by omega), if_neg c1, if_neg c2, if_neg c3, if_neg c4, if_neg c5, if_neg c6, if_neg c7, if_pos c8]
    rw [e]; unfold Lib.decodeN; rw [if_neg c1, if_neg (by omega), if_pos (by omega), if_pos (by omega)]
    simp only [if_true, Prod.mk.injEq, and_true]; omega
  by_cases c9 : n < 4
  · have e : nxN n b0 b1 b2 b3 = (0, 0, 3) := by unfold nxN; rw [if_neg (by omega), if_neg c1, if_neg c2, if_neg c3, if_neg c4, if_neg c5, if_neg c6, if_neg c7, if_neg c8, if_pos c9]
    rw [e]; unfold Lib.decodeN; rw [if_neg c1, if_neg (by omega), if_neg (by omega), if_neg (by omega)]; rfl
  by_cases c10 : b3 < 128 ∨ 191 < b3
  · have e : nxN n b0 b1 b2 b3 = (65533, 1, 0) := by unfold nxN; rw [if_neg (by omega), if_neg c1, if_neg c2, if_neg c3, if_neg c4, if_neg c5, if_neg c6, if_neg c7, if_neg c8, if_neg c9, if_pos c10]
    rw [e]; unfold Lib.decodeN; rw [if_neg c1, if_neg (by omega), if_neg (by omega), if_neg (by omega)]; rfl
  have e : nxN n b0 b1 b2 b3 = ((b0 - 240) * 262144 + (b1 - 128) * 4096 + (b2 - 128) * 64 + (b3 - 128), 4, 0) := by unfold nxN; rw [if_neg (by omega), if_neg c1, if_neg c2, if_neg c3, if_neg c4, if_neg c5, if_neg c6, if_neg c7, if_neg c8, if_neg c9, if_neg c10]
  rw [e]; unfold Lib.decodeN; rw [if_neg c1, if_neg (by omega), if_neg (by omega), if_pos (by omega), if_pos (by omega)]
  simp only [if_true, Prod.mk.injEq, and_true]; omega

/-- a string's bytes -/
def L (s : ByteArray) : List UInt8 := s.data.toList
theorem L_length (s : ByteArray) : (L s).length = s.size := by unfold L; rw [Array.length_toList]; rfl
theorem bt_L (s : ByteArray) (i : Nat) : bt (L s) i = (s.get! i).toNat := by
  unfold bt L
  congr 1
  cases s with
  | mk d =>
    show d.toList.getD i 0 = d[i]!
    rw [List.getD_eq_getElem?_getD, Array.getElem?_toList, getElem!_def]
    cases d[i]? <;> rfl
theorem L_inj {s t : ByteArray} (h : L s = L t) : s = t := by
  cases s; cases t
  simp only [L] at h
  congr 1
  exact Array.toList_inj.1 h
theorem decode_nd (s : ByteArray) (i : Nat) (h : i < s.size) : Utf8.decode s i = nd ((L s).drop i) := by
  have e : ∀ j, bt ((L s).drop i) j = bt (L s) (i + j) := fun j => by simp [bt]
  rw [Lib.decode_at, decodeN_nd _ _ _ _ _ (by omega) (UInt8.toNat_lt _) (UInt8.toNat_lt _) (UInt8.toNat_lt _) (UInt8.toNat_lt _)]
  unfold nd nx
  rw [e, e, e, e, List.length_drop, L_length, bt_L, bt_L, bt_L, bt_L]
  rfl
end Go.Proofs.YtmfjndoljdpliaaDoor.plain
