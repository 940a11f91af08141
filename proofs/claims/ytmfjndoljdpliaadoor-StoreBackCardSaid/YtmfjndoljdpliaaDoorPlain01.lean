/-
  Signs and their bytes in plain Lean: what bytes begin with, what a number's bytes are, that the two ways of telling agree. No program in sight. No condition.
-/
import Derived.Lib.DecodeNEq
namespace Go.Proofs.YtmfjndoljdpliaaDoor.plain
set_option linter.unusedVariables false

/-- what n bytes b0 b1 b2 b3 .. begin with: the sign, its bytes' number, and 0; or 6: there is none; or 3: more is wanted -/
def nxN (n b0 b1 b2 b3 : Nat) : Nat × Nat × Nat :=
  if n = 0 then (0, 0, 6)
  else if b0 < 128 then (b0, 1, 0)
  else if b0 < 194 ∨ 244 < b0 then (65533, 1, 0)
  else if n < 2 then (0, 0, 3)
  else if b1 < 128 ∨ 191 < b1 ∨ (b0 = 224 ∧ b1 < 160) ∨ (b0 = 237 ∧ 159 < b1) ∨ (b0 = 240 ∧ b1 < 144) ∨ (b0 = 244 ∧ 143 < b1) then (65533, 1, 0)
  else if b0 < 224 then ((b0 - 192) * 64 + (b1 - 128), 2, 0)
  else if n < 3 then (0, 0, 3)
  else if b2 < 128 ∨ 191 < b2 then (65533, 1, 0)
  else if b0 < 240 then ((b0 - 224) * 4096 + (b1 - 128) * 64 + (b2 - 128), 3, 0)
  else if n < 4 then (0, 0, 3)
  else if b3 < 128 ∨ 191 < b3 then (65533, 1, 0)
  else ((b0 - 240) * 262144 + (b1 - 128) * 4096 + (b2 - 128) * 64 + (b3 - 128), 4, 0)

def bt (l : List UInt8) (i : Nat) : Nat := (l.getD i 0).toNat
theorem bt_lt (l : List UInt8) (i : Nat) : bt l i < 256 := UInt8.toNat_lt _
theorem bt_app_lt {l t : List UInt8} {i : Nat} (h : i < l.length) : bt (l ++ t) i = bt l i := by
  simp [bt, List.getElem?_append_left h]
theorem bt_take {l : List UInt8} {n i : Nat} (h : i < n) : bt (l.take n) i = bt l i := by
  simp [bt, h]
def nx (l : List UInt8) : Nat × Nat × Nat := nxN l.length (bt l 0) (bt l 1) (bt l 2) (bt l 3)
/-- the first sign, where what is none, or is not whole, counts for one bad sign -/
def nd (l : List UInt8) : Nat × Nat := if (nx l).2.2 = 0 then ((nx l).1, (nx l).2.1) else (65533, 1)

def validN (n : Nat) : Prop := n < 55296 ∨ (57344 ≤ n ∧ n ≤ 1114111)
instance (n : Nat) : Decidable (validN n) := inferInstanceAs (Decidable (_ ∨ _))
/-- the bytes of a sign -/
def enc (c : Nat) : List UInt8 :=
  if c < 128 then [UInt8.ofNat c]
  else if c < 2048 then [UInt8.ofNat (192 + c / 64), UInt8.ofNat (128 + c % 64)]
  else if c < 65536 then [UInt8.ofNat (224 + c / 4096), UInt8.ofNat (128 + c / 64 % 64), UInt8.ofNat (128 + c % 64)]
  else [UInt8.ofNat (240 + c / 262144), UInt8.ofNat (128 + c / 4096 % 64), UInt8.ofNat (128 + c / 64 % 64), UInt8.ofNat (128 + c % 64)]
def encLen (c : Nat) : Nat := if c < 128 then 1 else if c < 2048 then 2 else if c < 65536 then 3 else 4
theorem enc_length (c : Nat) : (enc c).length = encLen c := by unfold enc encLen; (repeat' split) <;> rfl
theorem encLen_pos (c : Nat) : 1 ≤ encLen c ∧ encLen c ≤ 4 := by unfold encLen; (repeat' split) <;> omega

theorem toNat_of (n : Nat) (h : n < 256) : (UInt8.ofNat n).toNat = n := by
  rw [UInt8.toNat_ofNat']; exact Nat.mod_eq_of_lt h

/-- byte i of a sign's bytes -/
theorem bt_enc (c : Nat) (h : c ≤ 1114111) :
    bt (enc c) 0 = (if c < 128 then c else if c < 2048 then 192 + c / 64 else if c < 65536 then 224 + c / 4096 else 240 + c / 262144) ∧
    bt (enc c) 1 = (if c < 128 then 0 else if c < 2048 then 128 + c % 64 else if c < 65536 then 128 + c / 64 % 64 else 128 + c / 4096 % 64) ∧
    bt (enc c) 2 = (if c < 2048 then 0 else if c < 65536 then 128 + c % 64 else 128 + c / 64 % 64) ∧
    bt (enc c) 3 = (if c < 65536 then 0 else 128 + c % 64) := by
  unfold enc
  by_cases h1 : c < 128
  · have h2 : c < 2048 := by omega
    have h3 : c < 65536 := by omega
    simp only [h1, h2, h3, if_true]
    simp [bt, Nat.mod_eq_of_lt (show c < 256 by omega)]
  · by_cases h2 : c < 2048
    · have h3 : c < 65536 := by omega
      simp only [h1, h2, h3, if_true, if_false]
      refine ⟨?_, ?_, rfl, rfl⟩
      · exact toNat_of _ (by omega)
      · exact toNat_of _ (by omega)
    · by_cases h3 : c < 65536
      · simp only [h1, h2, h3, if_true, if_false]
        refine ⟨?_, ?_, ?_, rfl⟩
        · exact toNat_of _ (by omega)
        · exact toNat_of _ (by omega)
        · exact toNat_of _ (by omega)
      · simp only [h1, h2, h3, if_false]
        refine ⟨?_, ?_, ?_, ?_⟩
        · exact toNat_of _ (by omega)
        · exact toNat_of _ (by omega)
        · exact toNat_of _ (by omega)
        · exact toNat_of _ (by omega)

theorem nxN_enc (c n b0 b1 b2 b3 : Nat) (h : validN c) (hn : encLen c ≤ n)
    (h0 : b0 = (if c < 128 then c else if c < 2048 then 192 + c / 64 else if c < 65536 then 224 + c / 4096 else 240 + c / 262144))
    (h1 : 2 ≤ encLen c → b1 = (if c < 128 then 0 else if c < 2048 then 128 + c % 64 else if c < 65536 then 128 + c / 64 % 64 else 128 + c / 4096 % 64))
    (h2 : 3 ≤ encLen c → b2 = (if c < 2048 then 0 else if c < 65536 then 128 + c % 64 else 128 + c / 64 % 64))
    (h3 : 4 ≤ encLen c → b3 = (if c < 65536 then 0 else 128 + c % 64)) : nxN n b0 b1 b2 b3 = (c, encLen c, 0) := by
  unfold validN at h
  unfold encLen at *
  by_cases g1 : c < 128
  · rw [if_pos g1] at hn h0 ⊢
    subst h0
    unfold nxN
    rw [if_neg (by omega), if_pos g1]
  · rw [if_neg g1] at hn h0 h1 h2 h3 ⊢
    rw [if_neg g1] at h1
    by_cases g2 : c < 2048
    · rw [if_pos g2] at hn h0 h1 ⊢
      rw [if_pos g2] at h1
      have h1 := h1 (by omega)
      unfold nxN
      rw [if_neg (by omega), if_neg (by omega), if_neg (by omega), if_neg (by omega), if_neg (by omega), if_pos (by omega)]
      simp only [Prod.mk.injEq, and_true]
      omega
    · rw [if_neg g2] at hn h0 h1 h2 h3 ⊢
      rw [if_neg g2] at h1 h2
      by_cases g3 : c < 65536
      · rw [if_pos g3] at hn h0 h1 h2 ⊢
        rw [if_pos g3] at h1 h2
        have h1 := h1 (by omega)
        have h2 := h2 (by omega)
        unfold nxN
        rw [if_neg (by omega), if_neg (by omega), if_neg (by omega), if_neg (by omega), if_neg (by omega), if_neg (by omega), if_neg (by omega), if_neg (by omega), if_pos (by omega)]
        simp only [Prod.mk.injEq, and_true]
        omega
      · rw [if_neg g3] at hn h0 h1 h2 h3 ⊢
        rw [if_neg g3] at h1 h2 h3
        have h1 := h1 (by omega)
        have h2 := h2 (by omega)
        have h3 := h3 (by omega)
        unfold nxN
        rw [if_neg (by omega), if_neg (by omega), if_neg (by omega), if_neg (by omega), if_neg (by omega), if_neg (by omega), if_neg (by omega), if_neg (by omega), if_neg (by omega), if_neg (by omega), if_neg (by omega)]
        simp only [Prod.mk.injEq, and_true]
        omega
/-- what is put is told again, whatever stands behind it -/
theorem nx_enc (c : Nat) (h : validN c) (t : List UInt8) : nx (enc c ++ t) = (c, encLen c, 0) := by
  have hc : c ≤ 1114111 := by unfold validN at h; omega
  obtain ⟨e0, e1, e2, e3⟩ := bt_enc c hc
  have hl := enc_length c
  have hp := encLen_pos c
  refine nxN_enc c _ _ _ _ _ h (by rw [List.length_append]; omega) ?_ (fun _ => ?_) (fun _ => ?_) (fun _ => ?_)
  · rw [bt_app_lt (by omega)]; exact e0
  · rw [bt_app_lt (by omega)]; exact e1
  · rw [bt_app_lt (by omega)]; exact e2
  · rw [bt_app_lt (by omega)]; exact e3

theorem ext_bt {a b : List UInt8} (hl : a.length = b.length) (h : ∀ i, i < a.length → bt a i = bt b i) : a = b := by
  refine List.ext_getElem hl fun i h1 h2 => ?_
  have := h i h1
  simp only [bt, List.getD_eq_getElem?_getD, List.getElem?_eq_getElem h1, List.getElem?_eq_getElem h2, Option.getD_some] at this
  exact UInt8.toNat_inj.1 this

theorem nxN_ok (n b0 b1 b2 b3 r k : Nat) (h0 : b0 < 256) (h1 : b1 < 256) (h2 : b2 < 256) (h3 : b3 < 256) (h : nxN n b0 b1 b2 b3 = (r, k, 0)) :
    (r = 65533 ∧ k = 1) ∨ (validN r ∧ k = encLen r ∧ k ≤ n ∧ b0 = (if r < 128 then r else if r < 2048 then 192 + r / 64 else if r < 65536 then 224 + r / 4096 else 240 + r / 262144) ∧
      (2 ≤ k → b1 = (if r < 128 then 0 else if r < 2048 then 128 + r % 64 else if r < 65536 then 128 + r / 64 % 64 else 128 + r / 4096 % 64)) ∧
      (3 ≤ k → b2 = (if r < 2048 then 0 else if r < 65536 then 128 + r % 64 else 128 + r / 64 % 64)) ∧ (4 ≤ k → b3 = (if r < 65536 then 0 else 128 + r % 64))) := by
  unfold nxN at h
  by_cases c0 : n = 0
  · rw [if_pos c0] at h; simp at h
  rw [if_neg c0] at h
  by_cases c1 : b0 < 128
  · rw [if_pos c1] at h
    simp only [Prod.mk.injEq, and_true] at h
    obtain ⟨rfl, rfl⟩ := h
    right
    unfold validN encLen
    rw [if_pos c1, if_pos c1]
    refine ⟨by omega, rfl, by omega, rfl, by omega, by omega, by omega⟩
  rw [if_neg c1] at h
  by_cases c2 : b0 < 194 ∨ 244 < b0
  · rw [if_pos c2] at h; simp at h; omega
  rw [if_neg c2] at h
  by_cases c3 : n < 2
  · rw [if_pos c3] at h; simp at h
  rw [if_neg c3] at h
  by_cases c4 : b1 < 128 ∨ 191 < b1 ∨ (b0 = 224 ∧ b1 < 160) ∨ (b0 = 237 ∧ 159 < b1) ∨ (b0 = 240 ∧ b1 < 144) ∨ (b0 = 244 ∧ 143 < b1)
  · rw [if_pos c4] at h; simp at h; omega
  rw [if_neg c4] at h
  by_cases c5 : b0 < 224
  · rw [if_pos c5] at h
    simp only [Prod.mk.injEq, and_true] at h
    obtain ⟨rfl, rfl⟩ := h
    right
    have e1 : ¬ (b0 - 192) * 64 + (b1 - 128) < 128 := by omega
    have e2 : (b0 - 192) * 64 + (b1 - 128) < 2048 := by omega
    unfold validN encLen
    simp only [e1, e2, if_true, if_false]
    refine ⟨by omega, trivial, by omega, by omega, by omega, by omega, by omega⟩
  rw [if_neg c5] at h
  by_cases c6 : n < 3
  · rw [if_pos c6] at h; simp at h
  rw [if_neg c6] at h
  by_cases c7 : b2 < 128 ∨ 191 < b2
  · rw [if_pos c7] at h; simp at h; omega
  rw [if_neg c7] at h
  by_cases c8 : b0 < 240
  · rw [if_pos c8] at h
    simp only [Prod.mk.injEq, and_true] at h
    obtain ⟨rfl, rfl⟩ := h
    right
    have e1 : ¬ (b0 - 224) * 4096 + (b1 - 128) * 64 + (b2 - 128) < 128 := by omega
    have e2 : ¬ (b0 - 224) * 4096 + (b1 - 128) * 64 + (b2 - 128) < 2048 := by omega
    have e3 : (b0 - 224) * 4096 + (b1 - 128) * 64 + (b2 - 128) < 65536 := by omega
    unfold validN encLen
    simp only [e1, e2, e3, if_true, if_false]
    refine ⟨by omega, trivial, by omega, by omega, by omega, by omega, by omega⟩
  rw [if_neg c8] at h
  by_cases c9 : n < 4
  · rw [if_pos c9] at h; simp at h
  rw [if_neg c9] at h
  by_cases c10 : b3 < 128 ∨ 191 < b3
  · rw [if_pos c10] at h; simp at h; omega
  rw [if_neg c10] at h
  simp only [Prod.mk.injEq, and_true] at h
  obtain ⟨rfl, rfl⟩ := h
  right
  have e1 : ¬ (b0 - 240) * 262144 + (b1 - 128) * 4096 + (b2 - 128) * 64 + (b3 - 128) < 128 := by omega
  have e2 : ¬ (b0 - 240) * 262144 + (b1 - 128) * 4096 + (b2 - 128) * 64 + (b3 - 128) < 2048 := by omega
  have e3 : ¬ (b0 - 240) * 262144 + (b1 - 128) * 4096 + (b2 - 128) * 64 + (b3 - 128) < 65536 := by omega
  unfold validN encLen
  simp only [e1, e2, e3, if_false]
  refine ⟨by omega, trivial, by omega, by omega, by omega, by omega, by omega⟩
/-- what is told is bad, or a sign's own bytes -/
theorem nx_ok (l : List UInt8) (r k : Nat) (h : nx l = (r, k, 0)) : (r = 65533 ∧ k = 1) ∨ (validN r ∧ k = encLen r ∧ k ≤ l.length ∧ l.take k = enc r) := by
  rcases nxN_ok _ _ _ _ _ _ _ (bt_lt l 0) (bt_lt l 1) (bt_lt l 2) (bt_lt l 3) h with h | ⟨hv, hk, hn, h0, h1, h2, h3⟩
  · exact .inl h
  · refine .inr ⟨hv, hk, hn, ?_⟩
    have hc : r ≤ 1114111 := by unfold validN at hv; omega
    obtain ⟨e0, e1, e2, e3⟩ := bt_enc r hc
    have hp := encLen_pos r
    refine ext_bt (by rw [List.length_take, enc_length]; omega) fun i hi => ?_
    rw [List.length_take] at hi
    rw [bt_take (by omega)]
    rcases (show i = 0 ∨ i = 1 ∨ i = 2 ∨ i = 3 by omega) with rfl | rfl | rfl | rfl
    · rw [h0, e0]
    · rw [h1 (by omega), e1]
    · rw [h2 (by omega), e2]
    · rw [h3 (by omega), e3]

/-- each beginning of a sign wants more -/
theorem nxN_part (c n b0 b1 b2 b3 : Nat) (h : validN c) (hn : n < encLen c) (hp : 0 < n)
    (h0 : b0 = (if c < 128 then c else if c < 2048 then 192 + c / 64 else if c < 65536 then 224 + c / 4096 else 240 + c / 262144))
    (h1 : 2 ≤ n → b1 = (if c < 128 then 0 else if c < 2048 then 128 + c % 64 else if c < 65536 then 128 + c / 64 % 64 else 128 + c / 4096 % 64))
    (h2 : 3 ≤ n → b2 = (if c < 2048 then 0 else if c < 65536 then 128 + c % 64 else 128 + c / 64 % 64)) : nxN n b0 b1 b2 b3 = (0, 0, 3) := by
  unfold validN at h
  unfold encLen at hn
  by_cases g1 : c < 128
  · rw [if_pos g1] at hn; omega
  · rw [if_neg g1] at hn h0 h1
    by_cases g2 : c < 2048
    · rw [if_pos g2] at hn h0 h1
      unfold nxN
      rw [if_neg (by omega), if_neg (by omega), if_neg (by omega), if_pos (by omega)]
    · rw [if_neg g2] at hn h0 h1 h2
      by_cases g3 : c < 65536
      · rw [if_pos g3] at hn h0 h1 h2
        unfold nxN
        rw [if_neg (by omega), if_neg (by omega), if_neg (by omega)]
        by_cases g4 : n < 2
        · rw [if_pos g4]
        · have h1 := h1 (by omega)
          rw [if_neg g4, if_neg (by omega), if_neg (by omega), if_pos (by omega)]
      · rw [if_neg g3] at hn h0 h1 h2
        unfold nxN
        rw [if_neg (by omega), if_neg (by omega), if_neg (by omega)]
        by_cases g4 : n < 2
        · rw [if_pos g4]
        · have h1 := h1 (by omega)
          rw [if_neg g4, if_neg (by omega), if_neg (by omega)]
          by_cases g5 : n < 3
          · rw [if_pos g5]
          · have h2 := h2 (by omega)
            rw [if_neg g5, if_neg (by omega), if_neg (by omega), if_pos (by omega)]
theorem nx_part (c : Nat) (h : validN c) (i : Nat) (h0 : 0 < i) (h1 : i < encLen c) : nx ((enc c).take i) = (0, 0, 3) := by
  have hc : c ≤ 1114111 := by unfold validN at h; omega
  obtain ⟨e0, e1, e2, e3⟩ := bt_enc c hc
  have hp := encLen_pos c
  have hl := enc_length c
  have hll : ((enc c).take i).length = i := by rw [List.length_take]; omega
  unfold nx
  rw [hll]
  refine nxN_part c _ _ _ _ _ h h1 h0 ?_ (fun _ => ?_) (fun _ => ?_)
  · rw [bt_take (by omega)]; exact e0
  · rw [bt_take (by omega)]; exact e1
  · rw [bt_take (by omega)]; exact e2

/-- what wants more is the beginning of a sign that goes on with bytes 128, or with bytes 191 -/
theorem nxN_more (n b0 b1 b2 b3 : Nat) (h0 : b0 < 256) (h1 : b1 < 256) (h2 : b2 < 256) (h : nxN n b0 b1 b2 b3 = (0, 0, 3)) :
    1 ≤ n ∧ n ≤ 3 ∧ 194 ≤ b0 ∧ b0 ≤ 244 ∧ n < (if b0 < 224 then 2 else if b0 < 240 then 3 else 4) ∧
    (2 ≤ n → ¬ (b1 < 128 ∨ 191 < b1 ∨ (b0 = 224 ∧ b1 < 160) ∨ (b0 = 237 ∧ 159 < b1) ∨ (b0 = 240 ∧ b1 < 144) ∨ (b0 = 244 ∧ 143 < b1))) ∧ (3 ≤ n → 128 ≤ b2 ∧ b2 ≤ 191) := by
  unfold nxN at h
  by_cases c0 : n = 0
  · rw [if_pos c0] at h; simp at h
  rw [if_neg c0] at h
  by_cases c1 : b0 < 128
  · rw [if_pos c1] at h; simp at h
  rw [if_neg c1] at h
  by_cases c2 : b0 < 194 ∨ 244 < b0
  · rw [if_pos c2] at h; simp at h
  rw [if_neg c2] at h
  by_cases c3 : n < 2
  · refine ⟨by omega, by omega, by omega, by omega, ?_, by omega, by omega⟩
    (repeat' split) <;> omega
  rw [if_neg c3] at h
  by_cases c4 : b1 < 128 ∨ 191 < b1 ∨ (b0 = 224 ∧ b1 < 160) ∨ (b0 = 237 ∧ 159 < b1) ∨ (b0 = 240 ∧ b1 < 144) ∨ (b0 = 244 ∧ 143 < b1)
  · rw [if_pos c4] at h; simp at h
  rw [if_neg c4] at h
  by_cases c5 : b0 < 224
  · rw [if_pos c5] at h; simp at h
  rw [if_neg c5] at h
  by_cases c6 : n < 3
  · refine ⟨by omega, by omega, by omega, by omega, ?_, fun _ => c4, by omega⟩
    rw [if_neg c5]
    split <;> omega
  rw [if_neg c6] at h
  by_cases c7 : b2 < 128 ∨ 191 < b2
  · rw [if_pos c7] at h; simp at h
  rw [if_neg c7] at h
  by_cases c8 : b0 < 240
  · rw [if_pos c8] at h; simp at h
  rw [if_neg c8] at h
  by_cases c9 : n < 4
  · refine ⟨by omega, by omega, by omega, by omega, ?_, fun _ => c4, by omega⟩
    rw [if_neg c5, if_neg c8]
    omega
  rw [if_neg c9] at h
  by_cases c10 : b3 < 128 ∨ 191 < b3
  · rw [if_pos c10] at h; simp at h
  rw [if_neg c10] at h
  simp at h
end Go.Proofs.YtmfjndoljdpliaaDoor.plain
