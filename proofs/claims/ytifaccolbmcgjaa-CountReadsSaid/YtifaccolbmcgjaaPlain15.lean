/-
  Counts in plain Lean: what is a right count, what digits make of it, its value. No program in sight. No condition.
-/
namespace Go.Proofs.Ytifaccolbmcgjaa.plain
set_option linter.unusedVariables false

def isB (h g : Bool) (n : Int) : Bool := decide (0 ≤ n) && decide (n ≤ 9999) && (h || (!g && n == 0))
def stepN (n x : Int) : Int := if 0 ≤ x ∧ x ≤ 9 then (if 10 * n + x ≤ 9999 then 10 * n + x else 9999) else n
def stepH (h : Bool) (x : Int) : Bool := if 0 ≤ x ∧ x ≤ 9 then true else h
/-- what digits make of 'has' and of the number -/
def foldH (h : Bool) (zs : List Int) : Bool := zs.foldl stepH h
def foldN (n : Int) (zs : List Int) : Int := zs.foldl stepN n
def digH (h g : Bool) (n : Int) (zs : List Int) : Bool := if isB h g n then foldH h zs else h
def digN (h g : Bool) (n : Int) (zs : List Int) : Int := if isB h g n then foldN n zs else n
def valB (h g : Bool) (n : Int) : Int := if h && isB h g n then (if g then (if n ≤ 0 then -1 else -n) else n) else 1
def minH (h g : Bool) (n : Int) : Bool := h || (!g && n == 0)
def minG (h g : Bool) (n : Int) : Bool := g || (!h && n == 0)

theorem isB_true {h g : Bool} {n : Int} : isB h g n = true ↔ 0 ≤ n ∧ n ≤ 9999 ∧ (h = true ∨ (g = false ∧ n = 0)) := by
  unfold isB; cases h <;> cases g <;> simp <;> omega
theorem isB_true_h {g : Bool} {n : Int} (h0 : 0 ≤ n) (h1 : n ≤ 9999) : isB true g n = true := isB_true.2 ⟨h0, h1, .inl rfl⟩
theorem stepN_range {n x : Int} (h0 : 0 ≤ n) (h1 : n ≤ 9999) : 0 ≤ stepN n x ∧ stepN n x ≤ 9999 := by
  unfold stepN; split
  · split <;> omega
  · omega
theorem is_step {h g : Bool} {n x : Int} (hb : isB h g n = true) : isB (stepH h x) g (stepN n x) = true := by
  obtain ⟨h0, h1, h2⟩ := isB_true.1 hb
  have hr := stepN_range (x := x) h0 h1
  by_cases hx : 0 ≤ x ∧ x ≤ 9
  · have : stepH h x = true := by simp [stepH, hx]
    rw [this]; exact isB_true_h hr.1 hr.2
  · have e1 : stepH h x = h := by simp only [stepH, if_neg hx]
    have e2 : stepN n x = n := by simp only [stepN, if_neg hx]
    rw [e1, e2]; exact hb
theorem is_fold {g : Bool} : ∀ (zs : List Int) {h : Bool} {n : Int}, isB h g n = true → isB (foldH h zs) g (foldN n zs) = true
  | [], _, _, hb => hb
  | x :: zs, _, _, hb => is_fold zs (is_step (x := x) hb)
theorem foldH_snoc (h : Bool) (zs : List Int) (x : Int) : foldH h (zs ++ [x]) = stepH (foldH h zs) x := by simp [foldH, List.foldl_append]
theorem foldN_snoc (n : Int) (zs : List Int) (x : Int) : foldN n (zs ++ [x]) = stepN (foldN n zs) x := by simp [foldN, List.foldl_append]
theorem dig_is {h g : Bool} {n : Int} (hb : isB h g n = true) (zs : List Int) : isB (digH h g n zs) g (digN h g n zs) = true := by
  unfold digH digN; rw [if_pos hb, if_pos hb]; exact is_fold zs hb
theorem digH_snoc {h g : Bool} {n : Int} (hb : isB h g n = true) (zs : List Int) (x : Int) : digH h g n (zs ++ [x]) = digH (digH h g n zs) g (digN h g n zs) [x] := by
  have e1 : digH h g n zs = foldH h zs := by unfold digH; rw [if_pos hb]
  have e2 : digN h g n zs = foldN n zs := by unfold digN; rw [if_pos hb]
  rw [e1, e2]; unfold digH; rw [if_pos hb, if_pos (is_fold zs hb), foldH_snoc]; rfl
theorem digN_snoc {h g : Bool} {n : Int} (hb : isB h g n = true) (zs : List Int) (x : Int) : digN h g n (zs ++ [x]) = digN (digH h g n zs) g (digN h g n zs) [x] := by
  have e1 : digH h g n zs = foldH h zs := by unfold digH; rw [if_pos hb]
  have e2 : digN h g n zs = foldN n zs := by unfold digN; rw [if_pos hb]
  rw [e1, e2]; unfold digN; rw [if_pos hb, if_pos (is_fold zs hb), foldN_snoc]; rfl
theorem val_range {h g : Bool} {n : Int} (hb : isB h g n = true) : -9999 ≤ valB h g n ∧ valB h g n ≤ 9999 := by
  obtain ⟨h0, h1, _⟩ := isB_true.1 hb
  unfold valB; split
  · split
    · split <;> omega
    · omega
  · omega

/-! the digits of a number, with noughts ahead -/
theorem foldN_noughts : ∀ k : Nat, foldN 0 (List.replicate k 0) = 0
  | 0 => rfl
  | k + 1 => by
    show foldN (stepN 0 0) (List.replicate k 0) = 0
    have : stepN 0 0 = 0 := by simp [stepN]
    rw [this]; exact foldN_noughts k
theorem stepN_dig {n x : Int} (h0 : 0 ≤ x) (h1 : x ≤ 9) (h2 : 10 * n + x ≤ 9999) : stepN n x = 10 * n + x := by
  unfold stepN; rw [if_pos ⟨h0, h1⟩, if_pos h2]
theorem reads_N (k : Nat) (n : Int) (h0 : 0 ≤ n) (h1 : n ≤ 9999) : foldN 0 (List.replicate k 0 ++ [n / 1000, n / 100 % 10, n / 10 % 10, n % 10]) = n := by
  unfold foldN; rw [List.foldl_append]
  have := foldN_noughts k; unfold foldN at this; rw [this]
  simp only [List.foldl_cons, List.foldl_nil]
  rw [stepN_dig (n := 0) (x := n / 1000) (by omega) (by omega) (by omega)]
  rw [stepN_dig (x := n / 100 % 10) (by omega) (by omega) (by omega)]
  rw [stepN_dig (x := n / 10 % 10) (by omega) (by omega) (by omega)]
  rw [stepN_dig (x := n % 10) (by omega) (by omega) (by omega)]
  omega
theorem foldH_true : ∀ zs : List Int, foldH true zs = true
  | [] => rfl
  | x :: zs => by
    show foldH (stepH true x) zs = true
    have : stepH true x = true := by simp [stepH]
    rw [this]; exact foldH_true zs
theorem reads_H (h : Bool) (k : Nat) (n : Int) (h0 : 0 ≤ n) (h1 : n ≤ 9999) : foldH h (List.replicate k 0 ++ [n / 1000, n / 100 % 10, n / 10 % 10, n % 10]) = true := by
  have e : List.replicate k (0 : Int) ++ [n / 1000, n / 100 % 10, n / 10 % 10, n % 10] = (List.replicate k 0 ++ [n / 1000, n / 100 % 10, n / 10 % 10]) ++ [n % 10] := by simp
  rw [e, foldH_snoc]; unfold stepH; rw [if_pos (by omega)]
end Go.Proofs.Ytifaccolbmcgjaa.plain
