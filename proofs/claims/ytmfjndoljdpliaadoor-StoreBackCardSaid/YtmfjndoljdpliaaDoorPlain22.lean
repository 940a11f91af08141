/-
  A past and the bytes by which it is put, in plain Lean: how signs of a line are put, that what is put is told again in one way alone, what the document's reader makes of it. No program in sight. No condition.
-/
import Derived.Test.YtmfjndoljdpliaaDoorPlain01b
namespace Go.Proofs.YtmfjndoljdpliaaDoor.plain
set_option linter.unusedVariables false

def valI (r : Int) : Bool := Utf8.valid r
theorem valI_t {r : Int} (h : valI r = true) : (0 ≤ r ∧ r < 55296) ∨ (57344 ≤ r ∧ r ≤ 1114111) := by simpa [valI, Utf8.valid] using h
theorem fix_of {r : Int} (h : valI r = true) : ((fixN r : Nat) : Int) = r := fixN_of h

/-- the bytes by which one sign of a line is put -/
def esc (r : Int) : List UInt8 := if r = 10 then [92, 110] else if r = 92 then [92, 92] else enc (fixN r)
def escs (rs : List Int) : List UInt8 := rs.flatMap esc
theorem escs_nil : escs [] = [] := rfl
theorem escs_cons (r : Int) (rs : List Int) : escs (r :: rs) = esc r ++ escs rs := rfl
theorem escs_snoc (rs : List Int) (r : Int) : escs (rs ++ [r]) = escs rs ++ esc r := by simp [escs]
theorem escs_app (a b : List Int) : escs (a ++ b) = escs a ++ escs b := by simp [escs]
def lns (ls : List (List Int)) : List UInt8 := ls.flatMap fun l => escs l ++ [10]
theorem lns_nil : lns [] = [] := rfl
theorem lns_cons (l : List Int) (ls : List (List Int)) : lns (l :: ls) = escs l ++ 10 :: lns ls := by simp [lns]
theorem lns_snoc (ls : List (List Int)) (l : List Int) : lns (ls ++ [l]) = lns ls ++ (escs l ++ [10]) := by simp [lns]
theorem lns_app (a b : List (List Int)) : lns (a ++ b) = lns a ++ lns b := by simp [lns]
def hd3 (R D : Int) : List UInt8 := [80, UInt8.ofNat (48 + R).toNat, UInt8.ofNat (48 + D).toNat]
def putL (R D : Int) (ls : List (List Int)) : List UInt8 := hd3 R D ++ lns ls

def okLine (l : List Int) : Bool := decide (0 < l.length) && decide (l.length ≤ 200) && l.all valI
def okHead (R D : Int) : Bool := decide (1 ≤ R ∧ R ≤ 16 ∧ 0 ≤ D ∧ D ≤ 2)
def okPast (R D : Int) (ls : List (List Int)) : Bool := okHead R D && decide ((ls.length : Int) ≤ R) && ls.all okLine
theorem okLine_t {l : List Int} (h : okLine l = true) : 0 < l.length ∧ l.length ≤ 200 ∧ ∀ r ∈ l, valI r = true := by
  simp [okLine, and_assoc] at h
  exact ⟨by omega, h.2.1, h.2.2⟩
theorem okHead_t {R D : Int} (h : okHead R D = true) : 1 ≤ R ∧ R ≤ 16 ∧ 0 ≤ D ∧ D ≤ 2 := of_decide_eq_true h
theorem okPast_t {R D : Int} {ls : List (List Int)} (h : okPast R D ls = true) : okHead R D = true ∧ (ls.length : Int) ≤ R ∧ ∀ l ∈ ls, okLine l = true := by
  simp [okPast, and_assoc] at h
  exact h
theorem okPast_mk {R D : Int} {ls : List (List Int)} (h : okHead R D = true) (h1 : (ls.length : Int) ≤ R) (h2 : ∀ l ∈ ls, okLine l = true) : okPast R D ls = true := by
  simp [okPast, h, h1]
  exact h2
/-- all signs of all lines are some -/
def allV (ls : List (List Int)) : Prop := ∀ l ∈ ls, ∀ r ∈ l, valI r = true
theorem okPast_allV {R D : Int} {ls : List (List Int)} (h : okPast R D ls = true) : allV ls := fun l hl => (okLine_t ((okPast_t h).2.2 l hl)).2.2

/-- bytes of a sign of more than one byte, or of one -/
theorem enc_ge (c : Nat) (h : validN c) (x : UInt8) (hx : x ∈ enc c) : (c < 128 ∧ x.toNat = c) ∨ (128 ≤ c ∧ 128 ≤ x.toNat) := by
  have hc : c ≤ 1114111 := by unfold validN at h; omega
  unfold enc at hx
  by_cases h1 : c < 128
  · rw [if_pos h1] at hx
    simp only [List.mem_cons, List.not_mem_nil, or_false] at hx
    left
    refine ⟨h1, ?_⟩
    rw [hx]; exact toNat_of _ (by omega)
  · rw [if_neg h1] at hx
    right
    refine ⟨by omega, ?_⟩
    by_cases h2 : c < 2048
    · rw [if_pos h2] at hx
      simp only [List.mem_cons, List.not_mem_nil, or_false] at hx
      rcases hx with rfl | rfl <;> (rw [toNat_of _ (by omega)]; omega)
    · rw [if_neg h2] at hx
      by_cases h3 : c < 65536
      · rw [if_pos h3] at hx
        simp only [List.mem_cons, List.not_mem_nil, or_false] at hx
        rcases hx with rfl | rfl | rfl <;> (rw [toNat_of _ (by omega)]; omega)
      · rw [if_neg h3] at hx
        simp only [List.mem_cons, List.not_mem_nil, or_false] at hx
        rcases hx with rfl | rfl | rfl | rfl <;> (rw [toNat_of _ (by omega)]; omega)
theorem enc_small (c : Nat) (h : c < 128) : enc c = [UInt8.ofNat c] := by unfold enc; rw [if_pos h]

theorem esc_no10 (r : Int) (h : valI r = true) : (10 : UInt8) ∉ esc r := by
  intro hm
  unfold esc at hm
  by_cases h1 : r = 10
  · rw [if_pos h1] at hm; simp at hm
  · rw [if_neg h1] at hm
    by_cases h2 : r = 92
    · rw [if_pos h2] at hm; simp at hm
    · rw [if_neg h2] at hm
      have hf := fix_of h
      rcases enc_ge _ (fixN_valid r) _ hm with ⟨_, e⟩ | ⟨_, e⟩
      · have : (10 : UInt8).toNat = 10 := rfl
        omega
      · have : (10 : UInt8).toNat = 10 := rfl
        omega
theorem escs_no10 (rs : List Int) (h : ∀ r ∈ rs, valI r = true) : (10 : UInt8) ∉ escs rs := by
  intro hm
  obtain ⟨r, hr, hx⟩ := List.mem_flatMap.1 hm
  exact esc_no10 r (h r hr) hx
theorem esc_pos (r : Int) : 1 ≤ (esc r).length ∧ (esc r).length ≤ 4 := by
  unfold esc
  split
  · simp
  · split
    · simp
    · rw [enc_length]; exact encLen_pos _
theorem escs_length (rs : List Int) : (escs rs).length ≤ 4 * rs.length ∧ rs.length ≤ (escs rs).length := by
  induction rs with
  | nil => simp [escs]
  | cons r rs ih =>
    have := esc_pos r
    rw [escs_cons, List.length_append, List.length_cons]
    omega
theorem lns_length (ls : List (List Int)) (n : Nat) (h : ∀ l ∈ ls, l.length ≤ n) : (lns ls).length ≤ (4 * n + 1) * ls.length := by
  induction ls with
  | nil => simp [lns]
  | cons l ls ih =>
    have h1 := (escs_length l).1
    have h2 := h l (List.mem_cons_self ..)
    have h3 := ih fun l hl => h l (List.mem_cons_of_mem _ hl)
    rw [lns_cons, List.length_append, List.length_cons, List.length_cons, Nat.mul_add]
    omega

/-- what a sign's bytes begin with -/
theorem esc_kind (r : Int) (h : valI r = true) (t : List UInt8) :
    (r = 10 ∧ esc r ++ t = 92 :: 110 :: t) ∨ (r = 92 ∧ esc r ++ t = 92 :: 92 :: t) ∨
    (r ≠ 10 ∧ r ≠ 92 ∧ esc r = enc (fixN r) ∧ nx (esc r ++ t) = (fixN r, encLen (fixN r), 0) ∧ ∀ u, esc r ++ t ≠ 92 :: u) := by
  by_cases h1 : r = 10
  · left; subst h1; exact ⟨rfl, rfl⟩
  · by_cases h2 : r = 92
    · right; left; subst h2; exact ⟨rfl, rfl⟩
    · right; right
      have he : esc r = enc (fixN r) := by unfold esc; rw [if_neg h1, if_neg h2]
      have hx := nx_enc _ (fixN_valid r) t
      refine ⟨h1, h2, he, by rw [he]; exact hx, fun u hu => ?_⟩
      have hf := fix_of h
      have hm : (92 : UInt8) ∈ enc (fixN r) := by
        rw [he] at hu
        cases hc : enc (fixN r) with
        | nil => exact absurd hc (enc_ne_nil _)
        | cons a b =>
          rw [hc, List.cons_append] at hu
          injection hu with e1 e2
          rw [e1]; exact List.mem_cons_self ..
      rcases enc_ge _ (fixN_valid r) _ hm with ⟨_, e⟩ | ⟨_, e⟩
      · have : (92 : UInt8).toNat = 92 := rfl
        omega
      · have : (92 : UInt8).toNat = 92 := rfl
        omega
theorem enc_fix_inj {r q : Int} (hr : valI r = true) (hq : valI q = true) (h : fixN r = fixN q) : r = q := by
  have h1 := fix_of hr
  have h2 := fix_of hq
  omega
/-- no sign's bytes begin another's -/
theorem esc_inj {r q : Int} (hr : valI r = true) (hq : valI q = true) {t u : List UInt8} (h : esc r ++ t = esc q ++ u) : r = q ∧ t = u := by
  rcases esc_kind r hr t with ⟨e1, e2⟩ | ⟨e1, e2⟩ | ⟨_, _, e0, e1, e2⟩
  · rcases esc_kind q hq u with ⟨f1, f2⟩ | ⟨f1, f2⟩ | ⟨_, _, f0, f1, f2⟩
    · rw [e2, f2] at h; injection h with _ h; injection h with _ h; exact ⟨by omega, h⟩
    · rw [e2, f2] at h; injection h with _ h; injection h with h _; simp at h
    · exact absurd (h.symm.trans e2) (f2 _)
  · rcases esc_kind q hq u with ⟨f1, f2⟩ | ⟨f1, f2⟩ | ⟨_, _, f0, f1, f2⟩
    · rw [e2, f2] at h; injection h with _ h; injection h with h _; simp at h
    · rw [e2, f2] at h; injection h with _ h; injection h with _ h; exact ⟨by omega, h⟩
    · exact absurd (h.symm.trans e2) (f2 _)
  · rcases esc_kind q hq u with ⟨f1, f2⟩ | ⟨f1, f2⟩ | ⟨_, _, f0, f1, f2⟩
    · exact absurd (h.trans f2) (e2 _)
    · exact absurd (h.trans f2) (e2 _)
    · rw [h, f1] at e1
      have hf : fixN r = fixN q := by injection e1 with e1 _; exact e1.symm
      refine ⟨enc_fix_inj hr hq hf, ?_⟩
      rw [e0, f0, hf] at h
      exact List.append_cancel_left h
theorem escs_split : ∀ (ds rs : List Int) (a : List UInt8), (∀ r ∈ ds, valI r = true) → (∀ r ∈ rs, valI r = true) → escs ds ++ a = escs rs → ∃ rs', rs = ds ++ rs' ∧ a = escs rs'
  | [], rs, a, _, _, h => ⟨rs, rfl, h⟩
  | d :: ds, [], a, _, _, h => by
    exfalso
    have h1 := congrArg List.length h
    have := esc_pos d
    rw [escs_cons, List.append_assoc, List.length_append, escs_nil, List.length_nil] at h1
    omega
  | d :: ds, r :: rs, a, hd, hr, h => by
    rw [escs_cons, escs_cons, List.append_assoc] at h
    obtain ⟨rfl, h2⟩ := esc_inj (hd d (List.mem_cons_self ..)) (hr r (List.mem_cons_self ..)) h
    obtain ⟨rs', rfl, h3⟩ := escs_split ds rs a (fun r hr => hd r (List.mem_cons_of_mem _ hr)) (fun x hx => hr x (List.mem_cons_of_mem _ hx)) h2
    exact ⟨rs', rfl, h3⟩
theorem escs_inj {ds rs : List Int} (hd : ∀ r ∈ ds, valI r = true) (hr : ∀ r ∈ rs, valI r = true) (h : escs ds = escs rs) : ds = rs := by
  obtain ⟨rs', rfl, e⟩ := escs_split ds rs [] hd hr (by simpa using h)
  cases rs' with
  | nil => simp
  | cons r rs' =>
    have h1 := congrArg List.length e
    have := esc_pos r
    rw [escs_cons, List.length_append] at h1
    simp at h1
    omega
/-- cut at the first byte 10 -/
theorem cut_inj : ∀ {a b : List UInt8} {t u : List UInt8}, (10 : UInt8) ∉ a → (10 : UInt8) ∉ b → a ++ 10 :: t = b ++ 10 :: u → a = b ∧ t = u
  | [], [], t, u, _, _, h => by injection h with _ h; exact ⟨rfl, h⟩
  | [], y :: b, t, u, _, hb, h => by
    injection h with h _
    exact absurd (by rw [h]; exact List.mem_cons_self ..) hb
  | x :: a, [], t, u, ha, _, h => by
    injection h with h _
    exact absurd (by rw [← h]; exact List.mem_cons_self ..) ha
  | x :: a, y :: b, t, u, ha, hb, h => by
    injection h with h1 h2
    obtain ⟨rfl, rfl⟩ := cut_inj (fun hm => ha (List.mem_cons_of_mem _ hm)) (fun hm => hb (List.mem_cons_of_mem _ hm)) h2
    subst h1
    exact ⟨rfl, rfl⟩
theorem allV_cons {l : List Int} {ls : List (List Int)} (h : allV (l :: ls)) : (∀ r ∈ l, valI r = true) ∧ allV ls := ⟨h l (List.mem_cons_self ..), fun x hx => h x (List.mem_cons_of_mem _ hx)⟩
theorem lns_split : ∀ (ls ms : List (List Int)) (a : List UInt8), allV ls → allV ms → lns ls ++ a = lns ms → ∃ ms', ms = ls ++ ms' ∧ a = lns ms'
  | [], ms, a, _, _, h => ⟨ms, rfl, h⟩
  | l :: ls, [], a, _, _, h => by
    exfalso
    have h1 := congrArg List.length h
    rw [lns_cons] at h1
    simp [lns] at h1
  | l :: ls, m :: ms, a, hl, hm, h => by
    rw [lns_cons, lns_cons, List.append_assoc, List.cons_append] at h
    obtain ⟨v1, v2⟩ := allV_cons hl
    obtain ⟨u1, u2⟩ := allV_cons hm
    obtain ⟨e1, e2⟩ := cut_inj (escs_no10 l v1) (escs_no10 m u1) h
    obtain rfl := escs_inj v1 u1 e1
    obtain ⟨ms', rfl, e⟩ := lns_split ls ms a v2 u2 e2
    exact ⟨ms', rfl, e⟩
theorem lns_inj {ls ms : List (List Int)} (hl : allV ls) (hm : allV ms) (h : lns ls = lns ms) : ls = ms := by
  obtain ⟨ms', rfl, e⟩ := lns_split ls ms [] hl hm (by simpa using h)
  cases ms' with
  | nil => simp
  | cons r rs' =>
    have h1 := congrArg List.length e
    rw [lns_cons, List.length_append] at h1
    simp at h1
theorem hd_byte {x y : Int} (hx : 0 ≤ x ∧ x ≤ 16) (hy : 0 ≤ y ∧ y ≤ 16) (h : UInt8.ofNat (48 + x).toNat = UInt8.ofNat (48 + y).toNat) : x = y := by
  have := congrArg UInt8.toNat h
  rw [toNat_of _ (by omega), toNat_of _ (by omega)] at this
  omega
/-- one past alone has these bytes -/
theorem putL_inj {R D R' D' : Int} {ls ms : List (List Int)} (h : okPast R D ls = true) (h' : okPast R' D' ms = true) (he : putL R D ls = putL R' D' ms) : R = R' ∧ D = D' ∧ ls = ms := by
  have a := okHead_t (okPast_t h).1
  have b := okHead_t (okPast_t h').1
  unfold putL hd3 at he
  simp only [List.cons_append, List.nil_append] at he
  injection he with _ he
  injection he with h1 he
  injection he with h2 he
  exact ⟨hd_byte (by omega) (by omega) h1, hd_byte (by omega) (by omega) h2, lns_inj (okPast_allV h) (okPast_allV h') he⟩
theorem putL_length {R D : Int} {ls : List (List Int)} (h : okPast R D ls = true) : 3 ≤ (putL R D ls).length ∧ (putL R D ls).length ≤ 12819 := by
  obtain ⟨h1, h2, h3⟩ := okPast_t h
  have h1 := okHead_t h1
  have := lns_length ls 200 fun l hl => (okLine_t (h3 l hl)).2.1
  unfold putL hd3
  rw [List.length_append]
  simp only [List.length_cons, List.length_nil]
  omega

/-- bytes are those of no past -/
def noPast (b : List UInt8) : Prop := ∀ R D ls, okPast R D ls = true → putL R D ls ≠ b
/-- bytes are those of this past -/
def isPut (b : List UInt8) (R D : Int) (ls : List (List Int)) : Prop := okPast R D ls = true ∧ putL R D ls = b
theorem isPut_inj {b : List UInt8} {R D R' D' : Int} {ls ms : List (List Int)} (h : isPut b R D ls) (h' : isPut b R' D' ms) : R' = R ∧ D' = D ∧ ms = ls := by
  obtain ⟨h1, h2, h3⟩ := putL_inj h.1 h'.1 (h.2.trans h'.2.symm)
  exact ⟨h1.symm, h2.symm, h3.symm⟩

theorem lns_last (ls : List (List Int)) (h : lns ls ≠ []) : ∃ t, lns ls = t ++ [10] := by
  rcases List.eq_nil_or_concat ls with rfl | ⟨ms, l, rfl⟩
  · exact absurd rfl h
  · exact ⟨lns ms ++ escs l, by rw [List.concat_eq_append, lns_snoc]; simp⟩
theorem noPast_short {b : List UInt8} (h : b.length < 3) : noPast b := by
  intro R D ls ho he
  have := congrArg List.length he
  unfold putL hd3 at this
  simp at this
  omega
theorem noPast_head {b : List UInt8} (h : b.head? ≠ some 80) : noPast b := by
  intro R D ls ho he
  apply h
  rw [← he]
  rfl
/-- behind lines that were told, bytes that are no line's -/
theorem noPast_rest {x y z : UInt8} {ls : List (List Int)} {a : List UInt8} (hv : allV ls) (h : ∀ m ms, allV (m :: ms) → a ≠ escs m ++ 10 :: lns ms) (ha : a ≠ []) : noPast (x :: y :: z :: (lns ls ++ a)) := by
  intro R D ms ho he
  unfold putL hd3 at he
  simp only [List.cons_append, List.nil_append] at he
  injection he with _ he
  injection he with _ he
  injection he with _ he
  obtain ⟨ms', rfl, e⟩ := lns_split ls ms a hv (okPast_allV ho) he.symm
  cases ms' with
  | nil => exact ha e
  | cons m ms' =>
    rw [lns_cons] at e
    exact h m ms' (fun l hl => okPast_allV ho l (List.mem_append_right _ hl)) e
theorem noPast_unended {x y z : UInt8} {ls : List (List Int)} {a : List UInt8} (hv : allV ls) (h : (10 : UInt8) ∉ a) (ha : a ≠ []) : noPast (x :: y :: z :: (lns ls ++ a)) :=
  noPast_rest hv (fun m ms _ e => h (by rw [e]; simp)) ha
/-- bytes are those of no line -/
def noLine (b : List UInt8) : Prop := ∀ rs, (∀ r ∈ rs, valI r = true) → escs rs ≠ b
theorem noPast_line {x y z : UInt8} {ls : List (List Int)} {a t : List UInt8} (hv : allV ls) (h : (10 : UInt8) ∉ a) (hn : noLine a) : noPast (x :: y :: z :: (lns ls ++ (a ++ 10 :: t))) :=
  noPast_rest hv (fun m ms hm e => by
    obtain ⟨e1, _⟩ := cut_inj h (escs_no10 m (allV_cons hm).1) e
    exact hn m (allV_cons hm).1 e1.symm) (by simp)
theorem noPast_bad {x y z : UInt8} {ls : List (List Int)} (hv : allV ls) (h : okPast ((y.toNat : Int) - 48) ((z.toNat : Int) - 48) ls = false) : noPast (x :: y :: z :: lns ls) := by
  intro R D ms ho he
  have hh := okHead_t (okPast_t ho).1
  unfold putL hd3 at he
  simp only [List.cons_append, List.nil_append] at he
  injection he with _ he
  injection he with h1 he
  injection he with h2 he
  obtain rfl := lns_inj (okPast_allV ho) hv he
  have e1 : (y.toNat : Int) - 48 = R := by rw [← h1, toNat_of _ (by omega)]; omega
  have e2 : (z.toNat : Int) - 48 = D := by rw [← h2, toNat_of _ (by omega)]; omega
  rw [e1, e2, ho] at h
  exact absurd h (by simp)
theorem isPut_mk {y z : UInt8} {ls : List (List Int)} (h : okPast ((y.toNat : Int) - 48) ((z.toNat : Int) - 48) ls = true) : isPut (80 :: y :: z :: lns ls) ((y.toNat : Int) - 48) ((z.toNat : Int) - 48) ls := by
  refine ⟨h, ?_⟩
  have e : ∀ x : UInt8, UInt8.ofNat (48 + ((x.toNat : Int) - 48)).toNat = x := fun x => by
    rw [show (48 + ((x.toNat : Int) - 48)).toNat = x.toNat by omega]
    exact UInt8.ofNat_toNat
  unfold putL hd3
  rw [e, e]
  rfl

/-- the program's reading of one line, told by what it saw so far -/
def LS (b : List UInt8) (ds : List Int) (a : List UInt8) : Prop := b = escs ds ++ a ∧ ∀ r ∈ ds, valI r = true
theorem LS.start (b : List UInt8) : LS b [] b := ⟨rfl, by simp⟩
theorem LS.no {b : List UInt8} {ds : List Int} {a : List UInt8} (h : LS b ds a) (ha : a ≠ []) (hn : ∀ r rs, valI r = true → (∀ x ∈ rs, valI x = true) → a ≠ esc r ++ escs rs) : noLine b := by
  intro rs hr he
  rw [h.1] at he
  obtain ⟨rs', rfl, e⟩ := escs_split ds rs a h.2 hr he.symm
  cases rs' with
  | nil => exact ha e
  | cons r rs' =>
    rw [escs_cons] at e
    exact hn r rs' (hr r (by simp)) (fun x hx => hr x (by simp [hx])) e
theorem LS.step {b : List UInt8} {ds : List Int} {a : List UInt8} (h : LS b ds a) {r : Int} (hr : valI r = true) {t : List UInt8} (he : a = esc r ++ t) : LS b (ds ++ [r]) t := by
  refine ⟨?_, fun x hx => ?_⟩
  · rw [h.1, he, escs_snoc, List.append_assoc]
  · rcases List.mem_append.1 hx with hx | hx
    · exact h.2 x hx
    · simp at hx; subst hx; exact hr
/-- wanting more, or spoilt: no sign -/
theorem LS.bad {b : List UInt8} {ds : List Int} {a : List UInt8} (h : LS b ds a) (ha : a ≠ []) (hx : (nx a).2.2 ≠ 0 ∨ ((nx a).1 = 65533 ∧ (nx a).2.1 = 1)) : noLine b := by
  refine h.no ha fun r rs hr hrs e => ?_
  rcases esc_kind r hr (escs rs) with ⟨_, e2⟩ | ⟨_, e2⟩ | ⟨_, _, e0, e1, e2⟩
  · rw [e, e2] at hx
    have : nx (92 :: 110 :: escs rs) = (92, 1, 0) := by
      unfold nx nxN; rw [if_neg (by simp)]; rfl
    rw [this] at hx; simp at hx
  · rw [e, e2] at hx
    have : nx (92 :: 92 :: escs rs) = (92, 1, 0) := by
      unfold nx nxN; rw [if_neg (by simp)]; rfl
    rw [this] at hx; simp at hx
  · rw [e, e1] at hx
    rcases hx with hx | ⟨h1, h2⟩
    · exact hx rfl
    · have h1' : fixN r = 65533 := h1
      have h2' : encLen (fixN r) = 1 := h2
      rw [h1'] at h2'; simp [encLen] at h2'
theorem nx_92 {a : List UInt8} {k : Nat} (h : nx a = (92, k, 0)) : ∃ t, a = 92 :: t ∧ k = 1 := by
  rcases nx_ok a _ _ h with ⟨h, _⟩ | ⟨_, hk, hn, e⟩
  · simp at h
  · have : encLen 92 = 1 := rfl
    rw [this] at hk
    subst hk
    rw [enc_small 92 (by omega)] at e
    cases a with
    | nil => simp at e
    | cons x t =>
      simp at e
      exact ⟨t, by rw [e], rfl⟩
/-- a stroke with none of its two signs behind it -/
theorem LS.stroke {b : List UInt8} {ds : List Int} {a : List UInt8} (h : LS b ds a) {k : Nat} (hx : nx a = (92, k, 0)) (h1 : a.length < 2 ∨ (bt a 1 ≠ 110 ∧ bt a 1 ≠ 92)) : noLine b := by
  obtain ⟨t, rfl, rfl⟩ := nx_92 hx
  refine h.no (by simp) fun r rs hr hrs e => ?_
  rcases esc_kind r hr (escs rs) with ⟨_, e2⟩ | ⟨_, e2⟩ | ⟨_, _, e0, e1, e2⟩
  · rw [e, e2] at h1; simp [bt] at h1; omega
  · rw [e, e2] at h1; simp [bt] at h1; omega
  · exact e2 t e.symm
theorem LS.stroke_n {b : List UInt8} {ds : List Int} {a : List UInt8} (h : LS b ds a) {k : Nat} (hx : nx a = (92, k, 0)) (h1 : 2 ≤ a.length) (h2 : bt a 1 = 110) : LS b (ds ++ [10]) (a.drop 2) := by
  obtain ⟨t, rfl, rfl⟩ := nx_92 hx
  cases t with
  | nil => simp at h1
  | cons x t =>
    have : x = 110 := UInt8.toNat_inj.1 (by simpa [bt] using h2)
    subst this
    exact h.step (r := 10) rfl rfl
theorem LS.stroke_s {b : List UInt8} {ds : List Int} {a : List UInt8} (h : LS b ds a) {k : Nat} (hx : nx a = (92, k, 0)) (h1 : 2 ≤ a.length) (h2 : bt a 1 = 92) : LS b (ds ++ [92]) (a.drop 2) := by
  obtain ⟨t, rfl, rfl⟩ := nx_92 hx
  cases t with
  | nil => simp at h1
  | cons x t =>
    have : x = 92 := UInt8.toNat_inj.1 (by simpa [bt] using h2)
    subst this
    exact h.step (r := 92) rfl rfl
/-- a sign; byte 10 does not stand in a line -/
theorem LS.sign {b : List UInt8} {ds : List Int} {a : List UInt8} (h : LS b ds a) (hb : (10 : UInt8) ∉ b) {r k : Nat} (hx : nx a = (r, k, 0)) (h1 : ¬ (r = 65533 ∧ k = 1)) (h2 : r ≠ 92) : LS b (ds ++ [(r : Int)]) (a.drop k) ∧ 1 ≤ k ∧ k ≤ a.length := by
  rcases nx_ok a _ _ hx with h' | ⟨hv, hk, hn, e⟩
  · exact absurd h' h1
  · have hp := encLen_pos r
    have hval : valI (r : Int) = true := (validN_iff r).2 hv
    have hr10 : r ≠ 10 := by
      rintro rfl
      apply hb
      rw [h.1, ← List.take_append_drop k a, e]
      simp [enc_small]
    have hf : fixN (r : Int) = r := by have := fix_of hval; omega
    refine ⟨h.step hval ?_, by omega, hn⟩
    unfold esc
    rw [if_neg (by omega), if_neg (by omega), hf, ← e, List.take_append_drop]
theorem LS.done {b : List UInt8} {ds : List Int} (h : LS b ds []) : escs ds = b ∧ ∀ r ∈ ds, valI r = true := ⟨by rw [h.1, List.append_nil], h.2⟩

/-- the document's reader: what it makes of bytes behind those of a line begun -/
def rp : List UInt8 → List UInt8 → List (List Int)
  | _, [] => []
  | t, [x] => if x = 10 then [(dec t).map fun n : Nat => (n : Int)] else []
  | t, x :: y :: xs =>
    if x = 10 then ((dec t).map fun n : Nat => (n : Int)) :: rp [] (y :: xs)
    else if x = 92 ∧ y = 110 then rp (t ++ [10]) xs
    else if x = 92 ∧ y = 92 then rp (t ++ [92]) xs
    else rp (t ++ [x]) (y :: xs)
theorem rp_10 (t xs : List UInt8) : rp t (10 :: xs) = ((dec t).map fun n : Nat => (n : Int)) :: rp [] xs := by
  cases xs with
  | nil => simp [rp]
  | cons y xs => rw [rp, if_pos rfl]
theorem rp_n (t xs : List UInt8) : rp t (92 :: 110 :: xs) = rp (t ++ [10]) xs := by
  rw [rp, if_neg (by simp), if_pos (by simp)]
theorem rp_s (t xs : List UInt8) : rp t (92 :: 92 :: xs) = rp (t ++ [92]) xs := by
  rw [rp, if_neg (by simp), if_neg (by simp), if_pos (by simp)]
theorem rp_x (t : List UInt8) (x : UInt8) (xs : List UInt8) (h : x ≠ 10) (h1 : x = 92 → xs.head? ≠ some 110 ∧ xs.head? ≠ some 92) : rp t (x :: xs) = rp (t ++ [x]) xs := by
  cases xs with
  | nil => simp [rp, h]
  | cons y xs =>
    rw [rp, if_neg h, if_neg, if_neg]
    · rintro ⟨e1, e2⟩; exact (h1 e1).2 (by rw [e2]; rfl)
    · rintro ⟨e1, e2⟩; exact (h1 e1).1 (by rw [e2]; rfl)
theorem rp_run : ∀ (a t xs : List UInt8), (∀ x ∈ a, x ≠ 10 ∧ x ≠ 92) → rp t (a ++ xs) = rp (t ++ a) xs
  | [], t, xs, _ => by simp
  | x :: a, t, xs, h => by
    have hx := h x (List.mem_cons_self ..)
    rw [List.cons_append, rp_x t x _ hx.1 (fun e => absurd e hx.2), rp_run a _ xs fun y hy => h y (List.mem_cons_of_mem _ hy)]
    simp
theorem rp_esc (r : Int) (h : valI r = true) (t xs : List UInt8) : rp t (esc r ++ xs) = rp (t ++ enc (fixN r)) xs := by
  rcases esc_kind r h xs with ⟨e1, e2⟩ | ⟨e1, e2⟩ | ⟨h1, h2, e0, _, _⟩
  · rw [e2, rp_n, e1]; rfl
  · rw [e2, rp_s, e1]; rfl
  · rw [e0]
    refine rp_run _ _ _ fun x hx => ?_
    have hf := fix_of h
    rcases enc_ge _ (fixN_valid r) _ hx with ⟨_, e⟩ | ⟨_, e⟩
    · refine ⟨?_, ?_⟩ <;> rintro rfl
      · have : (10 : UInt8).toNat = 10 := rfl
        omega
      · have : (92 : UInt8).toNat = 92 := rfl
        omega
    · refine ⟨?_, ?_⟩ <;> rintro rfl
      · have : (10 : UInt8).toNat = 10 := rfl
        omega
      · have : (92 : UInt8).toNat = 92 := rfl
        omega
theorem rp_escs : ∀ (rs : List Int) (t xs : List UInt8), (∀ r ∈ rs, valI r = true) → rp t (escs rs ++ xs) = rp (t ++ encs rs) xs
  | [], t, xs, _ => by simp [escs, encs]
  | r :: rs, t, xs, h => by
    rw [escs_cons, List.append_assoc, rp_esc r (h r (List.mem_cons_self ..)), rp_escs rs _ xs fun x hx => h x (List.mem_cons_of_mem _ hx), encs_cons, List.append_assoc]
theorem dec_back (rs : List Int) (h : ∀ r ∈ rs, valI r = true) : ((dec (encs rs)).map fun n : Nat => (n : Int)) = rs := by
  have := dec_encs rs []
  rw [List.append_nil, dec_nil, List.append_nil] at this
  rw [this, List.map_map]
  conv => rhs; rw [← List.map_id rs]
  exact List.map_congr_left fun r hr => fix_of (h r hr)
theorem rp_lns : ∀ (ls : List (List Int)), allV ls → rp [] (lns ls) = ls
  | [], _ => rfl
  | l :: ls, h => by
    obtain ⟨h1, h2⟩ := allV_cons h
    rw [lns_cons, rp_escs l _ _ h1, rp_10, List.nil_append, dec_back l h1, rp_lns ls h2]
/-- what the document's reader refuses has the bytes of no past -/
theorem noPast_ref {b : List UInt8} {x y z : UInt8} {a : List UInt8} (hb : b = x :: y :: z :: a)
    (h : okPast ((y.toNat : Int) - 48) ((z.toNat : Int) - 48) (rp [] a) = false ∨ putL ((y.toNat : Int) - 48) ((z.toNat : Int) - 48) (rp [] a) ≠ b) : noPast b := by
  intro R D ms ho he
  have hh := okHead_t (okPast_t ho).1
  have he' := he
  rw [hb] at he'
  unfold putL hd3 at he'
  simp only [List.cons_append, List.nil_append] at he'
  injection he' with _ he'
  injection he' with h1 he'
  injection he' with h2 he'
  have e1 : (y.toNat : Int) - 48 = R := by rw [← h1, toNat_of _ (by omega)]; omega
  have e2 : (z.toNat : Int) - 48 = D := by rw [← h2, toNat_of _ (by omega)]; omega
  rw [e1, e2, ← he', rp_lns ms (okPast_allV ho), ho] at h
  rcases h with h | h
  · exact absurd h (by simp)
  · exact h he
/-- the document's bytes: those of the signs, each byte put by itself -/
def escB (x : UInt8) : List UInt8 := if x = 10 then [92, 110] else if x = 92 then [92, 92] else [x]
theorem escB_run : ∀ (a : List UInt8), (∀ x ∈ a, x ≠ 10 ∧ x ≠ 92) → a.flatMap escB = a
  | [], _ => rfl
  | x :: a, h => by
    have hx := h x (List.mem_cons_self ..)
    rw [List.flatMap_cons, escB_run a fun y hy => h y (List.mem_cons_of_mem _ hy)]
    unfold escB
    rw [if_neg hx.1, if_neg hx.2]
    rfl
theorem escB_enc (r : Int) (h : valI r = true) : (enc (fixN r)).flatMap escB = esc r := by
  have hf := fix_of h
  by_cases h1 : r = 10
  · subst h1; rfl
  · by_cases h2 : r = 92
    · subst h2; rfl
    · have he : esc r = enc (fixN r) := by unfold esc; rw [if_neg h1, if_neg h2]
      rw [he]
      refine escB_run _ fun x hx => ?_
      rcases enc_ge _ (fixN_valid r) _ hx with ⟨_, e⟩ | ⟨_, e⟩
      · refine ⟨?_, ?_⟩ <;> rintro rfl
        · have : (10 : UInt8).toNat = 10 := rfl
          omega
        · have : (92 : UInt8).toNat = 92 := rfl
          omega
      · refine ⟨?_, ?_⟩ <;> rintro rfl
        · have : (10 : UInt8).toNat = 10 := rfl
          omega
        · have : (92 : UInt8).toNat = 92 := rfl
          omega
theorem escB_encs : ∀ (rs : List Int), (∀ r ∈ rs, valI r = true) → (encs rs).flatMap escB = escs rs
  | [], _ => rfl
  | r :: rs, h => by
    rw [encs_cons, List.flatMap_append, escB_enc r (h r (List.mem_cons_self ..)), escB_encs rs fun x hx => h x (List.mem_cons_of_mem _ hx), escs_cons]

/-- how many bytes are 10 -/
theorem count_lns (ls : List (List Int)) (h : allV ls) : (lns ls).count 10 = ls.length := by
  induction ls with
  | nil => rfl
  | cons l ls ih =>
    obtain ⟨h1, h2⟩ := allV_cons h
    rw [lns_cons, List.count_append, List.count_cons_self, ih h2, List.count_eq_zero.2 (escs_no10 l h1), List.length_cons]
    omega
theorem count_putL {R D : Int} {ls : List (List Int)} (h : okPast R D ls = true) : (putL R D ls).count 10 = ls.length := by
  have hh := okHead_t (okPast_t h).1
  unfold putL
  rw [List.count_append, count_lns ls (okPast_allV h), List.count_eq_zero.2]
  · omega
  · unfold hd3
    intro hm
    simp only [List.mem_cons, List.not_mem_nil, or_false] at hm
    rcases hm with hm | hm | hm
    · simp at hm
    · have := congrArg UInt8.toNat hm
      rw [toNat_of _ (by omega)] at this
      have e : (10 : UInt8).toNat = 10 := rfl
      omega
    · have := congrArg UInt8.toNat hm
      rw [toNat_of _ (by omega)] at this
      have e : (10 : UInt8).toNat = 10 := rfl
      omega
theorem putL_snoc (R D : Int) (ls : List (List Int)) (l : List Int) (R' D' : Int) : putL R D ls ++ (putL R' D' [l]).drop 3 = putL R D (ls ++ [l]) := by
  unfold putL hd3
  rw [lns_app]
  simp [lns]
theorem okPast_snoc {R D : Int} {ls : List (List Int)} {l : List Int} (h : okPast R D ls = true) (hr : (ls.length : Int) < R) (hl : okLine l = true) : okPast R D (ls ++ [l]) = true := by
  obtain ⟨h1, h2, h3⟩ := okPast_t h
  refine okPast_mk h1 (by rw [List.length_append, List.length_singleton]; omega) fun x hx => ?_
  rcases List.mem_append.1 hx with hx | hx
  · exact h3 x hx
  · simp at hx; subst hx; exact hl
theorem noPast_a {b : List UInt8} (h : b.getLast? ≠ some 10) (hl : 3 < b.length) : noPast b := by
  intro R D ls ho he
  subst he
  unfold putL at h hl
  have hn : lns ls ≠ [] := by
    intro e
    rw [e] at hl
    simp [hd3] at hl
  obtain ⟨t, e⟩ := lns_last ls hn
  rw [e] at h
  simp at h
end Go.Proofs.YtmfjndoljdpliaaDoor.plain
