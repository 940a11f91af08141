/-
  Keys: bytes that come one by one, early or late; appending a row of keys. No condition but bounds and, for the program's side, the library's two tables.
-/
import Derived.Test.YtmfccecjphfkiaaDoorWalk16p
import Derived.Laws.AppendOwnNone
import Derived.Maps.AppendAt
namespace Go.Proofs.YtmfccecjphfkiaaDoor.walk
open Go.RowKit Go.Proofs.YtmfccecjphfkiaaDoor.kit Go.Proofs.YtmfccecjphfkiaaDoor.plain
set_option linter.unusedVariables false

def atK (p : List UInt8) (t : Int) : Int := if p = [] then 0 else t
theorem isK_atK {p : List UInt8} {t : Int} (he : (one p).2.2 ≠ 0) (ht : tickB t = true) : isK p (atK p t) = true := by
  unfold isK atK
  by_cases hn : p = []
  · rw [if_pos hn, if_pos hn]; rfl
  · rw [if_neg hn, if_neg hn, ht]
    rcases one_e p with ⟨g, _⟩ | ⟨g, _⟩ | ⟨_, g⟩
    · exact absurd g he
    · rw [g]; rfl
    · exact absurd g hn
theorem atK_le {p : List UInt8} {t late : Int} (ht : tickB t = true) (hl : 0 ≤ late) : atK p t ≤ t + late := by
  have := tickB_t ht
  unfold atK; split <;> omega
theorem due_early {p : List UInt8} {t late wait : Int} (h : late < wait ∨ p = []) : dueK p (atK p t) (t + late) wait = false := by
  unfold dueK
  by_cases hn : p = []
  · simp [hn]
  · have hl : late < wait := h.resolve_right hn
    have : decide (atK p t + wait ≤ t + late) = false := decide_eq_false (by unfold atK; rw [if_neg hn]; omega)
    rw [this]; simp
theorem due_late {p : List UInt8} {t late wait : Int} (he : (one p).2.2 ≠ 0) (hn : p ≠ []) (h1 : tickB t = true) (h2 : tickB (t + late) = true) (h3 : waitB wait = true) (h : wait ≤ late) : dueK p (atK p t) (t + late) wait = true := by
  unfold dueK
  rw [isK_atK he h1, h3, h2, decide_eq_true (show atK p t + wait ≤ t + late by unfold atK; rw [if_neg hn]; omega), decide_eq_false hn]
  rfl
theorem feed_early (p : List UInt8) (b t late wait : Int) (w : World) (hT : TB w) (he : (one p).2.2 ≠ 0) (h1 : tickB t = true) (h2 : tickB (t + late) = true) (h3 : waitB wait = true) (h0 : 0 ≤ late) (h : late < wait ∨ p = []) :
    Calls Tryd.prog 21 #[.agg #[.string (mkK p), .int .i64 (atK p t)], .agg #[.int .u8 b, .int .i64 (t + late)], .int .i64 wait] w (FP (restOf (p ++ [UInt8.ofNat b.toNat])) (t + late) (keysOf (p ++ [UInt8.ofNat b.toNat])) w) := by
  have := feed_ok (mkK p) (atK p t) b (t + late) wait w hT (by rw [L_mkK]; exact isK_atK he h1) h3 h2 (atK_le h1 h0)
  rw [L_mkK] at this
  unfold pendK preK at this
  rw [due_early h] at this
  exact this
theorem feed_late (p : List UInt8) (b t late wait : Int) (w : World) (hT : TB w) (he : (one p).2.2 ≠ 0) (hn : p ≠ []) (h1 : tickB t = true) (h2 : tickB (t + late) = true) (h3 : waitB wait = true) (h0 : 0 ≤ late) (h : wait ≤ late) :
    Calls Tryd.prog 21 #[.agg #[.string (mkK p), .int .i64 (atK p t)], .agg #[.int .u8 b, .int .i64 (t + late)], .int .i64 wait] w (FP (restOf [UInt8.ofNat b.toNat]) (t + late) (settleK p ++ keysOf [UInt8.ofNat b.toNat]) w) := by
  have := feed_ok (mkK p) (atK p t) b (t + late) wait w hT (by rw [L_mkK]; exact isK_atK he h1) h3 h2 (atK_le h1 h0)
  rw [L_mkK] at this
  unfold pendK preK at this
  rw [due_late he hn h1 h2 h3 h] at this
  exact this
theorem take_byte (s : ByteArray) (k : Nat) (h : k < s.size) : (L s).take (k + 1) = (L s).take k ++ [s.get! k] := by
  have hk : k < (L s).length := by rw [L_length]; exact h
  rw [List.take_succ_eq_append_getElem hk, get!_lt s k h]
  rfl
theorem byte_back (x : UInt8) : UInt8.ofNat ((x.toNat : Int)).toNat = x := by simp
/-- the byte number k comes, at the same tick as those ahead of it -/
theorem feed_next (s : ByteArray) (k : Nat) (hk : k < s.size) (t wait : Int) (h1 : tickB t = true) (h3 : waitB wait = true) :
    (∀ w, TB w → Calls Tryd.prog 21 #[.agg #[.string (mkK (restOf ((L s).take k))), .int .i64 (atK (restOf ((L s).take k)) t)], .agg #[.int .u8 ((s.get! k).toNat : Int), .int .i64 t], .int .i64 wait] w
      (FP (restOf ((L s).take (k + 1))) t (keysOf (restOf ((L s).take k) ++ [s.get! k])) w)) ∧ keysOf ((L s).take (k + 1)) = keysOf ((L s).take k) ++ keysOf (restOf ((L s).take k) ++ [s.get! k]) := by
  obtain ⟨e1, e2⟩ := prs_app ((L s).take k) [s.get! k]
  rw [← take_byte s k hk] at e1 e2
  refine ⟨fun w hT => ?_, e1⟩
  have := feed_early (restOf ((L s).take k)) ((s.get! k).toNat : Int) t 0 wait w hT (rest_e _) h1 (by rw [Int.add_zero]; exact h1) h3 (by omega) (.inl (by have := waitB_t h3; omega))
  rw [byte_back, Int.add_zero, ← e2] at this
  exact this

/-- a row of keys that is owned: nil, or a block -/
theorem own_two {w : World} {base : Nat} {A : Option Addr} {n cap : Nat} {xs : List Value} (h : w.ownsRow base 23 2 (.slice A n cap) n xs) : (A = none ∧ n = 0 ∧ cap = 0 ∧ xs = []) ∨ ∃ g, A = some ⟨g, 0, none⟩ := by
  have hl := h.1
  rcases h.2 with ⟨hv, hn⟩ | ⟨g, cap', cur, hv, _⟩
  · injection hv with h1 h2 h3
    subst h1 h2 h3
    exact .inl ⟨rfl, rfl, rfl, List.eq_nil_of_length_eq_zero (by simpa using hl)⟩
  · injection hv with h1 h2 h3
    exact .inr ⟨g, h1⟩
theorem flatK_one {q : List KEY} : ∀ u ∈ flatK q, u.oneCell' = true := by
  intro u hu
  unfold flatK at hu
  simp at hu
  rcases hu with ⟨a, b, _, rfl | rfl⟩ <;> rfl
theorem wpList_append_keys {w : World} {ops : Array Oper} {rest : List Oper} {o : Oper} {a : Act} {Q : Exit → Act → World → Prop} (hgd : o.guard = none) (s x : Operand)
    (ho : o.op = .call { callee := .builtin .append, args := #[s, x], argTypes := #[31, 31] }) (base : Nat) (v : Value) (xs : List KEY) (hs : a.eval s = v) (hown : w.ownsRow base 23 2 v xs.length (flatK xs))
    (B : Option Addr) (c b2 : Nat) (ys : List KEY) (hx : a.eval x = .slice B ys.length c) (hsrc : w.ownsRow b2 23 2 (.slice B ys.length c) ys.length (flatK ys)) (hle : xs.length + ys.length ≤ 3000000) (hbase : base ≤ w.heap.size)
    (h : ∀ v' w', w'.ownsRow base 23 2 v' (xs ++ ys).length (flatK (xs ++ ys)) → w.grownBy w' v.ownBlock → wpList Tryd.prog ops Q rest (a.put o.dst v') w') : wpList Tryd.prog ops Q (o :: rest) a w := by
  obtain ⟨i0, hi, hz0, hzs, hz2⟩ := info_parts infoK
  rcases own_two hsrc with ⟨rfl, h0, rfl, hy⟩ | ⟨g, rfl⟩
  · have hy' : ys = [] := List.eq_nil_of_length_eq_zero h0
    subst hy'
    refine wpList_append_own_none hgd s x _ ho base 23 i0 2 Tryd.underlying31 hi v xs.length (flatK xs) hs hown hx ?_
    exact h v w (by rw [List.append_nil]; exact hown) (World.grownBy.refl _ _)
  · refine wpList_append_own_at w hgd s x _ ho base 23 i0 _ 2 16 Tryd.underlying31 hi hz0 hzs hz2 rfl (by omega) v xs.length (flatK xs) hs hown ⟨g, 0, none⟩ ys.length c (flatK ys) hx (flatK_length ys) (fun j u hu => hsrc.cells (g := g) rfl j u hu) flatK_one (by unfold maxLen; omega) (by omega) hbase ?_
    intro v' w' r1 r2 r3 r4
    exact h v' w' (by rw [List.length_append, flatK_app]; exact r1) r2
end Go.Proofs.YtmfccecjphfkiaaDoor.walk
