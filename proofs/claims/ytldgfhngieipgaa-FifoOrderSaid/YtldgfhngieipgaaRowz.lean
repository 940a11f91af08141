/-
  A slice of the call's own that may have been cut at its head ('Rz'): its cells, and one append onto it. No condition.
-/
import Derived.Test.YtldgfhngieipgaaBase
import Derived.ArgAppend
import Derived.Laws.IdiomCopy
namespace Go.Proofs.Ytldgfhngieipgaa.kit
open Go.RowKit Go.WideShapes Go.ChangeShapes Go.Joins Go.Deep
set_option linter.unusedVariables false

/-- the slice v holds n elements of 'size' cells, the cells xs, in a block from base on -/
def Rz (w : World) (base : Nat) (e : TypeId) (size : Nat) (v : Value) (n : Nat) (xs : List Value) : Prop :=
  ∃ A cap, v = .slice A n cap ∧ xs.length = n * size ∧ n ≤ cap ∧ cap ≤ maxLen ∧ (A = none → cap = 0) ∧
    (0 < cap → ∃ g off cs, A = some ⟨g, off, none⟩ ∧ base ≤ g ∧ Blk w g e cs ∧ off + cap * size ≤ cs.size ∧ ∀ j u, xs[j]? = some u → cs[off + j]? = some u)
section
variable {w w' : World} {base : Nat} {e : TypeId} {size : Nat} {v : Value} {n : Nat} {xs : List Value}
theorem Rz.nil (w : World) (base : Nat) (e : TypeId) (size : Nat) : Rz w base e size (.slice none 0 0) 0 [] :=
  ⟨none, 0, rfl, by simp, Nat.le_refl _, Nat.zero_le _, fun _ => rfl, fun h => absurd h (by omega)⟩
theorem Rz.keep (h : Rz w base e size v n xs) (hk : ∀ g, base ≤ g → g < w.heap.size → w'.heap[g]? = w.heap[g]?) : Rz w' base e size v n xs := by
  obtain ⟨A, cap, h1, h2, h3, h4, h5, h6⟩ := h
  refine ⟨A, cap, h1, h2, h3, h4, h5, fun hc => ?_⟩
  obtain ⟨g, off, cs, k1, k2, k3, k4⟩ := h6 hc
  exact ⟨g, off, cs, k1, k2, (hk g k2 k3.lt).trans k3, k4⟩
theorem Rz.nx (h : Rz w base e size v n xs) (hb : Nx w w') : Rz w' base e size v n xs := h.keep fun g _ hg => hb.block hg
theorem Rz.alloc (h : Rz w base e size v n xs) (o : Obj) : Rz (w.alloc o) base e size v n xs := h.nx ((Nx.refl w).alloc o)
theorem Rz.far (h : Rz w base e size v n xs) {p : Addr} (hp : p.block < base) (u : Value) : Rz (w.setCell p u) base e size v n xs :=
  h.keep fun g hg _ => Below.heap_setCell w p u g (by omega)
theorem Rz.len (h : Rz w base e size v n xs) : xs.length = n * size ∧ n ≤ maxLen := by
  obtain ⟨A, cap, h1, h2, h3, h4, h5, h6⟩ := h
  exact ⟨h2, Nat.le_trans h3 h4⟩
theorem Rz.at_ (h : Rz w base e size v n xs) (hn : 0 < n) : ∃ g off cap, v = .slice (some ⟨g, off, none⟩) n cap ∧ n ≤ cap ∧ cap ≤ maxLen ∧ base ≤ g ∧ g < w.heap.size ∧ ∀ j u, xs[j]? = some u → w.cell? ⟨g, off + j, none⟩ = some u := by
  obtain ⟨A, cap, rfl, h2, h3, h4, h5, h6⟩ := h
  obtain ⟨g, off, cs, rfl, k2, k3, k4, k5⟩ := h6 (by omega)
  exact ⟨g, off, cap, rfl, h3, h4, k2, k3.lt, fun j u hu => (k3.cell (off + j)).trans (k5 j u hu)⟩
/-- cut one element off its head -/
theorem Rz.tail {g off cap : Nat} (h : Rz w base e size (.slice (some ⟨g, off, none⟩) (n + 1) cap) (n + 1) xs) :
    Rz w base e size (.slice (if cap = 1 then some ⟨g, off, none⟩ else some ⟨g, off + size, none⟩) n (cap - 1)) n (xs.drop size) := by
  obtain ⟨A, cap', h1, h2, h3, h4, h5, h6⟩ := h
  injection h1 with h1 _ hc
  subst h1 hc
  refine ⟨_, _, rfl, by rw [List.length_drop, h2, Nat.add_mul]; omega, by omega, by omega, fun hh => ?_, fun hc => ?_⟩
  · split at hh <;> cases hh
  · obtain ⟨g', off', cs, k1, k2, k3, k4, k5⟩ := h6 (by omega)
    injection k1 with k1
    injection k1 with k1 k1' _
    subst k1 k1'
    rw [if_neg (by omega)]
    refine ⟨g, off + size, cs, rfl, k2, k3, ?_, fun j u hu => ?_⟩
    · have : cap * size = (cap - 1) * size + size := by
        obtain ⟨c, rfl⟩ : ∃ c, cap = c + 1 := ⟨cap - 1, by omega⟩
        rw [Nat.add_mul]; simp
      omega
    · rw [Nat.add_assoc]
      exact k5 _ u (by rw [← hu, List.getElem?_drop])
theorem Rz.more {base' : Nat} (h : Rz w base e size v n xs) (hb : base' ≤ base) : Rz w base' e size v n xs := by
  obtain ⟨A, cap, h1, h2, h3, h4, h5, h6⟩ := h
  refine ⟨A, cap, h1, h2, h3, h4, h5, fun hc => ?_⟩
  obtain ⟨g, off, cs, k1, k2, k3⟩ := h6 hc
  exact ⟨g, off, cs, k1, Nat.le_trans hb k2, k3⟩
theorem Rz.of_own (h : w.ownsRow base e size v n xs) : Rz w base e size v n xs := by
  rcases h.2 with ⟨rfl, rfl⟩ | ⟨g, cap, cur, rfl, hb, hh, hnc, hcm, hsz, htk⟩
  · exact ⟨none, 0, rfl, h.1, Nat.le_refl _, Nat.zero_le _, fun _ => rfl, fun h => absurd h (by omega)⟩
  · refine ⟨_, cap, rfl, h.1, hnc, hcm, (fun hh => by cases hh), fun _ => ⟨g, 0, cur, rfl, hb, hh, by simp only [Nat.zero_add]; omega, fun j u hu => ?_⟩⟩
    rw [Nat.zero_add, ← Array.getElem?_toList]
    rw [← htk, List.getElem?_take] at hu
    split at hu
    · exact hu
    · cases hu
end

theorem Blk.setCells {g : Nat} {t : TypeId} : ∀ (vs : List Value) (o : Nat) (w : World) (cs : Array Value), Blk w g t cs → o + vs.length ≤ cs.size →
    ∃ cs', Blk (w.setCells g o vs) g t cs' ∧ cs'.size = cs.size ∧ (∀ j, j < o → cs'[j]? = cs[j]?) ∧ ∀ j u, vs[j]? = some u → cs'[o + j]? = some u
  | [], o, w, cs, h, _ => ⟨cs, h, rfl, fun _ _ => rfl, fun j u hu => by simp at hu⟩
  | v :: r, o, w, cs, h, hl => by
    rw [List.length_cons] at hl
    obtain ⟨cs', k1, k2, k3, k4⟩ := Blk.setCells r (o + 1) (w.setCell ⟨g, o, none⟩ v) _ (h.set_ o v) (by simp; omega)
    refine ⟨cs', k1, by simpa using k2, fun j hj => ?_, fun j u hu => ?_⟩
    · rw [k3 j (by omega), Array.getElem?_setIfInBounds, if_neg (by omega)]
    · cases j with
      | zero =>
        simp at hu
        subst hu
        rw [Nat.add_zero, k3 o (by omega), Array.getElem?_setIfInBounds, if_pos rfl, if_pos (by omega)]
      | succ j =>
        have := k4 j u (by simpa using hu)
        rwa [show o + 1 + j = o + (j + 1) by omega] at this
theorem below_setCells {B : Nat} {a : World} (g : Nat) (hg : B ≤ g) : ∀ (vs : List Value) (o : Nat) (w : World), Below B a w → Below B a (w.setCells g o vs)
  | [], o, w, h => h
  | v :: r, o, w, h => below_setCells g hg r (o + 1) _ (h.setCell (p := ⟨g, o, none⟩) hg v)

theorem run_append_rz {P : Program} (w : World) (t ty e : TypeId) (i : TypeInfo) (z : Value) (size bytes base : Nat) (ht : P.underlying t = some (.slice e)) (hi : P.info? e = some i) (hz : i.zero = some z)
    (hsize : i.size = size) (hby : i.bytes = bytes) (hzs : z.cells.size = size) (hsz : 0 < size) (v : Value) (n : Nat) (xs : List Value) (hr : Rz w base e size v n xs)
    (a : Addr) (m c : Nat) (news : List Value) (hl : news.length = m * size) (hnews : ∀ j u, news[j]? = some u → w.cell? (a.add j) = some u) (h1 : ∀ u ∈ news, u.oneCell' = true) (hm : 0 < m)
    (h63 : n + m ≤ maxLen) (hbytes : (n + m) * bytes ≤ 140737488355328) (hbase : base ≤ w.heap.size) :
    ∃ v' w', (Builtin.append_ #[t, t] ty #[v, .slice (some a) m c]).run P w = .ok v' w' ∧ Rz w' base e size v' (n + m) (xs ++ news) ∧ Below base w w' := by
  obtain ⟨A, cap, rfl, h2, h3, h4, h5, h6⟩ := hr
  by_cases hroom : n + m ≤ cap
  · obtain ⟨g, off, cs, rfl, k2, k3, k4, k5⟩ := h6 (by omega)
    subst hsize
    have hle : off + (n + m) * i.size ≤ cs.size := by
      have := Nat.mul_le_mul_right i.size hroom
      omega
    rw [Nat.add_mul] at hle
    have hrun := run_append_room_cells (P := P) w t ty e i ht hi g off n cap a m c news hl hnews h1 hroom
      (fun j hj => by rw [k3.cell]; simp; omega) (fun j hj => k3.frozen _)
    obtain ⟨cs', b1, b2, b3, b4⟩ := Blk.setCells news (off + n * i.size) w cs k3 (by omega)
    refine ⟨_, _, hrun, ⟨_, _, rfl, by rw [List.length_append, h2, hl, Nat.add_mul], hroom, h4, (fun hh => by cases hh), fun _ => ⟨g, off, cs', rfl, k2, b1, by omega, fun j u hu => ?_⟩⟩, below_setCells g k2 _ _ _ (Below.refl _ _)⟩
    rw [List.getElem?_append] at hu
    split at hu
    · rw [b3 _ (by omega)]
      exact k5 j u hu
    · have := b4 (j - xs.length) u hu
      rwa [show off + n * i.size + (j - xs.length) = off + j by omega] at this
  · cases A with
    | some b =>
      obtain ⟨v', w', hrun, r1, r2⟩ := run_append_arg_grows (P := P) w t ty e i z size bytes ht hi hz hsize hby hzs hsz b n cap xs h2 (fun j u hj => by
        have hn : 0 < cap := by
          have := (List.getElem?_eq_some_iff.1 hj).1
          rcases Nat.eq_zero_or_pos n with h0 | h0
          · subst h0; simp at h2; subst h2; simp at this
          · omega
        obtain ⟨g, off, cs, hb, k2, k3, k4, k5⟩ := h6 hn
        injection hb with hb
        subst hb
        rw [Addr.add_lit]
        exact (k3.cell _).trans (k5 j u hj)) a m c news hl hnews (by omega) h63 hbytes
      refine ⟨v', w', hrun, (Rz.of_own r1).more hbase, ?_⟩
      exact (Below.refl _ _).grown r2 hbase (fun k hk => by cases hk)
    | none =>
      obtain rfl := h5 rfl
      obtain rfl : n = 0 := by omega
      obtain rfl : xs = [] := List.eq_nil_of_length_eq_zero (by simpa using h2)
      obtain ⟨v', w', hrun, r1, r2, _⟩ := run_append_own (P := P) w w.heap.size t ty e i z size bytes ht hi hz hsize hby hzs hsz (.slice none 0 0) 0 [] (World.ownsRow_nil w _ e size) a m c news hl hnews h1 h63 hbytes (Nat.le_refl _)
      refine ⟨v', w', hrun, (Rz.of_own r1).more hbase, ?_⟩
      exact (Below.refl _ _).grown r2 hbase (fun k hk => by cases hk)
theorem Rz.form {w : World} {base : Nat} {e : TypeId} {size : Nat} {v : Value} {n : Nat} {xs : List Value} (h : Rz w base e size v n xs) : ∃ A cap, v = .slice A n cap := by
  obtain ⟨A, cap, h1, _⟩ := h
  exact ⟨A, cap, h1⟩
theorem wpList_append_rz {P : Program} (w : World) {ops : Array Oper} {rest : List Oper} {o : Oper} {a : Act} {Q : Exit → Act → World → Prop} (hgd : o.guard = none) (s x : Operand) (t : TypeId)
    (ho : o.op = .call { callee := .builtin .append, args := #[s, x], argTypes := #[t, t] })
    (e : TypeId) (i : TypeInfo) (z : Value) (size bytes base : Nat) (ht : P.underlying t = some (.slice e)) (hi : P.info? e = some i) (hz : i.zero = some z)
    (hsize : i.size = size) (hby : i.bytes = bytes) (hzs : z.cells.size = size) (hsz : 0 < size) (v : Value) (n : Nat) (xs : List Value) (hs : a.eval s = v) (hr : Rz w base e size v n xs)
    (ad : Addr) (m c : Nat) (news : List Value) (hx : a.eval x = .slice (some ad) m c) (hl : news.length = m * size) (hnews : ∀ j u, news[j]? = some u → w.cell? (ad.add j) = some u) (h1 : ∀ u ∈ news, u.oneCell' = true) (hm : 0 < m)
    (h63 : n + m ≤ maxLen) (hbytes : (n + m) * bytes ≤ 140737488355328) (hbase : base ≤ w.heap.size)
    (h : ∀ v' w', Rz w' base e size v' (n + m) (xs ++ news) → Below base w w' → wpList P ops Q rest (a.put o.dst v') w') : wpList P ops Q (o :: rest) a w := by
  refine wpList_plain hgd fun K hK => ?_
  obtain ⟨v', w', hrun, h2, h3⟩ := run_append_rz (P := P) w t o.type e i z size bytes base ht hi hz hsize hby hzs hsz v n xs hr ad m c news hl hnews h1 hm h63 hbytes hbase
  unfold Oper.wp execOp
  simp only [ho, resolve, invoke, builtin, Sem.run_bind, Sem.run_pure, Result.andThen_ok, List.map_toArray, List.map_cons, List.map_nil, hs, hx, hrun]
  exact hK _ _ (h v' w' h2 h3)
end Go.Proofs.Ytldgfhngieipgaa.kit
