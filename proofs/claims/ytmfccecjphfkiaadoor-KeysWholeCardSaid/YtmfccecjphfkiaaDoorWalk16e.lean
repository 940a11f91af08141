/-
  Keys: rows of keys; are two the same? what is settled, by the program and by the reference. No condition but a bound on the bytes' number.
-/
import Derived.Test.YtmfccecjphfkiaaDoorWalk16d
namespace Go.Proofs.YtmfccecjphfkiaaDoor.walk
open Go.RowKit Go.Proofs.YtmfccecjphfkiaaDoor.kit Go.Proofs.YtmfccecjphfkiaaDoor.plain
set_option linter.unusedVariables false

def kth (q : List KEY) (i : Nat) : KEY := q.getD i (0, 0)
def flatK (q : List KEY) : List Value := q.flatMap fun x => [.int .i64 x.1, .int .i32 x.2]
theorem flatK_cons (x : KEY) (q : List KEY) : flatK (x :: q) = .int .i64 x.1 :: .int .i32 x.2 :: flatK q := rfl
theorem flatK_snoc (q : List KEY) (x : KEY) : flatK (q ++ [x]) = flatK q ++ [.int .i64 x.1, .int .i32 x.2] := by simp [flatK]
theorem flatK_app (q r : List KEY) : flatK (q ++ r) = flatK q ++ flatK r := by simp [flatK]
theorem flatK_length (q : List KEY) : (flatK q).length = q.length * 2 := by
  induction q with
  | nil => rfl
  | cons x q ih => rw [flatK_cons]; simp only [List.length_cons, ih]; omega
theorem flatK_at (q : List KEY) (j : Nat) (h : j < q.length) : (flatK q)[j * 2]? = some (.int .i64 (kth q j).1) ∧ (flatK q)[j * 2 + 1]? = some (.int .i32 (kth q j).2) := by
  induction q generalizing j with
  | nil => simp at h
  | cons x q ih =>
    cases j with
    | zero => exact ⟨rfl, rfl⟩
    | succ j =>
      have := ih j (by simpa using h)
      have e : kth (x :: q) (j + 1) = kth q j := by simp [kth]
      rw [flatK_cons, e, show (j + 1) * 2 = j * 2 + 1 + 1 by omega]
      simpa using this
/-- a row of keys lies there -/
def KsIn (w : World) (A : Option Addr) (n : Nat) (l : List KEY) : Prop :=
  l.length = n ∧ (0 < n → ∃ b off, A = some ⟨b, off, none⟩ ∧ b < w.heap.size ∧ ∀ j, j < n → w.cell? ⟨b, off + j * 2, none⟩ = some (.int .i64 (kth l j).1) ∧ w.cell? ⟨b, off + j * 2 + 1, none⟩ = some (.int .i32 (kth l j).2))
theorem KsIn.keep {w w' : World} {A : Option Addr} {n : Nat} {l : List KEY} (h : KsIn w A n l) (hb : Nx w w') : KsIn w' A n l :=
  ⟨h.1, fun hn => by
    obtain ⟨b, off, e, hlt, hc⟩ := h.2 hn
    exact ⟨b, off, e, Nat.lt_of_lt_of_le hlt hb.size, fun j hj => ⟨(hb.cell hlt).trans (hc j hj).1, (hb.cell hlt).trans (hc j hj).2⟩⟩⟩
theorem KsIn.at_ {w : World} {A : Option Addr} {n : Nat} {l : List KEY} (h : KsIn w A n l) {j : Nat} (hj : j < n) :
    ∃ b off, A = some ⟨b, off, none⟩ ∧ b < w.heap.size ∧ w.cell? ⟨b, off + j * 2, none⟩ = some (.int .i64 (kth l j).1) ∧ w.cell? ⟨b, off + j * 2 + 1, none⟩ = some (.int .i32 (kth l j).2) := by
  obtain ⟨b, off, e, hlt, hc⟩ := h.2 (by omega)
  exact ⟨b, off, e, hlt, (hc j hj).1, (hc j hj).2⟩
theorem own_keys {w : World} {base : Nat} {A : Option Addr} {n cap : Nat} {l : List KEY} (h : w.ownsRow base 23 2 (.slice A n cap) n (flatK l)) : KsIn w A n l ∧ n = l.length := by
  have hl : l.length = n := by have := h.1; rw [flatK_length] at this; omega
  refine ⟨⟨hl, fun hn => ?_⟩, hl.symm⟩
  obtain ⟨g, cap', hv, hb, hlt⟩ := h.form hn
  injection hv with hv _ _
  subst hv
  have hc := h.cells (g := g) rfl
  refine ⟨g, 0, rfl, hlt, fun j hj => ?_⟩
  obtain ⟨h0, h1⟩ := flatK_at l j (by omega)
  have e0 := hc _ _ h0
  have e1 := hc _ _ h1
  rw [Addr.add_lit] at e0 e1
  exact ⟨e0, by rw [Nat.add_assoc]; exact e1⟩
theorem infoK : (Tryd.prog.info? 23).map (fun i => (i.zero, i.size, i.bytes)) = some (some (.agg #[.int .i64 0, .int .i32 0]), 2, 16) := by kernel_rfl
theorem key_one {x y : Int} : ∀ u ∈ [Value.int .i64 x, .int .i32 y], u.oneCell' = true := by
  intro u hu; simp at hu; rcases hu with rfl | rfl <;> rfl
theorem key_new (w : World) (x y : Int) (t : TypeId) : ∀ j u, [Value.int .i64 x, .int .i32 y][j]? = some u → (w.alloc (.cells #[.int .i64 x, .int .i32 y] t)).cell? ((⟨w.heap.size, 0, none⟩ : Addr).add j) = some u := by
  intro j u hu
  rw [Addr.add_lit, (Blk.new w t _).cell, Nat.zero_add]
  rw [← hu]; simp
theorem key_new2 (w : World) (o : Obj) (x y : Int) (t : TypeId) : ∀ j u, [Value.int .i64 x, .int .i32 y][j]? = some u → ((w.alloc o).alloc (.cells #[.int .i64 x, .int .i32 y] t)).cell? ((⟨w.heap.size + 1, 0, none⟩ : Addr).add j) = some u := by
  have := key_new (w.alloc o) x y t
  rw [World.size_alloc] at this
  exact this
/-- rows of two kinds of elements never share a block -/
theorem own_types {w : World} {b1 b2 : Nat} {e1 e2 : TypeId} {s1 s2 : Nat} {v1 v2 : Value} {n1 n2 : Nat} {x1 x2 : List Value} (h1 : w.ownsRow b1 e1 s1 v1 n1 x1) (h2 : w.ownsRow b2 e2 s2 v2 n2 x2) (hne : e1 ≠ e2) : v1.ownBlock = none ∨ v1.ownBlock ≠ v2.ownBlock := by
  rcases h1.2 with ⟨rfl, _⟩ | ⟨g, cap, cur, rfl, _, hh, _⟩
  · exact .inl rfl
  · right
    rcases h2.2 with ⟨rfl, _⟩ | ⟨g', cap', cur', rfl, _, hh', _⟩
    · simp [Value.ownBlock]
    · intro e
      have : g = g' := by simpa [Value.ownBlock] using e
      subst this
      rw [hh] at hh'
      injection hh' with hh'
      injection hh' with _ ht
      exact hne ht
theorem own_nx {w w' : World} {base : Nat} {e : TypeId} {size : Nat} {v : Value} {n : Nat} {xs : List Value} (h : w.ownsRow base e size v n xs) (x : Nx w w') : w'.ownsRow base e size v n xs := own_keep h fun g _ hg => x.block hg

set_option maxHeartbeats 1000000 in
theorem same_keys (w : World) (A B : Option Addr) (n ca cb : Nat) (l : List KEY) (h1 : KsIn w A n l) (h2 : KsIn w B n l) (hn : n ≤ 9223372036854775806) :
    Calls Tryd.prog 14 #[.slice A n ca, .slice B n cb] w fun e w' => e = .returned (.bool true) ∧ Nx w w' := by
  have q0 : ((n : Int) != (n : Int)) = false := by simp
  go_enter Tryd.func14, Tryd.ntmps14
  go_wp2_with fail
  go_loopw [4, 5] (fun _ i wr => ∃ k : Nat, k ≤ n ∧ i = .int .i64 k ∧ Nx w wr) (fun _ i _ => n - (intOf i).toNat)
  case atStart => exact ⟨0, Nat.zero_le _, rfl, Nx.refl _⟩
  case round =>
    obtain ⟨k, hk, rfl, hN⟩ := hrel
    by_cases hlt : k < n
    · obtain ⟨a, off, rfl, la, a0, a1⟩ := h1.at_ hlt
      obtain ⟨b, of2, rfl, lb, b0, b1⟩ := h2.at_ hlt
      have c0 := (hN.cell (p := ⟨a, off + k * 2, none⟩) la).trans a0
      have c1 := (hN.cell (p := ⟨a, off + k * 2 + 1, none⟩) la).trans a1
      have d0 := (hN.cell (p := ⟨b, of2 + k * 2, none⟩) lb).trans b0
      have d1 := (hN.cell (p := ⟨b, of2 + k * 2 + 1, none⟩) lb).trans b1
      have q1 : decide ((k : Int) < (n : Int)) = true := decide_eq_true (by omega)
      have q1' : decide (k < n) = true := decide_eq_true hlt
      have hi0 : (0 : Int) ≤ (k : Int) := by omega
      have hi1 : (k : Int) < (n : Int) := by omega
      clear a0 a1 b0 b1
      go_wp2_with fail
      go_quiet (fail)
      go_wp2_with fail
      go_roundw
      case rel => exact ⟨k + 1, by omega, by go_num, hN.drewN _⟩
      case measure => simp [intOf]; omega
    · have q1 : decide ((k : Int) < (n : Int)) = false := decide_eq_false (by omega)
      have q1' : decide (k < n) = false := decide_eq_false hlt
      go_wp2_with fail
      go_ret
      exact ⟨rfl, hN⟩

/-- a row of keys is handed back that the call made -/
def KP (ks : List KEY) (w : World) (e : Ending) (w' : World) : Prop := ∃ A n cap, e = .returned (.slice A n cap) ∧ w'.ownsRow w.heap.size 23 2 (.slice A n cap) n (flatK ks) ∧ Nx w w'
def runes (zs : List Int) : List KEY := zs.map fun z => (1, z)
theorem settle_no {l : List UInt8} (h : bt l 0 ≠ 27) : settleK l = [] ++ runes (decI l) := by rw [settleK, if_neg h, runes, decI, List.map_map]; rfl
theorem settle_yes {l : List UInt8} (h : bt l 0 = 27) : settleK l = [(10, 0)] ++ runes (decI (l.drop 1)) := by rw [settleK, if_pos h, runes, decI, List.map_map]; rfl
theorem runes_snoc {zs : List Int} {k : Nat} (h : k < zs.length) : runes (zs.take (k + 1)) = runes (zs.take k) ++ [(1, nth zs k)] := by
  rw [take_nth h]; simp [runes]

/-- at the head of Settle's loop -/
def SR (w : World) (pre : List KEY) (zs : List Int) (D : Value) (n k : Nat) (v : Value) (wr : World) : Prop :=
  zs.length = n ∧ k ≤ n ∧ wr.ownsRow w.heap.size 21 1 D n (zs.map (Value.int .i32)) ∧ wr.ownsRow w.heap.size 23 2 v (pre.length + k) (flatK (pre ++ runes (zs.take k))) ∧ Nx w wr
theorem SR.step {w : World} {pre : List KEY} {zs : List Int} {D : Value} {n k : Nat} {v : Value} {wr w1 : World} {o : Obj} {g cap : Nat} (h : SR w pre zs D n k v wr) (hk : k < n)
    (r1 : w1.ownsRow w.heap.size 23 2 (.slice (some ⟨g, 0, none⟩) (pre.length + k + 1) cap) (pre.length + k + 1) (flatK (pre ++ runes (zs.take k)) ++ [.int .i64 1, .int .i32 (nth zs k)]))
    (r2 : (wr.alloc o).grownBy w1 v.ownBlock) : SR w pre zs D n (k + 1) (.slice (some ⟨g, 0, none⟩) (pre.length + k + 1) cap) w1 := by
  obtain ⟨h1, h2, h3, h4, h5⟩ := h
  have ht := own_types h3 h4 (by decide)
  refine ⟨h1, by omega, (h3.alloc o).kept r2 ht, ?_, (h5.alloc o).grown r2 (fun k hk => (h4.lt k hk).1)⟩
  rw [runes_snoc (by omega), ← List.append_assoc, flatK_snoc]
  exact r1
theorem SR.out {w : World} {pre : List KEY} {zs : List Int} {D : Value} {n : Nat} {A : Option Addr} {m cap : Nat} {wr : World} (h : SR w pre zs D n n (.slice A m cap) wr) (hm : m = pre.length + n) : KP (pre ++ runes zs) w (.returned (.slice A m cap)) wr := by
  obtain ⟨h1, h2, h3, h4, h5⟩ := h
  rw [List.take_of_length_le (by omega)] at h4
  subst hm
  exact ⟨A, _, cap, rfl, h4, h5⟩
end Go.Proofs.YtmfccecjphfkiaaDoor.walk
