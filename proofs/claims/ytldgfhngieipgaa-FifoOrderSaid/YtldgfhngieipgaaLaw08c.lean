/-
  The walk of the law FifoOrder: it returns true for every input. No condition.
-/
import Derived.Test.YtldgfhngieipgaaWalk08f
import Derived.Test.YtldgfhngieipgaaWalk08g
import Derived.Test.YtldgfhngieipgaaOpen08
import Derived.Deep.AppendLies
namespace Go.Proofs.Ytldgfhngieipgaa.walk
open Go.RowKit Go.Proofs.Ytldgfhngieipgaa.kit
set_option linter.unusedVariables false

theorem flat_length (q : List (Int × Int)) : (flat q).length = q.length * 2 := by
  induction q with
  | nil => rfl
  | cons x q ih => rw [flat_cons]; simp only [List.length_cons, ih]; omega
theorem flat_at (q : List (Int × Int)) (j : Nat) (h : j < q.length) : (flat q)[j * 2]? = some (.int .u8 (qth q j).1) ∧ (flat q)[j * 2 + 1]? = some (.int .i64 (qth q j).2) := by
  induction q generalizing j with
  | nil => simp at h
  | cons x q ih =>
    cases j with
    | zero => exact ⟨rfl, rfl⟩
    | succ j =>
      have := ih j (by simpa using h)
      rw [flat_cons, qth_cons, show (j + 1) * 2 = j * 2 + 1 + 1 by omega]
      simpa using this
theorem own_st {w : World} {base : Nat} {v : Value} {n : Nat} {l : List (Int × Int)} (h : w.ownsRow base 31 2 v n (flat l)) : ∃ A cap, v = .slice A n cap ∧ StIn w A n l := by
  have hl : l.length = n := by have := h.1; rw [flat_length] at this; omega
  obtain ⟨A, cap, rfl⟩ := (Rz.of_own h).form
  refine ⟨A, cap, rfl, hl, fun hn => ?_⟩
  obtain ⟨g, off, cap', hv, _, _, hb, hlt, hc⟩ := (Rz.of_own h).at_ hn
  injection hv with hv _ _
  subst hv
  refine ⟨g, off, rfl, hlt, fun j hj => ?_⟩
  obtain ⟨h0, h1⟩ := flat_at l j (by omega)
  exact ⟨hc _ _ h0, by have := hc _ _ h1; rwa [← Nat.add_assoc] at this⟩
theorem own_keep {w w' : World} {base : Nat} {e : TypeId} {size : Nat} {v : Value} {n : Nat} {xs : List Value} (h : w.ownsRow base e size v n xs) (hk : ∀ g, base ≤ g → g < w.heap.size → w'.heap[g]? = w.heap[g]?) : w'.ownsRow base e size v n xs := by
  refine ⟨h.1, ?_⟩
  have hlt := h.lt
  rcases h.2 with h0 | ⟨g, cap, cur, rfl, hb, hh, h3⟩
  · exact .inl h0
  · refine .inr ⟨g, cap, cur, rfl, hb, ?_, h3⟩
    have hl := hlt g rfl
    rw [hk g hb hl.2]
    exact hh

set_option maxHeartbeats 1000000 in
theorem same_eq (w : World) (A B : Option Addr) (n ca cb : Nat) (l : List (Int × Int)) (h1 : StIn w A n l) (h2 : StIn w B n l) (hn : n ≤ 9223372036854775806) :
    Calls Try.prog 15 #[.slice A n ca, .slice B n cb] w fun e w' => e = .returned (.bool true) ∧ Nx w w' := by
  have q0 : ((n : Int) != (n : Int)) = false := by simp
  go_enter Try.func15, Try.ntmps15
  go_wp2_with fail
  go_loopw [4, 5] (fun _ i wr => ∃ k : Nat, k ≤ n ∧ i = .int .i64 k ∧ Nx w wr) (fun _ i _ => n - (intOf i).toNat)
  case atStart => exact ⟨0, Nat.zero_le _, rfl, Nx.refl _⟩
  case round =>
    obtain ⟨k, hk, rfl, hN⟩ := hrel
    by_cases hlt : k < n
    · obtain ⟨a, off, rfl, la, a0, a1⟩ := h1.at_ hlt
      obtain ⟨b, of2, rfl, lb, b0, b1⟩ := h2.at_ hlt
      have c0 := (hN.cell (p := ⟨a, off + k * 2, none⟩) la).trans a0
      have c1 := (hN.cell (p := ⟨a, off + k * 2 + 1, none⟩) la).trans a1
      have d0 := (hN.cell (p := ⟨b, of2 + k * 2, none⟩) lb).trans b0
      have d1 := (hN.cell (p := ⟨b, of2 + k * 2 + 1, none⟩) lb).trans b1
      have q1 : decide ((k : Int) < (n : Int)) = true := decide_eq_true (by omega)
      have q1' : decide (k < n) = true := decide_eq_true hlt
      have hi0 : (0 : Int) ≤ (k : Int) := by omega
      have hi1 : (k : Int) < (n : Int) := by omega
      clear a0 a1 b0 b1
      go_wp2_with fail
      go_quiet (fail)
      go_wp2_with fail
      go_roundw
      case rel => exact ⟨k + 1, by omega, by go_num, hN.drewN _⟩
      case measure => simp [intOf]; omega
    · have q1 : decide ((k : Int) < (n : Int)) = false := decide_eq_false (by omega)
      have q1' : decide (k < n) = false := decide_eq_false hlt
      go_wp2_with fail
      go_ret
      exact ⟨rfl, hN⟩

def slen : Value → Nat
  | .slice _ n _ => n
  | _ => 0
/-- what holds at the head of both loops -/
def OR (w : World) (R k : Nat) (q ins outs : List (Int × Int)) (last lost : Int) (gi ci go co : Nat) (wr : World) : Prop :=
  ins = outs ++ q ∧ FI wr (w.heap.size + 1) w.heap.size R q last lost ∧ wr.ownsRow (w.heap.size + 2) 31 2 (.slice (some ⟨gi, 0, none⟩) ins.length ci) ins.length (flat ins) ∧
    wr.ownsRow (w.heap.size + 2) 31 2 (.slice (some ⟨go, 0, none⟩) outs.length co) outs.length (flat outs) ∧ gi ≠ go ∧ ins.length ≤ k ∧ 0 ≤ lost ∧ lost ≤ k ∧ 0 ≤ last ∧ Nx w wr
section
variable {w wr w' : World} {R k : Nat} {q ins outs : List (Int × Int)} {last lost : Int} {gi ci go co : Nat}
theorem OR.nx (h : OR w R k q ins outs last lost gi ci go co wr) (x : Nx wr w') : OR w R k q ins outs last lost gi ci go co w' := by
  obtain ⟨h1, h2, h3, h4, h5, h6, h7, h8, h9, h10⟩ := h
  exact ⟨h1, h2.nx x, own_keep h3 fun g _ hg => x.block hg, own_keep h4 fun g _ hg => x.block hg, h5, h6, h7, h8, h9, h10.trans x⟩
theorem OR.up (h : OR w R k q ins outs last lost gi ci go co wr) : OR w R (k + 1) q ins outs last lost gi ci go co wr := by
  obtain ⟨h1, h2, h3, h4, h5, h6, h7, h8, h9, h10⟩ := h
  exact ⟨h1, h2, h3, h4, h5, by omega, h7, by omega, h9, h10⟩
/-- the fifo's own blocks have turned -/
theorem OR.fifo {q' : List (Int × Int)} {last' lost' : Int} (h : OR w R k q ins outs last lost gi ci go co wr) (hF : FI w' (w.heap.size + 1) w.heap.size R q' last' lost') (x : Only2 (w.heap.size + 1) w.heap.size wr w') :
    w'.ownsRow (w.heap.size + 2) 31 2 (.slice (some ⟨gi, 0, none⟩) ins.length ci) ins.length (flat ins) ∧
    w'.ownsRow (w.heap.size + 2) 31 2 (.slice (some ⟨go, 0, none⟩) outs.length co) outs.length (flat outs) ∧ Nx w w' := by
  obtain ⟨h1, h2, h3, h4, h5, h6, h7, h8, h9, h10⟩ := h
  exact ⟨own_keep h3 fun g hg hl => x.block g hl (by omega) (by omega), own_keep h4 fun g hg hl => x.block g hl (by omega) (by omega), Nx.only h10 x (by omega) (by omega)⟩
theorem FI.grown {a g R : Nat} {row : Option Nat} (h : FI wr a g R q last lost) (k : wr.grownBy w' row) (h1 : some a ≠ row) (h2 : some g ≠ row) : FI w' a g R q last lost := by
  obtain ⟨fr, cs, b1, b2, b3⟩ := h
  exact ⟨fr, cs, b1.grown k h1, b2.grown k h2, b3⟩
end
end Go.Proofs.Ytldgfhngieipgaa.walk
