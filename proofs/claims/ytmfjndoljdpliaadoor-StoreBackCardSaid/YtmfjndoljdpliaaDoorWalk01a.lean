/-
  Bytes: are they a whole sign, or spoilt, or do they want more (utf8.FullRuneInString)? No condition but the library's two tables. (Printed by a program of mine, gen01a.py.)
-/
import Derived.Test.YtmfjndoljdpliaaDoorBase
import Derived.Test.YtmfjndoljdpliaaDoorShelf
import Derived.Test.YtmfjndoljdpliaaDoorPlain01b
import Derived.IntWalk
namespace Go.Proofs.YtmfjndoljdpliaaDoor.walk
open Go.RowKit Go.Proofs.YtmfjndoljdpliaaDoor.kit Go.Proofs.YtmfjndoljdpliaaDoor.plain
set_option linter.unusedVariables false

/-- the library's two tables lie as they were laid -/
def TB (w : World) : Prop := Lib.Utf8Tabs 1 2 w
theorem TB.nx {w w' : World} (h : TB w) (k : Nx w w') : TB w' := by
  refine ⟨fun c hc => ?_, fun i hi => ⟨?_, ?_⟩⟩
  · exact (k.cell (World.block_lt_of_cell? w _ (h.1 c hc))).trans (h.1 c hc)
  · exact (k.cell (World.block_lt_of_cell? w _ (h.2 i hi).1)).trans (h.2 i hi).1
  · exact (k.cell (World.block_lt_of_cell? w _ (h.2 i hi).2)).trans (h.2 i hi).2

theorem q_ite {c : Prop} [Decidable c] {v : Nat} {a b : Nat × Nat × Nat} (h1 : c → a.2.2 = v) (h2 : ¬ c → b.2.2 = v) : (if c then a else b).2.2 = v := by
  by_cases h : c
  · rw [if_pos h]; exact h1 h
  · rw [if_neg h]; exact h2 h
/-- are bytes no beginning alone? -/
def fullB (l : List UInt8) : Bool := decide ((nx l).2.2 = 0)
theorem fullB_t {l : List UInt8} {n b0 b1 b2 b3 : Nat} (hn : l.length = n) (h0 : bt l 0 = b0) (h1 : bt l 1 = b1) (h2 : bt l 2 = b2) (h3 : bt l 3 = b3) (h : (nxN n b0 b1 b2 b3).2.2 = 0) : fullB l = true := by
  subst hn h0 h1 h2 h3; exact decide_eq_true h
theorem fullB_f {l : List UInt8} {n b0 b1 b2 b3 : Nat} (hn : l.length = n) (h0 : bt l 0 = b0) (h1 : bt l 1 = b1) (h2 : bt l 2 = b2) (h3 : bt l 3 = b3) (h : (nxN n b0 b1 b2 b3).2.2 = 3) : fullB l = false := by
  subst hn h0 h1 h2 h3
  refine decide_eq_false ?_
  show ¬ (nxN _ _ _ _ _).2.2 = 0
  rw [h]; decide
theorem get!_lt (s : ByteArray) (k : Nat) (h : k < s.size) : s.get! k = s[k]'h := by
  cases s with
  | mk d => exact getElem!_pos d k h
/-- the bytes that a table's entry stands for -/
theorem first_of (b : Nat) : (Lib.firstT b = 240 → b < 128) ∧ (Lib.firstT b = 241 → 128 ≤ b ∧ (b < 194 ∨ 244 < b)) ∧ (Lib.firstT b = 2 → 194 ≤ b ∧ b < 224) ∧ (Lib.firstT b = 19 → 224 ≤ b ∧ b ≤ 224) ∧ (Lib.firstT b = 3 → (225 ≤ b ∧ b < 237) ∨ (238 ≤ b ∧ b < 240)) ∧
    (Lib.firstT b = 35 → 237 ≤ b ∧ b ≤ 237) ∧ (Lib.firstT b = 52 → 240 ≤ b ∧ b ≤ 240) ∧ (Lib.firstT b = 4 → 241 ≤ b ∧ b < 244) ∧ (Lib.firstT b = 68 → 244 ≤ b ∧ b ≤ 244) := by
  unfold Lib.firstT
  (repeat' split) <;> omega

set_option maxRecDepth 100000 in
set_option maxHeartbeats 1000000 in
theorem full_240 (s : ByteArray) (w : World) (hn : 1 ≤ s.size) (x0 x1 x2 : UInt8) (e0 : s.get! 0 = x0) (e1 : s.get! 1 = x1) (e2 : s.get! 2 = x2) (hX : x0.toNat < 128) (hc : w.cell? ⟨1, x0.toNat, none⟩ = some (.int .u8 240)) :
    Calls Tryd.prog 39 #[.string s] w fun e w' => e = .returned (.bool (fullB (L s))) ∧ Nx w w' := by
  have h0 : bt (L s) 0 = x0.toNat := by rw [bt_L, e0]
  have h1 : bt (L s) 1 = x1.toNat := by rw [bt_L, e1]
  have h2 : bt (L s) 2 = x2.toNat := by rw [bt_L, e2]
  have h3 := @rfl _ (bt (L s) 3)
  have l0 := x0.toNat_lt
  have s0 : s[0]'(Nat.lt_of_lt_of_le Nat.zero_lt_one hn) = x0 := by rw [← e0]; exact (get!_lt s 0 (by omega)).symm
  have z0 : (0 : Int) < (s.size : Int) := by omega
  have z1 : ((s.size : Int) == 0) = false := beq_eq_false_iff_ne.2 (by omega)
  have hL := L_length s
  have HB : fullB (L s) = true := fullB_t hL h0 h1 h2 h3 (by unfold nxN; repeat' (first | (exfalso; omega) | with_reducible rfl | (refine q_ite (fun _ => ?_) fun _ => ?_)))
  rw [HB]
  clear hL h0 h1 h2 h3 e0 e1 e2
  go_enter Tryd.func39, Tryd.ntmps39
  go_wp2_with fail
  go_ret
  exact ⟨rfl, Nx.refl _⟩

set_option maxRecDepth 100000 in
set_option maxHeartbeats 1000000 in
theorem full_241 (s : ByteArray) (w : World) (hn : 1 ≤ s.size) (x0 x1 x2 : UInt8) (e0 : s.get! 0 = x0) (e1 : s.get! 1 = x1) (e2 : s.get! 2 = x2) (hX : 128 ≤ x0.toNat ∧ (x0.toNat < 194 ∨ 244 < x0.toNat)) (hc : w.cell? ⟨1, x0.toNat, none⟩ = some (.int .u8 241)) :
    Calls Tryd.prog 39 #[.string s] w fun e w' => e = .returned (.bool (fullB (L s))) ∧ Nx w w' := by
  have h0 : bt (L s) 0 = x0.toNat := by rw [bt_L, e0]
  have h1 : bt (L s) 1 = x1.toNat := by rw [bt_L, e1]
  have h2 : bt (L s) 2 = x2.toNat := by rw [bt_L, e2]
  have h3 := @rfl _ (bt (L s) 3)
  have l0 := x0.toNat_lt
  have s0 : s[0]'(Nat.lt_of_lt_of_le Nat.zero_lt_one hn) = x0 := by rw [← e0]; exact (get!_lt s 0 (by omega)).symm
  have z0 : (0 : Int) < (s.size : Int) := by omega
  have z1 : ((s.size : Int) == 0) = false := beq_eq_false_iff_ne.2 (by omega)
  have hL := L_length s
  have HB : fullB (L s) = true := fullB_t hL h0 h1 h2 h3 (by unfold nxN; repeat' (first | (exfalso; omega) | with_reducible rfl | (refine q_ite (fun _ => ?_) fun _ => ?_)))
  rw [HB]
  clear hL h0 h1 h2 h3 e0 e1 e2
  go_enter Tryd.func39, Tryd.ntmps39
  go_wp2_with fail
  go_ret
  exact ⟨rfl, Nx.refl _⟩

set_option maxRecDepth 100000 in
set_option maxHeartbeats 1000000 in
theorem full_2 (s : ByteArray) (w : World) (hn : 1 ≤ s.size) (x0 x1 x2 : UInt8) (e0 : s.get! 0 = x0) (e1 : s.get! 1 = x1) (e2 : s.get! 2 = x2) (hX : 194 ≤ x0.toNat ∧ x0.toNat < 224) (hc : w.cell? ⟨1, x0.toNat, none⟩ = some (.int .u8 2)) (ha0 : w.cell? ⟨2, 0, none⟩ = some (.int .u8 128)) (ha1 : w.cell? ⟨2, 1, none⟩ = some (.int .u8 191)) :
    Calls Tryd.prog 39 #[.string s] w fun e w' => e = .returned (.bool (fullB (L s))) ∧ Nx w w' := by
  have h0 : bt (L s) 0 = x0.toNat := by rw [bt_L, e0]
  have h1 : bt (L s) 1 = x1.toNat := by rw [bt_L, e1]
  have h2 : bt (L s) 2 = x2.toNat := by rw [bt_L, e2]
  have h3 := @rfl _ (bt (L s) 3)
  have l0 := x0.toNat_lt
  have s0 : s[0]'(Nat.lt_of_lt_of_le Nat.zero_lt_one hn) = x0 := by rw [← e0]; exact (get!_lt s 0 (by omega)).symm
  have z0 : (0 : Int) < (s.size : Int) := by omega
  have z1 : ((s.size : Int) == 0) = false := beq_eq_false_iff_ne.2 (by omega)
  have hL := L_length s
  by_cases g : 2 ≤ s.size
  · have z2 : (2 : Int) ≤ (s.size : Int) := by omega
    have HB : fullB (L s) = true := fullB_t hL h0 h1 h2 h3 (by unfold nxN; repeat' (first | (exfalso; omega) | with_reducible rfl | (refine q_ite (fun _ => ?_) fun _ => ?_)))
    rw [HB]
    clear hL h0 h1 h2 h3 e0 e1 e2
    go_enter Tryd.func39, Tryd.ntmps39
    go_wp2_with fail
    go_ret
    exact ⟨rfl, Nx.refl _⟩
  have z2 : (s.size : Int) < 2 := by omega
  by_cases g1 : s.size < 2
  · have z3 : decide ((1 : Int) < (s.size : Int)) = false := decide_eq_false (by omega)
    have z4 : decide ((2 : Int) < (s.size : Int)) = false := decide_eq_false (by omega)
    have HB : fullB (L s) = false := fullB_f hL h0 h1 h2 h3 (by unfold nxN; repeat' (first | (exfalso; omega) | with_reducible rfl | (refine q_ite (fun _ => ?_) fun _ => ?_)))
    rw [HB]
    clear hL h0 h1 h2 h3 e0 e1 e2
    go_enter Tryd.func39, Tryd.ntmps39
    go_wp2_with fail
    go_quiet (fail)
    go_wp2_with fail
    go_ret
    exact ⟨rfl, ((Nx.refl _).alloc _).drewN nq⟩
  omega

set_option maxRecDepth 100000 in
set_option maxHeartbeats 1000000 in
theorem full_19 (s : ByteArray) (w : World) (hn : 1 ≤ s.size) (x0 x1 x2 : UInt8) (e0 : s.get! 0 = x0) (e1 : s.get! 1 = x1) (e2 : s.get! 2 = x2) (hX : 224 ≤ x0.toNat ∧ x0.toNat ≤ 224) (hc : w.cell? ⟨1, x0.toNat, none⟩ = some (.int .u8 19)) (ha0 : w.cell? ⟨2, 2, none⟩ = some (.int .u8 160)) (ha1 : w.cell? ⟨2, 3, none⟩ = some (.int .u8 191)) :
    Calls Tryd.prog 39 #[.string s] w fun e w' => e = .returned (.bool (fullB (L s))) ∧ Nx w w' := by
  have h0 : bt (L s) 0 = x0.toNat := by rw [bt_L, e0]
  have h1 : bt (L s) 1 = x1.toNat := by rw [bt_L, e1]
  have h2 : bt (L s) 2 = x2.toNat := by rw [bt_L, e2]
  have h3 := @rfl _ (bt (L s) 3)
  have l0 := x0.toNat_lt
  have s0 : s[0]'(Nat.lt_of_lt_of_le Nat.zero_lt_one hn) = x0 := by rw [← e0]; exact (get!_lt s 0 (by omega)).symm
  have z0 : (0 : Int) < (s.size : Int) := by omega
  have z1 : ((s.size : Int) == 0) = false := beq_eq_false_iff_ne.2 (by omega)
  have hL := L_length s
  by_cases g : 3 ≤ s.size
  · have z2 : (3 : Int) ≤ (s.size : Int) := by omega
    have HB : fullB (L s) = true := fullB_t hL h0 h1 h2 h3 (by unfold nxN; repeat' (first | (exfalso; omega) | with_reducible rfl | (refine q_ite (fun _ => ?_) fun _ => ?_)))
    rw [HB]
    clear hL h0 h1 h2 h3 e0 e1 e2
    go_enter Tryd.func39, Tryd.ntmps39
    go_wp2_with fail
    go_ret
    exact ⟨rfl, Nx.refl _⟩
  have z2 : (s.size : Int) < 3 := by omega
  by_cases g1 : s.size < 2
  · have z3 : decide ((1 : Int) < (s.size : Int)) = false := decide_eq_false (by omega)
    have z4 : decide ((2 : Int) < (s.size : Int)) = false := decide_eq_false (by omega)
    have HB : fullB (L s) = false := fullB_f hL h0 h1 h2 h3 (by unfold nxN; repeat' (first | (exfalso; omega) | with_reducible rfl | (refine q_ite (fun _ => ?_) fun _ => ?_)))
    rw [HB]
    clear hL h0 h1 h2 h3 e0 e1 e2
    go_enter Tryd.func39, Tryd.ntmps39
    go_wp2_with fail
    go_quiet (fail)
    go_wp2_with fail
    go_ret
    exact ⟨rfl, ((Nx.refl _).alloc _).drewN nq⟩
  have z3 : decide ((1 : Int) < (s.size : Int)) = true := decide_eq_true (by omega)
  have z3' : (1 : Int) < (s.size : Int) := by omega
  have s1 : s[1]'(Int.ofNat_lt.1 z3') = x1 := by rw [← e1]; exact (get!_lt s 1 (by omega)).symm
  have l1 := x1.toNat_lt
  by_cases g2 : x1.toNat < 160
  · have y1 : decide ((x1.toNat : Int) < 160) = true := decide_eq_true (by omega)
    have HB : fullB (L s) = true := fullB_t hL h0 h1 h2 h3 (by unfold nxN; repeat' (first | (exfalso; omega) | with_reducible rfl | (refine q_ite (fun _ => ?_) fun _ => ?_)))
    rw [HB]
    clear hL h0 h1 h2 h3 e0 e1 e2
    go_enter Tryd.func39, Tryd.ntmps39
    go_wp2_with fail
    go_quiet (fail)
    go_wp2_with fail
    go_ret
    exact ⟨rfl, ((Nx.refl _).alloc _).drewN nq⟩
  have y1 : decide ((x1.toNat : Int) < 160) = false := decide_eq_false (by omega)
  by_cases g3 : 191 < x1.toNat
  · have y2 : decide ((191 : Int) < (x1.toNat : Int)) = true := decide_eq_true (by omega)
    have HB : fullB (L s) = true := fullB_t hL h0 h1 h2 h3 (by unfold nxN; repeat' (first | (exfalso; omega) | with_reducible rfl | (refine q_ite (fun _ => ?_) fun _ => ?_)))
    rw [HB]
    clear hL h0 h1 h2 h3 e0 e1 e2
    go_enter Tryd.func39, Tryd.ntmps39
    go_wp2_with fail
    go_quiet (fail)
    go_wp2_with fail
    go_ret
    exact ⟨rfl, ((Nx.refl _).alloc _).drewN nq⟩
  have y2 : decide ((191 : Int) < (x1.toNat : Int)) = false := decide_eq_false (by omega)
  · have z4 : decide ((2 : Int) < (s.size : Int)) = false := decide_eq_false (by omega)
    have HB : fullB (L s) = false := fullB_f hL h0 h1 h2 h3 (by unfold nxN; repeat' (first | (exfalso; omega) | with_reducible rfl | (refine q_ite (fun _ => ?_) fun _ => ?_)))
    rw [HB]
    clear hL h0 h1 h2 h3 e0 e1 e2
    go_enter Tryd.func39, Tryd.ntmps39
    go_wp2_with fail
    go_quiet (fail)
    go_wp2_with fail
    go_ret
    exact ⟨rfl, ((Nx.refl _).alloc _).drewN nq⟩

set_option maxRecDepth 100000 in
set_option maxHeartbeats 1000000 in
theorem full_3 (s : ByteArray) (w : World) (hn : 1 ≤ s.size) (x0 x1 x2 : UInt8) (e0 : s.get! 0 = x0) (e1 : s.get! 1 = x1) (e2 : s.get! 2 = x2) (hX : (225 ≤ x0.toNat ∧ x0.toNat < 237) ∨ (238 ≤ x0.toNat ∧ x0.toNat < 240)) (hc : w.cell? ⟨1, x0.toNat, none⟩ = some (.int .u8 3)) (ha0 : w.cell? ⟨2, 0, none⟩ = some (.int .u8 128)) (ha1 : w.cell? ⟨2, 1, none⟩ = some (.int .u8 191)) :
    Calls Tryd.prog 39 #[.string s] w fun e w' => e = .returned (.bool (fullB (L s))) ∧ Nx w w' := by
  have h0 : bt (L s) 0 = x0.toNat := by rw [bt_L, e0]
  have h1 : bt (L s) 1 = x1.toNat := by rw [bt_L, e1]
  have h2 : bt (L s) 2 = x2.toNat := by rw [bt_L, e2]
  have h3 := @rfl _ (bt (L s) 3)
  have l0 := x0.toNat_lt
  have s0 : s[0]'(Nat.lt_of_lt_of_le Nat.zero_lt_one hn) = x0 := by rw [← e0]; exact (get!_lt s 0 (by omega)).symm
  have z0 : (0 : Int) < (s.size : Int) := by omega
  have z1 : ((s.size : Int) == 0) = false := beq_eq_false_iff_ne.2 (by omega)
  have hL := L_length s
  by_cases g : 3 ≤ s.size
  · have z2 : (3 : Int) ≤ (s.size : Int) := by omega
    have HB : fullB (L s) = true := fullB_t hL h0 h1 h2 h3 (by unfold nxN; repeat' (first | (exfalso; omega) | with_reducible rfl | (refine q_ite (fun _ => ?_) fun _ => ?_)))
    rw [HB]
    clear hL h0 h1 h2 h3 e0 e1 e2
    go_enter Tryd.func39, Tryd.ntmps39
    go_wp2_with fail
    go_ret
    exact ⟨rfl, Nx.refl _⟩
  have z2 : (s.size : Int) < 3 := by omega
  by_cases g1 : s.size < 2
  · have z3 : decide ((1 : Int) < (s.size : Int)) = false := decide_eq_false (by omega)
    have z4 : decide ((2 : Int) < (s.size : Int)) = false := decide_eq_false (by omega)
    have HB : fullB (L s) = false := fullB_f hL h0 h1 h2 h3 (by unfold nxN; repeat' (first | (exfalso; omega) | with_reducible rfl | (refine q_ite (fun _ => ?_) fun _ => ?_)))
    rw [HB]
    clear hL h0 h1 h2 h3 e0 e1 e2
    go_enter Tryd.func39, Tryd.ntmps39
    go_wp2_with fail
    go_quiet (fail)
    go_wp2_with fail
    go_ret
    exact ⟨rfl, ((Nx.refl _).alloc _).drewN nq⟩
  have z3 : decide ((1 : Int) < (s.size : Int)) = true := decide_eq_true (by omega)
  have z3' : (1 : Int) < (s.size : Int) := by omega
  have s1 : s[1]'(Int.ofNat_lt.1 z3') = x1 := by rw [← e1]; exact (get!_lt s 1 (by omega)).symm
  have l1 := x1.toNat_lt
  by_cases g2 : x1.toNat < 128
  · have y1 : decide ((x1.toNat : Int) < 128) = true := decide_eq_true (by omega)
    have HB : fullB (L s) = true := fullB_t hL h0 h1 h2 h3 (by unfold nxN; repeat' (first | (exfalso; omega) | with_reducible rfl | (refine q_ite (fun _ => ?_) fun _ => ?_)))
    rw [HB]
    clear hL h0 h1 h2 h3 e0 e1 e2
    go_enter Tryd.func39, Tryd.ntmps39
    go_wp2_with fail
    go_quiet (fail)
    go_wp2_with fail
    go_ret
    exact ⟨rfl, ((Nx.refl _).alloc _).drewN nq⟩
  have y1 : decide ((x1.toNat : Int) < 128) = false := decide_eq_false (by omega)
  by_cases g3 : 191 < x1.toNat
  · have y2 : decide ((191 : Int) < (x1.toNat : Int)) = true := decide_eq_true (by omega)
    have HB : fullB (L s) = true := fullB_t hL h0 h1 h2 h3 (by unfold nxN; repeat' (first | (exfalso; omega) | with_reducible rfl | (refine q_ite (fun _ => ?_) fun _ => ?_)))
    rw [HB]
    clear hL h0 h1 h2 h3 e0 e1 e2
    go_enter Tryd.func39, Tryd.ntmps39
    go_wp2_with fail
    go_quiet (fail)
    go_wp2_with fail
    go_ret
    exact ⟨rfl, ((Nx.refl _).alloc _).drewN nq⟩
  have y2 : decide ((191 : Int) < (x1.toNat : Int)) = false := decide_eq_false (by omega)
  · have z4 : decide ((2 : Int) < (s.size : Int)) = false := decide_eq_false (by omega)
    have HB : fullB (L s) = false := fullB_f hL h0 h1 h2 h3 (by unfold nxN; repeat' (first | (exfalso; omega) | with_reducible rfl | (refine q_ite (fun _ => ?_) fun _ => ?_)))
    rw [HB]
    clear hL h0 h1 h2 h3 e0 e1 e2
    go_enter Tryd.func39, Tryd.ntmps39
    go_wp2_with fail
    go_quiet (fail)
    go_wp2_with fail
    go_ret
    exact ⟨rfl, ((Nx.refl _).alloc _).drewN nq⟩

set_option maxRecDepth 100000 in
set_option maxHeartbeats 1000000 in
theorem full_35 (s : ByteArray) (w : World) (hn : 1 ≤ s.size) (x0 x1 x2 : UInt8) (e0 : s.get! 0 = x0) (e1 : s.get! 1 = x1) (e2 : s.get! 2 = x2) (hX : 237 ≤ x0.toNat ∧ x0.toNat ≤ 237) (hc : w.cell? ⟨1, x0.toNat, none⟩ = some (.int .u8 35)) (ha0 : w.cell? ⟨2, 4, none⟩ = some (.int .u8 128)) (ha1 : w.cell? ⟨2, 5, none⟩ = some (.int .u8 159)) :
    Calls Tryd.prog 39 #[.string s] w fun e w' => e = .returned (.bool (fullB (L s))) ∧ Nx w w' := by
  have h0 : bt (L s) 0 = x0.toNat := by rw [bt_L, e0]
  have h1 : bt (L s) 1 = x1.toNat := by rw [bt_L, e1]
  have h2 : bt (L s) 2 = x2.toNat := by rw [bt_L, e2]
  have h3 := @rfl _ (bt (L s) 3)
  have l0 := x0.toNat_lt
  have s0 : s[0]'(Nat.lt_of_lt_of_le Nat.zero_lt_one hn) = x0 := by rw [← e0]; exact (get!_lt s 0 (by omega)).symm
  have z0 : (0 : Int) < (s.size : Int) := by omega
  have z1 : ((s.size : Int) == 0) = false := beq_eq_false_iff_ne.2 (by omega)
  have hL := L_length s
  by_cases g : 3 ≤ s.size
  · have z2 : (3 : Int) ≤ (s.size : Int) := by omega
    have HB : fullB (L s) = true := fullB_t hL h0 h1 h2 h3 (by unfold nxN; repeat' (first | (exfalso; omega) | with_reducible rfl | (refine q_ite (fun _ => ?_) fun _ => ?_)))
    rw [HB]
    clear hL h0 h1 h2 h3 e0 e1 e2
    go_enter Tryd.func39, Tryd.ntmps39
    go_wp2_with fail
    go_ret
    exact ⟨rfl, Nx.refl _⟩
  have z2 : (s.size : Int) < 3 := by omega
  by_cases g1 : s.size < 2
  · have z3 : decide ((1 : Int) < (s.size : Int)) = false := decide_eq_false (by omega)
    have z4 : decide ((2 : Int) < (s.size : Int)) = false := decide_eq_false (by omega)
    have HB : fullB (L s) = false := fullB_f hL h0 h1 h2 h3 (by unfold nxN; repeat' (first | (exfalso; omega) | with_reducible rfl | (refine q_ite (fun _ => ?_) fun _ => ?_)))
    rw [HB]
    clear hL h0 h1 h2 h3 e0 e1 e2
    go_enter Tryd.func39, Tryd.ntmps39
    go_wp2_with fail
    go_quiet (fail)
    go_wp2_with fail
    go_ret
    exact ⟨rfl, ((Nx.refl _).alloc _).drewN nq⟩
  have z3 : decide ((1 : Int) < (s.size : Int)) = true := decide_eq_true (by omega)
  have z3' : (1 : Int) < (s.size : Int) := by omega
  have s1 : s[1]'(Int.ofNat_lt.1 z3') = x1 := by rw [← e1]; exact (get!_lt s 1 (by omega)).symm
  have l1 := x1.toNat_lt
  by_cases g2 : x1.toNat < 128
  · have y1 : decide ((x1.toNat : Int) < 128) = true := decide_eq_true (by omega)
    have HB : fullB (L s) = true := fullB_t hL h0 h1 h2 h3 (by unfold nxN; repeat' (first | (exfalso; omega) | with_reducible rfl | (refine q_ite (fun _ => ?_) fun _ => ?_)))
    rw [HB]
    clear hL h0 h1 h2 h3 e0 e1 e2
    go_enter Tryd.func39, Tryd.ntmps39
    go_wp2_with fail
    go_quiet (fail)
    go_wp2_with fail
    go_ret
    exact ⟨rfl, ((Nx.refl _).alloc _).drewN nq⟩
  have y1 : decide ((x1.toNat : Int) < 128) = false := decide_eq_false (by omega)
  by_cases g3 : 159 < x1.toNat
  · have y2 : decide ((159 : Int) < (x1.toNat : Int)) = true := decide_eq_true (by omega)
    have HB : fullB (L s) = true := fullB_t hL h0 h1 h2 h3 (by unfold nxN; repeat' (first | (exfalso; omega) | with_reducible rfl | (refine q_ite (fun _ => ?_) fun _ => ?_)))
    rw [HB]
    clear hL h0 h1 h2 h3 e0 e1 e2
    go_enter Tryd.func39, Tryd.ntmps39
    go_wp2_with fail
    go_quiet (fail)
    go_wp2_with fail
    go_ret
    exact ⟨rfl, ((Nx.refl _).alloc _).drewN nq⟩
  have y2 : decide ((159 : Int) < (x1.toNat : Int)) = false := decide_eq_false (by omega)
  · have z4 : decide ((2 : Int) < (s.size : Int)) = false := decide_eq_false (by omega)
    have HB : fullB (L s) = false := fullB_f hL h0 h1 h2 h3 (by unfold nxN; repeat' (first | (exfalso; omega) | with_reducible rfl | (refine q_ite (fun _ => ?_) fun _ => ?_)))
    rw [HB]
    clear hL h0 h1 h2 h3 e0 e1 e2
    go_enter Tryd.func39, Tryd.ntmps39
    go_wp2_with fail
    go_quiet (fail)
    go_wp2_with fail
    go_ret
    exact ⟨rfl, ((Nx.refl _).alloc _).drewN nq⟩

set_option maxRecDepth 100000 in
set_option maxHeartbeats 1000000 in
theorem full_52 (s : ByteArray) (w : World) (hn : 1 ≤ s.size) (x0 x1 x2 : UInt8) (e0 : s.get! 0 = x0) (e1 : s.get! 1 = x1) (e2 : s.get! 2 = x2) (hX : 240 ≤ x0.toNat ∧ x0.toNat ≤ 240) (hc : w.cell? ⟨1, x0.toNat, none⟩ = some (.int .u8 52)) (ha0 : w.cell? ⟨2, 6, none⟩ = some (.int .u8 144)) (ha1 : w.cell? ⟨2, 7, none⟩ = some (.int .u8 191)) :
    Calls Tryd.prog 39 #[.string s] w fun e w' => e = .returned (.bool (fullB (L s))) ∧ Nx w w' := by
  have h0 : bt (L s) 0 = x0.toNat := by rw [bt_L, e0]
  have h1 : bt (L s) 1 = x1.toNat := by rw [bt_L, e1]
  have h2 : bt (L s) 2 = x2.toNat := by rw [bt_L, e2]
  have h3 := @rfl _ (bt (L s) 3)
  have l0 := x0.toNat_lt
  have s0 : s[0]'(Nat.lt_of_lt_of_le Nat.zero_lt_one hn) = x0 := by rw [← e0]; exact (get!_lt s 0 (by omega)).symm
  have z0 : (0 : Int) < (s.size : Int) := by omega
  have z1 : ((s.size : Int) == 0) = false := beq_eq_false_iff_ne.2 (by omega)
  have hL := L_length s
  by_cases g : 4 ≤ s.size
  · have z2 : (4 : Int) ≤ (s.size : Int) := by omega
    have HB : fullB (L s) = true := fullB_t hL h0 h1 h2 h3 (by unfold nxN; repeat' (first | (exfalso; omega) | with_reducible rfl | (refine q_ite (fun _ => ?_) fun _ => ?_)))
    rw [HB]
    clear hL h0 h1 h2 h3 e0 e1 e2
    go_enter Tryd.func39, Tryd.ntmps39
    go_wp2_with fail
    go_ret
    exact ⟨rfl, Nx.refl _⟩
  have z2 : (s.size : Int) < 4 := by omega
  by_cases g1 : s.size < 2
  · have z3 : decide ((1 : Int) < (s.size : Int)) = false := decide_eq_false (by omega)
    have z4 : decide ((2 : Int) < (s.size : Int)) = false := decide_eq_false (by omega)
    have HB : fullB (L s) = false := fullB_f hL h0 h1 h2 h3 (by unfold nxN; repeat' (first | (exfalso; omega) | with_reducible rfl | (refine q_ite (fun _ => ?_) fun _ => ?_)))
    rw [HB]
    clear hL h0 h1 h2 h3 e0 e1 e2
    go_enter Tryd.func39, Tryd.ntmps39
    go_wp2_with fail
    go_quiet (fail)
    go_wp2_with fail
    go_ret
    exact ⟨rfl, ((Nx.refl _).alloc _).drewN nq⟩
  have z3 : decide ((1 : Int) < (s.size : Int)) = true := decide_eq_true (by omega)
  have z3' : (1 : Int) < (s.size : Int) := by omega
  have s1 : s[1]'(Int.ofNat_lt.1 z3') = x1 := by rw [← e1]; exact (get!_lt s 1 (by omega)).symm
  have l1 := x1.toNat_lt
  by_cases g2 : x1.toNat < 144
  · have y1 : decide ((x1.toNat : Int) < 144) = true := decide_eq_true (by omega)
    have HB : fullB (L s) = true := fullB_t hL h0 h1 h2 h3 (by unfold nxN; repeat' (first | (exfalso; omega) | with_reducible rfl | (refine q_ite (fun _ => ?_) fun _ => ?_)))
    rw [HB]
    clear hL h0 h1 h2 h3 e0 e1 e2
    go_enter Tryd.func39, Tryd.ntmps39
    go_wp2_with fail
    go_quiet (fail)
    go_wp2_with fail
    go_ret
    exact ⟨rfl, ((Nx.refl _).alloc _).drewN nq⟩
  have y1 : decide ((x1.toNat : Int) < 144) = false := decide_eq_false (by omega)
  by_cases g3 : 191 < x1.toNat
  · have y2 : decide ((191 : Int) < (x1.toNat : Int)) = true := decide_eq_true (by omega)
    have HB : fullB (L s) = true := fullB_t hL h0 h1 h2 h3 (by unfold nxN; repeat' (first | (exfalso; omega) | with_reducible rfl | (refine q_ite (fun _ => ?_) fun _ => ?_)))
    rw [HB]
    clear hL h0 h1 h2 h3 e0 e1 e2
    go_enter Tryd.func39, Tryd.ntmps39
    go_wp2_with fail
    go_quiet (fail)
    go_wp2_with fail
    go_ret
    exact ⟨rfl, ((Nx.refl _).alloc _).drewN nq⟩
  have y2 : decide ((191 : Int) < (x1.toNat : Int)) = false := decide_eq_false (by omega)
  by_cases g4 : s.size < 3
  · have z4 : decide ((2 : Int) < (s.size : Int)) = false := decide_eq_false (by omega)
    have HB : fullB (L s) = false := fullB_f hL h0 h1 h2 h3 (by unfold nxN; repeat' (first | (exfalso; omega) | with_reducible rfl | (refine q_ite (fun _ => ?_) fun _ => ?_)))
    rw [HB]
    clear hL h0 h1 h2 h3 e0 e1 e2
    go_enter Tryd.func39, Tryd.ntmps39
    go_wp2_with fail
    go_quiet (fail)
    go_wp2_with fail
    go_ret
    exact ⟨rfl, ((Nx.refl _).alloc _).drewN nq⟩
  have z4 : decide ((2 : Int) < (s.size : Int)) = true := decide_eq_true (by omega)
  have z4' : (2 : Int) < (s.size : Int) := by omega
  have s2 : s[2]'(Int.ofNat_lt.1 z4') = x2 := by rw [← e2]; exact (get!_lt s 2 (by omega)).symm
  have l2 := x2.toNat_lt
  by_cases g5 : x2.toNat < 128
  · have y3 : decide ((x2.toNat : Int) < 128) = true := decide_eq_true (by omega)
    have HB : fullB (L s) = true := fullB_t hL h0 h1 h2 h3 (by unfold nxN; repeat' (first | (exfalso; omega) | with_reducible rfl | (refine q_ite (fun _ => ?_) fun _ => ?_)))
    rw [HB]
    clear hL h0 h1 h2 h3 e0 e1 e2
    go_enter Tryd.func39, Tryd.ntmps39
    go_wp2_with fail
    go_quiet (fail)
    go_wp2_with fail
    go_ret
    exact ⟨rfl, ((Nx.refl _).alloc _).drewN nq⟩
  have y3 : decide ((x2.toNat : Int) < 128) = false := decide_eq_false (by omega)
  by_cases g6 : 191 < x2.toNat
  · have y4 : decide ((191 : Int) < (x2.toNat : Int)) = true := decide_eq_true (by omega)
    have HB : fullB (L s) = true := fullB_t hL h0 h1 h2 h3 (by unfold nxN; repeat' (first | (exfalso; omega) | with_reducible rfl | (refine q_ite (fun _ => ?_) fun _ => ?_)))
    rw [HB]
    clear hL h0 h1 h2 h3 e0 e1 e2
    go_enter Tryd.func39, Tryd.ntmps39
    go_wp2_with fail
    go_quiet (fail)
    go_wp2_with fail
    go_ret
    exact ⟨rfl, ((Nx.refl _).alloc _).drewN nq⟩
  · have y4 : decide ((191 : Int) < (x2.toNat : Int)) = false := decide_eq_false (by omega)
    have HB : fullB (L s) = false := fullB_f hL h0 h1 h2 h3 (by unfold nxN; repeat' (first | (exfalso; omega) | with_reducible rfl | (refine q_ite (fun _ => ?_) fun _ => ?_)))
    rw [HB]
    clear hL h0 h1 h2 h3 e0 e1 e2
    go_enter Tryd.func39, Tryd.ntmps39
    go_wp2_with fail
    go_quiet (fail)
    go_wp2_with fail
    go_ret
    exact ⟨rfl, ((Nx.refl _).alloc _).drewN nq⟩

set_option maxRecDepth 100000 in
set_option maxHeartbeats 1000000 in
theorem full_4 (s : ByteArray) (w : World) (hn : 1 ≤ s.size) (x0 x1 x2 : UInt8) (e0 : s.get! 0 = x0) (e1 : s.get! 1 = x1) (e2 : s.get! 2 = x2) (hX : 241 ≤ x0.toNat ∧ x0.toNat < 244) (hc : w.cell? ⟨1, x0.toNat, none⟩ = some (.int .u8 4)) (ha0 : w.cell? ⟨2, 0, none⟩ = some (.int .u8 128)) (ha1 : w.cell? ⟨2, 1, none⟩ = some (.int .u8 191)) :
    Calls Tryd.prog 39 #[.string s] w fun e w' => e = .returned (.bool (fullB (L s))) ∧ Nx w w' := by
  have h0 : bt (L s) 0 = x0.toNat := by rw [bt_L, e0]
  have h1 : bt (L s) 1 = x1.toNat := by rw [bt_L, e1]
  have h2 : bt (L s) 2 = x2.toNat := by rw [bt_L, e2]
  have h3 := @rfl _ (bt (L s) 3)
  have l0 := x0.toNat_lt
  have s0 : s[0]'(Nat.lt_of_lt_of_le Nat.zero_lt_one hn) = x0 := by rw [← e0]; exact (get!_lt s 0 (by omega)).symm
  have z0 : (0 : Int) < (s.size : Int) := by omega
  have z1 : ((s.size : Int) == 0) = false := beq_eq_false_iff_ne.2 (by omega)
  have hL := L_length s
  by_cases g : 4 ≤ s.size
  · have z2 : (4 : Int) ≤ (s.size : Int) := by omega
    have HB : fullB (L s) = true := fullB_t hL h0 h1 h2 h3 (by unfold nxN; repeat' (first | (exfalso; omega) | with_reducible rfl | (refine q_ite (fun _ => ?_) fun _ => ?_)))
    rw [HB]
    clear hL h0 h1 h2 h3 e0 e1 e2
    go_enter Tryd.func39, Tryd.ntmps39
    go_wp2_with fail
    go_ret
    exact ⟨rfl, Nx.refl _⟩
  have z2 : (s.size : Int) < 4 := by omega
  by_cases g1 : s.size < 2
  · have z3 : decide ((1 : Int) < (s.size : Int)) = false := decide_eq_false (by omega)
    have z4 : decide ((2 : Int) < (s.size : Int)) = false := decide_eq_false (by omega)
    have HB : fullB (L s) = false := fullB_f hL h0 h1 h2 h3 (by unfold nxN; repeat' (first | (exfalso; omega) | with_reducible rfl | (refine q_ite (fun _ => ?_) fun _ => ?_)))
    rw [HB]
    clear hL h0 h1 h2 h3 e0 e1 e2
    go_enter Tryd.func39, Tryd.ntmps39
    go_wp2_with fail
    go_quiet (fail)
    go_wp2_with fail
    go_ret
    exact ⟨rfl, ((Nx.refl _).alloc _).drewN nq⟩
  have z3 : decide ((1 : Int) < (s.size : Int)) = true := decide_eq_true (by omega)
  have z3' : (1 : Int) < (s.size : Int) := by omega
  have s1 : s[1]'(Int.ofNat_lt.1 z3') = x1 := by rw [← e1]; exact (get!_lt s 1 (by omega)).symm
  have l1 := x1.toNat_lt
  by_cases g2 : x1.toNat < 128
  · have y1 : decide ((x1.toNat : Int) < 128) = true := decide_eq_true (by omega)
    have HB : fullB (L s) = true := fullB_t hL h0 h1 h2 h3 (by unfold nxN; repeat' (first | (exfalso; omega) | with_reducible rfl | (refine q_ite (fun _ => ?_) fun _ => ?_)))
    rw [HB]
    clear hL h0 h1 h2 h3 e0 e1 e2
    go_enter Tryd.func39, Tryd.ntmps39
    go_wp2_with fail
    go_quiet (fail)
    go_wp2_with fail
    go_ret
    exact ⟨rfl, ((Nx.refl _).alloc _).drewN nq⟩
  have y1 : decide ((x1.toNat : Int) < 128) = false := decide_eq_false (by omega)
  by_cases g3 : 191 < x1.toNat
  · have y2 : decide ((191 : Int) < (x1.toNat : Int)) = true := decide_eq_true (by omega)
    have HB : fullB (L s) = true := fullB_t hL h0 h1 h2 h3 (by unfold nxN; repeat' (first | (exfalso; omega) | with_reducible rfl | (refine q_ite (fun _ => ?_) fun _ => ?_)))
    rw [HB]
    clear hL h0 h1 h2 h3 e0 e1 e2
    go_enter Tryd.func39, Tryd.ntmps39
    go_wp2_with fail
    go_quiet (fail)
    go_wp2_with fail
    go_ret
    exact ⟨rfl, ((Nx.refl _).alloc _).drewN nq⟩
  have y2 : decide ((191 : Int) < (x1.toNat : Int)) = false := decide_eq_false (by omega)
  by_cases g4 : s.size < 3
  · have z4 : decide ((2 : Int) < (s.size : Int)) = false := decide_eq_false (by omega)
    have HB : fullB (L s) = false := fullB_f hL h0 h1 h2 h3 (by unfold nxN; repeat' (first | (exfalso; omega) | with_reducible rfl | (refine q_ite (fun _ => ?_) fun _ => ?_)))
    rw [HB]
    clear hL h0 h1 h2 h3 e0 e1 e2
    go_enter Tryd.func39, Tryd.ntmps39
    go_wp2_with fail
    go_quiet (fail)
    go_wp2_with fail
    go_ret
    exact ⟨rfl, ((Nx.refl _).alloc _).drewN nq⟩
  have z4 : decide ((2 : Int) < (s.size : Int)) = true := decide_eq_true (by omega)
  have z4' : (2 : Int) < (s.size : Int) := by omega
  have s2 : s[2]'(Int.ofNat_lt.1 z4') = x2 := by rw [← e2]; exact (get!_lt s 2 (by omega)).symm
  have l2 := x2.toNat_lt
  by_cases g5 : x2.toNat < 128
  · have y3 : decide ((x2.toNat : Int) < 128) = true := decide_eq_true (by omega)
    have HB : fullB (L s) = true := fullB_t hL h0 h1 h2 h3 (by unfold nxN; repeat' (first | (exfalso; omega) | with_reducible rfl | (refine q_ite (fun _ => ?_) fun _ => ?_)))
    rw [HB]
    clear hL h0 h1 h2 h3 e0 e1 e2
    go_enter Tryd.func39, Tryd.ntmps39
    go_wp2_with fail
    go_quiet (fail)
    go_wp2_with fail
    go_ret
    exact ⟨rfl, ((Nx.refl _).alloc _).drewN nq⟩
  have y3 : decide ((x2.toNat : Int) < 128) = false := decide_eq_false (by omega)
  by_cases g6 : 191 < x2.toNat
  · have y4 : decide ((191 : Int) < (x2.toNat : Int)) = true := decide_eq_true (by omega)
    have HB : fullB (L s) = true := fullB_t hL h0 h1 h2 h3 (by unfold nxN; repeat' (first | (exfalso; omega) | with_reducible rfl | (refine q_ite (fun _ => ?_) fun _ => ?_)))
    rw [HB]
    clear hL h0 h1 h2 h3 e0 e1 e2
    go_enter Tryd.func39, Tryd.ntmps39
    go_wp2_with fail
    go_quiet (fail)
    go_wp2_with fail
    go_ret
    exact ⟨rfl, ((Nx.refl _).alloc _).drewN nq⟩
  · have y4 : decide ((191 : Int) < (x2.toNat : Int)) = false := decide_eq_false (by omega)
    have HB : fullB (L s) = false := fullB_f hL h0 h1 h2 h3 (by unfold nxN; repeat' (first | (exfalso; omega) | with_reducible rfl | (refine q_ite (fun _ => ?_) fun _ => ?_)))
    rw [HB]
    clear hL h0 h1 h2 h3 e0 e1 e2
    go_enter Tryd.func39, Tryd.ntmps39
    go_wp2_with fail
    go_quiet (fail)
    go_wp2_with fail
    go_ret
    exact ⟨rfl, ((Nx.refl _).alloc _).drewN nq⟩

set_option maxRecDepth 100000 in
set_option maxHeartbeats 1000000 in
theorem full_68 (s : ByteArray) (w : World) (hn : 1 ≤ s.size) (x0 x1 x2 : UInt8) (e0 : s.get! 0 = x0) (e1 : s.get! 1 = x1) (e2 : s.get! 2 = x2) (hX : 244 ≤ x0.toNat ∧ x0.toNat ≤ 244) (hc : w.cell? ⟨1, x0.toNat, none⟩ = some (.int .u8 68)) (ha0 : w.cell? ⟨2, 8, none⟩ = some (.int .u8 128)) (ha1 : w.cell? ⟨2, 9, none⟩ = some (.int .u8 143)) :
    Calls Tryd.prog 39 #[.string s] w fun e w' => e = .returned (.bool (fullB (L s))) ∧ Nx w w' := by
  have h0 : bt (L s) 0 = x0.toNat := by rw [bt_L, e0]
  have h1 : bt (L s) 1 = x1.toNat := by rw [bt_L, e1]
  have h2 : bt (L s) 2 = x2.toNat := by rw [bt_L, e2]
  have h3 := @rfl _ (bt (L s) 3)
  have l0 := x0.toNat_lt
  have s0 : s[0]'(Nat.lt_of_lt_of_le Nat.zero_lt_one hn) = x0 := by rw [← e0]; exact (get!_lt s 0 (by omega)).symm
  have z0 : (0 : Int) < (s.size : Int) := by omega
  have z1 : ((s.size : Int) == 0) = false := beq_eq_false_iff_ne.2 (by omega)
  have hL := L_length s
  by_cases g : 4 ≤ s.size
  · have z2 : (4 : Int) ≤ (s.size : Int) := by omega
    have HB : fullB (L s) = true := fullB_t hL h0 h1 h2 h3 (by unfold nxN; repeat' (first | (exfalso; omega) | with_reducible rfl | (refine q_ite (fun _ => ?_) fun _ => ?_)))
    rw [HB]
    clear hL h0 h1 h2 h3 e0 e1 e2
    go_enter Tryd.func39, Tryd.ntmps39
    go_wp2_with fail
    go_ret
    exact ⟨rfl, Nx.refl _⟩
  have z2 : (s.size : Int) < 4 := by omega
  by_cases g1 : s.size < 2
  · have z3 : decide ((1 : Int) < (s.size : Int)) = false := decide_eq_false (by omega)
    have z4 : decide ((2 : Int) < (s.size : Int)) = false := decide_eq_false (by omega)
    have HB : fullB (L s) = false := fullB_f hL h0 h1 h2 h3 (by unfold nxN; repeat' (first | (exfalso; omega) | with_reducible rfl | (refine q_ite (fun _ => ?_) fun _ => ?_)))
    rw [HB]
    clear hL h0 h1 h2 h3 e0 e1 e2
    go_enter Tryd.func39, Tryd.ntmps39
    go_wp2_with fail
    go_quiet (fail)
    go_wp2_with fail
    go_ret
    exact ⟨rfl, ((Nx.refl _).alloc _).drewN nq⟩
  have z3 : decide ((1 : Int) < (s.size : Int)) = true := decide_eq_true (by omega)
  have z3' : (1 : Int) < (s.size : Int) := by omega
  have s1 : s[1]'(Int.ofNat_lt.1 z3') = x1 := by rw [← e1]; exact (get!_lt s 1 (by omega)).symm
  have l1 := x1.toNat_lt
  by_cases g2 : x1.toNat < 128
  · have y1 : decide ((x1.toNat : Int) < 128) = true := decide_eq_true (by omega)
    have HB : fullB (L s) = true := fullB_t hL h0 h1 h2 h3 (by unfold nxN; repeat' (first | (exfalso; omega) | with_reducible rfl | (refine q_ite (fun _ => ?_) fun _ => ?_)))
    rw [HB]
    clear hL h0 h1 h2 h3 e0 e1 e2
    go_enter Tryd.func39, Tryd.ntmps39
    go_wp2_with fail
    go_quiet (fail)
    go_wp2_with fail
    go_ret
    exact ⟨rfl, ((Nx.refl _).alloc _).drewN nq⟩
  have y1 : decide ((x1.toNat : Int) < 128) = false := decide_eq_false (by omega)
  by_cases g3 : 143 < x1.toNat
  · have y2 : decide ((143 : Int) < (x1.toNat : Int)) = true := decide_eq_true (by omega)
    have HB : fullB (L s) = true := fullB_t hL h0 h1 h2 h3 (by unfold nxN; repeat' (first | (exfalso; omega) | with_reducible rfl | (refine q_ite (fun _ => ?_) fun _ => ?_)))
    rw [HB]
    clear hL h0 h1 h2 h3 e0 e1 e2
    go_enter Tryd.func39, Tryd.ntmps39
    go_wp2_with fail
    go_quiet (fail)
    go_wp2_with fail
    go_ret
    exact ⟨rfl, ((Nx.refl _).alloc _).drewN nq⟩
  have y2 : decide ((143 : Int) < (x1.toNat : Int)) = false := decide_eq_false (by omega)
  by_cases g4 : s.size < 3
  · have z4 : decide ((2 : Int) < (s.size : Int)) = false := decide_eq_false (by omega)
    have HB : fullB (L s) = false := fullB_f hL h0 h1 h2 h3 (by unfold nxN; repeat' (first | (exfalso; omega) | with_reducible rfl | (refine q_ite (fun _ => ?_) fun _ => ?_)))
    rw [HB]
    clear hL h0 h1 h2 h3 e0 e1 e2
    go_enter Tryd.func39, Tryd.ntmps39
    go_wp2_with fail
    go_quiet (fail)
    go_wp2_with fail
    go_ret
    exact ⟨rfl, ((Nx.refl _).alloc _).drewN nq⟩
  have z4 : decide ((2 : Int) < (s.size : Int)) = true := decide_eq_true (by omega)
  have z4' : (2 : Int) < (s.size : Int) := by omega
  have s2 : s[2]'(Int.ofNat_lt.1 z4') = x2 := by rw [← e2]; exact (get!_lt s 2 (by omega)).symm
  have l2 := x2.toNat_lt
  by_cases g5 : x2.toNat < 128
  · have y3 : decide ((x2.toNat : Int) < 128) = true := decide_eq_true (by omega)
    have HB : fullB (L s) = true := fullB_t hL h0 h1 h2 h3 (by unfold nxN; repeat' (first | (exfalso; omega) | with_reducible rfl | (refine q_ite (fun _ => ?_) fun _ => ?_)))
    rw [HB]
    clear hL h0 h1 h2 h3 e0 e1 e2
    go_enter Tryd.func39, Tryd.ntmps39
    go_wp2_with fail
    go_quiet (fail)
    go_wp2_with fail
    go_ret
    exact ⟨rfl, ((Nx.refl _).alloc _).drewN nq⟩
  have y3 : decide ((x2.toNat : Int) < 128) = false := decide_eq_false (by omega)
  by_cases g6 : 191 < x2.toNat
  · have y4 : decide ((191 : Int) < (x2.toNat : Int)) = true := decide_eq_true (by omega)
    have HB : fullB (L s) = true := fullB_t hL h0 h1 h2 h3 (by unfold nxN; repeat' (first | (exfalso; omega) | with_reducible rfl | (refine q_ite (fun _ => ?_) fun _ => ?_)))
    rw [HB]
    clear hL h0 h1 h2 h3 e0 e1 e2
    go_enter Tryd.func39, Tryd.ntmps39
    go_wp2_with fail
    go_quiet (fail)
    go_wp2_with fail
    go_ret
    exact ⟨rfl, ((Nx.refl _).alloc _).drewN nq⟩
  · have y4 : decide ((191 : Int) < (x2.toNat : Int)) = false := decide_eq_false (by omega)
    have HB : fullB (L s) = false := fullB_f hL h0 h1 h2 h3 (by unfold nxN; repeat' (first | (exfalso; omega) | with_reducible rfl | (refine q_ite (fun _ => ?_) fun _ => ?_)))
    rw [HB]
    clear hL h0 h1 h2 h3 e0 e1 e2
    go_enter Tryd.func39, Tryd.ntmps39
    go_wp2_with fail
    go_quiet (fail)
    go_wp2_with fail
    go_ret
    exact ⟨rfl, ((Nx.refl _).alloc _).drewN nq⟩

theorem full_any (s : ByteArray) (w : World) (hn : 1 ≤ s.size) (hT : TB w) :
    Calls Tryd.prog 39 #[.string s] w fun e w' => e = .returned (.bool (fullB (L s))) ∧ Nx w w' := by
  have hc := hT.1 (s.get! 0).toNat (UInt8.toNat_lt _)
  obtain ⟨f1, f2, f3, f4, f5, f6, f7, f8, f9⟩ := first_of (s.get! 0).toNat
  rcases Lib.firstT_cases (s.get! 0).toNat with hX | hX | hX | hX | hX | hX | hX | hX | hX
  · rw [hX] at hc
    exact full_240 s w hn _ _ _ rfl rfl rfl (f1 hX) hc
  · rw [hX] at hc
    exact full_241 s w hn _ _ _ rfl rfl rfl (f2 hX) hc
  · rw [hX] at hc
    exact full_2 s w hn _ _ _ rfl rfl rfl (f3 hX) hc (hT.2 0 (by omega)).1 (hT.2 0 (by omega)).2
  · rw [hX] at hc
    exact full_19 s w hn _ _ _ rfl rfl rfl (f4 hX) hc (hT.2 1 (by omega)).1 (hT.2 1 (by omega)).2
  · rw [hX] at hc
    exact full_3 s w hn _ _ _ rfl rfl rfl (f5 hX) hc (hT.2 0 (by omega)).1 (hT.2 0 (by omega)).2
  · rw [hX] at hc
    exact full_35 s w hn _ _ _ rfl rfl rfl (f6 hX) hc (hT.2 2 (by omega)).1 (hT.2 2 (by omega)).2
  · rw [hX] at hc
    exact full_52 s w hn _ _ _ rfl rfl rfl (f7 hX) hc (hT.2 3 (by omega)).1 (hT.2 3 (by omega)).2
  · rw [hX] at hc
    exact full_4 s w hn _ _ _ rfl rfl rfl (f8 hX) hc (hT.2 0 (by omega)).1 (hT.2 0 (by omega)).2
  · rw [hX] at hc
    exact full_68 s w hn _ _ _ rfl rfl rfl (f9 hX) hc (hT.2 4 (by omega)).1 (hT.2 4 (by omega)).2
end Go.Proofs.YtmfjndoljdpliaaDoor.walk
