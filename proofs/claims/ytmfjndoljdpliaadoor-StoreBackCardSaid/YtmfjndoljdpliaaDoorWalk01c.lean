/-
  Signs: the reference's value and whole. No condition.
-/
import Derived.Test.YtmfjndoljdpliaaDoorWalk01b
namespace Go.Proofs.YtmfjndoljdpliaaDoor.walk
open Go.RowKit Go.Proofs.YtmfjndoljdpliaaDoor.kit Go.Proofs.YtmfjndoljdpliaaDoor.plain
set_option linter.unusedVariables false

/-- what value answers: where the bytes are just a sign's, that sign -/
def VP (s : ByteArray) (w : World) (e : Ending) (w' : World) : Prop := ∃ n : Int, e = .returned (.int .i64 n) ∧ w = w' ∧ ∀ c, validN c → L s = enc c → n = (c : Int)
/-- behind k bytes the number is m -/
def VR (s : ByteArray) (k m : Nat) : Prop := ∀ c, validN c → L s = enc c → m = c / 64 ^ (s.size - k)

theorem size_enc {s : ByteArray} {c : Nat} (h : L s = enc c) : s.size = encLen c := by rw [← L_length, h, enc_length]
theorem VR.start (s : ByteArray) (x0 : UInt8) (h0 : s.get! 0 = x0) (o : Nat) (h1 : 2 ≤ s.size) (ho : (s.size = 3 → o = 224) ∧ (s.size = 4 → o = 240) ∧ (s.size = 2 → o = 192)) (hle : o ≤ x0.toNat) : VR s 1 (x0.toNat - o) := by
  intro c hv he
  have hs := size_enc he
  have hc : c ≤ 1114111 := by unfold validN at hv; omega
  obtain ⟨e0, _⟩ := bt_enc c hc
  rw [← he, bt_L, h0] at e0
  rw [e0]
  have hp := encLen_pos c
  unfold encLen at hs hp
  by_cases g1 : c < 128
  · rw [if_pos g1] at hs; omega
  rw [if_neg g1] at hs ⊢
  by_cases g2 : c < 2048
  · rw [if_pos g2] at hs ⊢
    rw [hs, ho.2.2 hs]
    simp only [Nat.add_one_sub_one, Nat.pow_one]; omega
  rw [if_neg g2] at hs ⊢
  by_cases g3 : c < 65536
  · rw [if_pos g3] at hs ⊢
    rw [hs, ho.1 hs]
    show 224 + c / 4096 - 224 = c / 4096; omega
  rw [if_neg g3] at hs ⊢
  rw [hs, ho.2.1 hs]
  show 240 + c / 262144 - 240 = c / 262144; omega
theorem VR.low (s : ByteArray) (x0 : UInt8) (h0 : s.get! 0 = x0) (o : Nat) (h1 : 2 ≤ s.size) (ho : (s.size = 3 → o = 224) ∧ (s.size = 4 → o = 240) ∧ (s.size = 2 → o = 192)) (hle : x0.toNat < o) : ∀ c, validN c → L s = enc c → False := by
  intro c hv he
  have hs := size_enc he
  have hc : c ≤ 1114111 := by unfold validN at hv; omega
  obtain ⟨e0, _⟩ := bt_enc c hc
  rw [← he, bt_L, h0] at e0
  unfold encLen at hs
  by_cases g1 : c < 128
  · rw [if_pos g1] at hs; omega
  rw [if_neg g1] at hs e0
  by_cases g2 : c < 2048
  · rw [if_pos g2] at hs e0
    have := ho.2.2 hs; omega
  rw [if_neg g2] at hs e0
  by_cases g3 : c < 65536
  · rw [if_pos g3] at hs e0
    have := ho.1 hs; omega
  rw [if_neg g3] at hs e0
  have := ho.2.1 hs; omega
/-- a later byte of a sign -/
theorem bt_later (c k : Nat) (hv : validN c) (h1 : 1 ≤ k) (h2 : k < encLen c) : bt (enc c) k = 128 + c / 64 ^ (encLen c - 1 - k) % 64 := by
  have hc : c ≤ 1114111 := by unfold validN at hv; omega
  obtain ⟨_, e1, e2, e3⟩ := bt_enc c hc
  have hp := encLen_pos c
  unfold encLen at h2 hp ⊢
  by_cases g1 : c < 128
  · rw [if_pos g1] at h2; omega
  rw [if_neg g1] at h2 e1 ⊢
  by_cases g2 : c < 2048
  · rw [if_pos g2] at h2 e1 ⊢
    obtain rfl : k = 1 := by omega
    rw [e1]; simp
  rw [if_neg g2] at h2 e1 e2 ⊢
  by_cases g3 : c < 65536
  · rw [if_pos g3] at h2 e1 e2 ⊢
    rcases (show k = 1 ∨ k = 2 by omega) with rfl | rfl
    · rw [e1]
    · rw [e2]; simp
  rw [if_neg g3] at h2 e1 e2 e3 ⊢
  rcases (show k = 1 ∨ k = 2 ∨ k = 3 by omega) with rfl | rfl | rfl
  · rw [e1]
  · rw [e2]
  · rw [e3]; simp
theorem VR.step (s : ByteArray) (k m : Nat) (x : UInt8) (hx : s.get! k = x) (h : VR s k m) (h1 : 1 ≤ k) (h2 : k < s.size) : VR s (k + 1) (m * 64 + x.toNat - 128) := by
  intro c hv he
  have hs := size_enc he
  have hb := bt_later c k hv h1 (by omega)
  rw [← he, bt_L, hx] at hb
  have hm := h c hv he
  rw [hb, hm, hs]
  have e : encLen c - k = (encLen c - 1 - k) + 1 := by omega
  have e' : encLen c - (k + 1) = encLen c - 1 - k := by omega
  rw [e, e', Nat.pow_succ, ← Nat.div_div_eq_div_mul]
  omega
theorem VR.out (s : ByteArray) (k : Nat) (x : UInt8) (hx : s.get! k = x) (h1 : 1 ≤ k) (h2 : k < s.size) (hb : x.toNat < 128 ∨ 191 < x.toNat) : ∀ c, validN c → L s = enc c → False := by
  intro c hv he
  have hs := size_enc he
  have hb' := bt_later c k hv h1 (by omega)
  rw [← he, bt_L, hx] at hb'
  omega

set_option maxHeartbeats 1000000 in
theorem value_any (s : ByteArray) (w : World) (h1 : 1 ≤ s.size) (h4 : s.size ≤ 4) : Calls Tryd.prog 50 #[.string s] w (VP s w) := by
  obtain ⟨x0, hx0⟩ : ∃ x0, s.get! 0 = x0 := ⟨_, rfl⟩
  have s0 : s[0]'(Nat.lt_of_lt_of_le Nat.zero_lt_one h1) = x0 := by rw [← hx0]; exact (get!_lt s 0 (by omega)).symm
  have z0 : (0 : Int) < (s.size : Int) := by omega
  have l0 := x0.toNat_lt
  by_cases g1 : s.size < 2
  · have d1 : ((s.size : Int) == 1) = true := by simp; omega
    have hfin : VP s w (.returned (.int .i64 x0.toNat)) w := by
      refine ⟨_, rfl, rfl, fun c hv he => ?_⟩
      have hs := size_enc he
      have hc : c ≤ 1114111 := by unfold validN at hv; omega
      obtain ⟨e0, _⟩ := bt_enc c hc
      rw [← he, bt_L, hx0] at e0
      unfold encLen at hs
      by_cases g : c < 128
      · rw [if_pos g] at e0; omega
      · rw [if_neg g] at hs; (repeat' split at hs) <;> omega
    clear hx0
    go_enter Tryd.func50, Tryd.ntmps50
    go_wp2_with fail
    go_ret
    exact hfin
  have d1 : ((s.size : Int) == 1) = false := by simp; omega
  have ho : ∃ o : Nat, ((s.size = 3 → o = 224) ∧ (s.size = 4 → o = 240) ∧ (s.size = 2 → o = 192)) ∧ ((((s.size : Int) == 3) = true ∧ ((s.size : Int) == 4) = false ∧ o = 224) ∨ (((s.size : Int) == 3) = false ∧ ((s.size : Int) == 4) = true ∧ o = 240) ∨ (((s.size : Int) == 3) = false ∧ ((s.size : Int) == 4) = false ∧ o = 192)) := by
    rcases (show s.size = 3 ∨ s.size = 4 ∨ s.size = 2 by omega) with h | h | h
    · exact ⟨224, ⟨fun _ => rfl, by omega, by omega⟩, .inl ⟨by simp [h], by simp [h], rfl⟩⟩
    · exact ⟨240, ⟨by omega, fun _ => rfl, by omega⟩, .inr (.inl ⟨by simp [h], by simp [h], rfl⟩)⟩
    · exact ⟨192, ⟨by omega, by omega, fun _ => rfl⟩, .inr (.inr ⟨by simp [h], by simp [h], rfl⟩)⟩
  obtain ⟨o, ho1, ho2⟩ := ho
  by_cases hlow : x0.toNat < o
  · have hfin : VP s w (.returned (.int .i64 (-1))) w := ⟨_, rfl, rfl, fun c hv he => (VR.low s x0 hx0 o (by omega) ho1 hlow c hv he).elim⟩
    clear hx0 ho1
    rcases ho2 with ⟨d3, d4, rfl⟩ | ⟨d3, d4, rfl⟩ | ⟨d3, d4, rfl⟩
    all_goals
      go_enter Tryd.func50, Tryd.ntmps50
      go_wp2_with fail
      go_ret
      exact hfin
  · have hst := Lib.hid (VR.start s x0 hx0 o (by omega) ho1 (by omega))
    clear ho1 hx0
    rcases ho2 with ⟨d3, d4, rfl⟩ | ⟨d3, d4, rfl⟩ | ⟨d3, d4, rfl⟩
    all_goals
      go_enter Tryd.func50, Tryd.ntmps50
      go_wp2_with fail
      go_loop [3, 4] (fun n i => ∃ k m : Nat, i = .int .i64 k ∧ n = .int .i64 m ∧ 1 ≤ k ∧ k ≤ s.size ∧ (k ≤ 1 → m ≤ 255) ∧ (k ≤ 2 → m ≤ 16383) ∧ (k ≤ 3 → m ≤ 1048575) ∧ m ≤ 67108863 ∧ VR s k m) (fun _ i => s.size - (intOf i).toNat)
      case atStart => exact ⟨1, _, rfl, by go_num, by omega, by omega, by omega, by omega, by omega, by omega, hst.out⟩
      case round =>
        clear hst
        obtain ⟨k, m, rfl, rfl, hk1, hk2, b1, b2, b3, b4, hR⟩ := hrel
        have HR := Lib.hid hR
        clear hR
        by_cases hlt : k < s.size
        · obtain ⟨x, hx⟩ : ∃ x, s.get! k = x := ⟨_, rfl⟩
          have sk : s[k]'hlt = x := by rw [← hx]; exact (get!_lt s k hlt).symm
          have lx := x.toNat_lt
          have q1 : decide ((k : Int) < (s.size : Int)) = true := decide_eq_true (by omega)
          have i0 : (0 : Int) ≤ (k : Int) := by omega
          have i1 : (k : Int) < (s.size : Int) := by omega
          by_cases c1 : x.toNat < 128
          · have y1 : decide ((x.toNat : Int) < 128) = true := decide_eq_true (by omega)
            have hfin : VP s w (.returned (.int .i64 (-1))) w := ⟨_, rfl, rfl, fun c hv he => (VR.out s k x hx hk1 hlt (.inl c1) c hv he).elim⟩
            clear hx
            go_wp2_with fail
            go_ret
            exact hfin
          · have y1 : decide ((x.toNat : Int) < 128) = false := decide_eq_false (by omega)
            by_cases c2 : 191 < x.toNat
            · have y2 : decide ((191 : Int) < (x.toNat : Int)) = true := decide_eq_true (by omega)
              have hfin : VP s w (.returned (.int .i64 (-1))) w := ⟨_, rfl, rfl, fun c hv he => (VR.out s k x hx hk1 hlt (.inr c2) c hv he).elim⟩
              clear hx
              go_wp2_with fail
              go_ret
              exact hfin
            · have y2 : decide ((191 : Int) < (x.toNat : Int)) = false := decide_eq_false (by omega)
              have HS := Lib.hid (VR.step s k m x hx HR.out hk1 hlt)
              clear hx
              go_wp2_with fail
              go_round
              case rel => exact ⟨k + 1, m * 64 + x.toNat - 128, by go_num, by go_num, by omega, by omega, by omega, by omega, by omega, by omega, HS.out⟩
              case measure => simp [intOf]; omega
        · have q1 : decide ((k : Int) < (s.size : Int)) = false := decide_eq_false (by omega)
          have hfin : VP s w (.returned (.int .i64 m)) w := ⟨_, rfl, rfl, fun c hv he => by
            have := HR.out c hv he
            rw [show s.size - k = 0 by omega, Nat.pow_zero, Nat.div_one] at this
            rw [this]⟩
          go_wp2_with fail
          go_ret
          exact hfin
end Go.Proofs.YtmfjndoljdpliaaDoor.walk
