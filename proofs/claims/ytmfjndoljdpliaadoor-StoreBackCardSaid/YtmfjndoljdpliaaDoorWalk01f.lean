/-
  Signs: the reference's Next. No condition but a bound on the bytes' number.
-/
import Derived.Test.YtmfjndoljdpliaaDoorWalk01e
namespace Go.Proofs.YtmfjndoljdpliaaDoor.walk
open Go.RowKit Go.Proofs.YtmfjndoljdpliaaDoor.kit Go.Proofs.YtmfjndoljdpliaaDoor.plain
set_option linter.unusedVariables false

theorem L_extract (s : ByteArray) (a b : Nat) : L (s.extract a b) = ((L s).take b).drop a := by
  unfold L
  rw [ByteArray.data_extract]
  simp [List.extract_eq_take_drop, List.drop_take]
theorem pre_nx {l : List UInt8} {k c : Nat} (hv : validN c) (hk : l.take k = enc c) (hle : k ≤ l.length) : nx l = (c, k, 0) := by
  have hlen : k = encLen c := by rw [← enc_length, ← hk, List.length_take]; omega
  have h := nx_enc c hv (l.drop k)
  rw [← hk, List.take_append_drop] at h
  rw [h, hlen]
theorem whole_pre (s a : ByteArray) (k : Nat) (h1 : 1 ≤ k) (h4 : k ≤ 4) (hk : k ≤ s.size) (ha : L a = (L s).take k) :
    (∃ c : Nat, nx (L s) = (c, k, 0) ∧ ∀ w, Calls Tryd.prog 43 #[.string a] w fun e w' => e = .returned (.tuple #[.int .i32 c, .bool true]) ∧ Nx w w') ∨
    ((∀ c, validN c → (L s).take k ≠ enc c) ∧ ∀ w, Calls Tryd.prog 43 #[.string a] w (WN w)) := by
  have hsz : a.size = k := by rw [← L_length, ha, List.length_take, L_length]; omega
  by_cases h : ∃ c, validN c ∧ (L s).take k = enc c
  · obtain ⟨c, hv, he⟩ := h
    exact .inl ⟨c, pre_nx hv he (by rw [L_length]; exact hk), fun w => whole_yes a w c hv (ha.trans he)⟩
  · refine .inr ⟨fun c hv he => h ⟨c, hv, he⟩, fun w => whole_no a w (by omega) (by omega) fun c hv he => h ⟨c, hv, ?_⟩⟩
    rw [← ha, he]
/-- no beginning of the bytes is a sign: they want more, or are spoilt -/
theorem nx_none (l : List UInt8) (hl : l ≠ []) (h : ∀ j, 1 ≤ j → j ≤ 4 → j ≤ l.length → ∀ c, validN c → l.take j ≠ enc c) : nx l = (if moreB l = true then (0, 0, 3) else (65533, 1, 0)) := by
  rcases nx_kinds l with ⟨r, k, e⟩ | e | ⟨_, e⟩
  · have hm : ¬ moreP l := fun hm => by rw [(moreP_iff l hl).1 hm] at e; simp at e
    rw [moreB_f hm]
    rcases nx_ok _ _ _ e with ⟨rfl, rfl⟩ | ⟨hv, hk, hle, ht⟩
    · exact e
    · have := encLen_pos r
      exact (h k (by omega) (by omega) hle r hv ht).elim
  · rw [moreB_t ((moreP_iff l hl).2 e)]; exact e
  · exact absurd e hl
theorem L_ne {s : ByteArray} (h : 1 ≤ s.size) : L s ≠ [] := fun e => by have := L_length s; rw [e] at this; simp at this; omega

set_option maxRecDepth 100000 in
set_option maxHeartbeats 2000000 in
theorem rnext_any (s : ByteArray) (w : World) (hs : s.size ≤ 1000000) : Calls Tryd.prog 36 #[.string s] w fun e w' => e = .returned (nxV (L s)) ∧ Nx w w' := by
  rcases Nat.lt_or_ge s.size 1 with h0 | h0
  · obtain rfl := size_nil (show s.size = 0 by omega)
    go_enter Tryd.func36, Tryd.ntmps36
    go_wp2_with fail
    go_ret3
    exact ⟨rfl, Nx.refl _⟩
  · obtain ⟨e1, e2⟩ := str_ne h0
    generalize hV : nxV (L s) = V
    have HV := Lib.hid hV
    clear hV
    go_enter Tryd.func36, Tryd.ntmps36
    go_wp2_with fail
    go_loopw [5, 6, 7] (fun n _ _ wr => ∃ k : Nat, n = .int .i64 k ∧ 1 ≤ k ∧ k ≤ 5 ∧ k ≤ s.size + 1 ∧ Hid (∀ j, 1 ≤ j → j < k → ∀ c, validN c → (L s).take j ≠ enc c) ∧ Nx w wr) (fun n _ _ _ => 6 - (intOf n).toNat)
    case atStart => exact ⟨1, rfl, by omega, by omega, by omega, fun j h1 h2 => by omega, Nx.refl _⟩
    case round =>
      obtain ⟨k, rfl, hk1, hk2, hk3, HA, hN⟩ := hrel
      by_cases hk : k ≤ 4 ∧ k ≤ s.size
      · obtain ⟨hk4, hks⟩ := hk
        have q1 : decide ((k : Int) ≤ 4) = true := decide_eq_true (by omega)
        have q2 : decide ((k : Int) ≤ (s.size : Int)) = true := decide_eq_true (by omega)
        have q2' : decide (k ≤ s.size) = true := decide_eq_true (by omega)
        have i0 : (0 : Int) ≤ (k : Int) := by omega
        have i1 : (k : Int) ≤ (s.size : Int) := by omega
        rcases whole_pre s (s.extract 0 k) k hk1 hk4 hks (by rw [L_extract]; rfl) with ⟨c, hc, hC⟩ | ⟨hno, hC⟩
        · obtain ⟨z, hz⟩ : ∃ z : Int, (c : Int) = z := ⟨_, rfl⟩
          rw [hz] at hC
          have HC := Lib.hid hC
          clear hC
          obtain rfl : V = .tuple #[.int .i32 z, .int .i64 k, .int .i64 0] := by rw [← HV.out]; simp [nxV, hc, hz]
          clear HV HA hc hz
          go_wp2_with fail
          refine (HC.out _).mono ?_
          rintro e w2 ⟨rfl, x2⟩
          clear HC
          go_wp2_with fail
          go_ret3
          exact ⟨rfl, hN.trans x2⟩
        · have HC := Lib.hid hC
          have HNO := Lib.hid hno
          clear hC hno
          go_wp2_with fail
          refine (HC.out _).mono ?_
          rintro e w2 ⟨z, rfl, x2⟩
          clear HC
          go_wp2_with fail
          go_roundw
          case rel =>
            refine ⟨k + 1, by go_num, by omega, by omega, by omega, Lib.hid fun j h1 h2 => ?_, hN.trans x2⟩
            rcases Nat.lt_or_ge j k with h3 | h3
            · exact HA.out j h1 h3
            · obtain rfl : j = k := by omega
              exact HNO.out
          case measure => simp [intOf]; omega
      · have hnx := nx_none (L s) (L_ne h0) (fun j h1 h2 h3 => HA.out j h1 (by rw [L_length] at h3; omega))
        have cM := fun W => more_any s W h0 hs
        have hx : ¬ k ≤ 4 ∨ (k ≤ 4 ∧ ¬ k ≤ s.size) := by omega
        have hVV : V = .tuple #[.int .i32 (if moreB (L s) = true then (0, 0, 3) else (65533, 1, 0) : Nat × Nat × Nat).1, .int .i64 (if moreB (L s) = true then (0, 0, 3) else (65533, 1, 0) : Nat × Nat × Nat).2.1, .int .i64 (if moreB (L s) = true then (0, 0, 3) else (65533, 1, 0) : Nat × Nat × Nat).2.2] := by rw [← HV.out, nxV, hnx]
        clear hnx HA HV hk
        cases hB : moreB (L s) with
        | true =>
          rw [hB] at cM hVV
          obtain rfl : V = .tuple #[.int .i32 0, .int .i64 0, .int .i64 3] := by rw [hVV]; rfl
          have CM := Lib.hid cM
          clear cM hVV hB
          rcases hx with hx | ⟨hx1, hx2⟩
          · have q1 : decide ((k : Int) ≤ 4) = false := decide_eq_false (by omega)
            go_wp2_with fail
            refine (CM.out _).mono ?_
            rintro e w2 ⟨rfl, x2⟩
            clear CM
            go_wp2_with fail
            go_ret3
            exact ⟨rfl, hN.trans x2⟩
          · have q1 : decide ((k : Int) ≤ 4) = true := decide_eq_true (by omega)
            have q2 : decide ((k : Int) ≤ (s.size : Int)) = false := decide_eq_false (by omega)
            have q2' : decide (k ≤ s.size) = false := decide_eq_false (by omega)
            go_wp2_with fail
            refine (CM.out _).mono ?_
            rintro e w2 ⟨rfl, x2⟩
            clear CM
            go_wp2_with fail
            go_ret3
            exact ⟨rfl, hN.trans x2⟩
        | false =>
          rw [hB] at cM hVV
          obtain rfl : V = .tuple #[.int .i32 65533, .int .i64 1, .int .i64 0] := by rw [hVV]; rfl
          have CM := Lib.hid cM
          clear cM hVV hB
          rcases hx with hx | ⟨hx1, hx2⟩
          · have q1 : decide ((k : Int) ≤ 4) = false := decide_eq_false (by omega)
            go_wp2_with fail
            refine (CM.out _).mono ?_
            rintro e w2 ⟨rfl, x2⟩
            clear CM
            go_wp2_with fail
            go_ret3
            exact ⟨rfl, hN.trans x2⟩
          · have q1 : decide ((k : Int) ≤ 4) = true := decide_eq_true (by omega)
            have q2 : decide ((k : Int) ≤ (s.size : Int)) = false := decide_eq_false (by omega)
            have q2' : decide (k ≤ s.size) = false := decide_eq_false (by omega)
            go_wp2_with fail
            refine (CM.out _).mono ?_
            rintro e w2 ⟨rfl, x2⟩
            clear CM
            go_wp2_with fail
            go_ret3
            exact ⟨rfl, hN.trans x2⟩
end Go.Proofs.YtmfjndoljdpliaaDoor.walk
