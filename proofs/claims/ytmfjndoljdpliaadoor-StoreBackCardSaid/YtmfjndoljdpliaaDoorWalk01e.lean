/-
  Signs: the reference's more and Next. No condition but a bound on the bytes' number.
-/
import Derived.Test.YtmfjndoljdpliaaDoorWalk01d
namespace Go.Proofs.YtmfjndoljdpliaaDoor.walk
open Go.RowKit Go.Proofs.YtmfjndoljdpliaaDoor.kit Go.Proofs.YtmfjndoljdpliaaDoor.plain
set_option linter.unusedVariables false

theorem L_app (s t : ByteArray) : L (s ++ t) = L s ++ L t := by simp [L]
/-- some sign is these bytes and then bytes x, k in all -/
def goesOn (l : List UInt8) (k : Nat) (x : UInt8) : Prop := ∃ c, validN c ∧ enc c = l ++ List.replicate (k - l.length) x
def moreP (l : List UInt8) : Prop := ∃ k, l.length < k ∧ k ≤ 4 ∧ (goesOn l k 128 ∨ goesOn l k 191)
theorem moreP_iff (l : List UInt8) (hl : l ≠ []) : moreP l ↔ nx l = (0, 0, 3) := by
  constructor
  · rintro ⟨k, h1, h2, ⟨c, hv, he⟩ | ⟨c, hv, he⟩⟩
    all_goals
      have hp : 0 < l.length := List.length_pos_iff.2 hl
      have hlen : encLen c = k := by rw [← enc_length, he, List.length_append, List.length_replicate]; omega
      have := nx_part c hv l.length hp (by omega)
      rwa [he, List.take_left] at this
  · intro h
    obtain ⟨h1, h2, c, hv, hlt, he⟩ := nx_more l h
    refine ⟨encLen c, hlt, (encLen_pos c).2, ?_⟩
    rcases he with he | he
    · exact .inl ⟨c, hv, he⟩
    · exact .inr ⟨c, hv, he⟩
theorem rep_one (x : UInt8) (m : Nat) : List.replicate m x ++ [x] = List.replicate (m + 1) x := by
  rw [← List.replicate_succ']

/-- what more answers -/
noncomputable def moreB (l : List UInt8) : Bool := @decide (moreP l) (Classical.propDecidable _)
theorem moreB_t {l : List UInt8} (h : moreP l) : moreB l = true := by unfold moreB; exact @decide_eq_true _ (Classical.propDecidable _) h
theorem moreB_f {l : List UInt8} (h : ¬ moreP l) : moreB l = false := by unfold moreB; exact @decide_eq_false _ (Classical.propDecidable _) h

/-- what whole answers to bytes that go on, or not -/
theorem whole_cases (s a : ByteArray) (w : World) (k : Nat) (x : UInt8) (h1 : 1 ≤ k) (h4 : k ≤ 4) (hk : s.size < k) (ha : L a = L s ++ List.replicate (k - s.size) x) :
    (goesOn (L s) k x ∧ ∃ c : Nat, Calls Tryd.prog 43 #[.string a] w fun e w' => e = .returned (.tuple #[.int .i32 c, .bool true]) ∧ Nx w w') ∨
    (¬ goesOn (L s) k x ∧ Calls Tryd.prog 43 #[.string a] w (WN w)) := by
  have hsz : a.size = k := by rw [← L_length, ha, List.length_append, List.length_replicate, L_length]; omega
  by_cases h : goesOn (L s) k x
  · refine .inl ⟨h, ?_⟩
    obtain ⟨c, hv, he⟩ := h
    rw [L_length] at he
    exact ⟨c, whole_yes a w c hv (ha.trans he.symm)⟩
  · refine .inr ⟨h, whole_no a w (by omega) (by omega) fun c hv he => h ⟨c, hv, ?_⟩⟩
    rw [← he, ha, L_length]

/-- at the inner loop's head: both strings have m bytes more -/
def MR (s : ByteArray) (k : Nat) (a b : Value) : Prop := ∃ (m : Nat) (sa sb : ByteArray), a = .string sa ∧ b = .string sb ∧ s.size + m ≤ k ∧ sa.size = s.size + m ∧ L sa = L s ++ List.replicate m 128 ∧ L sb = L s ++ List.replicate m 191
def strLen : Value → Nat
  | .string x => x.size
  | _ => 0
theorem MR.step {s sa sb : ByteArray} {k m : Nat} (h1 : s.size + m < k) (h2 : L sa = L s ++ List.replicate m 128) (h3 : L sb = L s ++ List.replicate m 191) : MR s k (.string (sa ++ ⟨#[128]⟩)) (.string (sb ++ ⟨#[191]⟩)) := by
  have e : L (sa ++ ⟨#[128]⟩) = L s ++ List.replicate (m + 1) 128 := by rw [L_app, h2, List.append_assoc]; congr 1; exact rep_one 128 m
  refine ⟨m + 1, _, _, rfl, rfl, by omega, ?_, e, ?_⟩
  · rw [← L_length, e, List.length_append, List.length_replicate, L_length]
  · rw [L_app, h3, List.append_assoc]; congr 1; exact rep_one 191 m
set_option maxRecDepth 100000 in
set_option maxHeartbeats 2000000 in
theorem more_any (s : ByteArray) (w : World) (hs1 : 1 ≤ s.size) (hs : s.size ≤ 1000000) : Calls Tryd.prog 44 #[.string s] w fun e w' => e = .returned (.bool (moreB (L s))) ∧ Nx w w' := by
  generalize hB : moreB (L s) = B
  have HB := Lib.hid hB
  clear hB
  go_enter Tryd.func44, Tryd.ntmps44
  go_wp2_with fail
  go_loopw [3, 4, 5, 6, 7, 8, 9] (fun n _ _ _ _ _ _ wr => ∃ k : Nat, n = .int .i64 k ∧ s.size < k ∧ (k ≤ 5 ∨ k ≤ s.size + 1) ∧ Hid (∀ j, s.size < j → j < k → ¬ (goesOn (L s) j 128 ∨ goesOn (L s) j 191)) ∧ Nx w wr) (fun n _ _ _ _ _ _ _ => 6 - (intOf n).toNat)
  case atStart => exact ⟨s.size + 1, by go_num, by omega, by omega, fun j h1 h2 => by omega, Nx.refl _⟩
  case round =>
    obtain ⟨k, rfl, hk1, hk2, HA, hN⟩ := hrel
    by_cases hk : k ≤ 4
    · have q1 : decide ((k : Int) ≤ 4) = true := decide_eq_true (by omega)
      obtain ⟨wo, rfl⟩ : ∃ wo : World, wo = wr := ⟨_, rfl⟩
      go_wp2_with fail
      go_loop [4, 5] (fun a b => MR s k a b) (fun a _ => k - strLen a)
      case atStart => exact ⟨0, s, s, rfl, rfl, by omega, by omega, by simp, by simp⟩
      case round =>
        obtain ⟨m, sa, sb, rfl, rfl, hm, hl, hsa, hsb⟩ := hrel
        have hlb : sb.size ≤ s.size + m := by rw [← L_length sb, hsb, List.length_append, List.length_replicate, L_length]; omega
        have HSA := Lib.hid hsa
        have HSB := Lib.hid hsb
        have hl1 : sa.size ≤ s.size + m := by omega
        have hl2 : s.size + m ≤ sa.size := by omega
        clear hsa hsb hl
        by_cases hlt : sa.size < k
        · have q2 : decide (sa.size < k) = true := decide_eq_true hlt
          have q2' : decide ((sa.size : Int) < (k : Int)) = true := decide_eq_true (by omega)
          go_wp2_with fail
          go_round
          case rel => exact MR.step (by omega) HSA.out HSB.out
          case measure =>
            show k - (sa ++ ⟨#[128]⟩).size < k - sa.size
            rw [ByteArray.size_append, show (⟨#[128]⟩ : ByteArray).size = 1 from rfl]
            omega
        · have q2 : decide (sa.size < k) = false := decide_eq_false hlt
          have q2' : decide ((sa.size : Int) < (k : Int)) = false := decide_eq_false (by omega)
          have hmk : m = k - s.size := by omega
          have ea : L sa = L s ++ List.replicate (k - s.size) 128 := by rw [HSA.out, hmk]
          have eb : L sb = L s ++ List.replicate (k - s.size) 191 := by rw [HSB.out, hmk]
          have EB := Lib.hid eb
          have AB : Hid (∀ W, (goesOn (L s) k 191 ∧ ∃ c : Nat, Calls Tryd.prog 43 #[.string sb] W fun e w' => e = .returned (.tuple #[.int .i32 c, .bool true]) ∧ Nx W w') ∨ (¬ goesOn (L s) k 191 ∧ Calls Tryd.prog 43 #[.string sb] W (WN W))) := Lib.hid fun W => whole_cases s sb W k 191 (by omega) hk hk1 eb
          rcases whole_cases s sa wo k 128 (by omega) hk hk1 ea with ⟨hg, c, hC⟩ | ⟨hg, hC⟩
          · obtain rfl : B = true := by rw [← HB.out]; exact moreB_t ⟨k, by rw [L_length]; exact hk1, hk, .inl hg⟩
            clear ea eb EB hmk HSA HSB HB HA hg
            have HC := Lib.hid hC
            clear hC
            generalize (c : Int) = z at *
            go_wp2_with fail
            refine HC.out.mono ?_
            rintro e w2 ⟨rfl, x2⟩
            clear HC
            go_wp2_with fail
            rcases AB.out w2 with ⟨_, c2, hD⟩ | ⟨_, hD⟩
            · clear AB
              refine hD.mono ?_
              rintro e w3 ⟨rfl, x3⟩
              clear hD
              generalize (c2 : Int) = z2 at *
              go_wp2_with fail
              go_ret
              exact ⟨rfl, (hN.trans x2).trans x3⟩
            · clear AB
              refine hD.mono ?_
              rintro e w3 ⟨z2, rfl, x3⟩
              clear hD
              go_wp2_with fail
              go_ret
              exact ⟨rfl, (hN.trans x2).trans x3⟩
          · clear ea eb EB hmk HSA HSB
            have HC := Lib.hid hC
            have HG := Lib.hid hg
            clear hC hg
            go_wp2_with fail
            refine HC.out.mono ?_
            rintro e w2 ⟨z, rfl, x2⟩
            clear HC
            go_wp2_with fail
            rcases AB.out w2 with ⟨hg2, c2, hD⟩ | ⟨hg2, hD⟩
            · obtain rfl : B = true := by rw [← HB.out]; exact moreB_t ⟨k, by rw [L_length]; exact hk1, hk, .inr hg2⟩
              clear AB HB HA HG hg2
              refine hD.mono ?_
              rintro e w3 ⟨rfl, x3⟩
              clear hD
              generalize (c2 : Int) = z2 at *
              go_wp2_with fail
              go_ret
              exact ⟨rfl, (hN.trans x2).trans x3⟩
            · have HG2 := Lib.hid hg2
              clear AB hg2
              refine hD.mono ?_
              rintro e w3 ⟨z2, rfl, x3⟩
              clear hD
              go_wp2_with fail
              go_roundw
              case rel =>
                refine ⟨k + 1, by go_num, by omega, by omega, Lib.hid fun j h1 h2 => ?_, (hN.trans x2).trans x3⟩
                rcases Nat.lt_or_ge j k with h3 | h3
                · exact HA.out j h1 h3
                · obtain rfl : j = k := by omega
                  rintro (h | h)
                  · exact HG.out h
                  · exact HG2.out h
              case measure => simp [intOf]; omega
    · have q1 : decide ((k : Int) ≤ 4) = false := decide_eq_false (by omega)
      obtain rfl : B = false := by
        rw [← HB.out]
        refine moreB_f ?_
        rintro ⟨j, h1, h2, h3⟩
        rw [L_length] at h1
        exact HA.out j h1 (by omega) h3
      clear HB HA
      go_wp2_with fail
      go_ret
      exact ⟨rfl, hN⟩
end Go.Proofs.YtmfjndoljdpliaaDoor.walk
