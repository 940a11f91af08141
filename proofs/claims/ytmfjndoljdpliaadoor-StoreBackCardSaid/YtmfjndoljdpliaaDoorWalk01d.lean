/-
  Signs: the reference's whole. No condition.
-/
import Derived.Test.YtmfjndoljdpliaaDoorWalk01c
namespace Go.Proofs.YtmfjndoljdpliaaDoor.walk
open Go.RowKit Go.Proofs.YtmfjndoljdpliaaDoor.kit Go.Proofs.YtmfjndoljdpliaaDoor.plain
set_option linter.unusedVariables false

theorem str_eq_f {s t : ByteArray} (h : s ≠ t) : (s.toList == t.toList) = false := by
  rw [Lib.toList_data, Lib.toList_data]
  exact beq_eq_false_iff_ne.2 fun e => h (L_inj e)
theorem encode_vB {r : Int} (h : vB r = true) : validN r.toNat ∧ L (Utf8.encode r) = enc r.toNat := by
  have h1 := enc_eq r
  rw [fixN, if_pos (show Utf8.valid r = true from h)] at h1
  have := vB_t h
  exact ⟨by unfold validN; omega, h1⟩
theorem enc_str {c : Nat} (hv : validN c) : L (Utf8.encode (c : Int)) = enc c :=
  (encode_vB (r := (c : Int)) ((validN_iff c).2 hv)).2.trans (congrArg enc (Int.toNat_natCast c))
set_option maxHeartbeats 1000000 in
theorem whole_yes (s : ByteArray) (w : World) (c : Nat) (hv : validN c) (he : L s = enc c) :
    Calls Tryd.prog 43 #[.string s] w fun e w' => e = .returned (.tuple #[.int .i32 c, .bool true]) ∧ Nx w w' := by
  have hs := size_enc he
  have hp := encLen_pos c
  have hc : (c : Int) ≤ 1114111 := by unfold validN at hv; omega
  have cV := value_any s w (by omega) (by omega)
  have hb : vB (c : Int) = true := (validN_iff c).2 hv
  have hst : Utf8.encode (c : Int) = s := L_inj ((enc_str hv).trans he.symm)
  have cP := fun W => rput_ok (c : Int) W hb
  rw [hst] at cP
  have HN : Hid (∀ n : Int, (∀ c, validN c → L s = enc c → n = (c : Int)) → n = (c : Int)) := Lib.hid fun n h => h c hv he
  have hc0 : (0 : Int) ≤ (c : Int) := by omega
  clear hs hst hv he hp hb
  generalize (c : Int) = z at *
  have CP := Lib.hid cP
  clear cP
  go_enter Tryd.func43, Tryd.ntmps43
  go_wp2_with fail
  refine cV.mono ?_
  rintro e w1 ⟨n, rfl, rfl, hn⟩
  obtain rfl := HN.out n hn
  clear hn cV HN
  go_wp2_with fail
  refine (CP.out _).mono ?_
  rintro e w2 ⟨rfl, x2⟩
  clear CP
  go_wp2_with fail
  go_ret2
  exact ⟨rfl, x2⟩
/-- whole answers no -/
def WN (w : World) (e : Ending) (w' : World) : Prop := ∃ r : Int, e = .returned (.tuple #[.int .i32 r, .bool false]) ∧ Nx w w'
set_option maxHeartbeats 1000000 in
theorem whole_no (s : ByteArray) (w : World) (h1 : 1 ≤ s.size) (h4 : s.size ≤ 4) (hno : ∀ c, validN c → L s ≠ enc c) :
    Calls Tryd.prog 43 #[.string s] w (WN w) := by
  have cV := value_any s w h1 h4
  have NO := Lib.hid hno
  clear hno
  go_enter Tryd.func43, Tryd.ntmps43
  go_wp2_with fail
  refine cV.mono ?_
  rintro e w1 ⟨n, rfl, rfl, hn⟩
  clear hn cV
  by_cases hn : n < 0
  · go_wp2_with fail
    go_ret2
    exact ⟨0, rfl, Nx.refl _⟩
  · go_wp2_with fail
    generalize wrap32 n = r
    cases hb : vB r with
    | true =>
      have cP := rput_ok r w hb
      obtain ⟨hv, hl⟩ := encode_vB hb
      have hne : Utf8.encode r ≠ s := fun h => NO.out _ hv (by rw [← hl, h])
      generalize Utf8.encode r = t at *
      have hq := str_eq_f hne
      clear hne
      clear hb hv hl NO
      refine cP.mono ?_
      rintro e w2 ⟨rfl, x2⟩
      clear cP
      go_wp2_with fail
      go_ret2
      exact ⟨_, rfl, x2⟩
    | false =>
      have cP := rput_bad r w hb
      clear hb
      refine cP.mono ?_
      rintro e w2 ⟨rfl, rfl⟩
      clear cP
      go_wp2_with fail
      go_ret2
      exact ⟨_, rfl, Nx.refl _⟩
end Go.Proofs.YtmfjndoljdpliaaDoor.walk
