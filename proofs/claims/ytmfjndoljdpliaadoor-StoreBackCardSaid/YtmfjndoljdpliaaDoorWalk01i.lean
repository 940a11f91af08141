/-
  Signs: Encode of the program and of the reference. No condition but a bound on the signs' number.
-/
import Derived.Test.YtmfjndoljdpliaaDoorWalk01h
import Derived.Lib.RuneBytes
namespace Go.Proofs.YtmfjndoljdpliaaDoor.walk
open Go.RowKit Go.Proofs.YtmfjndoljdpliaaDoor.kit Go.Proofs.YtmfjndoljdpliaaDoor.plain
set_option linter.unusedVariables false

/-- bytes as a string, and as cells -/
def mkS (l : List UInt8) : ByteArray := ⟨l.toArray⟩
theorem L_mkS (l : List UInt8) : L (mkS l) = l := by simp [L, mkS]
theorem mkS_L (s : ByteArray) : mkS (L s) = s := L_inj (L_mkS _)
def bcs (l : List UInt8) : List Value := l.map fun b => .int .u8 (b.toNat : Int)
theorem bcs_app (a b : List UInt8) : bcs (a ++ b) = bcs a ++ bcs b := by simp [bcs]
theorem bcs_length (a : List UInt8) : (bcs a).length = a.length := by simp [bcs]
theorem bcs_nums (l : List UInt8) : strOfNums (l.map fun b => (b.toNat : Int)) = mkS l := by
  apply L_inj
  rw [L_nums, L_mkS, List.map_map]
  conv => rhs; rw [← List.map_id l]
  apply List.map_congr_left
  intro b _
  simp
theorem runeCells_eq (r : Int) : Lib.runeCells r = bcs (enc (fixN r)) := by
  have hb : ∀ n : Nat, n < 256 → ((UInt8.ofNat n).toNat : Int) = n := fun n h => by rw [toNat_of n h]
  unfold Lib.runeCells
  by_cases hv : Utf8.valid r = true
  · have hr := vB_t (show vB r = true from hv)
    unfold fixN
    rw [if_pos hv]
    unfold enc bcs
    rcases (show r < 128 ∨ (128 ≤ r ∧ r < 2048) ∨ (2048 ≤ r ∧ r < 65536) ∨ 65536 ≤ r by omega) with g | ⟨g, g'⟩ | ⟨g, g'⟩ | g
    · rw [Lib.encodeRuneZ_one (by omega) (by omega), if_pos (by omega)]
      simp only [List.map_cons, List.map_nil]
      rw [hb _ (by omega), show ((r.toNat : Nat) : Int) = r by omega]
    · rw [Lib.encodeRuneZ_two (by omega) (by omega), if_neg (by omega), if_pos (by omega)]
      simp only [List.map_cons, List.map_nil]
      rw [hb _ (by omega), hb _ (by omega), show ((192 + r.toNat / 64 : Nat) : Int) = 192 + r / 64 by omega, show ((128 + r.toNat % 64 : Nat) : Int) = 128 + r % 64 by omega]
    · rw [Lib.encodeRuneZ_three (by omega), if_neg (by omega), if_neg (by omega), if_pos (by omega)]
      simp only [List.map_cons, List.map_nil]
      rw [hb _ (by omega), hb _ (by omega), hb _ (by omega), show ((224 + r.toNat / 4096 : Nat) : Int) = 224 + r / 4096 by omega, show ((128 + r.toNat / 64 % 64 : Nat) : Int) = 128 + r / 64 % 64 by omega, show ((128 + r.toNat % 64 : Nat) : Int) = 128 + r % 64 by omega]
    · rw [Lib.encodeRuneZ_four (by omega) (by omega), if_neg (by omega), if_neg (by omega), if_neg (by omega)]
      simp only [List.map_cons, List.map_nil]
      rw [hb _ (by omega), hb _ (by omega), hb _ (by omega), hb _ (by omega), show ((240 + r.toNat / 262144 : Nat) : Int) = 240 + r / 262144 by omega, show ((128 + r.toNat / 4096 % 64 : Nat) : Int) = 128 + r / 4096 % 64 by omega, show ((128 + r.toNat / 64 % 64 : Nat) : Int) = 128 + r / 64 % 64 by omega, show ((128 + r.toNat % 64 : Nat) : Int) = 128 + r % 64 by omega]
  · have hr := vB_f (show vB r = false by simpa [vB] using hv)
    unfold fixN
    rw [if_neg hv, Lib.encodeRuneZ_bad (by omega)]
    rfl
/-- bytes that a call owns, turned into a string -/
theorem conv_own {w : World} {base : Nat} {A : Option Addr} {n cap : Nat} {l : List UInt8} (h : w.ownsRow base 5 1 (.slice A n cap) n (bcs l)) :
    (convert 40 9 (.slice A n cap)).run Tryd.prog w = .ok (.string (mkS l)) w := by
  have hl : l.length = n := by have := h.1; rw [bcs_length] at this; omega
  rcases h.2 with ⟨hv, hn⟩ | ⟨g, cap', cur, hv, hb, hh, hnc, hm, hs, ht⟩
  · injection hv with h1 h2 h3
    subst h1 h2 h3
    obtain rfl : l = [] := List.eq_nil_of_length_eq_zero hl
    exact run_convert_bytes_nil (P := Tryd.prog) w 40 5 Tryd.underlying40 Tryd.underlying5 0 0 9 Tryd.underlying9
  · injection hv with h1 h2 h3
    subst h1 h3
    have := run_convert_bytes_arg (P := Tryd.prog) w 40 5 Tryd.underlying40 Tryd.underlying5 g 0 n cap (l.map fun b => (b.toNat : Int)) (by simpa using hl) (fun i hi => by
      have := h.cellAt (g := g) (cap := cap) i (by omega)
      rw [Nat.zero_add, this]
      have hi' : i < l.length := by omega
      simp [bcs, hi']) 9 Tryd.underlying9
    rw [bcs_nums] at this
    exact this

set_option maxRecDepth 100000 in
set_option maxHeartbeats 2000000 in
theorem encode_any (A : Option Addr) (n cap : Nat) (zs : List Int) (w : World) (hz : IntsIn .i32 w A n zs) (hw : ∀ z ∈ zs, (Lit.int .i32 z).wf = true) (hn : n ≤ 1000000) :
    Calls Tryd.prog 18 #[.slice A n cap] w fun e w' => e = .returned (.string (mkS (encs zs))) ∧ Nx w w' := by
  generalize hS : mkS (encs zs) = S
  have HS := Lib.hid hS
  clear hS
  have HW := Lib.hid hw
  clear hw
  go_enter Tryd.func18, Tryd.ntmps18
  go_wp2_with fail
  go_loopw [3, 5, 8] (fun v _ i wr => ∃ (k : Nat), k ≤ n ∧ i = .int .i64 k ∧ wr.ownsRow w.heap.size 5 1 v (encs (zs.take k)).length (bcs (encs (zs.take k))) ∧ Nx w wr) (fun _ _ i _ => n - (intOf i).toNat)
  case atStart => exact ⟨0, Nat.zero_le _, rfl, World.ownsRow_nil _ _ _ _, Nx.refl _⟩
  case round =>
    obtain ⟨k, hk, rfl, hO, hN⟩ := hrel
    have hsz := hN.size
    have hel := encs_length (zs.take k)
    rw [List.length_take] at hel
    by_cases hlt : k < n
    · obtain ⟨b, off, rfl, lb, b0⟩ := hz.at_ hlt
      have c0 := (hN.cell (p := ⟨b, off + k, none⟩) lb).trans b0
      have q1 : decide ((k : Int) < (n : Int)) = true := decide_eq_true (by omega)
      have q1' : decide (k < n) = true := decide_eq_true hlt
      have hi0 : (0 : Int) ≤ (k : Int) := by omega
      have hi1 : (k : Int) < (n : Int) := by omega
      have hwf := HW.out _ (nth_mem (zs := zs) (i := k) (by rw [hz.1]; exact hlt))
      have ht := take_nth (zs := zs) (i := k) (by rw [hz.1]; exact hlt)
      have HT := Lib.hid ht
      clear b0 ht
      generalize nth zs k = r at *
      have hrr : -2147483648 ≤ r ∧ r ≤ 2147483647 := by
        have h := hwf
        simp only [Lit.wf, Bool.and_eq_true, decide_eq_true_eq] at h
        exact h
      have cA := Tryd.utf8_AppendRune_plain w.heap.size u3 _ _ r hrr.1 hrr.2 wr hO (by omega) (by omega)
      have CA := Lib.hid cA
      clear cA hwf
      go_wp2_with fail
      refine CA.out.mono ?_
      rintro e w1 ⟨v', rfl, ho', o, hg⟩
      have hlt' := Lib.hid (hO.lt)
      rw [runeCells_eq, ← bcs_app] at ho'
      have HO := Lib.hid ho'
      clear CA ho' hO
      go_wp2_with fail
      go_roundw
      case rel =>
        refine ⟨k + 1, by omega, by go_num, ?_, (hN.alloc o).grown hg (fun k hk => (hlt'.out k hk).1)⟩
        have h1 := HO.out
        rw [bcs_length, ← List.length_append] at h1
        rw [HT.out, encs_snoc]
        exact h1
      case measure => simp [intOf]; omega
    · have q1 : decide ((k : Int) < (n : Int)) = false := decide_eq_false (by omega)
      have q1' : decide (k < n) = false := decide_eq_false hlt
      obtain ⟨A', cap', rfl⟩ := own_form hO
      have hcv := conv_own hO
      have hfin : mkS (encs (zs.take k)) = S := by rw [← HS.out, List.take_of_length_le (by rw [hz.1]; omega)]
      rw [hfin] at hcv
      clear hfin
      generalize (encs (zs.take k)).length = m at *
      clear hO hel
      go_wp2_with fail
      go_ret
      exact ⟨rfl, hN⟩

set_option maxRecDepth 100000 in
set_option maxHeartbeats 2000000 in
theorem rencode_any (A : Option Addr) (n cap : Nat) (zs : List Int) (w : World) (hz : IntsIn .i32 w A n zs) (hn : n ≤ 1000000) :
    Calls Tryd.prog 25 #[.slice A n cap] w fun e w' => e = .returned (.string (mkS (encs zs))) ∧ Nx w w' := by
  generalize hS : mkS (encs zs) = S
  have HS := Lib.hid hS
  clear hS
  go_enter Tryd.func25, Tryd.ntmps25
  go_wp2_with fail
  go_loopw [3, 4, 5, 6] (fun v i _ _ wr => ∃ (k : Nat) (S' : ByteArray), k ≤ n ∧ v = .string S' ∧ i = .int .i64 k ∧ Hid (L S' = encs (zs.take k)) ∧ Nx w wr) (fun _ i _ _ _ => n - (intOf i).toNat)
  case atStart => exact ⟨0, ⟨#[]⟩, Nat.zero_le _, rfl, rfl, Lib.hid rfl, Nx.refl _⟩
  case round =>
    obtain ⟨k, S', hk, rfl, rfl, HL, hN⟩ := hrel
    have hel := encs_length (zs.take k)
    rw [List.length_take] at hel
    have hss : S'.size ≤ 4 * k := by rw [← L_length, HL.out]; omega
    clear hel
    by_cases hlt : k < n
    · obtain ⟨b, off, rfl, lb, b0⟩ := hz.at_ hlt
      have c0 := (hN.cell (p := ⟨b, off + k, none⟩) lb).trans b0
      have q1 : decide ((k : Int) < (n : Int)) = true := decide_eq_true (by omega)
      have q1' : decide (k < n) = true := decide_eq_true hlt
      have hi0 : (0 : Int) ≤ (k : Int) := by omega
      have hi1 : (k : Int) < (n : Int) := by omega
      have ht := take_nth (zs := zs) (i := k) (by rw [hz.1]; exact hlt)
      have HT := Lib.hid ht
      clear b0 ht
      generalize nth zs k = r at *
      have hes : (Utf8.encode r).size ≤ 4 := by rw [← L_length, L, enc_eq, enc_length]; exact (encLen_pos _).2
      have HE : Hid (L (Utf8.encode r) = enc (fixN r)) := Lib.hid (enc_eq r)
      cases hb : vB r with
      | true =>
        have CP := Lib.hid (fun W => rput_ok r W hb)
        clear hb
        generalize Utf8.encode r = T at *
        go_wp2_with fail
        refine (CP.out _).mono ?_
        rintro e w1 ⟨rfl, x1⟩
        clear CP
        go_wp2_with fail
        go_roundw
        case rel => exact ⟨k + 1, _, by omega, rfl, by go_num, Lib.hid (by rw [L_app, HL.out, HE.out, HT.out, encs_snoc]), hN.trans x1⟩
        case measure => simp [intOf]; omega
      | false =>
        have CP := Lib.hid (fun W => rput_bad r W hb)
        have hfx : enc (fixN r) = [239, 191, 189] := by
          unfold fixN
          rw [if_neg (by simpa [vB] using hb)]
          rfl
        have HF := Lib.hid hfx
        clear hb HE hes hfx
        go_wp2_with fail
        refine (CP.out _).mono ?_
        rintro e w1 ⟨rfl, rfl⟩
        clear CP
        go_wp2_with fail
        go_roundw
        case rel => exact ⟨k + 1, _, by omega, rfl, by go_num, Lib.hid (by rw [L_app, HL.out, HT.out, encs_snoc, HF.out]; rfl), hN⟩
        case measure => simp [intOf]; omega
    · have q1 : decide ((k : Int) < (n : Int)) = false := decide_eq_false (by omega)
      have q1' : decide (k < n) = false := decide_eq_false hlt
      have hfin : S' = S := by
        rw [← HS.out]
        apply L_inj
        rw [L_mkS, HL.out, List.take_of_length_le (by rw [hz.1]; omega)]
      subst hfin
      clear HS
      go_wp2_with fail
      go_ret
      exact ⟨rfl, hN⟩
end Go.Proofs.YtmfjndoljdpliaaDoor.walk
