/-
  The walk of the law WordsMirror: it returns true for every input. No condition.
-/
import Derived.Test.YtmmgbmmphmldeaaWalk11w
import Derived.Test.YtmmgbmmphmldeaaOwn
namespace Go.Proofs.Ytmmgbmmphmldeaa.walk
open Go.RowKit Go.Proofs.Ytmmgbmmphmldeaa.plain
open Go.Proofs.Ytmmgbmmphmldeaa.kit hiding nth
set_option linter.unusedVariables false

theorem Try.infoRune : (Try.prog.info? 21).map (fun i => (i.zero, i.size, i.bytes)) = some (some (.int .i32 0), 1, 4) := by kernel_rfl
theorem rev_snoc {zs : List Int} {j : Nat} (h : j < zs.length) : (zs.drop j).reverse = (zs.drop (j + 1)).reverse ++ [nth zs j] := by
  rw [List.drop_eq_getElem_cons h, List.reverse_cons]
  simp [nth, h]

set_option maxRecDepth 100000 in
set_option maxHeartbeats 2000000 in
theorem wordsMirror_walk (w : World) (A : Option Addr) (len cap : Nat) (zs : List Int) (hw : IntsIn .i32 w A len zs ∧ len ≤ cap ∧ cap ≤ maxLen ∧ ∀ z ∈ zs, (Lit.int .i32 z).wf = true) (at' : Int) (wa : (Lit.int .i64 at').wf = true) :
    Calls Try.prog 6 #[.slice A len cap, .int .i64 at'] w fun e w' => e = .returned (.bool true) ∧ Below w.heap.size w w' := by
  have hz := hw.1
  have hlm : len ≤ 9223372036854775807 := by have := hw.2.1; have := hw.2.2.1; unfold maxLen at this; omega
  clear hw wa
  have hz1 := hz.1
  by_cases hgd : 1000 < len ∨ at' < 0 ∨ (len : Int) < at'
  · rcases (show (1000 < len) ∨ (len ≤ 1000 ∧ at' < 0) ∨ (len ≤ 1000 ∧ 0 ≤ at' ∧ (len : Int) < at') by omega) with h1 | ⟨h1, h2⟩ | ⟨h1, h2, h3⟩
    all_goals
      clear hgd
      go_enter Try.func6, Try.ntmps6
      go_wp2_with (go_at_call 9; refine (worded_any _).mono ?_; rintro e w1 ⟨rfl, hx⟩)
      go_ret
      exact ⟨rfl, hx⟩
  · have hlen : len ≤ 1000 := by omega
    obtain ⟨a, rfl⟩ := Int.eq_ofNat_of_zero_le (show 0 ≤ at' by omega)
    have ha : a ≤ len := by omega
    clear hgd
    have e1 : decide ((1000 : Int) < (len : Int)) = false := decide_eq_false (by omega)
    have e2 : decide ((a : Int) < 0) = false := decide_eq_false (by omega)
    have e3 : decide ((len : Int) < (a : Int)) = false := decide_eq_false (by omega)
    have e4 : decide (len < a) = false := decide_eq_false (by omega)
    obtain ⟨i0, hi, hz0, hzs, hz2⟩ := info_parts Try.infoRune
    go_enter Try.func6, Try.ntmps6
    go_wp2_with fail
    go_loopw [5, 6] (fun v i wr => ∃ j : Nat, j ≤ len ∧ i = .int .i64 ((j : Int) - 1) ∧ wr.ownsRow w.heap.size 21 1 v (len - j) ((zs.drop j).reverse.map (Value.int .i32)) ∧ Nx w wr) (fun _ i _ => (intOf i + 1).toNat)
    case atStart => exact ⟨len, Nat.le_refl _, rfl, by rw [Nat.sub_self, List.drop_of_length_le (by omega)]; exact World.ownsRow_lit w #[] 0 (Nat.le_refl _) (by unfold maxLen; omega) rfl, (Nx.refl _).alloc _⟩
    case round =>
      obtain ⟨j, hj, rfl, hown, hN⟩ := hrel
      have hsz := hN.size
      rcases j with _ | j
      · rw [List.drop_zero, Nat.sub_zero] at hown
        obtain ⟨A', cap', hv, hI, _, hm⟩ := own_ints hown
        rw [hv]
        clear hown hv
        have q0 : decide ((0 : Int) ≤ ((0 : Nat) : Int) - 1) = false := by simp
        have pa := Lib.hid (place_nat hz1 ha)
        have hzr : zs.reverse.length = len := by rw [List.length_reverse, hz1]
        have pm : place zs.reverse ((len : Int) - (a : Int)) = len - a := by
          rw [show (len : Int) - (a : Int) = ((len - a : Nat) : Int) by omega]; exact place_nat hzr (by omega)
        have hB : behindP zs a ≤ a := behind_le zs a
        have hF : foreP zs a ≤ len := by have := fore_le zs a (by rw [hz1]; exact ha); rw [hz1] at this; exact this
        have m1 : foreP zs.reverse (len - a) = len - behindP zs a := by have := mirror_behind zs a (by rw [hz1]; exact ha); rw [hz1] at this; exact this
        have m2 : behindP zs.reverse (len - a) = len - foreP zs a := by have := mirror_fore zs a (by rw [hz1]; exact ha); rw [hz1] at this; exact this
        have m3 : tailP zs a ≠ len → a < len ∧ tailP zs a < len ∧ prevP zs.reverse (len - 1 - a) = len - 1 - tailP zs a := by
          intro h
          have hlt : a < len := by
            rcases Nat.lt_or_ge a len with h1 | h1
            · exact h1
            · exfalso; apply h; unfold tailP; rw [hz1, if_pos (by omega)]
          have hle := (tailP_spec zs a (by rw [hz1]; exact hlt)).2.1
          rw [hz1] at hle
          have := mirror_tail zs a (by rw [hz1]; exact hlt) (by rw [hz1]; exact h)
          rw [hz1] at this
          exact ⟨hlt, by omega, this⟩
        generalize hBB : behindP zs a = B at *
        generalize hFF : foreP zs a = F at *
        generalize hTT : tailP zs a = T at *
        have hb1 : (foreP zs.reverse (place zs.reverse ((len : Int) - (a : Int))) : Int) = (len : Int) - (B : Int) := by rw [pm, m1]; omega
        have hb2 : (behindP zs.reverse (place zs.reverse ((len : Int) - (a : Int))) : Int) = (len : Int) - (F : Int) := by rw [pm, m2]; omega
        have t1 : ((B : Int) != (len : Int) - ((len : Int) - (B : Int))) = false := by simp; omega
        have t2 : ((F : Int) != (len : Int) - ((len : Int) - (F : Int))) = false := by simp; omega
        have R := Lib.hid (And.intro hBB (And.intro hFF (And.intro hTT (And.intro m3 (And.intro hb1 hb2)))))
        clear pm m1 m2 m3 hBB hFF hTT hb1 hb2
        go_wp2_with fail
        refine (behind_at _ A len cap zs (a : Int) B (by rw [pa.out, R.out.1]) (hz.keep hN) hlen).mono ?_
        rintro e w1 ⟨rfl, x1⟩
        go_wp2_with fail
        refine (fore_at _ A' len cap' zs.reverse _ ((len : Int) - (B : Int)) R.out.2.2.2.2.1 (hI.keep x1) hlen).mono ?_
        rintro e w2 ⟨rfl, x2⟩
        go_wp2_with fail
        refine (fore_at _ A len cap zs (a : Int) F (by rw [pa.out, R.out.2.1]) (hz.keep ((hN.trans x1).trans x2)) hlen).mono ?_
        rintro e w3 ⟨rfl, x3⟩
        go_wp2_with fail
        refine (behind_at _ A' len cap' zs.reverse _ ((len : Int) - (F : Int)) R.out.2.2.2.2.2 (hI.keep ((x1.trans x2).trans x3)) hlen).mono ?_
        rintro e w4 ⟨rfl, x4⟩
        go_wp2_with fail
        refine (tail_at _ A len cap zs (a : Int) T (by rw [pa.out, R.out.2.2.1]) (hz.keep ((((hN.trans x1).trans x2).trans x3).trans x4)) hlen).mono ?_
        rintro e w5 ⟨rfl, x5⟩
        go_wp2_with fail
        refine (worded_any _).mono ?_
        rintro e w6 ⟨rfl, x6⟩
        have y := ((((x1.trans x2).trans x3).trans x4).trans x5).trans x6
        clear x1 x2 x3 x4 x5 x6
        by_cases hT : T = len
        · have t3 : ((T : Int) == (len : Int)) = true := by simp [hT]
          clear hT
          go_wp2_with fail
          go_ret
          exact ⟨rfl, hN.trans y⟩
        · obtain ⟨hal, hTl, hpv⟩ := R.out.2.2.2.1 hT
          have t3 : ((T : Int) == (len : Int)) = false := by simpa using fun e => hT (by omega)
          have t4 : ((a : Int) == (len : Int)) = false := by simp; omega
          have hpv' : (prevP zs.reverse (place zs.reverse ((len : Int) - 1 - (a : Int))) : Int) = (len : Int) - 1 - (T : Int) := by
            rw [show (len : Int) - 1 - (a : Int) = ((len - 1 - a : Nat) : Int) by omega, place_nat hzr (by omega), hpv]; omega
          have HV := Lib.hid hpv'
          clear hpv hpv' hT
          go_wp2_with fail
          refine (prev_at _ A' len cap' zs.reverse _ ((len : Int) - 1 - (T : Int)) HV.out (hI.keep y) hlen).mono ?_
          rintro e w7 ⟨rfl, x7⟩
          go_wp2_with fail
          go_ret
          exact ⟨rfl, (hN.trans y).trans x7⟩
      · have hlt : j < len := by omega
        obtain ⟨b, off, rfl, hbl, hc0⟩ := cell_nth hz hlt
        have hc : wr.cell? ⟨b, off + j, none⟩ = some (.int .i32 (nth zs j)) := (hN.cell hbl).trans hc0
        have e0 : ((j + 1 : Nat) : Int) - 1 = (j : Int) := by omega
        have esn := Lib.hid (rev_snoc (zs := zs) (j := j) (by rw [hz1]; exact hlt))
        rw [e0]
        have q0 : decide ((0 : Int) ≤ (j : Int)) = true := decide_eq_true (by omega)
        clear hc0 e0
        go_wp2_with (at_builtin; refine wpList_append_own _ rfl _ _ 25 rfl w.heap.size 21 i0 (.int .i32 0) 1 4 Try.underlying25 hi hz0 hzs hz2 rfl (by decide) _ _ _ rfl (hown.alloc _) ⟨wr.heap.size, 0, none⟩ 1 1 [.int .i32 (nth zs j)] rfl rfl (one_new _ _ _) (int_one _ _) (by unfold maxLen; omega) (by omega) (by simp; omega) ?_; intro v' w1 hown' hgrow _)
        have hN1 := (hN.alloc (.cells #[.int .i32 (nth zs j)] 21)).grown hgrow (own_grown_lt hown)
        rw [snoc_map, ← esn.out, show len - (j + 1) + 1 = len - j by omega] at hown'
        clear hgrow hown
        go_roundw
        case rel => first | exact ⟨j, by omega, by go_num, hown', hN1⟩ | ((repeat apply Exists.intro); exact ⟨⟨j, by omega, by go_num, hown', hN1⟩, rfl⟩)
        case measure => simp [intOf] <;> omega
end Go.Proofs.Ytmmgbmmphmldeaa.walk
