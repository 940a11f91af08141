/-
  Words: the next tail, by the program. Condition: the row has at most 1000 signs.
-/
import Derived.Test.YtmmgbmmphmldeaaWalk11f
namespace Go.Proofs.Ytmmgbmmphmldeaa.walk
open Go.RowKit Go.Proofs.Ytmmgbmmphmldeaa.plain
open Go.Proofs.Ytmmgbmmphmldeaa.kit hiding nth
set_option linter.unusedVariables false

set_option maxHeartbeats 400000 in
theorem tail_any (w : World) (A : Option Addr) (len cap : Nat) (zs : List Int) (at' : Int) (hz : IntsIn .i32 w A len zs) (hlen : len ≤ 1000) :
    Calls Try.prog 22 #[.slice A len cap, .int .i64 at'] w fun e w' => e = .returned (.int .i64 (tailP zs (place zs at') : Nat)) ∧ Nx w w' := by
  have hz1 := hz.1
  obtain ⟨a, hat⟩ : ∃ a, place zs at' = a := ⟨_, rfl⟩
  have hc3 := place_cases hz1 hat
  have ha : a ≤ len := by rcases hc3 with h | h | h <;> omega
  rw [hat]
  clear hat
  have EP := Lib.hid (show tailP zs a = if len ≤ a + 1 then len else if fwd blankB zs (a + 1) = len then len else fwd (isK (kindI (nth zs (fwd blankB zs (a + 1))))) zs (fwd blankB zs (a + 1)) - 1 by unfold tailP; rw [hz1])
  go_enter Try.func22, Try.ntmps22
  go_upto_region 1 with fail
  go_cut [1] (fun s1 wx => s1 = .int .i64 (a : Nat) ∧ w = wx)
  case first =>
    clear hz
    rcases hc3 with ⟨h1, h2⟩ | ⟨h1, h2, h3⟩ | ⟨h1, h2⟩
    · go_wp2_with fail
      go_meet
      exact ⟨by rw [h2]; rfl, rfl⟩
    · by_cases h0 : 0 < len
      all_goals
        go_wp2_with fail
        go_meet
        exact ⟨by rw [h3] <;> first | rfl | ((have e0 : len = 0 := by omega); rw [e0]; rfl), rfl⟩
    · subst h1
      by_cases h0 : 0 < a
      all_goals
        go_wp2_with fail
        go_meet
        exact ⟨by first | rfl | ((have e0 : a = 0 := by omega); rw [e0]; rfl), rfl⟩
  case rest =>
    obtain ⟨rfl, rfl⟩ := hcut
    clear hc3
    by_cases hs : len ≤ a + 1
    · rw [if_pos hs] at EP
      have q0 : decide ((len : Int) - 1 ≤ (a : Int)) = true := by simp; omega
      go_wp2_with fail
      go_ret
      exact ⟨ret_int (by rw [EP.out]), Nx.refl _⟩
    · rw [if_neg hs] at EP
      have q0 : decide ((len : Int) - 1 ≤ (a : Int)) = false := by simp; omega
      have ha1 : a + 1 ≤ len := by omega
      have haa := Lib.hid (show place zs ((a : Int) + 1) = a + 1 from place_nat (a := a + 1) hz1 ha1)
      have hsp := fwd_spec blankB zs (a + 1) (by rw [hz1]; exact ha1)
      have he1 : a + 1 ≤ fwd blankB zs (a + 1) := hsp.1
      have he2 : fwd blankB zs (a + 1) ≤ len := by have := hsp.2.1; rw [hz1] at this; exact this
      clear hsp
      obtain ⟨b1, b2, b3, hN⟩ := three_blks w (.slice A len cap) (.int .i64 (a + 1 : Nat)) (.int .i64 1) 25 3 3
      generalize hff : fwd blankB zs (a + 1) = ee at EP he1 he2
      have HF := Lib.hid hff
      clear hff
      by_cases he : ee = len
      · rw [if_pos he] at EP
        have q1 : ((ee : Int) == (len : Int)) = true := by simp [he]
        have HE := Lib.hid he
        clear he
        go_wp2_with (go_at_call 26; refine (passer_any _ len cap zs _ _ _ hz1 hlen).mono ?_; rw [haa.out]; rintro e w1 ⟨rfl, rfl⟩)
        refine (pass_blank_f w _ _ len cap zs w.heap.size (w.heap.size + 1) (w.heap.size + 2) (a + 1) hz hN (by omega) b1 b2 b3 ha1 hlen (by omega) (by omega)).mono ?_
        rw [HF.out]
        rintro e w2 ⟨rfl, _, hg⟩
        go_wp2_with fail
        go_ret
        exact ⟨ret_int (by rw [EP.out, HE.out]), hN.grown hg (by intro k hk; injection hk with hk; omega)⟩
      · rw [if_neg he] at EP
        have hlt : ee < len := by omega
        obtain ⟨b, off, rfl, hbl, hc⟩ := cell_nth hz hlt
        have q1 : ((ee : Int) == (len : Int)) = false := by simp; omega
        go_wp2_with (go_at_call 26; refine (passer_any _ len cap zs _ _ _ hz1 hlen).mono ?_; rw [haa.out]; rintro e w1 ⟨rfl, rfl⟩)
        refine (pass_blank_f w _ _ len cap zs w.heap.size (w.heap.size + 1) (w.heap.size + 2) (a + 1) hz hN (by omega) b1 b2 b3 ha1 hlen (by omega) (by omega)).mono ?_
        rw [HF.out]
        rintro e w2 ⟨rfl, d2, hg⟩
        have dN := hN.grown hg (by intro k hk; injection hk with hk; omega)
        have hcell : w2.cell? ⟨b, off + ee, none⟩ = some (.int .i32 (nth zs ee)) := (dN.cell hbl).trans hc
        have d1 := b1.grown hg (by simp)
        have d3 := b3.grown hg (by simp)
        have l1 := d1.lt
        have l2 := d2.lt
        have l3 := d3.lt
        clear b1 b2 b3 hN hg hc
        have hsp := fwd_spec (isK (kindI (nth zs ee))) zs ee (by rw [hz1]; exact he2)
        have hg1 : ee ≤ fwd (isK (kindI (nth zs ee))) zs ee := hsp.1
        have hg2 : fwd (isK (kindI (nth zs ee))) zs ee ≤ len := by have := hsp.2.1; rw [hz1] at this; exact this
        clear hsp
        obtain ⟨kk, hkk⟩ : ∃ kk, kindI (nth zs ee) = kk := ⟨_, rfl⟩
        rw [hkk] at EP hg1 hg2
        have HK := Lib.hid hkk
        clear hkk
        have hK := Blk.new w2 3 #[.int .i64 kk]
        go_wp2_with (go_at_call 12; refine (kind_any _ _).mono ?_; rw [HK.out]; rintro e w1 ⟨rfl, rfl⟩)
        refine (pass_k_tail w _ _ len cap zs w.heap.size (w.heap.size + 1) (w.heap.size + 2) ee _ kk hK (by omega) hz (dN.alloc _) (by omega) (d1.alloc _) (d2.alloc _) (d3.alloc _) he2 hlen (by omega) (by omega)).mono ?_
        rintro e w3 ⟨rfl, _, hg3⟩
        go_wp2_with fail
        go_ret
        exact ⟨ret_int (by rw [EP.out]; omega), (dN.alloc _).grown hg3 (by intro k hk; injection hk with hk; omega)⟩
end Go.Proofs.Ytmmgbmmphmldeaa.walk
