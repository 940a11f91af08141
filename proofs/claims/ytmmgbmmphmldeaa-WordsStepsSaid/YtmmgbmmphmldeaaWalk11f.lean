/-
  Words: the next beginning, the one ahead, and the next tail, by the program. Condition: the row has at most 1000 signs.
-/
import Derived.Test.YtmmgbmmphmldeaaWalk11e
namespace Go.Proofs.Ytmmgbmmphmldeaa.walk
open Go.RowKit Go.Proofs.Ytmmgbmmphmldeaa.plain
open Go.Proofs.Ytmmgbmmphmldeaa.kit hiding nth
set_option linter.unusedVariables false

theorem place_cases {zs : List Int} {len a : Nat} {at' : Int} (hz : zs.length = len) (hat : place zs at' = a) : (at' < 0 ∧ a = 0) ∨ ((len : Int) < at' ∧ 0 ≤ at' ∧ a = len) ∨ (at' = a ∧ a ≤ len) := by
  unfold place at hat; rw [hz] at hat
  by_cases h1 : at' < 0
  · rw [if_pos h1] at hat; exact .inl ⟨h1, hat.symm⟩
  · rw [if_neg h1] at hat
    by_cases h2 : (len : Int) < at'
    · rw [if_pos h2] at hat; exact .inr (.inl ⟨h2, by omega, hat.symm⟩)
    · rw [if_neg h2] at hat; exact .inr (.inr ⟨by omega, by omega⟩)
theorem place_nat {zs : List Int} {len a : Nat} (hz : zs.length = len) (ha : a ≤ len) : place zs (a : Int) = a := by
  unfold place; rw [if_neg (by omega), if_neg (by rw [hz]; omega)]; simp

set_option maxHeartbeats 400000 in
theorem next_any (w : World) (A : Option Addr) (len cap : Nat) (zs : List Int) (at' : Int) (hz : IntsIn .i32 w A len zs) (hlen : len ≤ 1000) :
    Calls Try.prog 18 #[.slice A len cap, .int .i64 at'] w fun e w' => e = .returned (.int .i64 (nextP zs (place zs at') : Nat)) ∧ Nx w w' := by
  have hz1 := hz.1
  obtain ⟨a, hat⟩ : ∃ a, place zs at' = a := ⟨_, rfl⟩
  have hc3 := place_cases hz1 hat
  have ha : a ≤ len := by rcases hc3 with h | h | h <;> omega
  have haa := Lib.hid (place_nat hz1 ha)
  rw [hat]
  clear hat
  go_enter Try.func18, Try.ntmps18
  go_upto_region 1 with fail
  go_cut [1] (fun s1 wx => s1 = .int .i64 (a : Nat) ∧ w = wx)
  case first =>
    clear hz haa
    rcases hc3 with ⟨h1, h2⟩ | ⟨h1, h2, h3⟩ | ⟨h1, h2⟩
    · go_wp2_with fail
      go_meet
      exact ⟨by rw [h2]; rfl, rfl⟩
    · by_cases h0 : 0 < len
      all_goals
        go_wp2_with fail
        go_meet
        exact ⟨by rw [h3] <;> first | rfl | ((have e0 : len = 0 := by omega); rw [e0]; rfl), rfl⟩
    · subst h1
      by_cases h0 : 0 < a
      all_goals
        go_wp2_with fail
        go_meet
        exact ⟨by first | rfl | ((have e0 : a = 0 := by omega); rw [e0]; rfl), rfl⟩
  case rest =>
    obtain ⟨rfl, rfl⟩ := hcut
    clear hc3
    by_cases hend : a = len
    · subst hend
      have E := Lib.hid (show nextP zs a = a by unfold nextP; rw [if_pos hz1.symm])
      have hq : ((a : Int) == (a : Int)) = true := by simp
      go_wp2_with fail
      go_ret
      exact ⟨ret_int (by rw [E.out]), Nx.refl _⟩
    · have hlt : a < len := by omega
      obtain ⟨b, off, rfl, hbl, hc⟩ := cell_nth hz hlt
      have q1 : ((a : Int) == (len : Int)) = false := by simp; omega
      obtain ⟨b1, b2, b3, hN⟩ := three_blks w (.slice (some ⟨b, off, none⟩) len cap) (.int .i64 (a : Nat)) (.int .i64 1) 25 3 3
      have hcell : (((w.alloc (.cells #[.slice (some ⟨b, off, none⟩) len cap] 25)).alloc (.cells #[.int .i64 (a : Nat)] 3)).alloc (.cells #[.int .i64 1] 3)).cell? ⟨b, off + a, none⟩ = some (.int .i32 (nth zs a)) := (hN.cell hbl).trans hc
      clear hc
      have hK : Blk ((((w.alloc (.cells #[.slice (some ⟨b, off, none⟩) len cap] 25)).alloc (.cells #[.int .i64 (a : Nat)] 3)).alloc (.cells #[.int .i64 1] 3)).alloc (.cells #[.int .i64 (kindI (nth zs a))] 3)) (w.heap.size + 1 + 1 + 1) 3 #[.int .i64 (kindI (nth zs a))] := by
        have := Blk.new (((w.alloc (.cells #[.slice (some ⟨b, off, none⟩) len cap] 25)).alloc (.cells #[.int .i64 (a : Nat)] 3)).alloc (.cells #[.int .i64 1] 3)) 3 #[.int .i64 (kindI (nth zs a))]
        rw [World.size_alloc, World.size_alloc, World.size_alloc] at this
        exact this
      have c1 := b1.alloc (.cells #[.int .i64 (kindI (nth zs a))] 3)
      have c2 := b2.alloc (.cells #[.int .i64 (kindI (nth zs a))] 3)
      have c3 := b3.alloc (.cells #[.int .i64 (kindI (nth zs a))] 3)
      have cN := hN.alloc (.cells #[.int .i64 (kindI (nth zs a))] 3)
      clear b1 b2 b3 hN
      have EN := Lib.hid (show nextP zs a = fwd blankB zs (if kindI (nth zs a) = 0 then a else fwd (isK (kindI (nth zs a))) zs a) by unfold nextP; rw [if_neg (by rw [hz1]; exact hend)])
      have hfk : fwd (isK (kindI (nth zs a))) zs a ≤ len := by have := fwd_le (isK (kindI (nth zs a))) zs a (by rw [hz1]; exact ha); rw [hz1] at this; exact this
      obtain ⟨kk, hkk⟩ : ∃ kk, kindI (nth zs a) = kk := ⟨_, rfl⟩
      rw [hkk] at hK c1 c2 c3 cN EN hfk
      have HK := Lib.hid hkk
      clear hkk
      by_cases hk0 : kk = 0
      · have q2 : (kk != 0) = false := by simpa using hk0
        rw [if_pos hk0] at EN
        clear hk0
        go_wp2_with (first | (go_at_call 26; refine (passer_any _ len cap zs _ _ _ hz1 hlen).mono ?_; rw [haa.out]; rintro e w1 ⟨rfl, rfl⟩) | (go_at_call 12; refine (kind_any _ _).mono ?_; rw [HK.out]; rintro e w1 ⟨rfl, rfl⟩))
        refine (pass_blank_f w _ _ len cap zs w.heap.size (w.heap.size + 1) (w.heap.size + 2) a hz cN (by omega) c1 c2 c3 ha hlen (by omega) (by omega)).mono ?_
        rintro e w2 ⟨rfl, _, hg⟩
        go_wp2_with fail
        go_ret
        exact ⟨ret_int (by rw [EN.out]), cN.grown hg (by intro k hk; injection hk with hk; omega)⟩
      · have q2 : (kk != 0) = true := by simpa using hk0
        rw [if_neg hk0] at EN
        clear hk0
        go_wp2_with (first | (go_at_call 26; refine (passer_any _ len cap zs _ _ _ hz1 hlen).mono ?_; rw [haa.out]; rintro e w1 ⟨rfl, rfl⟩) | (go_at_call 12; refine (kind_any _ _).mono ?_; rw [HK.out]; rintro e w1 ⟨rfl, rfl⟩))
        refine (pass_k_next w _ _ len cap zs w.heap.size (w.heap.size + 1) (w.heap.size + 2) a (w.heap.size + 1 + 1 + 1) kk hK (by omega) hz cN (by omega) c1 c2 c3 ha hlen (by omega) (by omega)).mono ?_
        rintro e w2 ⟨rfl, d2, hg⟩
        go_wp2_with fail
        refine (pass_blank_f w _ _ len cap zs w.heap.size (w.heap.size + 1) (w.heap.size + 2) _ hz (cN.grown hg (by intro k hk; injection hk with hk; omega)) (by omega) (c1.grown hg (by simp)) d2 (c3.grown hg (by simp)) hfk hlen (by omega) (by omega)).mono ?_
        rintro e w3 ⟨rfl, _, hg2⟩
        go_wp2_with fail
        go_ret
        exact ⟨ret_int (by rw [EN.out]), (cN.grown hg (by intro k hk; injection hk with hk; omega)).grown hg2 (by intro k hk; injection hk with hk; omega)⟩

set_option maxHeartbeats 400000 in
theorem prev_any (w : World) (A : Option Addr) (len cap : Nat) (zs : List Int) (at' : Int) (hz : IntsIn .i32 w A len zs) (hlen : len ≤ 1000) :
    Calls Try.prog 20 #[.slice A len cap, .int .i64 at'] w fun e w' => e = .returned (.int .i64 (prevP zs (place zs at') : Nat)) ∧ Nx w w' := by
  have hz1 := hz.1
  obtain ⟨a, hat⟩ : ∃ a, place zs at' = a := ⟨_, rfl⟩
  have hc3 := place_cases hz1 hat
  have ha : a ≤ len := by rcases hc3 with h | h | h <;> omega
  have haa := Lib.hid hat
  rw [hat]
  clear hat hc3
  obtain ⟨b1, b2, b3, hN⟩ := three_blks w (.slice A len cap) (.int .i64 (a : Nat)) (.int .i64 (-1)) 25 3 3
  have hb := bwd_le blankB zs a
  have EP := Lib.hid (show prevP zs a = if bwd blankB zs a = 0 then 0 else bwd (isK (kindI (nth zs (bwd blankB zs a - 1)))) zs (bwd blankB zs a) from rfl)
  generalize hbb : bwd blankB zs a = bb at EP hb
  have HB := Lib.hid hbb
  clear hbb
  rcases bb with _ | bb
  · rw [if_pos rfl] at EP
    go_enter Try.func20, Try.ntmps20
    go_wp2_with (go_at_call 26; refine (passer_any _ len cap zs _ _ _ hz1 hlen).mono ?_; rw [haa.out]; rintro e w1 ⟨rfl, rfl⟩)
    refine (pass_blank_b w _ _ len cap zs w.heap.size (w.heap.size + 1) (w.heap.size + 2) a hz hN (by omega) b1 b2 b3 ha hlen (by omega) (by omega)).mono ?_
    rw [HB.out]
    rintro e w2 ⟨rfl, _, hg⟩
    go_wp2_with fail
    go_ret
    exact ⟨ret_int (by rw [EP.out]; rfl), hN.grown hg (by intro k hk; injection hk with hk; omega)⟩
  · rw [if_neg (by omega), Nat.add_sub_cancel] at EP
    have hlt : bb < len := by omega
    obtain ⟨b, off, rfl, hbl, hc⟩ := cell_nth hz hlt
    have q1 : (((bb : Int) + 1) == 0) = false := by simp; omega
    have e1 : (bb : Int) + 1 - 1 = (bb : Int) := by omega
    go_enter Try.func20, Try.ntmps20
    go_wp2_with (go_at_call 26; refine (passer_any _ len cap zs _ _ _ hz1 hlen).mono ?_; rw [haa.out]; rintro e w1 ⟨rfl, rfl⟩)
    refine (pass_blank_b w _ _ len cap zs w.heap.size (w.heap.size + 1) (w.heap.size + 2) a hz hN (by omega) b1 b2 b3 ha hlen (by omega) (by omega)).mono ?_
    rw [HB.out, show ((bb + 1 : Nat) : Int) = (bb : Int) + 1 by omega]
    rintro e w2 ⟨rfl, d2, hg⟩
    have dN := hN.grown hg (by intro k hk; injection hk with hk; omega)
    have hcell : w2.cell? ⟨b, off + bb, none⟩ = some (.int .i32 (nth zs bb)) := (dN.cell hbl).trans hc
    have d1 := b1.grown hg (by simp)
    have d3 := b3.grown hg (by simp)
    have l1 := d1.lt
    have l2 := d2.lt
    have l3 := d3.lt
    clear b1 b2 b3 hN hg hc
    obtain ⟨kk, hkk⟩ : ∃ kk, kindI (nth zs bb) = kk := ⟨_, rfl⟩
    rw [hkk] at EP
    have HK := Lib.hid hkk
    clear hkk
    have hK := Blk.new w2 3 #[.int .i64 kk]
    go_wp2_with (go_at_call 12; refine (kind_any _ _).mono ?_; rw [HK.out]; rintro e w1 ⟨rfl, rfl⟩)
    refine (pass_k_prev w _ _ len cap zs w.heap.size (w.heap.size + 1) (w.heap.size + 2) (bb + 1) _ kk hK (by omega) hz (dN.alloc _) (by omega) (d1.alloc _) (by rw [show ((bb + 1 : Nat) : Int) = (bb : Int) + 1 by omega]; exact d2.alloc _) (d3.alloc _) (by omega) hlen (by omega) (by omega)).mono ?_
    rintro e w3 ⟨rfl, _, hg2⟩
    go_wp2_with fail
    go_ret
    exact ⟨ret_int (by rw [EP.out]), (dN.alloc _).grown hg2 (by intro k hk; injection hk with hk; omega)⟩
end Go.Proofs.Ytmmgbmmphmldeaa.walk
