/-
  Counts: what digits make of a count, by the reference. No condition.
-/
import Derived.Test.YtifaccolbmcgjaaWalk15a
import Derived.RegionTactic
namespace Go.Proofs.Ytifaccolbmcgjaa.walk
open Go.RowKit Go.Proofs.Ytifaccolbmcgjaa.kit Go.Proofs.Ytifaccolbmcgjaa.plain
set_option linter.unusedVariables false

theorem blk_two {W : World} {b : Nat} {t : TypeId} {x y z u v : Value} (h : Blk W b t #[x, y, z]) : Blk ((W.setCell ⟨b, 0, none⟩ u).setCell ⟨b, 2, none⟩ v).drew b t #[u, y, v] := ((h.set_ 0 u).set_ 2 v).drew
theorem blk_three {W : World} {b : Nat} {t : TypeId} {x y z u v p : Value} (h : Blk W b t #[x, y, z]) : Blk (((W.setCell ⟨b, 0, none⟩ u).setCell ⟨b, 2, none⟩ v).setCell ⟨b, 2, none⟩ p).drew b t #[u, y, p] := (((h.set_ 0 u).set_ 2 v).set_ 2 p).drew

set_option maxHeartbeats 1000000 in
theorem rdigit_any (h g : Bool) (n : Int) (A : Option Addr) (len cap : Nat) (zs : List Int) (w : World) (hz : IntsIn .i64 w A len zs) (hl : len ≤ 9223372036854775806) :
    Calls Try.prog 9 #[.agg #[.bool h, .bool g, .int .i64 n], .slice A len cap] w fun e w' => e = .returned (.agg #[.bool (digH h g n zs), .bool g, .int .i64 (digN h g n zs)]) ∧ Nx w w' := by
  obtain ⟨b, hb⟩ : ∃ b, isB h g n = b := ⟨_, rfl⟩
  have hI : b = true → ∀ k, isB (foldH h (zs.take k)) g (foldN n (zs.take k)) = true := fun e1 k => by subst e1; exact is_fold _ hb
  have H := Lib.hid hb
  cases b
  · have e1 : digH h g n zs = h := by simp [digH, hb]
    have e2 : digN h g n zs = n := by simp [digN, hb]
    have E1 := Lib.hid e1; have E2 := Lib.hid e2
    clear hb hI e1 e2
    by_cases h0 : 0 < len
    all_goals
      go_enter Try.func9, Try.ntmps9
      go_wp2
      refine wp_loop_rounds 1 ?_
      rw [rounds_succ]
      go_wp2_with (go_at_call 11; refine (ris_any _ _ _ _).mono ?_; rw [H.out]; rintro e w1 ⟨rfl, rfl⟩)
      refine bodyPost_ret (v := .agg #[.bool _, .bool g, .int .i64 _]) (by rw [E1.out, E2.out]; simp [results, Try.results9, go_sem]) rfl ⟨rfl, ?_⟩
      first | exact (((Nx.refl _).alloc _).alloc _).alloc _ | exact ((Nx.refl _).alloc _).alloc _
  · have e1 : digH h g n zs = foldH h zs := by simp [digH, hb]
    have e2 : digN h g n zs = foldN n zs := by simp [digN, hb]
    rw [e1, e2]
    have HI := Lib.hid (hI rfl)
    clear hb hI e1 e2 H
    go_enter Try.func9, Try.ntmps9
    go_wp2
    go_loopw [5] (fun i wr => ∃ k : Nat, k ≤ len ∧ i = .int .i64 k ∧ Blk wr w.heap.size 23 #[.bool (foldH h (zs.take k)), .bool g, .int .i64 (foldN n (zs.take k))] ∧ Blk wr (w.heap.size + 1) 23 #[.bool false, .bool false, .int .i64 0] ∧ Nx w wr)
      (fun i _ => len - (intOf i).toNat)
    case atStart =>
      refine ⟨0, Nat.zero_le _, rfl, ?_, ?_, ((Nx.refl _).alloc _).alloc _⟩
      · exact (Blk.new _ _ _).alloc _
      · have := Blk.new (w.alloc (.cells #[.bool h, .bool g, .int .i64 n] 23)) 23 #[.bool false, .bool false, .int .i64 0]
        rw [World.size_alloc] at this
        exact this
    case round =>
      obtain ⟨k, hk, rfl, hB, hR, hN⟩ := hrel
      have HK := Lib.hid (HI.out k)
      have hf := isB_true.1 (HI.out k)
      have hf0 := hf.1
      have hf1 := hf.2.1
      clear hf
      have hsz := hN.size
      have hB' := hB.alloc (.cells #[.bool (foldH h (zs.take k)), .bool g, .int .i64 (foldN n (zs.take k))] 23)
      have hR' := hR.alloc (.cells #[.bool (foldH h (zs.take k)), .bool g, .int .i64 (foldN n (zs.take k))] 23)
      have c0 := hB.cell 0; have c1 := hB.cell 1; have c2 := hB.cell 2
      have d0 := hB'.cell 0; have d1 := hB'.cell 1; have d2 := hB'.cell 2
      have f0 := hB'.frozen 0; have f2 := hB'.frozen 2
      have r0 := hR.cell 0; have r1 := hR.cell 1; have r2 := hR.cell 2
      have fr0 := hR.frozen 0; have fr1 := hR.frozen 1; have fr2 := hR.frozen 2
      simp only [List.getElem?_toArray, List.getElem?_cons_zero, List.getElem?_cons_succ] at c0 c1 c2 d0 d1 d2 r0 r1 r2
      by_cases hlt : k < len
      · obtain ⟨b, off, rfl, hlb, hc⟩ := hz.at_ hlt
        have hcell := ((hN.alloc (.cells #[.bool (foldH h (zs.take k)), .bool g, .int .i64 (foldN n (zs.take k))] 23)).cell (p := ⟨b, off + k, none⟩) hlb).trans hc
        clear r0 r1 r2 fr0 fr1 fr2 hc
        by_cases hx : 0 ≤ nth zs k ∧ nth zs k ≤ 9
        · obtain ⟨hx0, hx1⟩ := hx
          have hkz : k < zs.length := by rw [hz.1]; exact hlt
          have eH : foldH h (zs.take (k + 1)) = true := by rw [take_nth hkz, foldH_snoc]; simp only [stepH]; rw [if_pos ⟨hx0, hx1⟩]
          have EH := Lib.hid eH
          clear eH
          have s2 := ((hB'.set_ 0 (.bool true)).set_ 2 (.int .i64 (10 * foldN n (zs.take k) + nth zs k))).cell 2
          have t2 := ((hB'.set_ 0 (.bool true)).set_ 2 (.int .i64 (10 * foldN n (zs.take k) + nth zs k))).frozen 2
          simp at s2
          by_cases hcap : 9999 < 10 * foldN n (zs.take k) + nth zs k
          · have eN : foldN n (zs.take (k + 1)) = 9999 := by
              rw [take_nth hkz, foldN_snoc]; simp only [stepN]; rw [if_pos ⟨hx0, hx1⟩, if_neg (by omega)]
            have EN := Lib.hid eN
            clear eN
            go_wp2_with (go_at_call 11; refine (ris_any _ _ _ _).mono ?_; rw [HK.out]; rintro e w1 ⟨rfl, rfl⟩)
            go_region
            go_wp2
            go_roundw
            case rel =>
              refine ⟨k + 1, by omega, by go_num, ?_, (((hR'.far (by simp) _).far (by simp) _).far (by simp) _).drew, ((((hN.alloc _).setCell (Nat.le_refl _) _).setCell (Nat.le_refl _) _).setCell (Nat.le_refl _) _).drew⟩
              rw [EH.out, EN.out]; exact blk_three hB'
            case measure => simp [intOf]; omega
          · have eN : foldN n (zs.take (k + 1)) = 10 * foldN n (zs.take k) + nth zs k := by
              rw [take_nth hkz, foldN_snoc]; simp only [stepN]; rw [if_pos ⟨hx0, hx1⟩, if_pos (by omega)]
            have EN := Lib.hid eN
            clear eN
            go_wp2_with (go_at_call 11; refine (ris_any _ _ _ _).mono ?_; rw [HK.out]; rintro e w1 ⟨rfl, rfl⟩)
            go_region
            go_wp2
            go_roundw
            case rel =>
              refine ⟨k + 1, by omega, by go_num, ?_, ((hR'.far (by simp) _).far (by simp) _).drew, (((hN.alloc _).setCell (Nat.le_refl _) _).setCell (Nat.le_refl _) _).drew⟩
              rw [EH.out, EN.out]; exact blk_two hB'
            case measure => simp [intOf]; omega
        · have eH : foldH h (zs.take (k + 1)) = foldH h (zs.take k) := by
            rw [take_nth (by rw [hz.1]; exact hlt), foldH_snoc]; simp only [stepH, if_neg hx]
          have eN : foldN n (zs.take (k + 1)) = foldN n (zs.take k) := by
            rw [take_nth (by rw [hz.1]; exact hlt), foldN_snoc]; simp only [stepN, if_neg hx]
          have EH := Lib.hid eH; have EN := Lib.hid eN
          clear eH eN
          have hx' : nth zs k < 0 ∨ (0 ≤ nth zs k ∧ 9 < nth zs k) := by omega
          clear hx
          rcases hx' with hx | ⟨hx, hx9⟩
          all_goals
            go_wp2_with (go_at_call 11; refine (ris_any _ _ _ _).mono ?_; rw [HK.out]; rintro e w1 ⟨rfl, rfl⟩)
            go_roundw
            case rel => exact ⟨k + 1, by omega, by go_num, by rw [EH.out, EN.out]; exact hB', hR', hN.alloc _⟩
            case measure => simp [intOf]; omega
      · have ek : zs.take k = zs := List.take_of_length_le (by rw [hz.1]; omega)
        rw [ek] at c0 c2
        clear hB ek hB' hR' d0 d1 d2 f0 f2
        have s0 := (hR.set_ 0 (.bool (foldH h zs))).cell 0
        have s1 := ((hR.set_ 0 (.bool (foldH h zs))).set_ 1 (.bool g)).cell 1
        have s2 := (((hR.set_ 0 (.bool (foldH h zs))).set_ 1 (.bool g)).set_ 2 (.int .i64 (foldN n zs))).cell 2
        simp at s0 s1 s2
        have S := Lib.hid (And.intro s0 (And.intro s1 s2))
        clear s0 s1 s2
        go_wp2
        refine bodyPost_ret (v := .agg #[.bool _, .bool g, .int .i64 _]) (by simp [results, Try.results9, go_sem, S.out.1, S.out.2.1, S.out.2.2]) rfl ⟨rfl, ?_⟩
        exact ((hN.setCell (Nat.le_succ _) _).setCell (Nat.le_succ _) _).setCell (Nat.le_succ _) _
end Go.Proofs.Ytifaccolbmcgjaa.walk
