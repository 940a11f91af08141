/-
  Counts: what digits make of a count, by the program and by the reference. No condition.
-/
import Derived.Test.YtifaccolbmcgjaaWalk15a
namespace Go.Proofs.Ytifaccolbmcgjaa.walk
open Go.RowKit Go.Proofs.Ytifaccolbmcgjaa.kit Go.Proofs.Ytifaccolbmcgjaa.plain
set_option linter.unusedVariables false

set_option maxHeartbeats 400000 in
theorem digit_any (h g : Bool) (n : Int) (A : Option Addr) (len cap : Nat) (zs : List Int) (w : World) (hz : IntsIn .i64 w A len zs) (hl : len ≤ 9223372036854775807) :
    Calls Try.prog 8 #[.agg #[.bool h, .bool g, .int .i64 n], .slice A len cap] w fun e w' => e = .returned (.agg #[.bool (digH h g n zs), .bool g, .int .i64 (digN h g n zs)]) ∧ Nx w w' := by
  obtain ⟨b, hb⟩ : ∃ b, isB h g n = b := ⟨_, rfl⟩
  have hr : b = true → 0 ≤ n ∧ n ≤ 9999 := fun e1 => by subst e1; have := isB_true.1 hb; omega
  have H := Lib.hid hb
  cases b
  · have e1 : digH h g n zs = h := by simp [digH, hb]
    have e2 : digN h g n zs = n := by simp [digN, hb]
    have E1 := Lib.hid e1; have E2 := Lib.hid e2
    clear hb hr e1 e2
    go_enter Try.func8, Try.ntmps8
    go_wp2_with (go_at_call 10; refine (is_any _ _ _ _).mono ?_; rw [H.out]; rintro e w1 ⟨rfl, rfl⟩)
    refine bodyPost_ret (v := .agg #[.bool _, .bool g, .int .i64 _]) (by rw [E1.out, E2.out]; simp [results, Try.results8, go_sem]) rfl ⟨rfl, ?_⟩
    exact (((Nx.refl _).alloc _).alloc _).alloc _
  · obtain ⟨h0, h1⟩ := hr rfl
    have e1 : digH h g n zs = foldH h zs := by simp [digH, hb]
    have e2 : digN h g n zs = foldN n zs := by simp [digN, hb]
    rw [e1, e2]
    clear hb hr e1 e2
    go_enter Try.func8, Try.ntmps8
    go_wp2_with (go_at_call 10; refine (is_any _ _ _ _).mono ?_; rw [H.out]; rintro e w1 ⟨rfl, rfl⟩)
    go_loopw [13] (fun i wr => ∃ k : Nat, k ≤ len ∧ i = .int .i64 k ∧ Blk wr w.heap.size 23 #[.bool (foldH h (zs.take k)), .bool g, .int .i64 (foldN n (zs.take k))] ∧ Blk wr (w.heap.size + 1) 23 #[.bool false, .bool false, .int .i64 0] ∧ Nx w wr ∧ 0 ≤ foldN n (zs.take k) ∧ foldN n (zs.take k) ≤ 9999)
      (fun i _ => len - (intOf i).toNat)
    case atStart =>
      refine ⟨0, Nat.zero_le _, rfl, ?_, ?_, (((Nx.refl _).alloc _).alloc _).alloc _, h0, h1⟩
      · exact ((Blk.new _ _ _).alloc _).alloc _
      · have := Blk.new (w.alloc (.cells #[.bool h, .bool g, .int .i64 n] 23)) 23 #[.bool false, .bool false, .int .i64 0]
        rw [World.size_alloc] at this
        exact this.alloc _
    case round =>
      obtain ⟨k, hk, rfl, hB, hR, hN, hf0, hf1⟩ := hrel
      have hsz := hN.size
      have c0 := hB.cell 0; have c1 := hB.cell 1; have c2 := hB.cell 2
      have f0 := hB.frozen 0; have f2 := hB.frozen 2
      have r0 := hR.cell 0; have r1 := hR.cell 1; have r2 := hR.cell 2
      have fr0 := hR.frozen 0; have fr1 := hR.frozen 1; have fr2 := hR.frozen 2
      simp at c0 c1 c2 r0 r1 r2
      by_cases hlt : k < len
      · obtain ⟨b, off, rfl, hlb, hc⟩ := hz.at_ hlt
        have hcell := (hN.cell (p := ⟨b, off + k, none⟩) hlb).trans hc
        clear r0 r1 r2 fr0 fr1 fr2 hc
        by_cases hx : 0 ≤ nth zs k ∧ nth zs k ≤ 9
        · obtain ⟨hx0, hx1⟩ := hx
          go_wp2
          all_goals
            go_roundw
            case rel =>
              have hkz : k < zs.length := by rw [hz.1]; exact hlt
              have eH : foldH h (zs.take (k + 1)) = true := by rw [take_nth hkz, foldH_snoc]; simp only [stepH]; rw [if_pos ⟨hx0, hx1⟩]
              have eN : foldN n (zs.take (k + 1)) = if 9999 < 10 * foldN n (zs.take k) + nth zs k then 9999 else 10 * foldN n (zs.take k) + nth zs k := by
                rw [take_nth hkz, foldN_snoc]; simp only [stepN]; rw [if_pos ⟨hx0, hx1⟩]; split <;> split <;> omega
              refine ⟨k + 1, by omega, by go_num, ?_, ?_, ?_, ?_, ?_⟩
              · have := (hB.set_ 0 (.bool true)).set_ 2 (.int .i64 (if 9999 < 10 * foldN n (zs.take k) + nth zs k then 9999 else 10 * foldN n (zs.take k) + nth zs k))
                rw [eH, eN]; simpa using this
              · exact (hR.far (by simp) _).far (by simp) _
              · exact (hN.setCell (Nat.le_refl _) _).setCell (Nat.le_refl _) _
              · rw [eN]; split <;> omega
              · rw [eN]; split <;> omega
            case measure => simp [intOf]; omega
        · have eH : foldH h (zs.take (k + 1)) = foldH h (zs.take k) := by
            rw [take_nth (by rw [hz.1]; exact hlt), foldH_snoc]; simp only [stepH, if_neg hx]
          have eN : foldN n (zs.take (k + 1)) = foldN n (zs.take k) := by
            rw [take_nth (by rw [hz.1]; exact hlt), foldN_snoc]; simp only [stepN, if_neg hx]
          have EH := Lib.hid eH; have EN := Lib.hid eN
          clear eH eN
          have hx' : nth zs k < 0 ∨ 9 < nth zs k := by omega
          clear hx
          rcases hx' with hx | hx
          all_goals
            go_wp2
            go_roundw
            case rel => exact ⟨k + 1, by omega, by go_num, by rw [EH.out, EN.out]; exact hB, hR, hN, by rw [EN.out]; exact hf0, by rw [EN.out]; exact hf1⟩
            case measure => simp [intOf]; omega
      · have ek : zs.take k = zs := List.take_of_length_le (by rw [hz.1]; omega)
        rw [ek] at c0 c2
        clear hB ek
        have s0 := (hR.set_ 0 (.bool (foldH h zs))).cell 0
        have s1 := ((hR.set_ 0 (.bool (foldH h zs))).set_ 1 (.bool g)).cell 1
        have s2 := (((hR.set_ 0 (.bool (foldH h zs))).set_ 1 (.bool g)).set_ 2 (.int .i64 (foldN n zs))).cell 2
        simp at s0 s1 s2
        have S := Lib.hid (And.intro s0 (And.intro s1 s2))
        clear s0 s1 s2
        go_wp2
        refine bodyPost_ret (v := .agg #[.bool _, .bool g, .int .i64 _]) (by simp [results, Try.results8, go_sem, S.out.1, S.out.2.1, S.out.2.2]) rfl ⟨rfl, ?_⟩
        exact ((hN.setCell (Nat.le_succ _) _).setCell (Nat.le_succ _) _).setCell (Nat.le_succ _) _
end Go.Proofs.Ytifaccolbmcgjaa.walk
