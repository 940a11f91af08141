/-
  Keys: what is settled (Settle), by the program and by the reference. No condition but a bound on the bytes' number.
-/
import Derived.Test.YtmfccecjphfkiaaDoorWalk16e
namespace Go.Proofs.YtmfccecjphfkiaaDoor.walk
open Go.RowKit Go.Proofs.YtmfccecjphfkiaaDoor.kit Go.Proofs.YtmfccecjphfkiaaDoor.plain
set_option linter.unusedVariables false

set_option maxRecDepth 100000 in
set_option maxHeartbeats 4000000 in
theorem settle_any (s : ByteArray) (w : World) (hs : s.size ≤ 1000000) : Calls Tryd.prog 15 #[.string s] w (KP (settleK (L s)) w) := by
  obtain ⟨i0, hi, hz0, hzs, hz2⟩ := info_parts infoK
  have I0 := Lib.hid (And.intro hi (And.intro hz0 (And.intro hzs hz2)))
  clear hi hz0 hzs hz2
  by_cases c0 : bt (L s) 0 ≠ 27
  · have C0 := Lib.hid (fun W => cut_no s W c0)
    rw [settle_no c0]
    obtain ⟨pre, hpre⟩ : ∃ pre : List KEY, [] = pre := ⟨_, rfl⟩
    rw [hpre]
    have hpl : pre.length ≤ 1 := by rw [← hpre]; simp
    have HP := Lib.hid hpre
    clear hpre
    have hdl := decI_length (L s)
    rw [L_length] at hdl
    have CD := Lib.hid (fun W => decode_any s W (by omega))
    generalize decI (L s) = zs at *
    clear c0
    go_enter Tryd.func15, Tryd.ntmps15
    go_wp2_with fail
    refine (C0.out _).mono ?_
    rintro e w1 ⟨rfl, rfl⟩
    clear C0
    go_wp2_with fail
    refine (CD.out _).mono ?_
    rintro e w2 ⟨A, n, cap, rfl, o2, x2⟩
    clear CD
    have hn : zs.length = n := by have := o2.1; simpa using this
    have hn1 : n ≤ 1000000 := by omega
    have hS : SR w pre zs (.slice A n cap) n 0 (.slice none 0 0) w2 := by rw [← HP.out]; exact ⟨hn, Nat.zero_le _, o2, World.ownsRow_nil _ _ _ _, x2⟩
    have HS := Lib.hid hS
    clear hn hS o2 x2
    go_wp2_with fail
    go_loopw [3, 7, 21] (fun v _ i wr => ∃ k : Nat, i = .int .i64 k ∧ SR w pre zs (.slice A n cap) n k v wr) (fun _ _ i _ => n - (intOf i).toNat)
    case atStart => exact ⟨0, rfl, HS.out⟩
    case round =>
      clear HS
      obtain ⟨k, rfl, hS⟩ := hrel
      have HS := Lib.hid hS
      obtain ⟨h1, h2, h3, h4, h5⟩ := hS
      have hsz := h5.size
      by_cases hlt : k < n
      · obtain ⟨A', cap', hv, hI, _, _⟩ := own_ints h3
        injection hv with hv _ hc
        subst hv hc
        obtain ⟨b, off, rfl, lb, c0⟩ := hI.at_ hlt
        have q1 : decide ((k : Int) < (n : Int)) = true := decide_eq_true (by omega)
        have q1' : decide (k < n) = true := decide_eq_true hlt
        have hi0 : (0 : Int) ≤ (k : Int) := by omega
        have hi1 : (k : Int) < (n : Int) := by omega
        obtain ⟨z, hz⟩ : ∃ z, nth zs k = z := ⟨_, rfl⟩
        rw [hz] at c0
        have HZ := Lib.hid hz
        clear hz h1 h3 hI
        go_wp2_with (at_builtin; refine wpList_append_lies _ rfl (.tmp 25) (.tmp 28) _ rfl w.heap.size 23 i0 _ 2 16 Tryd.underlying31 I0.out.1 I0.out.2.1 I0.out.2.2.1 I0.out.2.2.2 rfl (by omega) u3 (pre.length + k) (flatK (pre ++ runes (zs.take k))) rfl (h4.alloc _) ⟨wr.heap.size, 0, none⟩ 1 1 [_, _] rfl rfl (key_new _ _ _ _) key_one (by omega) (by unfold maxLen; omega) (by omega) ?_ (wr.heap.size + 1) (by simp) ?_)
        · first | omega | (rw [World.size_alloc]; omega)
        · intro g4 c4 w4 r1 r2 r3 r4
          rw [← HZ.out] at r1
          have HS5 := Lib.hid (SR.step HS.out hlt r1 r2)
          clear r1 r2 r3 h4 h5 HS
          go_wp2_with fail
          go_roundw
          case rel => exact ⟨k + 1, by go_num, HS5.out⟩
          case measure => simp [intOf]; omega
      · obtain rfl : k = n := by omega
        have q1 : decide ((k : Int) < (k : Int)) = false := decide_eq_false (by omega)
        obtain ⟨A4, cap4, rfl⟩ := own_form h4
        clear h3 h4
        go_wp2_with fail
        go_ret
        exact SR.out HS.out rfl
  · have c0' : bt (L s) 0 = 27 := by omega
    have C0 := Lib.hid (fun W => cut_yes s W c0')
    rw [settle_yes c0']
    obtain ⟨pre, hpre⟩ : ∃ pre : List KEY, [(10, 0)] = pre := ⟨_, rfl⟩
    rw [hpre]
    have hpl : pre.length ≤ 1 := by rw [← hpre]; simp
    have HP := Lib.hid hpre
    clear hpre
    have hs1 : 1 ≤ s.size := by
      rcases Nat.lt_or_ge s.size 1 with g | g
      · rw [bt_ge (by rw [L_length]; omega)] at c0'; simp at c0'
      · exact g
    obtain ⟨hr1, hr2⟩ := size_rest s 1
    generalize s.extract 1 s.size = R at *
    have hdl := decI_length (L R)
    rw [L_length] at hdl
    have CD := Lib.hid (fun W => decode_any R W (by omega))
    rw [← hr2]
    generalize decI (L R) = zs at *
    have hzl : zs.length ≤ 1000000 := by omega
    clear c0 c0' hr1 hr2 hdl
    go_enter Tryd.func15, Tryd.ntmps15
    go_wp2_with fail
    refine (C0.out _).mono ?_
    rintro e w1 ⟨rfl, rfl⟩
    clear C0
    go_wp2_with (at_builtin; refine wpList_append_lies _ rfl (.tmp 14) (.tmp 16) _ rfl w.heap.size 23 i0 _ 2 16 Tryd.underlying31 I0.out.1 I0.out.2.1 I0.out.2.2.1 I0.out.2.2.2 rfl (by omega) (.slice none 0 0) 0 [] rfl (World.ownsRow_nil _ _ _ _) ⟨w.heap.size, 0, none⟩ 1 1 [_, _] rfl rfl (key_new _ _ _ _) key_one (by omega) (by unfold maxLen; omega) (by omega) (by rw [World.size_alloc]; omega) (w.heap.size + 1) (by simp) ?_)
    intro g1 c1 w1 r1 r2 r3 r4
    have nx1 : Nx w w1 := ((Nx.refl w).alloc _).grown r2 (fun k hk => by cases hk)
    have R1 := Lib.hid r1
    clear r1 r2 r3
    go_wp2_with fail
    refine (CD.out _).mono ?_
    rintro e w2 ⟨A, n, cap, rfl, o2, x2⟩
    clear CD
    have hn : zs.length = n := by have := o2.1; simpa using this
    have hn1 : n ≤ 1000000 := by omega
    have hS : SR w pre zs (.slice A n cap) n 0 (.slice (some ⟨g1, 0, none⟩) 1 c1) w2 := by rw [← HP.out]; exact ⟨hn, Nat.zero_le _, own_more o2 nx1.size, own_nx R1.out x2, nx1.trans x2⟩
    have HS := Lib.hid hS
    clear hn hS o2 x2 nx1 R1 hzl
    go_wp2_with fail
    go_loopw [3, 7, 21] (fun v _ i wr => ∃ k : Nat, i = .int .i64 k ∧ SR w pre zs (.slice A n cap) n k v wr) (fun _ _ i _ => n - (intOf i).toNat)
    case atStart => exact ⟨0, rfl, HS.out⟩
    case round =>
      clear HS
      obtain ⟨k, rfl, hS⟩ := hrel
      have HS := Lib.hid hS
      obtain ⟨h1, h2, h3, h4, h5⟩ := hS
      have hsz := h5.size
      by_cases hlt : k < n
      · obtain ⟨A', cap', hv, hI, _, _⟩ := own_ints h3
        injection hv with hv _ hc
        subst hv hc
        obtain ⟨b, off, rfl, lb, c0⟩ := hI.at_ hlt
        have q1 : decide ((k : Int) < (n : Int)) = true := decide_eq_true (by omega)
        have q1' : decide (k < n) = true := decide_eq_true hlt
        have hi0 : (0 : Int) ≤ (k : Int) := by omega
        have hi1 : (k : Int) < (n : Int) := by omega
        obtain ⟨z, hz⟩ : ∃ z, nth zs k = z := ⟨_, rfl⟩
        rw [hz] at c0
        have HZ := Lib.hid hz
        clear hz h1 h3 hI
        go_wp2_with (at_builtin; refine wpList_append_lies _ rfl (.tmp 25) (.tmp 28) _ rfl w.heap.size 23 i0 _ 2 16 Tryd.underlying31 I0.out.1 I0.out.2.1 I0.out.2.2.1 I0.out.2.2.2 rfl (by omega) u3 (pre.length + k) (flatK (pre ++ runes (zs.take k))) rfl (h4.alloc _) ⟨wr.heap.size, 0, none⟩ 1 1 [_, _] rfl rfl (key_new _ _ _ _) key_one (by omega) (by unfold maxLen; omega) (by omega) ?_ (wr.heap.size + 1) (by simp) ?_)
        · first | omega | (rw [World.size_alloc]; omega)
        · intro g4 c4 w4 r1 r2 r3 r4
          rw [← HZ.out] at r1
          have HS5 := Lib.hid (SR.step HS.out hlt r1 r2)
          clear r1 r2 r3 h4 h5 HS
          go_wp2_with fail
          go_roundw
          case rel => exact ⟨k + 1, by go_num, HS5.out⟩
          case measure => simp [intOf]; omega
      · obtain rfl : k = n := by omega
        have q1 : decide ((k : Int) < (k : Int)) = false := decide_eq_false (by omega)
        obtain ⟨A4, cap4, rfl⟩ := own_form h4
        clear h3 h4
        go_wp2_with fail
        go_ret
        exact SR.out HS.out rfl
end Go.Proofs.YtmfccecjphfkiaaDoor.walk
