/-
  Signs: Decode of the reference; are two rows the same? No condition but a bound on the bytes' number.
-/
import Derived.Test.YtmfjndoljdpliaaDoorWalk01g
namespace Go.Proofs.YtmfjndoljdpliaaDoor.walk
open Go.RowKit Go.Proofs.YtmfjndoljdpliaaDoor.kit Go.Proofs.YtmfjndoljdpliaaDoor.plain
set_option linter.unusedVariables false

/-- at the head of the reference's loop -/
def RR (s : ByteArray) (w : World) (s' : ByteArray) (ds : List Int) (v : Value) (wr : World) : Prop :=
  wr.ownsRow w.heap.size 21 1 v ds.length (ds.map (Value.int .i32)) ∧ decI (L s) = ds ++ decI (L s') ∧ ds.length + s'.size ≤ s.size ∧ Nx w wr
theorem RR.start (s : ByteArray) (w : World) : RR s w s [] (.slice (some ⟨w.heap.size, 0, none⟩) 0 0) (w.alloc (.cells #[] 21)) :=
  ⟨World.ownsRow_made w #[] 0 (Nat.le_refl _) (Nat.zero_le _) (by simp), by simp, by simp, (Nx.refl w).alloc _⟩
theorem RR.step {s s' : ByteArray} {w : World} {ds : List Int} {v : Value} {wr : World} {o : Obj} {w1 w2 : World} {g cap R K : Nat} (h : RR s w s' ds v wr) (hp : 1 ≤ s'.size) (hd : nd (L s') = (R, K)) (hx : Nx wr w1)
    (r1 : w2.ownsRow w.heap.size 21 1 (.slice (some ⟨g, 0, none⟩) (ds.length + 1) cap) (ds.length + 1) (ds.map (Value.int .i32) ++ [.int .i32 R]))
    (r2 : (w1.alloc o).grownBy w2 v.ownBlock) :
    RR s w (s'.extract K s'.size) (ds ++ [(R : Int)]) (.slice (some ⟨g, 0, none⟩) (ds.length + 1) cap) w2 ∧ (s'.extract K s'.size).size < s'.size := by
  obtain ⟨h3, h4, h5, h6⟩ := h
  have hk := nd_ok _ (L_ne hp)
  rw [hd, L_length] at hk
  have hl : L (s'.extract K s'.size) = (L s').drop K := by rw [L_extract, List.take_of_length_le (by rw [L_length]; omega)]
  have hsz : (s'.extract K s'.size).size = s'.size - K := by rw [← L_length, hl, List.length_drop, L_length]
  refine ⟨⟨?_, ?_, ?_, ?_⟩, by omega⟩
  · rw [List.length_append, List.length_singleton, List.map_append]; exact r1
  · rw [h4, hl, List.append_assoc]
    congr 1
    rw [show decI (L s') = ((nd (L s')).1 : Int) :: decI ((L s').drop (nd (L s')).2) by rw [decI, dec_cons _ (L_ne hp)]; rfl, hd]
    rfl
  · rw [List.length_append, List.length_singleton, hsz]; omega
  · have hbl := h3.lt
    exact ((h6.trans hx).alloc o).grown r2 (fun k hk => (hbl k hk).1)

set_option maxRecDepth 100000 in
set_option maxHeartbeats 2000000 in
theorem rdecode_any (s : ByteArray) (w : World) (hs : s.size ≤ 1000000) : Calls Tryd.prog 26 #[.string s] w (DP (decI (L s)) w) := by
  obtain ⟨i0, hi, hz0, hzs, hz2⟩ := info_parts info32
  have I0 := Lib.hid (And.intro hi (And.intro hz0 (And.intro hzs hz2)))
  clear hi hz0 hzs hz2
  go_enter Tryd.func26, Tryd.ntmps26
  go_wp2_with fail
  go_loopw [0, 3, 4, 5, 6] (fun x v _ _ _ wr => ∃ (s' : ByteArray) (ds : List Int), x = .string s' ∧ RR s w s' ds v wr) (fun x _ _ _ _ _ => strLen x)
  case atStart => exact ⟨s, [], rfl, RR.start s w⟩
  case round =>
    obtain ⟨s', ds, rfl, hR⟩ := hrel
    have hR' := hR
    obtain ⟨h3, h4, h5, h6⟩ := hR'
    have HR := Lib.hid hR
    have HR4 := Lib.hid h4
    clear hR h4
    have hsz := h6.size
    by_cases hp : 1 ≤ s'.size
    · have q1 : decide ((0 : Int) < (s'.size : Int)) = true := decide_eq_true (by omega)
      have q1' : decide (0 < s'.size) = true := decide_eq_true (by omega)
      have hk := nd_ok _ (L_ne hp)
      rw [L_length] at hk
      have cN := fun W => rnext_any s' W (by omega)
      have key : (∃ R K : Nat, nxV (L s') = .tuple #[.int .i32 R, .int .i64 K, .int .i64 0] ∧ nd (L s') = (R, K)) ∨ (nxV (L s') = .tuple #[.int .i32 0, .int .i64 0, .int .i64 3] ∧ nd (L s') = (65533, 1)) := by
        rcases nx_kinds (L s') with ⟨r, k, e⟩ | e | ⟨_, e⟩
        · exact .inl ⟨r, k, by simp [nxV, e], by simp [nd, e]⟩
        · exact .inr ⟨by simp [nxV, e], by simp [nd, e]⟩
        · exact absurd e (L_ne hp)
      rcases key with ⟨R, K, e1, e2⟩ | ⟨e1, e2⟩
      · rw [e1] at cN
        rw [e2] at hk
        have hk1 : 1 ≤ K := hk.1
        have hk2 : K ≤ s'.size := hk.2.1
        have CN := Lib.hid cN
        have E2 := Lib.hid e2
        clear cN hk e1 e2
        have b0 : (0 : Int) ≤ (K : Int) := by omega
        have b1 : (K : Int) ≤ (s'.size : Int) := by omega
        go_wp2_with fail
        refine (CN.out _).mono ?_
        rintro e w1 ⟨rfl, x1⟩
        clear CN
        have hO : w1.ownsRow w.heap.size 21 1 u3 ds.length (ds.map (Value.int .i32)) := own_keep h3 fun g _ hg => x1.block hg
        have hs1 := x1.size
        obtain ⟨z, hz⟩ : ∃ z : Int, (R : Int) = z := ⟨_, rfl⟩
        rw [hz]
        have HZ := Lib.hid hz
        clear hz
        go_wp2_with (at_builtin; refine wpList_append_lies _ rfl (.tmp 19) (.tmp 21) _ rfl w.heap.size 21 i0 _ 1 4 Tryd.underlying34 I0.out.1 I0.out.2.1 I0.out.2.2.1 I0.out.2.2.2 rfl (by omega) u3 ds.length (ds.map (Value.int .i32)) rfl (hO.alloc _) ⟨w1.heap.size, 0, none⟩ 1 1 [_] rfl rfl (one_new _ _ _) (int_one _ _) (by omega) (by unfold maxLen; omega) (by omega) ?_ (w1.heap.size + 1) (by simp) ?_)
        · rw [World.size_alloc]; omega
        · intro g4 c4 w4 r1 r2 r3 r4
          rw [← HZ.out] at r1
          obtain ⟨hR4, hlt4⟩ := RR.step HR.out hp E2.out x1 r1 r2
          have HR5 := Lib.hid hR4
          have hlt5 := Lib.hid hlt4
          clear hR4 r1 r2 r3 hO h3 HR HR4 hlt4
          go_wp2_with fail
          go_roundw
          case rel => exact ⟨_, _, rfl, HR5.out⟩
          case measure => exact hlt5.out
      · rw [e1] at cN
        have CN := Lib.hid cN
        have E2 := Lib.hid e2
        clear cN hk e1 e2
        have b1 : (1 : Int) ≤ (s'.size : Int) := by omega
        go_wp2_with fail
        refine (CN.out _).mono ?_
        rintro e w1 ⟨rfl, x1⟩
        clear CN
        have hO : w1.ownsRow w.heap.size 21 1 u3 ds.length (ds.map (Value.int .i32)) := own_keep h3 fun g _ hg => x1.block hg
        have hs1 := x1.size
        go_wp2_with (at_builtin; refine wpList_append_lies _ rfl (.tmp 19) (.tmp 21) _ rfl w.heap.size 21 i0 _ 1 4 Tryd.underlying34 I0.out.1 I0.out.2.1 I0.out.2.2.1 I0.out.2.2.2 rfl (by omega) u3 ds.length (ds.map (Value.int .i32)) rfl (hO.alloc _) ⟨w1.heap.size, 0, none⟩ 1 1 [_] rfl rfl (one_new _ _ _) (int_one _ _) (by omega) (by unfold maxLen; omega) (by omega) ?_ (w1.heap.size + 1) (by simp) ?_)
        · rw [World.size_alloc]; omega
        · intro g4 c4 w4 r1 r2 r3 r4
          obtain ⟨hR4, hlt4⟩ := RR.step HR.out hp E2.out x1 r1 r2
          have HR5 := Lib.hid hR4
          have hlt5 := Lib.hid hlt4
          clear hR4 r1 r2 r3 hO h3 HR HR4 hlt4
          go_wp2_with fail
          go_roundw
          case rel => exact ⟨_, _, rfl, HR5.out⟩
          case measure => exact hlt5.out
    · have q1 : decide ((0 : Int) < (s'.size : Int)) = false := decide_eq_false (by omega)
      have q1' : decide (0 < s'.size) = false := decide_eq_false (by omega)
      obtain ⟨A, cap, rfl⟩ := own_form h3
      go_wp2_with fail
      go_ret
      refine ⟨A, _, cap, rfl, ?_, h6⟩
      have e : L s' = [] := List.eq_nil_of_length_eq_zero (by rw [L_length]; omega)
      have h4 := HR4.out
      rw [e, show decI [] = [] from rfl, List.append_nil] at h4
      rw [h4]
      exact h3

set_option maxHeartbeats 1000000 in
theorem same_eq (w : World) (A B : Option Addr) (n ca cb : Nat) (l : List Int) (h1 : IntsIn .i32 w A n l) (h2 : IntsIn .i32 w B n l) (hn : n ≤ 9223372036854775806) :
    Calls Tryd.prog 15 #[.slice A n ca, .slice B n cb] w fun e w' => e = .returned (.bool true) ∧ Nx w w' := by
  have q0 : ((n : Int) != (n : Int)) = false := by simp
  go_enter Tryd.func15, Tryd.ntmps15
  go_wp2_with fail
  go_loopw [4, 5] (fun _ i wr => ∃ k : Nat, k ≤ n ∧ i = .int .i64 k ∧ Nx w wr) (fun _ i _ => n - (intOf i).toNat)
  case atStart => exact ⟨0, Nat.zero_le _, rfl, Nx.refl _⟩
  case round =>
    obtain ⟨k, hk, rfl, hN⟩ := hrel
    by_cases hlt : k < n
    · obtain ⟨a, off, rfl, la, a0⟩ := h1.at_ hlt
      obtain ⟨b, of2, rfl, lb, b0⟩ := h2.at_ hlt
      have c0 := (hN.cell (p := ⟨a, off + k, none⟩) la).trans a0
      have d0 := (hN.cell (p := ⟨b, of2 + k, none⟩) lb).trans b0
      have q1 : decide ((k : Int) < (n : Int)) = true := decide_eq_true (by omega)
      have q1' : decide (k < n) = true := decide_eq_true hlt
      have hi0 : (0 : Int) ≤ (k : Int) := by omega
      have hi1 : (k : Int) < (n : Int) := by omega
      clear a0 b0
      go_wp2_with fail
      go_quiet (fail)
      go_wp2_with fail
      go_roundw
      case rel => exact ⟨k + 1, by omega, by go_num, hN.drewN _⟩
      case measure => simp [intOf]; omega
    · have q1 : decide ((k : Int) < (n : Int)) = false := decide_eq_false (by omega)
      have q1' : decide (k < n) = false := decide_eq_false hlt
      go_wp2_with fail
      go_ret
      exact ⟨rfl, hN⟩
end Go.Proofs.YtmfjndoljdpliaaDoor.walk
