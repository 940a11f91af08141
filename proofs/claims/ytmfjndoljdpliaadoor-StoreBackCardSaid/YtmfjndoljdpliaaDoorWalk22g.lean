/-
  A past: the signs of one line (store.line). No condition but the library's two tables and a bound on the bytes, among which no byte 10 is.
-/
import Derived.Test.YtmfjndoljdpliaaDoorWalk22f
namespace Go.Proofs.YtmfjndoljdpliaaDoor.walk
open Go.RowKit Go.Proofs.YtmfjndoljdpliaaDoor.kit Go.Proofs.YtmfjndoljdpliaaDoor.plain
set_option linter.unusedVariables false

/-- what line answers -/
def LineP (b : List UInt8) (w : World) (e : Ending) (w' : World) : Prop :=
  (∃ A n cap zs, e = .returned (.tuple #[.slice A n cap, .bool true]) ∧ w'.ownsRow w.heap.size 21 1 (.slice A n cap) n (zs.map (Value.int .i32)) ∧ escs zs = b ∧ (∀ r ∈ zs, valI r = true) ∧ Nx w w') ∨
  (e = .returned (.tuple #[.slice none 0 0, .bool false]) ∧ noLine b ∧ Nx w w')
/-- at the head of its loop -/
def LR (s : ByteArray) (w : World) (S : ByteArray) (ds : List Int) (v : Value) (wr : World) : Prop :=
  wr.ownsRow w.heap.size 21 1 v ds.length (ds.map (Value.int .i32)) ∧ LS (L s) ds (L S) ∧ ds.length + S.size ≤ s.size ∧ Nx w wr
theorem LR.step {s : ByteArray} {w : World} {S : ByteArray} {ds : List Int} {v : Value} {wr w1 w2 : World} {o : Obj} {g cap k : Nat} {r : Int} (h : LR s w S ds v wr) (x1 : Nx wr w1)
    (hL : LS (L s) (ds ++ [r]) ((L S).drop k)) (h1 : 1 ≤ k) (h2 : k ≤ S.size)
    (r1 : w2.ownsRow w.heap.size 21 1 (.slice (some ⟨g, 0, none⟩) (ds.length + 1) cap) (ds.length + 1) (ds.map (Value.int .i32) ++ [.int .i32 r]))
    (r2 : (w1.alloc o).grownBy w2 v.ownBlock) :
    LR s w (S.extract k S.size) (ds ++ [r]) (.slice (some ⟨g, 0, none⟩) (ds.length + 1) cap) w2 ∧ (S.extract k S.size).size < S.size := by
  obtain ⟨h3, h4, h5, h6⟩ := h
  obtain ⟨e1, e2⟩ := size_rest S k
  refine ⟨⟨?_, ?_, ?_, ?_⟩, by omega⟩
  · rw [List.length_append, List.length_singleton, List.map_append]; exact r1
  · rw [e2]; exact hL
  · rw [List.length_append, List.length_singleton, e1]; omega
  · have hbl := h3.lt
    exact ((h6.trans x1).alloc o).grown r2 (fun k hk => (hbl k hk).1)

set_option maxRecDepth 100000 in
set_option maxHeartbeats 4000000 in
theorem sline_any (s : ByteArray) (w : World) (hT : TB w) (hs : s.size ≤ 1000000) (h10 : (10 : UInt8) ∉ L s) :
    Calls Tryd.prog 20 #[.string s] w (LineP (L s) w) := by
  obtain ⟨i0, hi, hz0, hzs, hz2⟩ := info_parts info32
  have I0 := Lib.hid (And.intro hi (And.intro hz0 (And.intro hzs hz2)))
  have H10 := Lib.hid h10
  clear hi hz0 hzs hz2 h10
  go_enter Tryd.func20, Tryd.ntmps20
  go_wp2_with fail
  go_loopw [0, 4, 5, 6, 7] (fun x v _ _ _ wr => ∃ (S : ByteArray) (ds : List Int), x = .string S ∧ LR s w S ds v wr) (fun x _ _ _ _ _ => strLen x)
  case atStart => exact ⟨s, [], rfl, World.ownsRow_nil _ _ _ _, LS.start _, by simp, Nx.refl _⟩
  case round =>
    obtain ⟨S, ds, rfl, hR⟩ := hrel
    have HR := Lib.hid hR
    obtain ⟨h3, h4, h5, h6⟩ := hR
    have HLS := Lib.hid h4
    clear h4
    have hsz := h6.size
    by_cases hp : 1 ≤ S.size
    · have t1 := (str_ne hp).1
      have t2 := (str_ne hp).2
      have cN := next_any S wr (hT.nx h6)
      have hne := L_ne hp
      have key : (∃ R K : Nat, nxV (L S) = .tuple #[.int .i32 R, .int .i64 K, .int .i64 0] ∧ nx (L S) = (R, K, 0)) ∨ (nxV (L S) = .tuple #[.int .i32 0, .int .i64 0, .int .i64 3] ∧ nx (L S) = (0, 0, 3)) := by
        rcases nx_kinds (L S) with ⟨r, k, e⟩ | e | ⟨_, e⟩
        · exact .inl ⟨r, k, by simp [nxV, e], e⟩
        · exact .inr ⟨by simp [nxV, e], e⟩
        · exact absurd e hne
      rcases key with ⟨R, K, e1, e2⟩ | ⟨e1, e2⟩
      · rw [e1] at cN
        have CN := Lib.hid cN
        have E2 := Lib.hid e2
        clear cN e1 e2
        have hO2 : ∀ W, Nx wr W → W.ownsRow w.heap.size 21 1 u4 ds.length (ds.map (Value.int .i32)) := fun W x1 => own_keep h3 fun g _ hg => x1.block hg
        have HO2 := Lib.hid hO2
        clear hO2 h3
        by_cases hb : R = 65533 ∧ K = 1
        · have HB := Lib.hid (HLS.out.bad hne (.inr (by rw [E2.out]; exact hb)))
          obtain ⟨rfl, rfl⟩ := hb
          clear HLS HR HO2 hne
          go_wp2_with fail
          refine CN.out.mono ?_
          rintro e w1 ⟨rfl, x1⟩
          clear CN
          go_wp2_with fail
          go_ret2
          exact .inr ⟨rfl, HB.out, h6.trans x1⟩
        · by_cases h92 : R = 92
          · subst h92
            obtain ⟨T, hT', hK⟩ := nx_92 E2.out
            subst hK
            clear hT' T hb
            by_cases hs2 : S.size < 2
            · have d1 : decide ((S.size : Int) < 2) = true := decide_eq_true (by omega)
              have d1' : decide (S.size < 2) = true := decide_eq_true hs2
              have HB := Lib.hid (HLS.out.stroke E2.out (.inl (by rw [L_length]; exact hs2)))
              clear HLS HR HO2 hne
              go_wp2_with fail
              refine CN.out.mono ?_
              rintro e w1 ⟨rfl, x1⟩
              clear CN
              go_wp2_with fail
              go_ret2
              exact .inr ⟨rfl, HB.out, h6.trans x1⟩
            · have d1 : decide ((S.size : Int) < 2) = false := decide_eq_false (by omega)
              have d1' : decide (S.size < 2) = false := decide_eq_false hs2
              have hs1 : 1 < S.size := by omega
              have hbt : bt (L S) 1 = (S[1]'hs1).toNat := by rw [bt_L, get!_lt S 1 hs1]
              have hl2 : 2 ≤ (L S).length := by rw [L_length]; omega
              have c0 : (2 : Int) ≤ (S.size : Int) := by omega
              by_cases ha : (S[1]'hs1).toNat = 110
              · have f1 : (((S[1]'hs1).toNat : Int) != 110) = false := by rw [ha]; rfl
                have f2 : (((S[1]'hs1).toNat : Int) == 110) = true := by rw [ha]; rfl
                have HL2 := Lib.hid (HLS.out.stroke_n E2.out hl2 (hbt.trans ha))
                clear HLS hbt ha hne
                go_wp2_with fail
                refine CN.out.mono ?_
                rintro e w1 ⟨rfl, x1⟩
                clear CN
                have hs1' := x1.size
                go_wp2_with (at_builtin; refine wpList_append_lies _ rfl (.tmp 46) (.tmp 48) _ rfl w.heap.size 21 i0 _ 1 4 Tryd.underlying34 I0.out.1 I0.out.2.1 I0.out.2.2.1 I0.out.2.2.2 rfl (by omega) u4 ds.length (ds.map (Value.int .i32)) rfl ((HO2.out _ x1).alloc _) ⟨w1.heap.size, 0, none⟩ 1 1 [_] rfl rfl (one_new _ _ _) (int_one _ _) (by omega) (by unfold maxLen; omega) (by omega) ?_ (w1.heap.size + 1) (by simp) ?_)
                · rw [World.size_alloc]; omega
                · intro g4 c4 w4 r1 r2 r3 r4
                  obtain ⟨hR4, hlt4⟩ := LR.step HR.out x1 HL2.out (by omega) (by omega) r1 r2
                  have HR5 := Lib.hid hR4
                  have HLT := Lib.hid hlt4
                  clear hR4 hlt4 r1 r2 r3 r4 HR HO2
                  go_wp2_with fail
                  go_roundw
                  case rel => exact ⟨_, _, rfl, HR5.out⟩
                  case measure => exact HLT.out
              · have g1 : (((S[1]'hs1).toNat : Int) != 110) = true := by
                  simp only [bne_iff_ne, ne_eq]; omega
                have g2 : (((S[1]'hs1).toNat : Int) == 110) = false := by
                  rw [beq_eq_false_iff_ne]; omega
                by_cases hc : (S[1]'hs1).toNat = 92
                · have f1 : (((S[1]'hs1).toNat : Int) != 92) = false := by rw [hc]; rfl
                  have HL2 := Lib.hid (HLS.out.stroke_s E2.out hl2 (hbt.trans hc))
                  clear HLS hbt ha hne hc
                  go_wp2_with fail
                  refine CN.out.mono ?_
                  rintro e w1 ⟨rfl, x1⟩
                  clear CN
                  have hs1' := x1.size
                  go_wp2_with (at_builtin; refine wpList_append_lies _ rfl (.tmp 46) (.tmp 48) _ rfl w.heap.size 21 i0 _ 1 4 Tryd.underlying34 I0.out.1 I0.out.2.1 I0.out.2.2.1 I0.out.2.2.2 rfl (by omega) u4 ds.length (ds.map (Value.int .i32)) rfl ((HO2.out _ x1).alloc _) ⟨w1.heap.size, 0, none⟩ 1 1 [_] rfl rfl (one_new _ _ _) (int_one _ _) (by omega) (by unfold maxLen; omega) (by omega) ?_ (w1.heap.size + 1) (by simp) ?_)
                  · rw [World.size_alloc]; omega
                  · intro g4 c4 w4 r1 r2 r3 r4
                    obtain ⟨hR4, hlt4⟩ := LR.step HR.out x1 HL2.out (by omega) (by omega) r1 r2
                    have HR5 := Lib.hid hR4
                    have HLT := Lib.hid hlt4
                    clear hR4 hlt4 r1 r2 r3 r4 HR HO2
                    go_wp2_with fail
                    go_roundw
                    case rel => exact ⟨_, _, rfl, HR5.out⟩
                    case measure => exact HLT.out
                · have f1 : (((S[1]'hs1).toNat : Int) != 92) = true := by
                    simp only [bne_iff_ne, ne_eq]; omega
                  have HB := Lib.hid (HLS.out.stroke E2.out (.inr (by rw [hbt]; exact ⟨ha, hc⟩)))
                  clear HLS HR HO2 hne hbt ha hc
                  go_wp2_with fail
                  refine CN.out.mono ?_
                  rintro e w1 ⟨rfl, x1⟩
                  clear CN
                  go_wp2_with fail
                  go_ret2
                  exact .inr ⟨rfl, HB.out, h6.trans x1⟩
          · obtain ⟨hL2, hk1, hk2⟩ := HLS.out.sign H10.out E2.out hb h92
            rw [L_length] at hk2
            have b0 : (0 : Int) ≤ (K : Int) := by omega
            have b1 : (K : Int) ≤ (S.size : Int) := by omega
            have f92 : ((R : Int) == 92) = false := by rw [beq_eq_false_iff_ne]; omega
            have hb' : ((R : Int) == 65533) = false ∨ (((R : Int) == 65533) = true ∧ ((K : Int) == 1) = false) := by
              by_cases h : R = 65533
              · right
                refine ⟨by rw [h]; rfl, ?_⟩
                rw [beq_eq_false_iff_ne]
                intro e
                exact hb ⟨h, by omega⟩
              · left
                rw [beq_eq_false_iff_ne]; omega
            obtain ⟨z, hz⟩ : ∃ z : Int, (R : Int) = z := ⟨_, rfl⟩
            rw [hz] at CN hb' f92 hL2
            have HL2 := Lib.hid hL2
            clear HLS hb hL2 hz hne h92
            rcases hb' with f1 | ⟨f1, f2⟩
            all_goals
              go_wp2_with fail
              refine CN.out.mono ?_
              rintro e w1 ⟨rfl, x1⟩
              clear CN
              have hs1' := x1.size
              go_wp2_with (at_builtin; refine wpList_append_lies _ rfl (.tmp 46) (.tmp 48) _ rfl w.heap.size 21 i0 _ 1 4 Tryd.underlying34 I0.out.1 I0.out.2.1 I0.out.2.2.1 I0.out.2.2.2 rfl (by omega) u4 ds.length (ds.map (Value.int .i32)) rfl ((HO2.out _ x1).alloc _) ⟨w1.heap.size, 0, none⟩ 1 1 [_] rfl rfl (one_new _ _ _) (int_one _ _) (by omega) (by unfold maxLen; omega) (by omega) ?_ (w1.heap.size + 1) (by simp) ?_)
              · rw [World.size_alloc]; omega
              · intro g4 c4 w4 r1 r2 r3 r4
                obtain ⟨hR4, hlt4⟩ := LR.step HR.out x1 HL2.out hk1 hk2 r1 r2
                have HR5 := Lib.hid hR4
                have HLT := Lib.hid hlt4
                clear hR4 hlt4 r1 r2 r3 r4 HR HO2
                go_wp2_with fail
                go_roundw
                case rel => exact ⟨_, _, rfl, HR5.out⟩
                case measure => exact HLT.out
      · rw [e1] at cN
        have CN := Lib.hid cN
        have HB := Lib.hid (HLS.out.bad hne (.inl (by rw [e2]; simp)))
        clear cN e1 e2 hne
        go_wp2_with fail
        refine CN.out.mono ?_
        rintro e w1 ⟨rfl, x1⟩
        clear CN
        go_wp2_with fail
        go_ret2
        exact .inr ⟨rfl, HB.out, h6.trans x1⟩
    · obtain rfl := size_nil (show S.size = 0 by omega)
      have hd := HLS.out.done
      have HD := Lib.hid hd
      obtain ⟨A', cap', rfl⟩ := own_form h3
      have HO := Lib.hid h3
      clear hd h3
      go_wp2_with fail
      go_ret2
      exact .inl ⟨A', _, cap', ds, rfl, HO.out, HD.out.1, HD.out.2, h6⟩
end Go.Proofs.YtmfjndoljdpliaaDoor.walk
