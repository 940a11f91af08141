/-
  Signs: Is, Put and Next of the program; Is and Put of the reference. No condition but the library's two tables.
-/
import Derived.Test.YtmfjndoljdpliaaDoorWalk01a
import Derived.Laws.BytesArg
import Derived.Laws.Runes
namespace Go.Proofs.YtmfjndoljdpliaaDoor.walk
open Go.RowKit Go.Proofs.YtmfjndoljdpliaaDoor.kit Go.Proofs.YtmfjndoljdpliaaDoor.plain
set_option linter.unusedVariables false

/-- is a number a sign? -/
def vB (r : Int) : Bool := Utf8.valid r
theorem vB_t {r : Int} (h : vB r = true) : (0 ≤ r ∧ r < 55296) ∨ (57344 ≤ r ∧ r ≤ 1114111) := by simpa [vB, Utf8.valid] using h
theorem vB_f {r : Int} (h : vB r = false) : r < 0 ∨ (55296 ≤ r ∧ r < 57344) ∨ 1114111 < r := by simp [vB, Utf8.valid] at h; omega
theorem vB_lib (r : Int) : Lib.validRune r = vB r := by
  rw [Bool.eq_iff_iff]; simp [Lib.validRune, vB, Utf8.valid]; omega
theorem is_any (r : Int) (w : World) : Calls Tryd.prog 31 #[.int .i32 r] w fun e w' => e = .returned (.bool (vB r)) ∧ w = w' := by
  go_enter Tryd.func31, Tryd.ntmps31
  go_wp2_with (go_at_call 41; refine (Tryd.utf8_ValidRune r w).mono ?_; rw [vB_lib]; rintro e w1 ⟨rfl, rfl⟩)
  go_ret
  exact ⟨rfl, rfl⟩
theorem ris_any (r : Int) (w : World) : Calls Tryd.prog 33 #[.int .i32 r] w fun e w' => e = .returned (.bool (vB r)) ∧ w = w' := by
  rcases (show r < 0 ∨ (0 ≤ r ∧ r < 55296) ∨ (0 ≤ r ∧ 55296 ≤ r ∧ r < 57344) ∨ (0 ≤ r ∧ 57344 ≤ r ∧ r ≤ 1114111) ∨ (0 ≤ r ∧ 1114111 < r) by omega) with h | ⟨h, g⟩ | ⟨h, g, k⟩ | ⟨h, g, k⟩ | ⟨h, g⟩
  · rw [show vB r = false by simp [vB, Utf8.valid]; omega]
    have d1 : decide (0 ≤ r) = false := decide_eq_false (by omega)
    go_enter Tryd.func33, Tryd.ntmps33
    go_wp2_with fail
    go_ret
    exact ⟨rfl, rfl⟩
  · rw [show vB r = true by simp [vB, Utf8.valid]; omega]
    have d1 : decide (0 ≤ r) = true := decide_eq_true (by omega)
    have d2 : decide (r ≤ 1114111) = true := decide_eq_true (by omega)
    have d3 : decide (55296 ≤ r) = false := decide_eq_false (by omega)
    go_enter Tryd.func33, Tryd.ntmps33
    go_wp2_with fail
    go_ret
    exact ⟨rfl, rfl⟩
  · rw [show vB r = false by simp [vB, Utf8.valid]; omega]
    have d1 : decide (0 ≤ r) = true := decide_eq_true (by omega)
    have d2 : decide (r ≤ 1114111) = true := decide_eq_true (by omega)
    have d3 : decide (55296 ≤ r) = true := decide_eq_true (by omega)
    have d4 : decide (r ≤ 57343) = true := decide_eq_true (by omega)
    go_enter Tryd.func33, Tryd.ntmps33
    go_wp2_with fail
    go_ret
    exact ⟨rfl, rfl⟩
  · rw [show vB r = true by simp [vB, Utf8.valid]; omega]
    have d1 : decide (0 ≤ r) = true := decide_eq_true (by omega)
    have d2 : decide (r ≤ 1114111) = true := decide_eq_true (by omega)
    have d3 : decide (55296 ≤ r) = true := decide_eq_true (by omega)
    have d4 : decide (r ≤ 57343) = false := decide_eq_false (by omega)
    go_enter Tryd.func33, Tryd.ntmps33
    go_wp2_with fail
    go_ret
    exact ⟨rfl, rfl⟩
  · rw [show vB r = false by simp [vB, Utf8.valid]; omega]
    have d1 : decide (0 ≤ r) = true := decide_eq_true (by omega)
    have d2 : decide (r ≤ 1114111) = false := decide_eq_false (by omega)
    go_enter Tryd.func33, Tryd.ntmps33
    go_wp2_with fail
    go_ret
    exact ⟨rfl, rfl⟩
theorem rput_bad (r : Int) (w : World) (h : vB r = false) : Calls Tryd.prog 35 #[.int .i32 r] w fun e w' => e = .returned (.tuple #[.string ⟨#[]⟩, .int .i64 1]) ∧ w = w' := by
  go_enter Tryd.func35, Tryd.ntmps35
  go_wp2_with (go_at_call 33; refine (ris_any r w).mono ?_; rw [h]; rintro e w1 ⟨rfl, rfl⟩)
  go_ret2
  exact ⟨rfl, rfl⟩
theorem conv_new (w : World) (xs : List Int) (s : ByteArray) (k : Nat) (hs : strOfNums xs = s) (hk : xs.length = k) :
    (convert 40 9 (.slice (some ⟨w.heap.size, 0, none⟩) k k)).run Tryd.prog (w.alloc (.cells (xs.map (Value.int .u8)).toArray 5)) = .ok (.string s) (w.alloc (.cells (xs.map (Value.int .u8)).toArray 5)) := by
  subst hs
  refine run_convert_bytes_arg (P := Tryd.prog) _ 40 5 Tryd.underlying40 Tryd.underlying5 w.heap.size 0 k k xs hk (fun i hi => ?_) 9 Tryd.underlying9
  rw [Nat.zero_add, (Blk.new w 5 _).cell]
  have : i < xs.length := by omega
  simp [this]
theorem L_nums (xs : List Int) : L (strOfNums xs) = xs.map fun n => UInt8.ofNat n.toNat := by
  simp [L, strOfNums]
theorem nums_enc (r : Int) (h : vB r = true) (xs : List Int) (hx : (xs.map fun n => UInt8.ofNat n.toNat) = enc r.toNat) : strOfNums xs = Utf8.encode r := by
  apply L_inj
  rw [L_nums, hx, L, enc_eq, fixN, if_pos (show Utf8.valid r = true from h)]
set_option maxHeartbeats 1000000 in
theorem rput_ok (r : Int) (w : World) (h : vB r = true) : Calls Tryd.prog 35 #[.int .i32 r] w fun e w' => e = .returned (.tuple #[.string (Utf8.encode r), .int .i64 0]) ∧ Nx w w' := by
  have hr := vB_t h
  rcases (show r < 128 ∨ (128 ≤ r ∧ r < 2048) ∨ (2048 ≤ r ∧ r < 65536) ∨ 65536 ≤ r by omega) with g | ⟨g, g'⟩ | ⟨g, g'⟩ | g
  · have hx : strOfNums [r] = Utf8.encode r := nums_enc r h _ (by unfold enc; rw [if_pos (by omega)]; rfl)
    have cv := conv_new w [r] _ 1 hx rfl
    simp only [List.map_cons, List.map_nil] at cv
    clear hx
    generalize Utf8.encode r = S at *
    go_enter Tryd.func35, Tryd.ntmps35
    go_wp2_with (go_at_call 33; refine (ris_any r w).mono ?_; rw [h]; rintro e w1 ⟨rfl, rfl⟩)
    go_ret2
    exact ⟨rfl, (Nx.refl _).alloc _⟩
  · have hx : strOfNums [192 + r / 64, 128 + r % 64] = Utf8.encode r := nums_enc r h _ (by
      unfold enc; rw [if_neg (by omega), if_pos (by omega)]
      simp only [List.map_cons, List.map_nil]
      rw [show (192 + r / 64).toNat = 192 + r.toNat / 64 by omega, show (128 + r % 64).toNat = 128 + r.toNat % 64 by omega])
    have cv := conv_new w _ _ 2 hx rfl
    simp only [List.map_cons, List.map_nil] at cv
    clear hx
    generalize Utf8.encode r = S at *
    go_enter Tryd.func35, Tryd.ntmps35
    go_wp2_with (go_at_call 33; refine (ris_any r w).mono ?_; rw [h]; rintro e w1 ⟨rfl, rfl⟩)
    go_ret2
    exact ⟨rfl, (Nx.refl _).alloc _⟩
  · have hx : strOfNums [224 + r / 4096, 128 + r / 64 % 64, 128 + r % 64] = Utf8.encode r := nums_enc r h _ (by
      unfold enc; rw [if_neg (by omega), if_neg (by omega), if_pos (by omega)]
      simp only [List.map_cons, List.map_nil]
      rw [show (224 + r / 4096).toNat = 224 + r.toNat / 4096 by omega, show (128 + r / 64 % 64).toNat = 128 + r.toNat / 64 % 64 by omega, show (128 + r % 64).toNat = 128 + r.toNat % 64 by omega])
    have cv := conv_new w _ _ 3 hx rfl
    simp only [List.map_cons, List.map_nil] at cv
    clear hx
    generalize Utf8.encode r = S at *
    go_enter Tryd.func35, Tryd.ntmps35
    go_wp2_with (go_at_call 33; refine (ris_any r w).mono ?_; rw [h]; rintro e w1 ⟨rfl, rfl⟩)
    go_ret2
    exact ⟨rfl, (Nx.refl _).alloc _⟩
  · have hx : strOfNums [240 + r / 262144, 128 + r / 4096 % 64, 128 + r / 64 % 64, 128 + r % 64] = Utf8.encode r := nums_enc r h _ (by
      unfold enc; rw [if_neg (by omega), if_neg (by omega), if_neg (by omega)]
      simp only [List.map_cons, List.map_nil]
      rw [show (240 + r / 262144).toNat = 240 + r.toNat / 262144 by omega, show (128 + r / 4096 % 64).toNat = 128 + r.toNat / 4096 % 64 by omega, show (128 + r / 64 % 64).toNat = 128 + r.toNat / 64 % 64 by omega, show (128 + r % 64).toNat = 128 + r.toNat % 64 by omega])
    have cv := conv_new w _ _ 4 hx rfl
    simp only [List.map_cons, List.map_nil] at cv
    clear hx
    generalize Utf8.encode r = S at *
    go_enter Tryd.func35, Tryd.ntmps35
    go_wp2_with (go_at_call 33; refine (ris_any r w).mono ?_; rw [h]; rintro e w1 ⟨rfl, rfl⟩)
    go_ret2
    exact ⟨rfl, (Nx.refl _).alloc _⟩

/-- what Next answers -/
def nxV (l : List UInt8) : Value := .tuple #[.int .i32 (nx l).1, .int .i64 (nx l).2.1, .int .i64 (nx l).2.2]
theorem decodeGo_nd (s : ByteArray) (h : 1 ≤ s.size) : Lib.decodeGo s = nd (L s) := by
  unfold Lib.decodeGo
  rw [if_neg (by omega), decode_nd s 0 (by omega)]
  rfl
theorem size_nil {s : ByteArray} (h : s.size = 0) : s = ⟨#[]⟩ := by
  apply L_inj
  exact List.eq_nil_of_length_eq_zero (by rw [L_length]; exact h)
theorem str_ne {s : ByteArray} (h : 1 ≤ s.size) : s.toList.isEmpty = false ∧ (!s.toList.isEmpty) = true := by
  have : s.toList.isEmpty = false := by
    rw [Lib.toList_data]
    cases h' : s.data.toList with
    | nil => rw [Lib.size_eq, h'] at h; simp at h
    | cons _ _ => rfl
  exact ⟨this, by rw [this]; rfl⟩
set_option maxHeartbeats 1000000 in
theorem next_any (s : ByteArray) (w : World) (hT : TB w) : Calls Tryd.prog 29 #[.string s] w fun e w' => e = .returned (nxV (L s)) ∧ Nx w w' := by
  rcases Nat.lt_or_ge s.size 1 with h0 | h0
  · obtain rfl := size_nil (show s.size = 0 by omega)
    go_enter Tryd.func29, Tryd.ntmps29
    go_wp2_with fail
    go_ret3
    exact ⟨rfl, Nx.refl _⟩
  · obtain ⟨e1, e2⟩ := str_ne h0
    have cF := full_any s w h0 hT
    have hd := decodeGo_nd s h0
    cases hB : fullB (L s) with
    | false =>
      have hv : nxV (L s) = .tuple #[.int .i32 0, .int .i64 0, .int .i64 3] := by
        rcases nx_kinds (L s) with ⟨r, k, e⟩ | e | ⟨_, e⟩
        · simp [fullB, e] at hB
        · simp [nxV, e]
        · have := L_length s; rw [e] at this; simp at this; omega
      rw [hv]
      rw [hB] at cF
      clear hB hd hv
      go_enter Tryd.func29, Tryd.ntmps29
      go_wp2_with fail
      refine cF.mono ?_
      rintro e w1 ⟨rfl, x1⟩
      clear cF
      go_wp2_with fail
      go_ret3
      exact ⟨rfl, x1⟩
    | true =>
      have hv : nxV (L s) = .tuple #[.int .i32 (nd (L s)).1, .int .i64 (nd (L s)).2, .int .i64 0] := by
        have e : (nx (L s)).2.2 = 0 := by simpa [fullB] using hB
        simp [nxV, nd, e]
      rw [hv]
      rw [hB] at cF
      have cD := fun (W : World) (hW : TB W) => Tryd.utf8_DecodeRuneInString s W hW
      rw [hd] at cD
      generalize (nd (L s)).1 = R at *
      generalize (nd (L s)).2 = K at *
      clear hB hd hv
      go_enter Tryd.func29, Tryd.ntmps29
      go_wp2_with fail
      refine cF.mono ?_
      rintro e w1 ⟨rfl, x1⟩
      clear cF
      have cD1 := cD w1 (hT.nx x1)
      clear cD
      go_wp2_with fail
      refine cD1.mono ?_
      rintro e w2 ⟨rfl, x2⟩
      clear cD1
      go_wp2_with fail
      go_ret3
      exact ⟨rfl, x1.trans x2⟩
end Go.Proofs.YtmfjndoljdpliaaDoor.walk
