/-
  Counts: the value of a count and a minus, of the program and of the reference. No condition.
-/
import Derived.Test.YtifaccolbmcgjaaWalk15a
namespace Go.Proofs.Ytifaccolbmcgjaa.walk
open Go.RowKit Go.Proofs.Ytifaccolbmcgjaa.kit Go.Proofs.Ytifaccolbmcgjaa.plain
set_option linter.unusedVariables false

theorem rminus_any (h g : Bool) (n : Int) (w : World) : Calls Try.prog 13 #[.agg #[.bool h, .bool g, .int .i64 n]] w fun e w' => e = .returned (.agg #[.bool (minH h g n), .bool (minG h g n), .int .i64 n]) ∧ Nx w w' := by
  obtain ⟨b, hb⟩ : ∃ b, isB h g n = b := ⟨_, rfl⟩
  have hm : b = true → h = false → g = false ∧ n = 0 := fun e1 e2 => by
    subst e1; have := (isB_true.1 hb).2.2; simpa [e2] using this
  have hm2 : b = false → minH h g n = h ∧ minG h g n = g := fun e1 => by
    subst e1; cases h <;> cases g <;> simp [minH, minG, isB] at * <;> omega
  have H := Lib.hid hb; have HM := Lib.hid hm; have HN := Lib.hid hm2; clear hb hm hm2
  cases b
  · have HE := Lib.hid (HN.out rfl)
    clear HN HM
    go_enter Try.func13, Try.ntmps13
    go_wp2_with (go_at_call 11; refine (ris_any _ _ _ _).mono ?_; rw [H.out]; rintro e w1 ⟨rfl, rfl⟩)
    refine bodyPost_ret (v := .agg #[.bool (minH _ _ _), .bool (minG _ _ _), .int .i64 _]) (by rw [HE.out.1, HE.out.2]; simp [results, Try.results13, go_sem]) rfl ⟨rfl, ?_⟩
    exact (((Nx.refl _).alloc _).alloc _).alloc _
  · cases h
    · obtain ⟨rfl, rfl⟩ := HM.out rfl rfl
      clear HN HM
      go_enter Try.func13, Try.ntmps13
      go_wp2_with (go_at_call 11; refine (ris_any _ _ _ _).mono ?_; rw [H.out]; rintro e w1 ⟨rfl, rfl⟩)
      refine bodyPost_ret (v := .agg #[.bool (minH _ _ _), .bool (minG _ _ _), .int .i64 _]) (by simp [results, Try.results13, go_sem, minH, minG]) rfl ⟨rfl, ?_⟩
      exact (((Nx.refl _).alloc _).alloc _).alloc _
    · clear HN HM
      go_enter Try.func13, Try.ntmps13
      go_wp2_with (go_at_call 11; refine (ris_any _ _ _ _).mono ?_; rw [H.out]; rintro e w1 ⟨rfl, rfl⟩)
      refine bodyPost_ret (v := .agg #[.bool (minH _ _ _), .bool (minG _ _ _), .int .i64 _]) (by simp [results, Try.results13, go_sem, minH, minG]) rfl ⟨rfl, ?_⟩
      exact (((Nx.refl _).alloc _).alloc _).alloc _

theorem value_any (h g : Bool) (n : Int) (w : World) : Calls Try.prog 14 #[.agg #[.bool h, .bool g, .int .i64 n]] w fun e w' => e = .returned (.int .i64 (valB h g n)) ∧ Nx w w' := by
  cases h
  · go_enter Try.func14, Try.ntmps14
    go_wp2
    go_ret
    exact ⟨ret_int (by simp [valB]), (Nx.refl _).alloc _⟩
  · obtain ⟨b, hb⟩ : ∃ b, isB true g n = b := ⟨_, rfl⟩
    have hr : b = true → 0 ≤ n ∧ n ≤ 9999 := fun e1 => by subst e1; have := isB_true.1 hb; omega
    have H := Lib.hid hb
    cases b
    · clear hb hr
      go_enter Try.func14, Try.ntmps14
      go_wp2_with (go_at_call 10; refine (is_any _ _ _ _).mono ?_; rw [H.out]; rintro e w1 ⟨rfl, rfl⟩)
      go_ret
      exact ⟨ret_int (by simp [valB, H.out]), ((Nx.refl _).alloc _).alloc _⟩
    · obtain ⟨h0, h1⟩ := hr rfl
      clear hb hr
      cases g
      · go_enter Try.func14, Try.ntmps14
        go_wp2_with (go_at_call 10; refine (is_any _ _ _ _).mono ?_; rw [H.out]; rintro e w1 ⟨rfl, rfl⟩)
        go_ret
        exact ⟨ret_int (by simp [valB, H.out]), ((Nx.refl _).alloc _).alloc _⟩
      · by_cases h2 : n ≤ 1
        all_goals
          go_enter Try.func14, Try.ntmps14
          go_wp2_with (go_at_call 10; refine (is_any _ _ _ _).mono ?_; rw [H.out]; rintro e w1 ⟨rfl, rfl⟩)
          go_ret
          refine ⟨ret_int ?_, ((Nx.refl _).alloc _).alloc _⟩
          simp only [valB, H.out, Bool.and_self, if_true]
          split <;> omega

theorem rvalue_any (h g : Bool) (n : Int) (w : World) : Calls Try.prog 15 #[.agg #[.bool h, .bool g, .int .i64 n]] w fun e w' => e = .returned (.int .i64 (valB h g n)) ∧ Nx w w' := by
  obtain ⟨b, hb⟩ : ∃ b, isB h g n = b := ⟨_, rfl⟩
  have hr : b = true → 0 ≤ n ∧ n ≤ 9999 := fun e1 => by subst e1; have := isB_true.1 hb; omega
  have H := Lib.hid hb
  cases b
  · clear hb hr
    go_enter Try.func15, Try.ntmps15
    go_wp2_with (go_at_call 11; refine (ris_any _ _ _ _).mono ?_; rw [H.out]; rintro e w1 ⟨rfl, rfl⟩)
    go_ret
    exact ⟨ret_int (by simp [valB, H.out]), ((Nx.refl _).alloc _).alloc _⟩
  · obtain ⟨h0, h1⟩ := hr rfl
    clear hb hr
    cases h
    · go_enter Try.func15, Try.ntmps15
      go_wp2_with (go_at_call 11; refine (ris_any _ _ _ _).mono ?_; rw [H.out]; rintro e w1 ⟨rfl, rfl⟩)
      go_ret
      exact ⟨ret_int (by simp [valB]), ((Nx.refl _).alloc _).alloc _⟩
    · cases g
      · go_enter Try.func15, Try.ntmps15
        go_wp2_with (go_at_call 11; refine (ris_any _ _ _ _).mono ?_; rw [H.out]; rintro e w1 ⟨rfl, rfl⟩)
        go_ret
        exact ⟨ret_int (by simp [valB, H.out]), ((Nx.refl _).alloc _).alloc _⟩
      · by_cases h2 : n = 0
        · subst h2
          go_enter Try.func15, Try.ntmps15
          go_wp2_with (go_at_call 11; refine (ris_any _ _ _ _).mono ?_; rw [H.out]; rintro e w1 ⟨rfl, rfl⟩)
          go_ret
          exact ⟨ret_int (by simp [valB, H.out]), ((Nx.refl _).alloc _).alloc _⟩
        · have h3 : (n == 0) = false := by simpa using h2
          go_enter Try.func15, Try.ntmps15
          go_wp2_with (go_at_call 11; refine (ris_any _ _ _ _).mono ?_; rw [H.out]; rintro e w1 ⟨rfl, rfl⟩)
          go_ret
          refine ⟨ret_int ?_, ((Nx.refl _).alloc _).alloc _⟩
          simp only [valB, H.out, Bool.and_self, if_true]
          split <;> omega
end Go.Proofs.Ytifaccolbmcgjaa.walk
