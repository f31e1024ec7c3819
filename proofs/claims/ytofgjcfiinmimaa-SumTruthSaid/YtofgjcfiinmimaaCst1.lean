/- Contracts of the small functions of histograms of counts and of sums. -/
import Derived.Test.YtofgjcfiinmimaaMgCstL
namespace Go.Proofs.Ytofgjcfiinmimaa.cst
open Go.RowKit Go.Proofs.Ytofgjcfiinmimaa.mem Go.Proofs.Ytofgjcfiinmimaa.lst Go.Proofs.Ytofgjcfiinmimaa.gro
set_option linter.unusedVariables false
set_option linter.unusedSimpArgs false
set_option maxHeartbeats 2000000 in
set_option maxRecDepth 100000 in
theorem goodC_any (v k p o : Int) (w : World) : Calls Try.prog 54 #[.int .i64 v, .int .i64 k, .int .i64 p, .int .i64 o] w fun e w' => e = .returned (.bool (goodC v k p o)) ∧ w = w' := by
  go_enter Try.func54, Try.ntmps54
  go_wp2
  all_goals (go_ret; refine ⟨clk.ret_bool ?_, rfl⟩; first | (symm; rw [goodC_iff]; omega) | (symm; rw [goodC_iff0]; omega) | (rw [Bool.eq_iff_iff, goodC_iff]; simp; omega))
set_option maxHeartbeats 2000000 in
set_option maxRecDepth 100000 in
theorem goodS_any (v k p m o : Int) (w : World) : Calls Try.prog 57 #[.int .i64 v, .int .i64 k, .int .i64 p, .int .i64 m, .int .i64 o] w fun e w' => e = .returned (.bool (goodS v k p m o)) ∧ w = w' := by
  go_enter Try.func57, Try.ntmps57
  go_wp2
  all_goals (go_ret; refine ⟨clk.ret_bool ?_, rfl⟩; first | (symm; rw [goodS_iff]; omega) | (symm; rw [goodS_iff0]; omega) | (rw [Bool.eq_iff_iff, goodS_iff]; simp; omega))
set_option maxHeartbeats 2000000 in
set_option maxRecDepth 100000 in
theorem MayKc_any (k : Int) (w : World) : Calls Try.prog 56 #[.int .i64 k] w fun e w' => e = .returned (.bool (kB k)) ∧ w = w' := by
  go_enter Try.func56, Try.ntmps56
  go_wp2
  all_goals (go_ret; refine ⟨clk.ret_bool ?_, rfl⟩; first | (symm; rw [kB_iff]; omega) | (symm; rw [kB_iff0]; omega) | (rw [Bool.eq_iff_iff, kB_iff]; simp; omega))
set_option maxHeartbeats 2000000 in
set_option maxRecDepth 100000 in
theorem MayMax_any (k : Int) (w : World) : Calls Try.prog 58 #[.int .i64 k] w fun e w' => e = .returned (.bool (mB k)) ∧ w = w' := by
  go_enter Try.func58, Try.ntmps58
  go_wp2
  all_goals (go_ret; refine ⟨clk.ret_bool ?_, rfl⟩; first | (symm; rw [mB_iff]; omega) | (symm; rw [mB_iff0]; omega) | (rw [Bool.eq_iff_iff, mB_iff]; simp; omega))
set_option maxHeartbeats 2000000 in
set_option maxRecDepth 100000 in
theorem May_any (v p o : Int) (w : World) : Calls Try.prog 55 #[.int .i64 v, .int .i64 p, .int .i64 o] w fun e w' => e = .returned (.bool (mayB v p o)) ∧ w = w' := by
  have HW := Lib.hid (fun W => clk.Window_any v W)
  have HT := Lib.hid (fun W => clk.Tick_any o W)
  rcases Bool.eq_false_or_eq_true (clk.winB v) with hw | hw <;> rcases Bool.eq_false_or_eq_true (clk.tickB o) with ht | ht <;> rw [hw] at HW <;> rw [ht] at HT
  all_goals first | rw [clk.winB_iff] at hw | rw [clk.winB_iff0] at hw
  all_goals first | rw [clk.tickB_iff] at ht | rw [clk.tickB_iff0] at ht
  all_goals
    go_enter Try.func55, Try.ntmps55
    go_wp2_with (first | (go_at_call 88; refine (HW.out _).mono ?_; rintro e w1 ⟨rfl, rfl⟩) | (go_at_call 89; refine (HT.out _).mono ?_; rintro e w1 ⟨rfl, rfl⟩))
  all_goals (go_ret; refine ⟨clk.ret_bool ?_, rfl⟩; first | (symm; rw [mayB_iff]; omega) | (symm; rw [mayB_iff0]; omega))
set_option maxHeartbeats 2000000 in
set_option maxRecDepth 100000 in
theorem NewC_any (v k p o : Int) (w : World) : Calls Try.prog 14 #[.int .i64 v, .int .i64 k, .int .i64 p, .int .i64 o] w fun e w' => e = .returned (.tuple #[.agg #[.int .i64 (kp (goodC v k p o) v), .int .i64 (kp (goodC v k p o) k), .int .i64 (kp (goodC v k p o) p), .int .i64 (kp (goodC v k p o) o), .slice none 0 0], .int .i64 (if (goodC v k p o) = true then 0 else 1)]) ∧ Below w.heap.size w w' := by
  have HG := Lib.hid (fun W => goodC_any v k p o W)
  cases hg : (goodC v k p o)
  case false =>
    rw [hg] at HG
    simp only [kp_t, kp_f, if_true, Bool.false_eq_true, if_false]
    go_enter Try.func14, Try.ntmps14
    go_wp2_with fail
    obtain ⟨W0, hW, hs0, K0, B0⟩ := start1 w 24 #[Value.int IntKind.i64 0, Value.int IntKind.i64 0, Value.int IntKind.i64 0, Value.int IntKind.i64 0, Value.slice none 0 0]
    rw [hW]
    clear hW
    have KK := Lib.hid K0
    have BB := Lib.hid B0
    have R := K0.rules
    simp only [Rules] at R
    clear K0 B0 hs0
    (with_reducible refine (HG.out _).mono ?_)
    rintro e w1 ⟨rfl, rfl⟩
    go_wp2
    refine bodyPost_ret (v := Value.tuple #[.agg #[Value.int IntKind.i64 0, Value.int IntKind.i64 0, Value.int IntKind.i64 0, Value.int IntKind.i64 0, Value.slice none 0 0], .int .i64 1]) (by simp [results, Try.results14, go_sem, R]) rfl ⟨rfl, ?_⟩
    exact (((((BB.out.setCell (by first | (simp; done) | (simp; omega)) _).setCell (by first | (simp; done) | (simp; omega)) _).setCell (by first | (simp; done) | (simp; omega)) _).setCell (by first | (simp; done) | (simp; omega)) _).setCell (by first | (simp; done) | (simp; omega)) _)
  case true =>
    rw [hg] at HG
    simp only [kp_t, kp_f, if_true, Bool.false_eq_true, if_false]
    go_enter Try.func14, Try.ntmps14
    go_wp2_with fail
    obtain ⟨W0, hW, hs0, K0, B0⟩ := start1 w 24 #[Value.int IntKind.i64 0, Value.int IntKind.i64 0, Value.int IntKind.i64 0, Value.int IntKind.i64 0, Value.slice none 0 0]
    rw [hW]
    clear hW
    have KK := Lib.hid K0
    have BB := Lib.hid B0
    have R := K0.rules
    simp only [Rules] at R
    clear K0 B0 hs0
    (with_reducible refine (HG.out _).mono ?_)
    rintro e w1 ⟨rfl, rfl⟩
    go_wp2
    refine bodyPost_ret (v := Value.tuple #[.agg #[Value.int IntKind.i64 v, Value.int IntKind.i64 k, Value.int IntKind.i64 p, Value.int IntKind.i64 o, Value.slice none 0 0], .int .i64 0]) (by simp [results, Try.results14, go_sem, R]) rfl ⟨rfl, ?_⟩
    exact (((((BB.out.setCell (by first | (simp; done) | (simp; omega)) _).setCell (by first | (simp; done) | (simp; omega)) _).setCell (by first | (simp; done) | (simp; omega)) _).setCell (by first | (simp; done) | (simp; omega)) _).setCell (by first | (simp; done) | (simp; omega)) _)
set_option maxHeartbeats 2000000 in
set_option maxRecDepth 100000 in
theorem NewCR_any (v k p o : Int) (w : World) : Calls Try.prog 15 #[.int .i64 v, .int .i64 k, .int .i64 p, .int .i64 o] w fun e w' => e = .returned (.tuple #[.agg #[.int .i64 (kp (goodC v k p o) v), .int .i64 (kp (goodC v k p o) k), .int .i64 (kp (goodC v k p o) p), .int .i64 (kp (goodC v k p o) o), .slice none 0 0], .int .i64 (if (goodC v k p o) = true then 0 else 1)]) ∧ Below w.heap.size w w' := by
  have HM := Lib.hid (fun W => May_any v p o W)
  have HK := Lib.hid (fun W => MayKc_any k W)
  have hgd : (goodC v k p o) = (mayB v p o && kB k) := goodC_may v k p o
  rw [hgd]
  clear hgd
  cases hm : mayB v p o
  case false =>
    rw [hm] at HM
    simp only [Bool.false_and, Bool.true_and, Bool.and_false, Bool.and_true, kp_t, kp_f, if_true, Bool.false_eq_true, if_false]
    go_enter Try.func15, Try.ntmps15
    go_wp2_with fail
    obtain ⟨W0, hW, hs0, K0, B0⟩ := start1 w 24 #[Value.int IntKind.i64 0, Value.int IntKind.i64 0, Value.int IntKind.i64 0, Value.int IntKind.i64 0, Value.slice none 0 0]
    rw [hW]
    clear hW
    have KK := Lib.hid K0
    have BB := Lib.hid B0
    have R := K0.rules
    simp only [Rules] at R
    clear K0 B0 hs0
    (with_reducible refine (HM.out _).mono ?_)
    rintro e w1 ⟨rfl, rfl⟩
    go_wp2
    refine bodyPost_ret (v := Value.tuple #[.agg #[Value.int IntKind.i64 0, Value.int IntKind.i64 0, Value.int IntKind.i64 0, Value.int IntKind.i64 0, Value.slice none 0 0], .int .i64 1]) (by simp [results, Try.results15, go_sem, R]) rfl ⟨rfl, ?_⟩
    exact (((((BB.out.setCell (by first | (simp; done) | (simp; omega)) _).setCell (by first | (simp; done) | (simp; omega)) _).setCell (by first | (simp; done) | (simp; omega)) _).setCell (by first | (simp; done) | (simp; omega)) _).setCell (by first | (simp; done) | (simp; omega)) _)
  rw [hm] at HM
  cases hk : kB k
  case false =>
    rw [hk] at HK
    simp only [Bool.false_and, Bool.true_and, Bool.and_false, Bool.and_true, kp_t, kp_f, if_true, Bool.false_eq_true, if_false]
    go_enter Try.func15, Try.ntmps15
    go_wp2_with fail
    obtain ⟨W0, hW, hs0, K0, B0⟩ := start1 w 24 #[Value.int IntKind.i64 0, Value.int IntKind.i64 0, Value.int IntKind.i64 0, Value.int IntKind.i64 0, Value.slice none 0 0]
    rw [hW]
    clear hW
    have KK := Lib.hid K0
    have BB := Lib.hid B0
    have R := K0.rules
    simp only [Rules] at R
    clear K0 B0 hs0
    (with_reducible refine (HM.out _).mono ?_)
    rintro e w1 ⟨rfl, rfl⟩
    go_wp2_with fail
    (with_reducible refine (HK.out _).mono ?_)
    rintro e w1 ⟨rfl, rfl⟩
    go_wp2
    refine bodyPost_ret (v := Value.tuple #[.agg #[Value.int IntKind.i64 0, Value.int IntKind.i64 0, Value.int IntKind.i64 0, Value.int IntKind.i64 0, Value.slice none 0 0], .int .i64 1]) (by simp [results, Try.results15, go_sem, R]) rfl ⟨rfl, ?_⟩
    exact (((((BB.out.setCell (by first | (simp; done) | (simp; omega)) _).setCell (by first | (simp; done) | (simp; omega)) _).setCell (by first | (simp; done) | (simp; omega)) _).setCell (by first | (simp; done) | (simp; omega)) _).setCell (by first | (simp; done) | (simp; omega)) _)
  rw [hk] at HK
  simp only [Bool.false_and, Bool.true_and, Bool.and_false, Bool.and_true, kp_t, kp_f, if_true, Bool.false_eq_true, if_false]
  go_enter Try.func15, Try.ntmps15
  go_wp2_with fail
  obtain ⟨W0, hW, hs0, K0, B0⟩ := start1 w 24 #[Value.int IntKind.i64 0, Value.int IntKind.i64 0, Value.int IntKind.i64 0, Value.int IntKind.i64 0, Value.slice none 0 0]
  rw [hW]
  clear hW
  have KK := Lib.hid K0
  have BB := Lib.hid B0
  have R := K0.rules
  simp only [Rules] at R
  clear K0 B0 hs0
  (with_reducible refine (HM.out _).mono ?_)
  rintro e w1 ⟨rfl, rfl⟩
  go_wp2_with fail
  (with_reducible refine (HK.out _).mono ?_)
  rintro e w1 ⟨rfl, rfl⟩
  go_wp2
  refine bodyPost_ret (v := Value.tuple #[.agg #[Value.int IntKind.i64 v, Value.int IntKind.i64 k, Value.int IntKind.i64 p, Value.int IntKind.i64 o, Value.slice none 0 0], .int .i64 0]) (by simp [results, Try.results15, go_sem, R]) rfl ⟨rfl, ?_⟩
  exact (((((BB.out.setCell (by first | (simp; done) | (simp; omega)) _).setCell (by first | (simp; done) | (simp; omega)) _).setCell (by first | (simp; done) | (simp; omega)) _).setCell (by first | (simp; done) | (simp; omega)) _).setCell (by first | (simp; done) | (simp; omega)) _)
set_option maxHeartbeats 2000000 in
set_option maxRecDepth 100000 in
theorem NewS_any (v k p m o : Int) (w : World) : Calls Try.prog 18 #[.int .i64 v, .int .i64 k, .int .i64 p, .int .i64 m, .int .i64 o] w fun e w' => e = .returned (.tuple #[.agg #[.int .i64 (kp (goodS v k p m o) v), .int .i64 (kp (goodS v k p m o) k), .int .i64 (kp (goodS v k p m o) p), .int .i64 (kp (goodS v k p m o) m), .int .i64 (kp (goodS v k p m o) o), .slice none 0 0], .int .i64 (if (goodS v k p m o) = true then 0 else 1)]) ∧ Below w.heap.size w w' := by
  have HG := Lib.hid (fun W => goodS_any v k p m o W)
  cases hg : (goodS v k p m o)
  case false =>
    rw [hg] at HG
    simp only [kp_t, kp_f, if_true, Bool.false_eq_true, if_false]
    go_enter Try.func18, Try.ntmps18
    go_wp2_with fail
    obtain ⟨W0, hW, hs0, K0, B0⟩ := start1 w 32 #[Value.int IntKind.i64 0, Value.int IntKind.i64 0, Value.int IntKind.i64 0, Value.int IntKind.i64 0, Value.int IntKind.i64 0, Value.slice none 0 0]
    rw [hW]
    clear hW
    have KK := Lib.hid K0
    have BB := Lib.hid B0
    have R := K0.rules
    simp only [Rules] at R
    clear K0 B0 hs0
    (with_reducible refine (HG.out _).mono ?_)
    rintro e w1 ⟨rfl, rfl⟩
    go_wp2
    refine bodyPost_ret (v := Value.tuple #[.agg #[Value.int IntKind.i64 0, Value.int IntKind.i64 0, Value.int IntKind.i64 0, Value.int IntKind.i64 0, Value.int IntKind.i64 0, Value.slice none 0 0], .int .i64 1]) (by simp [results, Try.results18, go_sem, R]) rfl ⟨rfl, ?_⟩
    exact ((((((BB.out.setCell (by first | (simp; done) | (simp; omega)) _).setCell (by first | (simp; done) | (simp; omega)) _).setCell (by first | (simp; done) | (simp; omega)) _).setCell (by first | (simp; done) | (simp; omega)) _).setCell (by first | (simp; done) | (simp; omega)) _).setCell (by first | (simp; done) | (simp; omega)) _)
  case true =>
    rw [hg] at HG
    simp only [kp_t, kp_f, if_true, Bool.false_eq_true, if_false]
    go_enter Try.func18, Try.ntmps18
    go_wp2_with fail
    obtain ⟨W0, hW, hs0, K0, B0⟩ := start1 w 32 #[Value.int IntKind.i64 0, Value.int IntKind.i64 0, Value.int IntKind.i64 0, Value.int IntKind.i64 0, Value.int IntKind.i64 0, Value.slice none 0 0]
    rw [hW]
    clear hW
    have KK := Lib.hid K0
    have BB := Lib.hid B0
    have R := K0.rules
    simp only [Rules] at R
    clear K0 B0 hs0
    (with_reducible refine (HG.out _).mono ?_)
    rintro e w1 ⟨rfl, rfl⟩
    go_wp2
    refine bodyPost_ret (v := Value.tuple #[.agg #[Value.int IntKind.i64 v, Value.int IntKind.i64 k, Value.int IntKind.i64 p, Value.int IntKind.i64 m, Value.int IntKind.i64 o, Value.slice none 0 0], .int .i64 0]) (by simp [results, Try.results18, go_sem, R]) rfl ⟨rfl, ?_⟩
    exact ((((((BB.out.setCell (by first | (simp; done) | (simp; omega)) _).setCell (by first | (simp; done) | (simp; omega)) _).setCell (by first | (simp; done) | (simp; omega)) _).setCell (by first | (simp; done) | (simp; omega)) _).setCell (by first | (simp; done) | (simp; omega)) _).setCell (by first | (simp; done) | (simp; omega)) _)
set_option maxHeartbeats 2000000 in
set_option maxRecDepth 100000 in
theorem NewSR_any (v k p m o : Int) (w : World) : Calls Try.prog 19 #[.int .i64 v, .int .i64 k, .int .i64 p, .int .i64 m, .int .i64 o] w fun e w' => e = .returned (.tuple #[.agg #[.int .i64 (kp (goodS v k p m o) v), .int .i64 (kp (goodS v k p m o) k), .int .i64 (kp (goodS v k p m o) p), .int .i64 (kp (goodS v k p m o) m), .int .i64 (kp (goodS v k p m o) o), .slice none 0 0], .int .i64 (if (goodS v k p m o) = true then 0 else 1)]) ∧ Below w.heap.size w w' := by
  have HM := Lib.hid (fun W => May_any v p o W)
  have HK := Lib.hid (fun W => MayKc_any k W)
  have HX := Lib.hid (fun W => MayMax_any m W)
  have hgd : (goodS v k p m o) = (mayB v p o && kB k && mB m) := by unfold goodS; rw [goodC_may]
  rw [hgd]
  clear hgd
  cases hm : mayB v p o
  case false =>
    rw [hm] at HM
    simp only [Bool.false_and, Bool.true_and, Bool.and_false, Bool.and_true, kp_t, kp_f, if_true, Bool.false_eq_true, if_false]
    go_enter Try.func19, Try.ntmps19
    go_wp2_with fail
    obtain ⟨W0, hW, hs0, K0, B0⟩ := start1 w 32 #[Value.int IntKind.i64 0, Value.int IntKind.i64 0, Value.int IntKind.i64 0, Value.int IntKind.i64 0, Value.int IntKind.i64 0, Value.slice none 0 0]
    rw [hW]
    clear hW
    have KK := Lib.hid K0
    have BB := Lib.hid B0
    have R := K0.rules
    simp only [Rules] at R
    clear K0 B0 hs0
    (with_reducible refine (HM.out _).mono ?_)
    rintro e w1 ⟨rfl, rfl⟩
    go_wp2
    refine bodyPost_ret (v := Value.tuple #[.agg #[Value.int IntKind.i64 0, Value.int IntKind.i64 0, Value.int IntKind.i64 0, Value.int IntKind.i64 0, Value.int IntKind.i64 0, Value.slice none 0 0], .int .i64 1]) (by simp [results, Try.results19, go_sem, R]) rfl ⟨rfl, ?_⟩
    exact ((((((BB.out.setCell (by first | (simp; done) | (simp; omega)) _).setCell (by first | (simp; done) | (simp; omega)) _).setCell (by first | (simp; done) | (simp; omega)) _).setCell (by first | (simp; done) | (simp; omega)) _).setCell (by first | (simp; done) | (simp; omega)) _).setCell (by first | (simp; done) | (simp; omega)) _)
  rw [hm] at HM
  cases hk : kB k
  case false =>
    rw [hk] at HK
    simp only [Bool.false_and, Bool.true_and, Bool.and_false, Bool.and_true, kp_t, kp_f, if_true, Bool.false_eq_true, if_false]
    go_enter Try.func19, Try.ntmps19
    go_wp2_with fail
    obtain ⟨W0, hW, hs0, K0, B0⟩ := start1 w 32 #[Value.int IntKind.i64 0, Value.int IntKind.i64 0, Value.int IntKind.i64 0, Value.int IntKind.i64 0, Value.int IntKind.i64 0, Value.slice none 0 0]
    rw [hW]
    clear hW
    have KK := Lib.hid K0
    have BB := Lib.hid B0
    have R := K0.rules
    simp only [Rules] at R
    clear K0 B0 hs0
    (with_reducible refine (HM.out _).mono ?_)
    rintro e w1 ⟨rfl, rfl⟩
    go_wp2_with fail
    (with_reducible refine (HK.out _).mono ?_)
    rintro e w1 ⟨rfl, rfl⟩
    go_wp2
    refine bodyPost_ret (v := Value.tuple #[.agg #[Value.int IntKind.i64 0, Value.int IntKind.i64 0, Value.int IntKind.i64 0, Value.int IntKind.i64 0, Value.int IntKind.i64 0, Value.slice none 0 0], .int .i64 1]) (by simp [results, Try.results19, go_sem, R]) rfl ⟨rfl, ?_⟩
    exact ((((((BB.out.setCell (by first | (simp; done) | (simp; omega)) _).setCell (by first | (simp; done) | (simp; omega)) _).setCell (by first | (simp; done) | (simp; omega)) _).setCell (by first | (simp; done) | (simp; omega)) _).setCell (by first | (simp; done) | (simp; omega)) _).setCell (by first | (simp; done) | (simp; omega)) _)
  rw [hk] at HK
  cases hx : mB m
  case false =>
    rw [hx] at HX
    simp only [Bool.false_and, Bool.true_and, Bool.and_false, Bool.and_true, kp_t, kp_f, if_true, Bool.false_eq_true, if_false]
    go_enter Try.func19, Try.ntmps19
    go_wp2_with fail
    obtain ⟨W0, hW, hs0, K0, B0⟩ := start1 w 32 #[Value.int IntKind.i64 0, Value.int IntKind.i64 0, Value.int IntKind.i64 0, Value.int IntKind.i64 0, Value.int IntKind.i64 0, Value.slice none 0 0]
    rw [hW]
    clear hW
    have KK := Lib.hid K0
    have BB := Lib.hid B0
    have R := K0.rules
    simp only [Rules] at R
    clear K0 B0 hs0
    (with_reducible refine (HM.out _).mono ?_)
    rintro e w1 ⟨rfl, rfl⟩
    go_wp2_with fail
    (with_reducible refine (HK.out _).mono ?_)
    rintro e w1 ⟨rfl, rfl⟩
    go_wp2_with fail
    (with_reducible refine (HX.out _).mono ?_)
    rintro e w1 ⟨rfl, rfl⟩
    go_wp2
    refine bodyPost_ret (v := Value.tuple #[.agg #[Value.int IntKind.i64 0, Value.int IntKind.i64 0, Value.int IntKind.i64 0, Value.int IntKind.i64 0, Value.int IntKind.i64 0, Value.slice none 0 0], .int .i64 1]) (by simp [results, Try.results19, go_sem, R]) rfl ⟨rfl, ?_⟩
    exact ((((((BB.out.setCell (by first | (simp; done) | (simp; omega)) _).setCell (by first | (simp; done) | (simp; omega)) _).setCell (by first | (simp; done) | (simp; omega)) _).setCell (by first | (simp; done) | (simp; omega)) _).setCell (by first | (simp; done) | (simp; omega)) _).setCell (by first | (simp; done) | (simp; omega)) _)
  rw [hx] at HX
  simp only [Bool.false_and, Bool.true_and, Bool.and_false, Bool.and_true, kp_t, kp_f, if_true, Bool.false_eq_true, if_false]
  go_enter Try.func19, Try.ntmps19
  go_wp2_with fail
  obtain ⟨W0, hW, hs0, K0, B0⟩ := start1 w 32 #[Value.int IntKind.i64 0, Value.int IntKind.i64 0, Value.int IntKind.i64 0, Value.int IntKind.i64 0, Value.int IntKind.i64 0, Value.slice none 0 0]
  rw [hW]
  clear hW
  have KK := Lib.hid K0
  have BB := Lib.hid B0
  have R := K0.rules
  simp only [Rules] at R
  clear K0 B0 hs0
  (with_reducible refine (HM.out _).mono ?_)
  rintro e w1 ⟨rfl, rfl⟩
  go_wp2_with fail
  (with_reducible refine (HK.out _).mono ?_)
  rintro e w1 ⟨rfl, rfl⟩
  go_wp2_with fail
  (with_reducible refine (HX.out _).mono ?_)
  rintro e w1 ⟨rfl, rfl⟩
  go_wp2
  refine bodyPost_ret (v := Value.tuple #[.agg #[Value.int IntKind.i64 v, Value.int IntKind.i64 k, Value.int IntKind.i64 p, Value.int IntKind.i64 m, Value.int IntKind.i64 o, Value.slice none 0 0], .int .i64 0]) (by simp [results, Try.results19, go_sem, R]) rfl ⟨rfl, ?_⟩
  exact ((((((BB.out.setCell (by first | (simp; done) | (simp; omega)) _).setCell (by first | (simp; done) | (simp; omega)) _).setCell (by first | (simp; done) | (simp; omega)) _).setCell (by first | (simp; done) | (simp; omega)) _).setCell (by first | (simp; done) | (simp; omega)) _).setCell (by first | (simp; done) | (simp; omega)) _)
def timeE (o tt : Int) : Int := if tt < o ∨ 16777216 < tt then 3 else 0
theorem timeE_iff {o tt : Int} : (tt < o ∨ 16777216 < tt) ∧ timeE o tt = 3 ∨ ¬ (tt < o ∨ 16777216 < tt) ∧ timeE o tt = 0 := by
  unfold timeE; split
  · exact .inl ⟨by assumption, rfl⟩
  · exact .inr ⟨by assumption, rfl⟩
set_option maxHeartbeats 2000000 in
set_option maxRecDepth 100000 in
theorem ClkAdv_any (o tt : Int) (ho : 0 ≤ o ∧ o ≤ 16777216) (w : World) : Calls Try.prog 59 #[.int .i64 o, .int .i64 tt] w fun e w' => (∃ r : Int, e = .returned (.tuple #[.int .i64 r, .int .i64 (timeE o tt)])) ∧ w = w' := by
  have HT := Lib.hid (fun W => clk.tick_any o W)
  rw [clk.tickB_iff.2 ho] at HT
  obtain ⟨h1, h2⟩ := ho
  rcases timeE_iff (o := o) (tt := tt) with ⟨h, e⟩ | ⟨h, e⟩ <;> rw [e] <;> clear e
  · by_cases h3 : tt < o
    · clear h
      go_enter Try.func59, Try.ntmps59
      go_wp2_with (go_at_call 90; refine (HT.out _).mono ?_; rintro e w1 ⟨rfl, rfl⟩)
      go_ret2
      exact ⟨⟨_, rfl⟩, rfl⟩
    · have h4 : 16777216 < tt := by omega
      clear h
      go_enter Try.func59, Try.ntmps59
      go_wp2_with (go_at_call 90; refine (HT.out _).mono ?_; rintro e w1 ⟨rfl, rfl⟩)
      go_ret2
      exact ⟨⟨_, rfl⟩, rfl⟩
  · have h3 : ¬ tt < o := by omega
    have h4 : ¬ 16777216 < tt := by omega
    clear h
    go_enter Try.func59, Try.ntmps59
    go_wp2_with (go_at_call 90; refine (HT.out _).mono ?_; rintro e w1 ⟨rfl, rfl⟩)
    go_ret2
    exact ⟨⟨_, rfl⟩, rfl⟩
set_option maxHeartbeats 2000000 in
set_option maxRecDepth 100000 in
theorem Back_any (o tt : Int) (w : World) : Calls Try.prog 62 #[.int .i64 o, .int .i64 tt] w fun e w' => e = .returned (.int .i64 (timeE o tt)) ∧ w = w' := by
  rcases timeE_iff (o := o) (tt := tt) with ⟨h, e⟩ | ⟨h, e⟩ <;> rw [e] <;> clear e
  · by_cases h3 : tt < o
    · clear h
      go_enter Try.func62, Try.ntmps62
      go_wp2
      go_ret
      exact ⟨rfl, rfl⟩
    · have h4 : 16777216 < tt := by omega
      clear h
      go_enter Try.func62, Try.ntmps62
      go_wp2
      go_ret
      exact ⟨rfl, rfl⟩
  · have h3 : ¬ tt < o := by omega
    have h4 : ¬ 16777216 < tt := by omega
    clear h
    go_enter Try.func62, Try.ntmps62
    go_wp2
    go_ret
    exact ⟨rfl, rfl⟩
end Go.Proofs.Ytofgjcfiinmimaa.cst
