/- Contracts of FloorDiv and CeilDiv by a positive number. -/
import Derived.Test.YtjapjfcennemeaaGrown
namespace Go.Proofs.Ytjapjfcennemeaa.wid
open Go.RowKit Go.Proofs.Ytjapjfcennemeaa.mem Go.Proofs.Ytjapjfcennemeaa.gro
set_option linter.unusedVariables false
theorem neg_parts {a b : Int} (h : a < 0) (hb : 1 ≤ b) : ∃ q r : Int, a.tdiv b = -q ∧ a.tmod b = -r ∧ 0 ≤ q ∧ q ≤ -a ∧ 0 ≤ r ∧ r < b ∧ (r = 0 → a / b = -q ∧ -((-a) / b) = -q) ∧ (r ≠ 0 → a / b = -q - 1 ∧ -((-a) / b) = -q ∧ q + 1 ≤ -a) := by
  refine ⟨(-a) / b, (-a) % b, ?_, ?_, Int.ediv_nonneg (by omega) (by omega), Int.ediv_le_self _ (by omega), Int.emod_nonneg _ (by omega), Int.emod_lt_of_pos _ (by omega), fun h0 => ⟨?_, rfl⟩, fun h0 => ⟨?_, rfl, ?_⟩⟩
  · rw [show a.tdiv b = -((-a).tdiv b) by rw [Int.neg_tdiv, Int.neg_neg], Int.tdiv_eq_ediv_of_nonneg (by omega)]
  · rw [show a.tmod b = -((-a).tmod b) by rw [Int.neg_tmod, Int.neg_neg], Int.tmod_eq_emod_of_nonneg (by omega)]
  · have h1 := Int.mul_ediv_add_emod (-a) b
    rw [h0] at h1
    have : a = b * (-((-a) / b)) := by rw [Int.mul_neg]; omega
    conv => lhs; rw [this]
    exact Int.mul_ediv_cancel_left _ (by omega)
  · have h1 := Int.mul_ediv_add_emod (-a) b
    have h2 := Int.emod_nonneg (-a) (show b ≠ 0 by omega)
    have h3 := Int.emod_lt_of_pos (-a) (show 0 < b by omega)
    generalize (-a) / b = q at *
    generalize (-a) % b = r at *
    have : a = (b - r) + b * (-q - 1) := by rw [Int.mul_sub, Int.mul_neg]; omega
    rw [this, Int.add_mul_ediv_left _ _ (by omega), Int.ediv_eq_zero_of_lt (by omega) (by omega)]
    omega
  · have h1 := Int.mul_ediv_add_emod (-a) b
    have h2 := Int.emod_nonneg (-a) (show b ≠ 0 by omega)
    have h4 := Int.ediv_nonneg (show 0 ≤ -a by omega) (show 0 ≤ b by omega)
    have := Int.mul_le_mul_of_nonneg_right hb h4
    omega
theorem pos_parts {a b : Int} (h : 0 ≤ a) (hb : 1 ≤ b) : 0 ≤ a / b ∧ a / b ≤ a ∧ 0 ≤ a % b ∧ a % b < b ∧ (a % b = 0 → -((-a) / b) = a / b) ∧ (a % b ≠ 0 → -((-a) / b) = a / b + 1 ∧ a / b + 1 ≤ a) := by
  have h1 := Int.mul_ediv_add_emod a b
  have h2 := Int.emod_nonneg a (show b ≠ 0 by omega)
  have h3 := Int.emod_lt_of_pos a (show 0 < b by omega)
  have h4 := Int.ediv_nonneg h (show 0 ≤ b by omega)
  have h5 := Int.mul_le_mul_of_nonneg_right hb h4
  refine ⟨Int.ediv_nonneg h (by omega), Int.ediv_le_self _ h, h2, h3, fun h0 => ?_, fun h0 => ⟨?_, by omega⟩⟩
  · generalize a / b = q at *
    have : -a = b * (-q) := by rw [Int.mul_neg]; omega
    rw [this, Int.mul_ediv_cancel_left _ (by omega)]; omega
  · generalize a / b = q at *
    generalize a % b = r at *
    have : -a = (b - r) + b * (-q - 1) := by rw [Int.mul_sub, Int.mul_neg]; omega
    rw [this, Int.add_mul_ediv_left _ _ (by omega), Int.ediv_eq_zero_of_lt (by omega) (by omega)]
    omega
theorem ret_pair {a b : Int} (h : a = b) : Ending.returned (.tuple #[.int .i64 a, .bool true]) = .returned (.tuple #[.int .i64 b, .bool true]) := by rw [h]
set_option maxHeartbeats 2000000 in
set_option maxRecDepth 100000 in
theorem FloorDivR_any (a b : Int) (ha : -9223372036854775808 ≤ a) (ha2 : a ≤ 9223372036854775807) (hb : 1 ≤ b) (hb2 : b ≤ 9223372036854775807) (w : World) :
    Calls Try.prog 152 #[.int .i64 a, .int .i64 b] w fun e w' => e = .returned (.tuple #[.int .i64 (a / b), .bool true]) ∧ w = w' := by
  have hbz : (b == 0) = false := by simp; omega
  have hbm : (b == -1) = false := by simp; omega
  have hbn : decide (b < 0) = false := by simp; omega
  obtain ⟨bm, hm⟩ : ∃ bm, (a == -9223372036854775808) = bm := ⟨_, rfl⟩
  by_cases h0 : 0 ≤ a
  · obtain ⟨q0, q1, r0, r1, k1, k2⟩ := pos_parts h0 hb
    have K1 := Lib.hid k1
    have K2 := Lib.hid k2
    clear k1 k2
    have han : decide (a < 0) = false := by simp; omega
    obtain ⟨V, hV⟩ : ∃ V, a / b = V := ⟨_, rfl⟩
    rw [hV]
    have HV := Lib.hid hV
    clear hV
    by_cases hr : a % b = 0
    · have hr1 : (a % b != 0) = false := by simp [hr]
      have HR := Lib.hid hr
      clear hr
      cases bm
      all_goals (
        go_enter Try.func152, Try.ntmps152
        go_wp2
        go_ret2
        exact ⟨ret_pair (HV.out), rfl⟩)
    · have hr1 : (a % b != 0) = true := by simp [hr]
      have hbd := (K2.out hr).2
      have HR := Lib.hid hr
      clear hr
      cases bm
      all_goals (
        go_enter Try.func152, Try.ntmps152
        go_wp2
        go_ret2
        exact ⟨ret_pair (HV.out), rfl⟩)
  · obtain ⟨q, r, e1, e2, q0, q1, r0, r1, k1, k2⟩ := neg_parts (show a < 0 by omega) hb
    have K1 := Lib.hid k1
    have K2 := Lib.hid k2
    clear k1 k2
    have han : decide (a < 0) = true := by simp; omega
    obtain ⟨V, hV⟩ : ∃ V, a / b = V := ⟨_, rfl⟩
    rw [hV]
    have HV := Lib.hid hV
    clear hV
    by_cases hr : r = 0
    · have hr1 : (-r != 0) = false := by simp [hr]
      have HR := Lib.hid hr
      clear hr
      cases bm
      all_goals (
        go_enter Try.func152, Try.ntmps152
        go_wp2
        go_ret2
        exact ⟨ret_pair (by rw [← HV.out, (K1.out HR.out).1]), rfl⟩)
    · have hr1 : (-r != 0) = true := by simp; omega
      have hbd := (K2.out hr).2.2
      have HR := Lib.hid hr
      clear hr
      cases bm
      all_goals (
        go_enter Try.func152, Try.ntmps152
        go_wp2
        go_ret2
        exact ⟨ret_pair (by rw [← HV.out, (K2.out HR.out).1]), rfl⟩)
set_option maxHeartbeats 2000000 in
set_option maxRecDepth 100000 in
theorem CeilDiv_any (a b : Int) (ha : -9223372036854775808 ≤ a) (ha2 : a ≤ 9223372036854775807) (hb : 1 ≤ b) (hb2 : b ≤ 9223372036854775807) (w : World) :
    Calls Try.prog 66 #[.int .i64 a, .int .i64 b] w fun e w' => e = .returned (.tuple #[.int .i64 (-((-a) / b)), .bool true]) ∧ w = w' := by
  have hbz : (b == 0) = false := by simp; omega
  have hbm : (b == -1) = false := by simp; omega
  have hbn : decide (b < 0) = false := by simp; omega
  obtain ⟨bm, hm⟩ : ∃ bm, (a == -9223372036854775808) = bm := ⟨_, rfl⟩
  by_cases h0 : 0 ≤ a
  · obtain ⟨q0, q1, r0, r1, k1, k2⟩ := pos_parts h0 hb
    have K1 := Lib.hid k1
    have K2 := Lib.hid k2
    clear k1 k2
    have han : decide (a < 0) = false := by simp; omega
    obtain ⟨V, hV⟩ : ∃ V, -((-a) / b) = V := ⟨_, rfl⟩
    rw [hV]
    have HV := Lib.hid hV
    clear hV
    by_cases hr : a % b = 0
    · have hr1 : (a % b != 0) = false := by simp [hr]
      have HR := Lib.hid hr
      clear hr
      cases bm
      all_goals (
        go_enter Try.func66, Try.ntmps66
        go_wp2
        go_ret2
        exact ⟨ret_pair (by rw [← HV.out, K1.out HR.out]), rfl⟩)
    · have hr1 : (a % b != 0) = true := by simp [hr]
      have hbd := (K2.out hr).2
      have HR := Lib.hid hr
      clear hr
      cases bm
      all_goals (
        go_enter Try.func66, Try.ntmps66
        go_wp2
        go_ret2
        exact ⟨ret_pair (by rw [← HV.out, (K2.out HR.out).1]), rfl⟩)
  · obtain ⟨q, r, e1, e2, q0, q1, r0, r1, k1, k2⟩ := neg_parts (show a < 0 by omega) hb
    have K1 := Lib.hid k1
    have K2 := Lib.hid k2
    clear k1 k2
    have han : decide (a < 0) = true := by simp; omega
    obtain ⟨V, hV⟩ : ∃ V, -((-a) / b) = V := ⟨_, rfl⟩
    rw [hV]
    have HV := Lib.hid hV
    clear hV
    by_cases hr : r = 0
    · have hr1 : (-r != 0) = false := by simp [hr]
      have HR := Lib.hid hr
      clear hr
      cases bm
      all_goals (
        go_enter Try.func66, Try.ntmps66
        go_wp2
        go_ret2
        exact ⟨ret_pair (by rw [← HV.out, (K1.out HR.out).2]), rfl⟩)
    · have hr1 : (-r != 0) = true := by simp; omega
      have hbd := (K2.out hr).2.2
      have HR := Lib.hid hr
      clear hr
      cases bm
      all_goals (
        go_enter Try.func66, Try.ntmps66
        go_wp2
        go_ret2
        exact ⟨ret_pair (by rw [← HV.out, (K2.out HR.out).2.1]), rfl⟩)
end Go.Proofs.Ytjapjfcennemeaa.wid
