/- Floor; BAllow: texts in one. -/
import Derived.Test.YtjapjfcennemeaaMgBox
import Derived.Test.YtjapjfcennemeaaMgPruV
set_option linter.unusedVariables false
set_option linter.unusedSimpArgs false
/- Contracts of FloorDiv and CeilDiv by a positive number. -/
namespace Go.Proofs.Ytjapjfcennemeaa.wid
open Go.RowKit Go.Proofs.Ytjapjfcennemeaa.mem Go.Proofs.Ytjapjfcennemeaa.gro
set_option linter.unusedVariables false
theorem neg_parts {a b : Int} (h : a < 0) (hb : 1 ≤ b) : ∃ q r : Int, a.tdiv b = -q ∧ a.tmod b = -r ∧ 0 ≤ q ∧ q ≤ -a ∧ 0 ≤ r ∧ r < b ∧ (r = 0 → a / b = -q ∧ -((-a) / b) = -q) ∧ (r ≠ 0 → a / b = -q - 1 ∧ -((-a) / b) = -q ∧ q + 1 ≤ -a) := by
  refine ⟨(-a) / b, (-a) % b, ?_, ?_, Int.ediv_nonneg (by omega) (by omega), Int.ediv_le_self _ (by omega), Int.emod_nonneg _ (by omega), Int.emod_lt_of_pos _ (by omega), fun h0 => ⟨?_, rfl⟩, fun h0 => ⟨?_, rfl, ?_⟩⟩
  · rw [show a.tdiv b = -((-a).tdiv b) by rw [Int.neg_tdiv, Int.neg_neg], Int.tdiv_eq_ediv_of_nonneg (by omega)]
  · rw [show a.tmod b = -((-a).tmod b) by rw [Int.neg_tmod, Int.neg_neg], Int.tmod_eq_emod_of_nonneg (by omega)]
  · have h1 := Int.mul_ediv_add_emod (-a) b
    rw [h0] at h1
    have : a = b * (-((-a) / b)) := by rw [Int.mul_neg]; omega
    conv => lhs; rw [this]
    exact Int.mul_ediv_cancel_left _ (by omega)
  · have h1 := Int.mul_ediv_add_emod (-a) b
    have h2 := Int.emod_nonneg (-a) (show b ≠ 0 by omega)
    have h3 := Int.emod_lt_of_pos (-a) (show 0 < b by omega)
    generalize (-a) / b = q at *
    generalize (-a) % b = r at *
    have : a = (b - r) + b * (-q - 1) := by rw [Int.mul_sub, Int.mul_neg]; omega
    rw [this, Int.add_mul_ediv_left _ _ (by omega), Int.ediv_eq_zero_of_lt (by omega) (by omega)]
    omega
  · have h1 := Int.mul_ediv_add_emod (-a) b
    have h2 := Int.emod_nonneg (-a) (show b ≠ 0 by omega)
    have h4 := Int.ediv_nonneg (show 0 ≤ -a by omega) (show 0 ≤ b by omega)
    have := Int.mul_le_mul_of_nonneg_right hb h4
    omega
theorem pos_parts {a b : Int} (h : 0 ≤ a) (hb : 1 ≤ b) : 0 ≤ a / b ∧ a / b ≤ a ∧ 0 ≤ a % b ∧ a % b < b ∧ (a % b = 0 → -((-a) / b) = a / b) ∧ (a % b ≠ 0 → -((-a) / b) = a / b + 1 ∧ a / b + 1 ≤ a) := by
  have h1 := Int.mul_ediv_add_emod a b
  have h2 := Int.emod_nonneg a (show b ≠ 0 by omega)
  have h3 := Int.emod_lt_of_pos a (show 0 < b by omega)
  have h4 := Int.ediv_nonneg h (show 0 ≤ b by omega)
  have h5 := Int.mul_le_mul_of_nonneg_right hb h4
  refine ⟨Int.ediv_nonneg h (by omega), Int.ediv_le_self _ h, h2, h3, fun h0 => ?_, fun h0 => ⟨?_, by omega⟩⟩
  · generalize a / b = q at *
    have : -a = b * (-q) := by rw [Int.mul_neg]; omega
    rw [this, Int.mul_ediv_cancel_left _ (by omega)]; omega
  · generalize a / b = q at *
    generalize a % b = r at *
    have : -a = (b - r) + b * (-q - 1) := by rw [Int.mul_sub, Int.mul_neg]; omega
    rw [this, Int.add_mul_ediv_left _ _ (by omega), Int.ediv_eq_zero_of_lt (by omega) (by omega)]
    omega
theorem ret_pair {a b : Int} (h : a = b) : Ending.returned (.tuple #[.int .i64 a, .bool true]) = .returned (.tuple #[.int .i64 b, .bool true]) := by rw [h]
set_option maxHeartbeats 2000000 in
set_option maxRecDepth 100000 in
theorem FloorDivR_any (a b : Int) (ha : -9223372036854775808 ≤ a) (ha2 : a ≤ 9223372036854775807) (hb : 1 ≤ b) (hb2 : b ≤ 9223372036854775807) (w : World) :
    Calls Try.prog 152 #[.int .i64 a, .int .i64 b] w fun e w' => e = .returned (.tuple #[.int .i64 (a / b), .bool true]) ∧ w = w' := by
  have hbz : (b == 0) = false := by simp; omega
  have hbm : (b == -1) = false := by simp; omega
  have hbn : decide (b < 0) = false := by simp; omega
  obtain ⟨bm, hm⟩ : ∃ bm, (a == -9223372036854775808) = bm := ⟨_, rfl⟩
  by_cases h0 : 0 ≤ a
  · obtain ⟨q0, q1, r0, r1, k1, k2⟩ := pos_parts h0 hb
    have K1 := Lib.hid k1
    have K2 := Lib.hid k2
    clear k1 k2
    have han : decide (a < 0) = false := by simp; omega
    obtain ⟨V, hV⟩ : ∃ V, a / b = V := ⟨_, rfl⟩
    rw [hV]
    have HV := Lib.hid hV
    clear hV
    by_cases hr : a % b = 0
    · have hr1 : (a % b != 0) = false := by simp [hr]
      have HR := Lib.hid hr
      clear hr
      cases bm
      all_goals (
        go_enter Try.func152, Try.ntmps152
        go_wp2
        go_ret2
        exact ⟨ret_pair (HV.out), rfl⟩)
    · have hr1 : (a % b != 0) = true := by simp [hr]
      have hbd := (K2.out hr).2
      have HR := Lib.hid hr
      clear hr
      cases bm
      all_goals (
        go_enter Try.func152, Try.ntmps152
        go_wp2
        go_ret2
        exact ⟨ret_pair (HV.out), rfl⟩)
  · obtain ⟨q, r, e1, e2, q0, q1, r0, r1, k1, k2⟩ := neg_parts (show a < 0 by omega) hb
    have K1 := Lib.hid k1
    have K2 := Lib.hid k2
    clear k1 k2
    have han : decide (a < 0) = true := by simp; omega
    obtain ⟨V, hV⟩ : ∃ V, a / b = V := ⟨_, rfl⟩
    rw [hV]
    have HV := Lib.hid hV
    clear hV
    by_cases hr : r = 0
    · have hr1 : (-r != 0) = false := by simp [hr]
      have HR := Lib.hid hr
      clear hr
      cases bm
      all_goals (
        go_enter Try.func152, Try.ntmps152
        go_wp2
        go_ret2
        exact ⟨ret_pair (by rw [← HV.out, (K1.out HR.out).1]), rfl⟩)
    · have hr1 : (-r != 0) = true := by simp; omega
      have hbd := (K2.out hr).2.2
      have HR := Lib.hid hr
      clear hr
      cases bm
      all_goals (
        go_enter Try.func152, Try.ntmps152
        go_wp2
        go_ret2
        exact ⟨ret_pair (by rw [← HV.out, (K2.out HR.out).1]), rfl⟩)
set_option maxHeartbeats 2000000 in
set_option maxRecDepth 100000 in
theorem CeilDiv_any (a b : Int) (ha : -9223372036854775808 ≤ a) (ha2 : a ≤ 9223372036854775807) (hb : 1 ≤ b) (hb2 : b ≤ 9223372036854775807) (w : World) :
    Calls Try.prog 66 #[.int .i64 a, .int .i64 b] w fun e w' => e = .returned (.tuple #[.int .i64 (-((-a) / b)), .bool true]) ∧ w = w' := by
  have hbz : (b == 0) = false := by simp; omega
  have hbm : (b == -1) = false := by simp; omega
  have hbn : decide (b < 0) = false := by simp; omega
  obtain ⟨bm, hm⟩ : ∃ bm, (a == -9223372036854775808) = bm := ⟨_, rfl⟩
  by_cases h0 : 0 ≤ a
  · obtain ⟨q0, q1, r0, r1, k1, k2⟩ := pos_parts h0 hb
    have K1 := Lib.hid k1
    have K2 := Lib.hid k2
    clear k1 k2
    have han : decide (a < 0) = false := by simp; omega
    obtain ⟨V, hV⟩ : ∃ V, -((-a) / b) = V := ⟨_, rfl⟩
    rw [hV]
    have HV := Lib.hid hV
    clear hV
    by_cases hr : a % b = 0
    · have hr1 : (a % b != 0) = false := by simp [hr]
      have HR := Lib.hid hr
      clear hr
      cases bm
      all_goals (
        go_enter Try.func66, Try.ntmps66
        go_wp2
        go_ret2
        exact ⟨ret_pair (by rw [← HV.out, K1.out HR.out]), rfl⟩)
    · have hr1 : (a % b != 0) = true := by simp [hr]
      have hbd := (K2.out hr).2
      have HR := Lib.hid hr
      clear hr
      cases bm
      all_goals (
        go_enter Try.func66, Try.ntmps66
        go_wp2
        go_ret2
        exact ⟨ret_pair (by rw [← HV.out, (K2.out HR.out).1]), rfl⟩)
  · obtain ⟨q, r, e1, e2, q0, q1, r0, r1, k1, k2⟩ := neg_parts (show a < 0 by omega) hb
    have K1 := Lib.hid k1
    have K2 := Lib.hid k2
    clear k1 k2
    have han : decide (a < 0) = true := by simp; omega
    obtain ⟨V, hV⟩ : ∃ V, -((-a) / b) = V := ⟨_, rfl⟩
    rw [hV]
    have HV := Lib.hid hV
    clear hV
    by_cases hr : r = 0
    · have hr1 : (-r != 0) = false := by simp [hr]
      have HR := Lib.hid hr
      clear hr
      cases bm
      all_goals (
        go_enter Try.func66, Try.ntmps66
        go_wp2
        go_ret2
        exact ⟨ret_pair (by rw [← HV.out, (K1.out HR.out).2]), rfl⟩)
    · have hr1 : (-r != 0) = true := by simp; omega
      have hbd := (K2.out hr).2.2
      have HR := Lib.hid hr
      clear hr
      cases bm
      all_goals (
        go_enter Try.func66, Try.ntmps66
        go_wp2
        go_ret2
        exact ⟨ret_pair (by rw [← HV.out, (K2.out HR.out).2.1]), rfl⟩)
end Go.Proofs.Ytjapjfcennemeaa.wid

/- Contracts of both Allowed, at any level and bound. -/
namespace Go.Proofs.Ytjapjfcennemeaa.rnk
open Go.RowKit Go.Proofs.Ytjapjfcennemeaa.mem Go.Proofs.Ytjapjfcennemeaa.gro
set_option linter.unusedVariables false
set_option linter.unusedSimpArgs false
set_option pp.maxSteps 200000
theorem ceil_eq {a b : Int} (hb : 1 ≤ b) : -((-a) / b) = ceilD a b := by
  unfold ceilD
  have h1 := Int.emod_add_mul_ediv (-a) b
  have h2 := Int.emod_nonneg (-a) (show b ≠ 0 by omega)
  have h3 := Int.emod_lt_of_pos (-a) (show 0 < b by omega)
  have h4 : a + b - 1 = (b - 1 - (-a) % b) + -((-a) / b) * b := by
    have e : -((-a) / b) * b = -(b * ((-a) / b)) := by rw [Int.neg_mul, Int.mul_comm]
    rw [e]
    generalize b * ((-a) / b) = q at *
    generalize (-a) % b = r at *
    omega
  rw [h4, Int.add_mul_ediv_right _ _ (show b ≠ 0 by omega), Int.ediv_eq_zero_of_lt (a := b - 1 - (-a) % b) (b := b) (by omega) (by omega), Int.zero_add]
theorem allowed_f {l b : Int} (h : ¬ ((0 ≤ l ∧ l ≤ 30) ∧ 1 ≤ b ∧ b ≤ 65536)) : allowed l b = -1 := by unfold allowed; rw [if_neg h]
theorem allowTo_step {b : Int} {l : Nat} : allowTo b (l + 1) = if b + 1 < 2 ^ l then 2 * allowTo b l + ceilD (2 ^ l - 1) b else allowTo b l := rfl
theorem shl_nat {i : Nat} (h : i ≤ 30) : wrap64 (2 ^ i) = (2 : Int) ^ i := by
  have h1 : (2 : Nat) ^ i ≤ 2 ^ 30 := Nat.pow_le_pow_right (by omega) h
  have h2 : ((2 ^ i : Nat) : Int) = (2 : Int) ^ i := by simp
  rw [← h2]
  clear h2
  generalize (2 : Nat) ^ i = m at *
  exact IntWalk.wrap64_in (m : Int) (by omega)
theorem pow_bd {i : Nat} (h : i ≤ 30) : 1 ≤ (2 : Int) ^ i ∧ (2 : Int) ^ i ≤ 1073741824 := by
  have h1 : (2 : Nat) ^ i ≤ 2 ^ 30 := Nat.pow_le_pow_right (by omega) h
  have h3 : 1 ≤ 2 ^ i := Nat.pow_pos (by omega)
  have h2 : ((2 ^ i : Nat) : Int) = (2 : Int) ^ i := by simp
  rw [← h2]
  omega
theorem allow_bd {b : Int} (hb : 1 ≤ b) {i : Nat} (h : i ≤ 31) : 0 ≤ allowTo b i ∧ allowTo b i ≤ 66571993088 := by
  obtain ⟨h1, h2⟩ := allowTo_bd hb i
  refine ⟨h1, Int.le_trans h2 ?_⟩
  have h3 : (2 : Nat) ^ i ≤ 2 ^ 31 := Nat.pow_le_pow_right (by omega) h
  have h5 := Nat.mul_le_mul h h3
  have h4 : ((2 ^ i : Nat) : Int) = (2 : Int) ^ i := by simp
  rw [← h4]
  omega
theorem ceil_bd {b : Int} (hb : 1 ≤ b) {i : Nat} (h : i ≤ 30) : 0 ≤ ceilD (2 ^ i - 1) b ∧ ceilD (2 ^ i - 1) b ≤ 1073741824 := by
  have h1 := pow_bd h
  unfold ceilD
  refine ⟨Int.ediv_nonneg (by omega) (by omega), ?_⟩
  refine Int.ediv_le_of_le_mul (by omega) ?_
  have h2 := Int.mul_le_mul_of_nonneg_left hb (show (0 : Int) ≤ 1073741823 by omega)
  omega
set_option maxHeartbeats 4000000 in
set_option maxRecDepth 100000 in
theorem Allowed_any (level b : Int) (w : World) : Calls Try.prog 15 #[.int .i64 level, .int .i64 b] w fun e w' => e = .returned (.int .i64 (allowed level b)) ∧ w = w' := by
  by_cases h : (0 ≤ level ∧ level ≤ 30) ∧ 1 ≤ b ∧ b ≤ 65536
  case neg =>
    have HA := Lib.hid (allowed_f h)
    by_cases g1 : level < 0
    case pos =>
      clear h
      go_enter Try.func15, Try.ntmps15
      go_wp2
      go_ret
      exact ⟨ret_int (by rw [HA.out]), rfl⟩
    by_cases g2 : 30 < level
    case pos =>
      clear h
      go_enter Try.func15, Try.ntmps15
      go_wp2
      go_ret
      exact ⟨ret_int (by rw [HA.out]), rfl⟩
    by_cases g3 : b < 1
    case pos =>
      clear h
      go_enter Try.func15, Try.ntmps15
      go_wp2
      go_ret
      exact ⟨ret_int (by rw [HA.out]), rfl⟩
    have g4 : 65536 < b := by omega
    clear h
    go_enter Try.func15, Try.ntmps15
    go_wp2
    go_ret
    exact ⟨ret_int (by rw [HA.out]), rfl⟩
  have HA := Lib.hid (show allowed level b = allowTo b (level.toNat + 1) by unfold allowed; rw [if_pos h])
  obtain ⟨⟨g1, g2⟩, g3, g4⟩ := h
  obtain ⟨l, rfl⟩ := Int.eq_ofNat_of_zero_le g1
  rw [Int.toNat_natCast] at HA
  have hbz : (b == 0) = false := by simp; omega
  have hbm : (b == -1) = false := by simp; omega
  go_enter Try.func15, Try.ntmps15
  go_wp2
  go_loop [5, 6] (fun s5 s6 => ∃ i : Nat, i ≤ l + 1 ∧ s6 = .int .i64 i ∧ s5 = .int .i64 (allowTo b i)) (fun _ s6 => l + 1 - (intOf s6).toNat)
  case atStart => exact ⟨0, by omega, rfl, rfl⟩
  case round =>
    obtain ⟨i, hi, rfl, rfl⟩ := hrel
    by_cases hlt : (i : Int) ≤ l
    case neg =>
      obtain rfl : i = l + 1 := by omega
      go_wp2
      go_ret
      exact ⟨ret_int (by rw [HA.out]), rfl⟩
    have hp := pow_bd (show i ≤ 30 by omega)
    have hs := shl_nat (show i ≤ 30 by omega)
    have ha := allow_bd g3 (show i ≤ 31 by omega)
    have hc := ceil_bd g3 (show i ≤ 30 by omega)
    have HS := Lib.hid (allowTo_step (b := b) (l := i))
    have HC := Lib.hid (fun a (h0 : 0 ≤ a) (h1 : a ≤ 1073741824) W => wid.CeilDiv_any a b (by omega) (by omega) g3 (by omega) W)
    have hq := ceil_eq (a := 2 ^ i - 1) g3
    generalize allowTo b i = o at *
    rw [← hq] at hc HS
    clear hq
    by_cases hb : b + 1 < 2 ^ i
    case neg =>
      rw [if_neg hb] at HS
      go_wp2
      exact ⟨⟨i + 1, by omega, by go_num, by rw [HS.out]⟩, by simp [intOf]; omega⟩
    rw [if_pos hb] at HS
    go_wp2_with (go_at_call 66; refine (HC.out _ (by omega) (by omega) _).mono ?_; rintro e w' ⟨rfl, rfl⟩; generalize -(-((2 : Int) ^ i - 1) / b) = q at *)
    exact ⟨⟨i + 1, by omega, by go_num, by rw [HS.out]⟩, by simp [intOf]; omega⟩
set_option maxHeartbeats 4000000 in
set_option maxRecDepth 100000 in
theorem AllowedR_any (level b : Int) (w : World) : Calls Try.prog 16 #[.int .i64 level, .int .i64 b] w fun e w' => e = .returned (.int .i64 (allowed level b)) ∧ w = w' := by
  by_cases h : (0 ≤ level ∧ level ≤ 30) ∧ 1 ≤ b ∧ b ≤ 65536
  case neg =>
    have HA := Lib.hid (allowed_f h)
    by_cases g1 : level < 0
    case pos =>
      clear h
      go_enter Try.func16, Try.ntmps16
      go_wp2
      go_ret
      exact ⟨ret_int (by rw [HA.out]), rfl⟩
    by_cases g2 : 30 < level
    case pos =>
      clear h
      go_enter Try.func16, Try.ntmps16
      go_wp2
      go_ret
      exact ⟨ret_int (by rw [HA.out]), rfl⟩
    by_cases g3 : b < 1
    case pos =>
      clear h
      go_enter Try.func16, Try.ntmps16
      go_wp2
      go_ret
      exact ⟨ret_int (by rw [HA.out]), rfl⟩
    have g4 : 65536 < b := by omega
    clear h
    go_enter Try.func16, Try.ntmps16
    go_wp2
    go_ret
    exact ⟨ret_int (by rw [HA.out]), rfl⟩
  have HA := Lib.hid (show allowed level b = allowTo b (level.toNat + 1) by unfold allowed; rw [if_pos h])
  obtain ⟨⟨g1, g2⟩, g3, g4⟩ := h
  obtain ⟨l, rfl⟩ := Int.eq_ofNat_of_zero_le g1
  rw [Int.toNat_natCast] at HA
  have hbz : (b == 0) = false := by simp; omega
  have hbm : (b == -1) = false := by simp; omega
  go_enter Try.func16, Try.ntmps16
  go_wp2
  go_loop [5, 6] (fun s5 s6 => ∃ i : Nat, i ≤ l + 1 ∧ s6 = .int .i64 i ∧ s5 = .int .i64 (allowTo b i)) (fun _ s6 => l + 1 - (intOf s6).toNat)
  case atStart => exact ⟨0, by omega, rfl, rfl⟩
  case round =>
    obtain ⟨i, hi, rfl, rfl⟩ := hrel
    by_cases hlt : (i : Int) ≤ l
    case neg =>
      obtain rfl : i = l + 1 := by omega
      go_wp2
      go_ret
      exact ⟨ret_int (by rw [HA.out]), rfl⟩
    have hp := pow_bd (show i ≤ 30 by omega)
    have hs := shl_nat (show i ≤ 30 by omega)
    have ha := allow_bd g3 (show i ≤ 31 by omega)
    have hc := ceil_bd g3 (show i ≤ 30 by omega)
    have HS := Lib.hid (allowTo_step (b := b) (l := i))
    have ht : ceilD (2 ^ i - 1) b = (2 ^ i - 1 + b - 1).tdiv b := by unfold ceilD; rw [Int.tdiv_eq_ediv_of_nonneg (by omega)]
    generalize allowTo b i = o at *
    rw [ht] at hc HS
    clear ht
    by_cases hb : b + 1 < 2 ^ i
    case neg =>
      rw [if_neg hb] at HS
      go_wp2
      exact ⟨⟨i + 1, by omega, by go_num, by rw [HS.out]⟩, by simp [intOf]; omega⟩
    rw [if_pos hb] at HS
    go_wp2
    exact ⟨⟨i + 1, by omega, by go_num, by rw [HS.out]⟩, by simp [intOf]; omega⟩
end Go.Proofs.Ytjapjfcennemeaa.rnk
