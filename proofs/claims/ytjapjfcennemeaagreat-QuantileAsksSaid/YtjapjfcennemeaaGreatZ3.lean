/- Clk: proved here in one text, no conditions beyond those that each theorem states. -/
import Derived.Test.YtjapjfcennemeaaGreatRows
import Derived.WalkKit
import Derived.ProofKit
import Derived.Deep.QuietTactic
import Derived.BigQuiet
import Derived.Outline
import Derived.Lib.Hide
set_option linter.unusedVariables false
set_option linter.unusedSimpArgs false
namespace Go.Proofs.YtjapjfcennemeaaGreat.clk
open Go.RowKit
set_option linter.unusedVariables false
def tickB (t : Int) : Bool := decide (0 ≤ t) && decide (t ≤ 16777216)
def winB (w : Int) : Bool := decide (1 ≤ w) && decide (w ≤ 1048576)
def firstI (now w : Int) : Int := if tickB now = true ∧ winB w = true then max 0 (now - w + 1) else -1
def liveB (now w t : Int) : Bool := decide (tickB now = true ∧ winB w = true ∧ tickB t = true ∧ now - w < t ∧ t ≤ now)
theorem tickB_iff {t : Int} : tickB t = true ↔ 0 ≤ t ∧ t ≤ 16777216 := by simp [tickB]
theorem tickB_iff0 {t : Int} : tickB t = false ↔ ¬ (0 ≤ t ∧ t ≤ 16777216) := by rw [← tickB_iff]; simp
theorem winB_iff {t : Int} : winB t = true ↔ 1 ≤ t ∧ t ≤ 1048576 := by simp [winB]
theorem winB_iff0 {t : Int} : winB t = false ↔ ¬ (1 ≤ t ∧ t ≤ 1048576) := by rw [← winB_iff]; simp
theorem ret_bool {a b : Bool} (h : a = b) : Ending.returned (.bool a) = .returned (.bool b) := by rw [h]
theorem ret_int {k : IntKind} {a b : Int} (h : a = b) : Ending.returned (.int k a) = .returned (.int k b) := by rw [h]
set_option maxHeartbeats 400000 in
theorem tick_any (t : Int) (w : World) :
    Calls Tryz.prog 53 #[.int .i64 t] w fun e w' => e = .returned (.bool (tickB t)) ∧ w = w' := by
  go_enter Tryz.func53, Tryz.ntmps53
  go_wp2
  all_goals (go_ret; refine ⟨ret_bool ?_, rfl⟩; first | (symm; rw [tickB_iff]; omega) | (symm; rw [tickB_iff0]; omega) | (rw [Bool.eq_iff_iff, tickB_iff]; simp; omega))
set_option maxHeartbeats 400000 in
theorem Tick_any (t : Int) (w : World) :
    Calls Tryz.prog 59 #[.int .i64 t] w fun e w' => e = .returned (.bool (tickB t)) ∧ w = w' := by
  go_enter Tryz.func59, Tryz.ntmps59
  go_wp2
  all_goals (go_ret; refine ⟨ret_bool ?_, rfl⟩; first | (symm; rw [tickB_iff]; omega) | (symm; rw [tickB_iff0]; omega) | (rw [Bool.eq_iff_iff, tickB_iff]; simp; omega))
set_option maxHeartbeats 400000 in
theorem Window_any (t : Int) (w : World) :
    Calls Tryz.prog 58 #[.int .i64 t] w fun e w' => e = .returned (.bool (winB t)) ∧ w = w' := by
  go_enter Tryz.func58, Tryz.ntmps58
  go_wp2
  all_goals (go_ret; refine ⟨ret_bool ?_, rfl⟩; first | (symm; rw [winB_iff]; omega) | (symm; rw [winB_iff0]; omega) | (rw [Bool.eq_iff_iff, winB_iff]; simp; omega))
theorem first_t {now v : Int} (h1 : 0 ≤ now) (h2 : now ≤ 16777216) (h3 : 1 ≤ v) (h4 : v ≤ 1048576) : firstI now v = max 0 (now - v + 1) := by
  unfold firstI; rw [if_pos]; exact ⟨tickB_iff.2 ⟨h1, h2⟩, winB_iff.2 ⟨h3, h4⟩⟩
theorem first_f {now v : Int} (h : ¬ (0 ≤ now ∧ now ≤ 16777216 ∧ 1 ≤ v ∧ v ≤ 1048576)) : firstI now v = -1 := by
  unfold firstI; rw [if_neg]; rw [tickB_iff, winB_iff]; omega
theorem live_iff {now v t : Int} : liveB now v t = true ↔ 0 ≤ now ∧ now ≤ 16777216 ∧ 1 ≤ v ∧ v ≤ 1048576 ∧ 0 ≤ t ∧ t ≤ 16777216 ∧ now - v < t ∧ t ≤ now := by
  unfold liveB; simp [tickB_iff, winB_iff]; omega
theorem live_iff0 {now v t : Int} : liveB now v t = false ↔ ¬ (0 ≤ now ∧ now ≤ 16777216 ∧ 1 ≤ v ∧ v ≤ 1048576 ∧ 0 ≤ t ∧ t ≤ 16777216 ∧ now - v < t ∧ t ≤ now) := by
  rw [← live_iff]; simp
set_option maxHeartbeats 1000000 in
theorem first_any (now v : Int) (w : World) :
    Calls Tryz.prog 52 #[.int .i64 now, .int .i64 v] w fun e w' => e = .returned (.int .i64 (firstI now v)) ∧ w = w' := by
  cases ht : tickB now
  all_goals
    have hb := ht
    first | rw [tickB_iff] at hb | rw [tickB_iff0] at hb
    have HP := Lib.hid ht; clear ht
    go_enter Tryz.func52, Tryz.ntmps52
    go_wp2_with (go_at_call 53; refine (tick_any _ _).mono ?_; rintro e w' ⟨rfl, rfl⟩; rw [HP.out])
    all_goals (go_ret; refine ⟨ret_int ?_, rfl⟩; first | (rw [first_f (by omega)]; done) | (rw [first_t (by omega) (by omega) (by omega) (by omega)]; done) | (rw [first_t (by omega) (by omega) (by omega) (by omega)]; omega))
set_option maxHeartbeats 1000000 in
theorem live_any (now v t : Int) (w : World) :
    Calls Tryz.prog 24 #[.int .i64 now, .int .i64 v, .int .i64 t] w fun e w' => e = .returned (.bool (liveB now v t)) ∧ w = w' := by
  have hf : (firstI now v = -1 ∧ ¬ (0 ≤ now ∧ now ≤ 16777216 ∧ 1 ≤ v ∧ v ≤ 1048576)) ∨ (firstI now v = max 0 (now - v + 1) ∧ (0 ≤ now ∧ now ≤ 16777216 ∧ 1 ≤ v ∧ v ≤ 1048576)) := by
    by_cases h : 0 ≤ now ∧ now ≤ 16777216 ∧ 1 ≤ v ∧ v ≤ 1048576
    · exact .inr ⟨first_t h.1 h.2.1 h.2.2.1 h.2.2.2, h⟩
    · exact .inl ⟨first_f h, h⟩
  have F := first_any now v
  generalize firstI now v = x at hf F
  cases ht : tickB t
  all_goals
    have hb := ht
    first | rw [tickB_iff] at hb | rw [tickB_iff0] at hb
    have HP := Lib.hid ht; clear ht
    have HF := Lib.hid hf; clear hf
    have HC := Lib.hid F; clear F
    go_enter Tryz.func24, Tryz.ntmps24
    go_wp2_with (first | (go_at_call 53; refine (tick_any _ _).mono ?_; rintro e w' ⟨rfl, rfl⟩; rw [HP.out]) | (go_at_call 52; refine (HC.out _).mono ?_; rintro e w' ⟨rfl, rfl⟩))
    all_goals (have hf := HF.out; go_ret; refine ⟨ret_bool ?_, rfl⟩; symm; first | (rw [live_iff]; omega) | (rw [live_iff0]; omega) | (rw [Bool.eq_iff_iff, live_iff]; simp; omega))
set_option maxHeartbeats 1000000 in
theorem Live_any (now v t : Int) (w : World) :
    Calls Tryz.prog 32 #[.int .i64 now, .int .i64 v, .int .i64 t] w fun e w' => e = .returned (.bool (liveB now v t)) ∧ w = w' := by
  cases ht : tickB now <;> cases hv : winB v <;> cases hu : tickB t
  all_goals
    have hb := ht
    first | rw [tickB_iff] at hb | rw [tickB_iff0] at hb
    have hc := hv
    first | rw [winB_iff] at hc | rw [winB_iff0] at hc
    have hd := hu
    first | rw [tickB_iff] at hd | rw [tickB_iff0] at hd
    have HP := Lib.hid ht; clear ht
    have HV := Lib.hid hv; clear hv
    have HU := Lib.hid hu; clear hu
    go_enter Tryz.func32, Tryz.ntmps32
    go_wp2_with (first | (go_at_call 59; refine (Tick_any _ _).mono ?_; rintro e w' ⟨rfl, rfl⟩; first | rw [HP.out] | rw [HU.out]) | (go_at_call 58; refine (Window_any _ _).mono ?_; rintro e w' ⟨rfl, rfl⟩; rw [HV.out]))
    all_goals (go_ret; refine ⟨ret_bool ?_, rfl⟩; symm; first | (rw [live_iff]; omega) | (rw [live_iff0]; omega) | (rw [Bool.eq_iff_iff, live_iff]; simp; omega))
end Go.Proofs.YtjapjfcennemeaaGreat.clk
