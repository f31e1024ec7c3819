/- Contract of Middle in the reference: the mean by halves and remainders. -/
import Derived.Test.YtnohkjalglogaaaWhole
import Derived.Test.YtnohkjalglogaaaFloor
namespace Go.Proofs.Ytnohkjalglogaaa.wid
open Go.RowKit Go.Proofs.Ytnohkjalglogaaa.mem Go.Proofs.Ytnohkjalglogaaa.gro
set_option linter.unusedVariables false
theorem mid_wraps {x y : Int} (hx : I64 x) (hy : I64 y) : ∃ u, IntKind.i64.wrap (x - 2 * (x / 2) + y) = u ∧ IntKind.i64.wrap (u - 2 * (y / 2)) = x % 2 + y % 2 := by
  refine ⟨_, rfl, ?_⟩
  unfold I64 at hx hy
  by_cases h : x - 2 * (x / 2) + y ≤ 9223372036854775807
  · rw [IntWalk.i64_in (x - 2 * (x / 2) + y) (by omega), IntWalk.i64_in _ (by omega)]; omega
  · simp only [IntKind.wrap, IntKind.bits, IntKind.signed]
    simp
    omega
set_option maxHeartbeats 2000000 in
theorem MiddleR_any (x y : Int) (hx : I64 x) (hy : I64 y) (w : World) : Calls Try.prog 61 #[.int .i64 x, .int .i64 y] w fun e w' => e = .returned (.int .i64 ((x + y) / 2)) ∧ w = w' := by
  have H1 := Lib.hid (fun W => FloorDivR_any x 2 hx.1 hx.2 (by omega) (by omega) W)
  have H2 := Lib.hid (fun W => FloorDivR_any y 2 hy.1 hy.2 (by omega) (by omega) W)
  obtain ⟨u, k4, k5⟩ := mid_wraps hx hy
  unfold I64 at hx hy
  have k1 : IntKind.i64.wrap (x / 2 + y / 2) = x / 2 + y / 2 := IntWalk.i64_in _ (by omega)
  have k2 : IntKind.i64.wrap (2 * (x / 2)) = 2 * (x / 2) := IntWalk.i64_in _ (by omega)
  have k3 : IntKind.i64.wrap (x - 2 * (x / 2)) = x - 2 * (x / 2) := IntWalk.i64_in _ (by omega)
  have k6 : IntKind.i64.wrap (2 * (y / 2)) = 2 * (y / 2) := IntWalk.i64_in _ (by omega)
  have k7 : IntKind.i64.wrap (x / 2 + y / 2 + (x % 2 + y % 2) / 2) = x / 2 + y / 2 + (x % 2 + y % 2) / 2 := IntWalk.i64_in _ (by omega)
  have k8 : (x % 2 + y % 2).tdiv 2 = (x % 2 + y % 2) / 2 := Int.tdiv_eq_ediv_of_nonneg (by omega)
  have k9 : (x + y) / 2 = x / 2 + y / 2 + (x % 2 + y % 2) / 2 := by omega
  have k10 : IntKind.i64.wrap ((x % 2 + y % 2) / 2) = (x % 2 + y % 2) / 2 := IntWalk.i64_in _ (by omega)
  rw [k9]
  clear k9 hx hy
  generalize x % 2 + y % 2 = s at *
  generalize x / 2 = q1 at *
  generalize y / 2 = q2 at *
  go_enter Try.func61, Try.ntmps61
  go_wp2_with fail
  refine (H1.out _).mono ?_
  rintro e w1 ⟨rfl, rfl⟩
  go_wp2_with fail
  refine (H2.out _).mono ?_
  rintro e w1 ⟨rfl, rfl⟩
  go_wp2
  go_ret
  exact ⟨rfl, rfl⟩
end Go.Proofs.Ytnohkjalglogaaa.wid
