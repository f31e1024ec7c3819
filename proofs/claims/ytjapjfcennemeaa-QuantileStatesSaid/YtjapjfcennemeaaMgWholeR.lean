/- Middle; WholeR: texts in one. -/
import Derived.Test.YtjapjfcennemeaaMgWhole
import Derived.Test.YtjapjfcennemeaaMgBAllow
set_option linter.unusedVariables false
set_option linter.unusedSimpArgs false
/- Contract of Middle in the reference: the mean by halves and remainders. -/
namespace Go.Proofs.Ytjapjfcennemeaa.wid
open Go.RowKit Go.Proofs.Ytjapjfcennemeaa.mem Go.Proofs.Ytjapjfcennemeaa.gro
set_option linter.unusedVariables false
theorem mid_wraps {x y : Int} (hx : I64 x) (hy : I64 y) : ∃ u, IntKind.i64.wrap (x - 2 * (x / 2) + y) = u ∧ IntKind.i64.wrap (u - 2 * (y / 2)) = x % 2 + y % 2 := by
  refine ⟨_, rfl, ?_⟩
  unfold I64 at hx hy
  by_cases h : x - 2 * (x / 2) + y ≤ 9223372036854775807
  · rw [IntWalk.i64_in (x - 2 * (x / 2) + y) (by omega), IntWalk.i64_in _ (by omega)]; omega
  · simp only [IntKind.wrap, IntKind.bits, IntKind.signed]
    simp
    omega
set_option maxHeartbeats 2000000 in
theorem MiddleR_any (x y : Int) (hx : I64 x) (hy : I64 y) (w : World) : Calls Try.prog 130 #[.int .i64 x, .int .i64 y] w fun e w' => e = .returned (.int .i64 ((x + y) / 2)) ∧ w = w' := by
  have H1 := Lib.hid (fun W => FloorDivR_any x 2 hx.1 hx.2 (by omega) (by omega) W)
  have H2 := Lib.hid (fun W => FloorDivR_any y 2 hy.1 hy.2 (by omega) (by omega) W)
  obtain ⟨u, k4, k5⟩ := mid_wraps hx hy
  unfold I64 at hx hy
  have k1 : IntKind.i64.wrap (x / 2 + y / 2) = x / 2 + y / 2 := IntWalk.i64_in _ (by omega)
  have k2 : IntKind.i64.wrap (2 * (x / 2)) = 2 * (x / 2) := IntWalk.i64_in _ (by omega)
  have k3 : IntKind.i64.wrap (x - 2 * (x / 2)) = x - 2 * (x / 2) := IntWalk.i64_in _ (by omega)
  have k6 : IntKind.i64.wrap (2 * (y / 2)) = 2 * (y / 2) := IntWalk.i64_in _ (by omega)
  have k7 : IntKind.i64.wrap (x / 2 + y / 2 + (x % 2 + y % 2) / 2) = x / 2 + y / 2 + (x % 2 + y % 2) / 2 := IntWalk.i64_in _ (by omega)
  have k8 : (x % 2 + y % 2).tdiv 2 = (x % 2 + y % 2) / 2 := Int.tdiv_eq_ediv_of_nonneg (by omega)
  have k9 : (x + y) / 2 = x / 2 + y / 2 + (x % 2 + y % 2) / 2 := by omega
  have k10 : IntKind.i64.wrap ((x % 2 + y % 2) / 2) = (x % 2 + y % 2) / 2 := IntWalk.i64_in _ (by omega)
  rw [k9]
  clear k9 hx hy
  generalize x % 2 + y % 2 = s at *
  generalize x / 2 = q1 at *
  generalize y / 2 = q2 at *
  go_enter Try.func130, Try.ntmps130
  go_wp2_with fail
  refine (H1.out _).mono ?_
  rintro e w1 ⟨rfl, rfl⟩
  go_wp2_with fail
  refine (H2.out _).mono ?_
  rintro e w1 ⟨rfl, rfl⟩
  go_wp2
  go_ret
  exact ⟨rfl, rfl⟩
end Go.Proofs.Ytjapjfcennemeaa.wid

/- Contract of Whole in the reference. -/
namespace Go.Proofs.Ytjapjfcennemeaa.wid
open Go.RowKit Go.Proofs.Ytjapjfcennemeaa.mem Go.Proofs.Ytjapjfcennemeaa.gro
set_option linter.unusedVariables false
set_option maxHeartbeats 2000000 in
set_option maxRecDepth 100000 in
theorem WholeBR_any (x y : Int) (hx : I64 x) (hy : I64 y) (w : World) : Calls Try.prog 95 #[.int .i64 x, .int .i64 y] w fun e w' => e = .returned (.tuple #[.agg #[.int .i64 (whl x y x), .int .i64 (whl x y 1), .int .i64 (whl x y ((x + y) / 2)), .int .i64 (whl x y 1), .int .i64 (whl x y y), .int .i64 (whl x y 1)], .bool (decide (x ≤ y))]) ∧ Below w.heap.size w w' := by
  have H1 := Lib.hid (fun W => ofQR_any x W)
  have H2 := Lib.hid (fun W => ofQR_any ((x + y) / 2) W)
  have H3 := Lib.hid (fun W => ofQR_any y W)
  have HM := Lib.hid (fun W => MiddleR_any x y hx hy W)
  have hw : IntKind.i64.wrap ((x + y) / 2) = (x + y) / 2 := IntWalk.i64_in _ (by unfold I64 at hx hy; omega)
  clear hx hy
  by_cases hle : x ≤ y
  · have q : ∀ v, whl x y v = v := fun v => if_pos hle
    rw [q, q, q, q, decide_eq_true hle]
    have hgt : decide (y < x) = false := decide_eq_false (by omega)
    clear q hle
    generalize (x + y) / 2 = m at *
    go_enter Try.func95, Try.ntmps95
    go_wp2_with fail
    obtain ⟨W0, hW, hs0, K0, B0⟩ := start1 w 55 #[Value.int IntKind.i64 0, Value.int IntKind.i64 0, Value.int IntKind.i64 0, Value.int IntKind.i64 0, Value.int IntKind.i64 0, Value.int IntKind.i64 0]
    rw [hW]
    clear hW
    have KK := Lib.hid K0
    have BB := Lib.hid B0
    have R := K0.rules
    simp only [Rules] at R
    clear K0 B0 hs0
    (with_reducible refine (H1.out _).mono ?_)
    rintro e wv ⟨rfl, hbv⟩; replace BB := Lib.hid (BB.out.trans (hbv.mono BB.out.size)); replace KK := Lib.hid (KK.out.below hbv); replace R := KK.out.rules; simp only [gro.Rules] at R; clear hbv
    go_wp2_with fail
    (with_reducible refine (HM.out _).mono ?_)
    rintro e wm ⟨rfl, rfl⟩
    go_wp2_with fail
    (with_reducible refine (H2.out _).mono ?_)
    rintro e wv ⟨rfl, hbv⟩; replace BB := Lib.hid (BB.out.trans (hbv.mono BB.out.size)); replace KK := Lib.hid (KK.out.below hbv); replace R := KK.out.rules; simp only [gro.Rules] at R; clear hbv
    go_wp2_with fail
    (with_reducible refine (H3.out _).mono ?_)
    rintro e wv ⟨rfl, hbv⟩; replace BB := Lib.hid (BB.out.trans (hbv.mono BB.out.size)); replace KK := Lib.hid (KK.out.below hbv); replace R := KK.out.rules; simp only [gro.Rules] at R; clear hbv
    go_wp2
    refine bodyPost_ret (v := Value.tuple #[.agg #[.int .i64 x, .int .i64 1, .int .i64 m, .int .i64 1, .int .i64 y, .int .i64 1], .bool true]) (by simp [results, Try.results95, go_sem, R]) rfl ⟨?_, ?_⟩
    · rfl
    · exact (((((BB.out.setCell (by first | (simp; done) | (simp; omega)) _).setCell (by first | (simp; done) | (simp; omega)) _).setCell (by first | (simp; done) | (simp; omega)) _).setCell (by first | (simp; done) | (simp; omega)) _).setCell (by first | (simp; done) | (simp; omega)) _).setCell (by first | (simp; done) | (simp; omega)) _
  · have q : ∀ v, whl x y v = 0 := fun v => if_neg hle
    rw [q, q, q, q, decide_eq_false hle]
    have hgt : decide (y < x) = true := decide_eq_true (by omega)
    clear q hle H1 H2 H3 HM hw
    go_enter Try.func95, Try.ntmps95
    go_wp2_with fail
    obtain ⟨W0, hW, hs0, K0, B0⟩ := start1 w 55 #[Value.int IntKind.i64 0, Value.int IntKind.i64 0, Value.int IntKind.i64 0, Value.int IntKind.i64 0, Value.int IntKind.i64 0, Value.int IntKind.i64 0]
    rw [hW]
    clear hW
    have R := K0.rules
    simp only [Rules] at R
    go_wp2
    refine bodyPost_ret (v := Value.tuple #[.agg #[.int .i64 0, .int .i64 0, .int .i64 0, .int .i64 0, .int .i64 0, .int .i64 0], .bool false]) (by simp [results, Try.results95, go_sem, R]) rfl ⟨?_, ?_⟩
    · rfl
    · first | exact B0 | exact (((((B0.setCell (by first | (simp; done) | (simp; omega)) _).setCell (by first | (simp; done) | (simp; omega)) _).setCell (by first | (simp; done) | (simp; omega)) _).setCell (by first | (simp; done) | (simp; omega)) _).setCell (by first | (simp; done) | (simp; omega)) _).setCell (by first | (simp; done) | (simp; omega)) _
end Go.Proofs.Ytjapjfcennemeaa.wid
