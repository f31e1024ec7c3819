/- Make, Whole, Middle, WholeR, Rat2, Bnd, Exact, MakesL: proved here in one text, no conditions beyond those that each theorem states. -/
import Derived.Deep.Cut
import Derived.Test.YtjapjfcennemeaaGreatZ46
import Derived.Test.YtjapjfcennemeaaGreatZ6
import Derived.Test.YtjapjfcennemeaaGreatZ18
import Derived.Test.YtjapjfcennemeaaGreatZ38
set_option linter.unusedVariables false
set_option linter.unusedSimpArgs false
section
namespace Go.Proofs.YtjapjfcennemeaaGreat.wid
open Go.RowKit Go.Proofs.YtjapjfcennemeaaGreat.mem Go.Proofs.YtjapjfcennemeaaGreat.gro
set_option linter.unusedVariables false
set_option maxRecDepth 100000 in
theorem ofQ_any (n : Int) (w : World) :
    Calls Tryz.prog 36 #[.int .i64 n] w fun x w' => x = .returned (Value.agg #[Value.int IntKind.i64 (n), Value.int IntKind.i64 ( 1)]) ∧ Below w.heap.size w w' := by
  go_enter Tryz.func36, Tryz.ntmps36
  go_wp2_with fail
  obtain ⟨W0, hW, hs0, K0, B0⟩ := start1 w 31 #[Value.int IntKind.i64 n, Value.int IntKind.i64 1]
  rw [hW]
  clear hW
  have R := K0.rules
  simp only [Rules] at R
  refine bodyPost_ret (v := (Value.agg #[Value.int IntKind.i64 (n), Value.int IntKind.i64 ( 1)])) (by simp [results, Tryz.results36, go_sem, R]) rfl ⟨?_, ?_⟩
  · rfl
  · exact B0
set_option maxRecDepth 100000 in
theorem ofQR_any (n : Int) (w : World) :
    Calls Tryz.prog 74 #[.int .i64 n] w fun x w' => x = .returned (Value.agg #[Value.int IntKind.i64 (n), Value.int IntKind.i64 ( 1)]) ∧ Below w.heap.size w w' := by
  go_enter Tryz.func74, Tryz.ntmps74
  go_wp2_with fail
  obtain ⟨W0, hW, hs0, K0, B0⟩ := start1 w 31 #[Value.int IntKind.i64 n, Value.int IntKind.i64 1]
  rw [hW]
  clear hW
  have R := K0.rules
  simp only [Rules] at R
  refine bodyPost_ret (v := (Value.agg #[Value.int IntKind.i64 (n), Value.int IntKind.i64 ( 1)])) (by simp [results, Tryz.results74, go_sem, R]) rfl ⟨?_, ?_⟩
  · rfl
  · exact B0
end Go.Proofs.YtjapjfcennemeaaGreat.wid
end
section
namespace Go.Proofs.YtjapjfcennemeaaGreat.wid
open Go.RowKit Go.Proofs.YtjapjfcennemeaaGreat.mem Go.Proofs.YtjapjfcennemeaaGreat.gro
set_option linter.unusedVariables false
def whl (x y : Int) (v : Int) : Int := if x ≤ y then v else 0
set_option maxHeartbeats 2000000 in
set_option maxRecDepth 100000 in
theorem WholeB_any (x y : Int) (hx : I64 x) (hy : I64 y) (w : World) : Calls Tryz.prog 38 #[.int .i64 x, .int .i64 y] w fun e w' => e = .returned (.tuple #[.agg #[.int .i64 (whl x y x), .int .i64 (whl x y 1), .int .i64 (whl x y ((x + y) / 2)), .int .i64 (whl x y 1), .int .i64 (whl x y y), .int .i64 (whl x y 1)], .bool (decide (x ≤ y))]) ∧ Below w.heap.size w w' := by
  have H1 := Lib.hid (fun W => ofQ_any x W)
  have H2 := Lib.hid (fun W => ofQ_any ((x + y) / 2) W)
  have H3 := Lib.hid (fun W => ofQ_any y W)
  have hm := bits_mean hx hy
  have hw : IntKind.i64.wrap ((x + y) / 2) = (x + y) / 2 := IntWalk.i64_in _ (by unfold I64 at hx hy; omega)
  clear hx hy
  by_cases hle : x ≤ y
  · have q : ∀ v, whl x y v = v := fun v => if_pos hle
    rw [q, q, q, q, decide_eq_true hle]
    have hgt : decide (y < x) = false := decide_eq_false (by omega)
    clear q hle
    generalize (x + y) / 2 = m at *
    go_enter Tryz.func38, Tryz.ntmps38
    go_wp2_with fail
    obtain ⟨W0, hW, hs0, K0, B0⟩ := start1 w 33 #[Value.int IntKind.i64 0, Value.int IntKind.i64 0, Value.int IntKind.i64 0, Value.int IntKind.i64 0, Value.int IntKind.i64 0, Value.int IntKind.i64 0]
    rw [hW]
    clear hW
    have KK := Lib.hid K0
    have BB := Lib.hid B0
    have R := K0.rules
    simp only [Rules] at R
    clear K0 B0 hs0
    (with_reducible refine (H1.out _).mono ?_)
    rintro e wv ⟨rfl, hbv⟩; replace BB := Lib.hid (BB.out.trans (hbv.mono BB.out.size)); replace KK := Lib.hid (KK.out.below hbv); replace R := KK.out.rules; simp only [gro.Rules] at R; clear hbv
    go_wp2_with fail
    (refine (H2.out _).mono ?_)
    rintro e wv ⟨rfl, hbv⟩; replace BB := Lib.hid (BB.out.trans (hbv.mono BB.out.size)); replace KK := Lib.hid (KK.out.below hbv); replace R := KK.out.rules; simp only [gro.Rules] at R; clear hbv
    go_wp2_with fail
    (with_reducible refine (H3.out _).mono ?_)
    rintro e wv ⟨rfl, hbv⟩; replace BB := Lib.hid (BB.out.trans (hbv.mono BB.out.size)); replace KK := Lib.hid (KK.out.below hbv); replace R := KK.out.rules; simp only [gro.Rules] at R; clear hbv
    go_wp2
    refine bodyPost_ret (v := Value.tuple #[.agg #[.int .i64 x, .int .i64 1, .int .i64 m, .int .i64 1, .int .i64 y, .int .i64 1], .bool true]) (by simp [results, Tryz.results38, go_sem, R]) rfl ⟨?_, ?_⟩
    · rfl
    · exact (((((BB.out.setCell (by first | (simp; done) | (simp; omega)) _).setCell (by first | (simp; done) | (simp; omega)) _).setCell (by first | (simp; done) | (simp; omega)) _).setCell (by first | (simp; done) | (simp; omega)) _).setCell (by first | (simp; done) | (simp; omega)) _).setCell (by first | (simp; done) | (simp; omega)) _
  · have q : ∀ v, whl x y v = 0 := fun v => if_neg hle
    rw [q, q, q, q, decide_eq_false hle]
    have hgt : decide (y < x) = true := decide_eq_true (by omega)
    clear q hle H1 H2 H3 hm hw
    go_enter Tryz.func38, Tryz.ntmps38
    go_wp2_with fail
    obtain ⟨W0, hW, hs0, K0, B0⟩ := start1 w 33 #[Value.int IntKind.i64 0, Value.int IntKind.i64 0, Value.int IntKind.i64 0, Value.int IntKind.i64 0, Value.int IntKind.i64 0, Value.int IntKind.i64 0]
    rw [hW]
    clear hW
    have R := K0.rules
    simp only [Rules] at R
    go_wp2
    refine bodyPost_ret (v := Value.tuple #[.agg #[.int .i64 0, .int .i64 0, .int .i64 0, .int .i64 0, .int .i64 0, .int .i64 0], .bool false]) (by simp [results, Tryz.results38, go_sem, R]) rfl ⟨?_, ?_⟩
    · rfl
    · first | exact B0 | exact (((((B0.setCell (by first | (simp; done) | (simp; omega)) _).setCell (by first | (simp; done) | (simp; omega)) _).setCell (by first | (simp; done) | (simp; omega)) _).setCell (by first | (simp; done) | (simp; omega)) _).setCell (by first | (simp; done) | (simp; omega)) _).setCell (by first | (simp; done) | (simp; omega)) _
end Go.Proofs.YtjapjfcennemeaaGreat.wid
end
section
namespace Go.Proofs.YtjapjfcennemeaaGreat.wid
open Go.RowKit Go.Proofs.YtjapjfcennemeaaGreat.mem Go.Proofs.YtjapjfcennemeaaGreat.gro
set_option linter.unusedVariables false
theorem mid_wraps {x y : Int} (hx : I64 x) (hy : I64 y) : ∃ u, IntKind.i64.wrap (x - 2 * (x / 2) + y) = u ∧ IntKind.i64.wrap (u - 2 * (y / 2)) = x % 2 + y % 2 := by
  refine ⟨_, rfl, ?_⟩
  unfold I64 at hx hy
  by_cases h : x - 2 * (x / 2) + y ≤ 9223372036854775807
  · rw [IntWalk.i64_in (x - 2 * (x / 2) + y) (by omega), IntWalk.i64_in _ (by omega)]; omega
  · simp only [IntKind.wrap, IntKind.bits, IntKind.signed]
    simp
    omega
set_option maxHeartbeats 2000000 in
theorem MiddleR_any (x y : Int) (hx : I64 x) (hy : I64 y) (w : World) : Calls Tryz.prog 76 #[.int .i64 x, .int .i64 y] w fun e w' => e = .returned (.int .i64 ((x + y) / 2)) ∧ w = w' := by
  have H1 := Lib.hid (fun W => FloorDivR_any x 2 hx.1 hx.2 (by omega) (by omega) W)
  have H2 := Lib.hid (fun W => FloorDivR_any y 2 hy.1 hy.2 (by omega) (by omega) W)
  obtain ⟨u, k4, k5⟩ := mid_wraps hx hy
  unfold I64 at hx hy
  have k1 : IntKind.i64.wrap (x / 2 + y / 2) = x / 2 + y / 2 := IntWalk.i64_in _ (by omega)
  have k2 : IntKind.i64.wrap (2 * (x / 2)) = 2 * (x / 2) := IntWalk.i64_in _ (by omega)
  have k3 : IntKind.i64.wrap (x - 2 * (x / 2)) = x - 2 * (x / 2) := IntWalk.i64_in _ (by omega)
  have k6 : IntKind.i64.wrap (2 * (y / 2)) = 2 * (y / 2) := IntWalk.i64_in _ (by omega)
  have k7 : IntKind.i64.wrap (x / 2 + y / 2 + (x % 2 + y % 2) / 2) = x / 2 + y / 2 + (x % 2 + y % 2) / 2 := IntWalk.i64_in _ (by omega)
  have k8 : (x % 2 + y % 2).tdiv 2 = (x % 2 + y % 2) / 2 := Int.tdiv_eq_ediv_of_nonneg (by omega)
  have k9 : (x + y) / 2 = x / 2 + y / 2 + (x % 2 + y % 2) / 2 := by omega
  have k10 : IntKind.i64.wrap ((x % 2 + y % 2) / 2) = (x % 2 + y % 2) / 2 := IntWalk.i64_in _ (by omega)
  rw [k9]
  clear k9 hx hy
  generalize x % 2 + y % 2 = s at *
  generalize x / 2 = q1 at *
  generalize y / 2 = q2 at *
  go_enter Tryz.func76, Tryz.ntmps76
  go_wp2_with fail
  refine (H1.out _).mono ?_
  rintro e w1 ⟨rfl, rfl⟩
  go_wp2_with fail
  refine (H2.out _).mono ?_
  rintro e w1 ⟨rfl, rfl⟩
  go_wp2
  go_ret
  exact ⟨rfl, rfl⟩
end Go.Proofs.YtjapjfcennemeaaGreat.wid
end
section
namespace Go.Proofs.YtjapjfcennemeaaGreat.wid
open Go.RowKit Go.Proofs.YtjapjfcennemeaaGreat.mem Go.Proofs.YtjapjfcennemeaaGreat.gro
set_option linter.unusedVariables false
set_option maxHeartbeats 2000000 in
set_option maxRecDepth 100000 in
theorem WholeBR_any (x y : Int) (hx : I64 x) (hy : I64 y) (w : World) : Calls Tryz.prog 41 #[.int .i64 x, .int .i64 y] w fun e w' => e = .returned (.tuple #[.agg #[.int .i64 (whl x y x), .int .i64 (whl x y 1), .int .i64 (whl x y ((x + y) / 2)), .int .i64 (whl x y 1), .int .i64 (whl x y y), .int .i64 (whl x y 1)], .bool (decide (x ≤ y))]) ∧ Below w.heap.size w w' := by
  have H1 := Lib.hid (fun W => ofQR_any x W)
  have H2 := Lib.hid (fun W => ofQR_any ((x + y) / 2) W)
  have H3 := Lib.hid (fun W => ofQR_any y W)
  have HM := Lib.hid (fun W => MiddleR_any x y hx hy W)
  have hw : IntKind.i64.wrap ((x + y) / 2) = (x + y) / 2 := IntWalk.i64_in _ (by unfold I64 at hx hy; omega)
  clear hx hy
  by_cases hle : x ≤ y
  · have q : ∀ v, whl x y v = v := fun v => if_pos hle
    rw [q, q, q, q, decide_eq_true hle]
    have hgt : decide (y < x) = false := decide_eq_false (by omega)
    clear q hle
    generalize (x + y) / 2 = m at *
    go_enter Tryz.func41, Tryz.ntmps41
    go_wp2_with fail
    obtain ⟨W0, hW, hs0, K0, B0⟩ := start1 w 33 #[Value.int IntKind.i64 0, Value.int IntKind.i64 0, Value.int IntKind.i64 0, Value.int IntKind.i64 0, Value.int IntKind.i64 0, Value.int IntKind.i64 0]
    rw [hW]
    clear hW
    have KK := Lib.hid K0
    have BB := Lib.hid B0
    have R := K0.rules
    simp only [Rules] at R
    clear K0 B0 hs0
    (with_reducible refine (H1.out _).mono ?_)
    rintro e wv ⟨rfl, hbv⟩; replace BB := Lib.hid (BB.out.trans (hbv.mono BB.out.size)); replace KK := Lib.hid (KK.out.below hbv); replace R := KK.out.rules; simp only [gro.Rules] at R; clear hbv
    go_wp2_with fail
    (with_reducible refine (HM.out _).mono ?_)
    rintro e wm ⟨rfl, rfl⟩
    go_wp2_with fail
    (with_reducible refine (H2.out _).mono ?_)
    rintro e wv ⟨rfl, hbv⟩; replace BB := Lib.hid (BB.out.trans (hbv.mono BB.out.size)); replace KK := Lib.hid (KK.out.below hbv); replace R := KK.out.rules; simp only [gro.Rules] at R; clear hbv
    go_wp2_with fail
    (with_reducible refine (H3.out _).mono ?_)
    rintro e wv ⟨rfl, hbv⟩; replace BB := Lib.hid (BB.out.trans (hbv.mono BB.out.size)); replace KK := Lib.hid (KK.out.below hbv); replace R := KK.out.rules; simp only [gro.Rules] at R; clear hbv
    go_wp2
    refine bodyPost_ret (v := Value.tuple #[.agg #[.int .i64 x, .int .i64 1, .int .i64 m, .int .i64 1, .int .i64 y, .int .i64 1], .bool true]) (by simp [results, Tryz.results41, go_sem, R]) rfl ⟨?_, ?_⟩
    · rfl
    · exact (((((BB.out.setCell (by first | (simp; done) | (simp; omega)) _).setCell (by first | (simp; done) | (simp; omega)) _).setCell (by first | (simp; done) | (simp; omega)) _).setCell (by first | (simp; done) | (simp; omega)) _).setCell (by first | (simp; done) | (simp; omega)) _).setCell (by first | (simp; done) | (simp; omega)) _
  · have q : ∀ v, whl x y v = 0 := fun v => if_neg hle
    rw [q, q, q, q, decide_eq_false hle]
    have hgt : decide (y < x) = true := decide_eq_true (by omega)
    clear q hle H1 H2 H3 HM hw
    go_enter Tryz.func41, Tryz.ntmps41
    go_wp2_with fail
    obtain ⟨W0, hW, hs0, K0, B0⟩ := start1 w 33 #[Value.int IntKind.i64 0, Value.int IntKind.i64 0, Value.int IntKind.i64 0, Value.int IntKind.i64 0, Value.int IntKind.i64 0, Value.int IntKind.i64 0]
    rw [hW]
    clear hW
    have R := K0.rules
    simp only [Rules] at R
    go_wp2
    refine bodyPost_ret (v := Value.tuple #[.agg #[.int .i64 0, .int .i64 0, .int .i64 0, .int .i64 0, .int .i64 0, .int .i64 0], .bool false]) (by simp [results, Tryz.results41, go_sem, R]) rfl ⟨?_, ?_⟩
    · rfl
    · first | exact B0 | exact (((((B0.setCell (by first | (simp; done) | (simp; omega)) _).setCell (by first | (simp; done) | (simp; omega)) _).setCell (by first | (simp; done) | (simp; omega)) _).setCell (by first | (simp; done) | (simp; omega)) _).setCell (by first | (simp; done) | (simp; omega)) _).setCell (by first | (simp; done) | (simp; omega)) _
end Go.Proofs.YtjapjfcennemeaaGreat.wid
end
section
namespace Go.Proofs.YtjapjfcennemeaaGreat.wid
open Go.RowKit Go.Proofs.YtjapjfcennemeaaGreat.mem Go.Proofs.YtjapjfcennemeaaGreat.gro
set_option linter.unusedVariables false
def cmpQ (n d m e : Int) : Int := if validQ n d = true ∧ validQ m e = true then cmpZ (n * e) (m * d) else 0
end Go.Proofs.YtjapjfcennemeaaGreat.wid
end
section
namespace Go.Proofs.YtjapjfcennemeaaGreat.wid
open Go.RowKit Go.Proofs.YtjapjfcennemeaaGreat.mem Go.Proofs.YtjapjfcennemeaaGreat.gro
set_option linter.unusedVariables false
set_option linter.unusedSimpArgs false
def validB (a0 a1 b0 b1 c0 c1 : Int) : Bool := validQ a0 a1 && validQ b0 b1 && validQ c0 c1 && decide (cmpQ a0 a1 b0 b1 ≤ 0) && decide (cmpQ b0 b1 c0 c1 ≤ 0)
end Go.Proofs.YtjapjfcennemeaaGreat.wid
end
section
namespace Go.Proofs.YtjapjfcennemeaaGreat.wid
open Go.RowKit Go.Proofs.YtjapjfcennemeaaGreat.mem Go.Proofs.YtjapjfcennemeaaGreat.gro
set_option linter.unusedVariables false
def exN (n d : Int) : Int := if validQ n d = true then n else 0
def exD (n d : Int) : Int := if validQ n d = true then d else 0
set_option maxHeartbeats 2000000 in
set_option maxRecDepth 100000 in
theorem ExactB_any (n d : Int) (hn : I64 n) (hd : I64 d) (w : World) :
    Calls Tryz.prog 35 #[(Value.agg #[Value.int IntKind.i64 (n), Value.int IntKind.i64 ( d)])] w fun x w' => x = .returned (.agg #[.int .i64 (exN n d), .int .i64 (exD n d), .int .i64 (exN n d), .int .i64 (exD n d), .int .i64 (exN n d), .int .i64 (exD n d)]) ∧ Below w.heap.size w w' := by
  have HV := Lib.hid (fun W => Valid_any n d hn hd W)
  clear hn hd
  have e1 : exN n d = if validQ n d = true then n else 0 := rfl
  have e2 : exD n d = if validQ n d = true then d else 0 := rfl
  generalize validQ n d = v at *
  cases v
  case false =>
    rw [e1, e2]
    clear e1 e2
    go_enter Tryz.func35, Tryz.ntmps35
    go_wp2_with fail
    obtain ⟨W0, hW, hs0, K0, B0⟩ := start2 w 31 33 #[Value.int IntKind.i64 n, Value.int IntKind.i64 d] #[Value.int IntKind.i64 0, Value.int IntKind.i64 0, Value.int IntKind.i64 0, Value.int IntKind.i64 0, Value.int IntKind.i64 0, Value.int IntKind.i64 0]
    rw [hW]
    clear hW
    have KK := Lib.hid K0
    have BB := Lib.hid B0
    have R := K0.rules
    simp only [Rules] at R
    clear K0 B0
    (with_reducible refine (HV.out _).mono ?_)
    rintro e wv ⟨rfl, hbv⟩; replace BB := Lib.hid (BB.out.trans (hbv.mono BB.out.size)); replace KK := Lib.hid (KK.out.below hbv); replace R := KK.out.rules; simp only [gro.Rules] at R; clear hbv
    go_wp2
    refine bodyPost_ret (v := Value.agg #[.int .i64 0, .int .i64 0, .int .i64 0, .int .i64 0, .int .i64 0, .int .i64 0]) (by simp [results, Tryz.results35, go_sem, R]) rfl ⟨?_, ?_⟩
    · rfl
    · exact (((((BB.out.setCell (by first | (simp; done) | (simp; omega)) _).setCell (by first | (simp; done) | (simp; omega)) _).setCell (by first | (simp; done) | (simp; omega)) _).setCell (by first | (simp; done) | (simp; omega)) _).setCell (by first | (simp; done) | (simp; omega)) _).setCell (by first | (simp; done) | (simp; omega)) _
  case true =>
    rw [e1, e2]
    clear e1 e2
    go_enter Tryz.func35, Tryz.ntmps35
    go_wp2_with fail
    obtain ⟨W0, hW, hs0, K0, B0⟩ := start2 w 31 33 #[Value.int IntKind.i64 n, Value.int IntKind.i64 d] #[Value.int IntKind.i64 0, Value.int IntKind.i64 0, Value.int IntKind.i64 0, Value.int IntKind.i64 0, Value.int IntKind.i64 0, Value.int IntKind.i64 0]
    rw [hW]
    clear hW
    have KK := Lib.hid K0
    have BB := Lib.hid B0
    have R := K0.rules
    simp only [Rules] at R
    clear K0 B0
    (with_reducible refine (HV.out _).mono ?_)
    rintro e wv ⟨rfl, hbv⟩; replace BB := Lib.hid (BB.out.trans (hbv.mono BB.out.size)); replace KK := Lib.hid (KK.out.below hbv); replace R := KK.out.rules; simp only [gro.Rules] at R; clear hbv
    go_wp2
    refine bodyPost_ret (v := Value.agg #[.int .i64 n, .int .i64 d, .int .i64 n, .int .i64 d, .int .i64 n, .int .i64 d]) (by simp [results, Tryz.results35, go_sem, R]) rfl ⟨?_, ?_⟩
    · rfl
    · exact (((((BB.out.setCell (by first | (simp; done) | (simp; omega)) _).setCell (by first | (simp; done) | (simp; omega)) _).setCell (by first | (simp; done) | (simp; omega)) _).setCell (by first | (simp; done) | (simp; omega)) _).setCell (by first | (simp; done) | (simp; omega)) _).setCell (by first | (simp; done) | (simp; omega)) _
set_option maxHeartbeats 2000000 in
set_option maxRecDepth 100000 in
theorem ExactBR_any (n d : Int) (hn : I64 n) (hd : I64 d) (w : World) :
    Calls Tryz.prog 73 #[(Value.agg #[Value.int IntKind.i64 (n), Value.int IntKind.i64 ( d)])] w fun x w' => x = .returned (.agg #[.int .i64 (exN n d), .int .i64 (exD n d), .int .i64 (exN n d), .int .i64 (exD n d), .int .i64 (exN n d), .int .i64 (exD n d)]) ∧ Below w.heap.size w w' := by
  have HV := Lib.hid (fun W => ValidR_any n d hn hd W)
  clear hn hd
  have e1 : exN n d = if validQ n d = true then n else 0 := rfl
  have e2 : exD n d = if validQ n d = true then d else 0 := rfl
  generalize validQ n d = v at *
  cases v
  case false =>
    rw [e1, e2]
    clear e1 e2
    go_enter Tryz.func73, Tryz.ntmps73
    go_wp2_with fail
    obtain ⟨W0, hW, hs0, K0, B0⟩ := start2 w 31 33 #[Value.int IntKind.i64 n, Value.int IntKind.i64 d] #[Value.int IntKind.i64 0, Value.int IntKind.i64 0, Value.int IntKind.i64 0, Value.int IntKind.i64 0, Value.int IntKind.i64 0, Value.int IntKind.i64 0]
    rw [hW]
    clear hW
    have KK := Lib.hid K0
    have BB := Lib.hid B0
    have R := K0.rules
    simp only [Rules] at R
    clear K0 B0
    (with_reducible refine (HV.out _).mono ?_)
    rintro e wv ⟨rfl, hbv⟩; replace BB := Lib.hid (BB.out.trans (hbv.mono BB.out.size)); replace KK := Lib.hid (KK.out.below hbv); replace R := KK.out.rules; simp only [gro.Rules] at R; clear hbv
    go_wp2
    refine bodyPost_ret (v := Value.agg #[.int .i64 0, .int .i64 0, .int .i64 0, .int .i64 0, .int .i64 0, .int .i64 0]) (by simp [results, Tryz.results73, go_sem, R]) rfl ⟨?_, ?_⟩
    · rfl
    · exact (((((BB.out.setCell (by first | (simp; done) | (simp; omega)) _).setCell (by first | (simp; done) | (simp; omega)) _).setCell (by first | (simp; done) | (simp; omega)) _).setCell (by first | (simp; done) | (simp; omega)) _).setCell (by first | (simp; done) | (simp; omega)) _).setCell (by first | (simp; done) | (simp; omega)) _
  case true =>
    rw [e1, e2]
    clear e1 e2
    go_enter Tryz.func73, Tryz.ntmps73
    go_wp2_with fail
    obtain ⟨W0, hW, hs0, K0, B0⟩ := start2 w 31 33 #[Value.int IntKind.i64 n, Value.int IntKind.i64 d] #[Value.int IntKind.i64 0, Value.int IntKind.i64 0, Value.int IntKind.i64 0, Value.int IntKind.i64 0, Value.int IntKind.i64 0, Value.int IntKind.i64 0]
    rw [hW]
    clear hW
    have KK := Lib.hid K0
    have BB := Lib.hid B0
    have R := K0.rules
    simp only [Rules] at R
    clear K0 B0
    (with_reducible refine (HV.out _).mono ?_)
    rintro e wv ⟨rfl, hbv⟩; replace BB := Lib.hid (BB.out.trans (hbv.mono BB.out.size)); replace KK := Lib.hid (KK.out.below hbv); replace R := KK.out.rules; simp only [gro.Rules] at R; clear hbv
    go_wp2
    refine bodyPost_ret (v := Value.agg #[.int .i64 n, .int .i64 d, .int .i64 n, .int .i64 d, .int .i64 n, .int .i64 d]) (by simp [results, Tryz.results73, go_sem, R]) rfl ⟨?_, ?_⟩
    · rfl
    · exact (((((BB.out.setCell (by first | (simp; done) | (simp; omega)) _).setCell (by first | (simp; done) | (simp; omega)) _).setCell (by first | (simp; done) | (simp; omega)) _).setCell (by first | (simp; done) | (simp; omega)) _).setCell (by first | (simp; done) | (simp; omega)) _).setCell (by first | (simp; done) | (simp; omega)) _
end Go.Proofs.YtjapjfcennemeaaGreat.wid
end
section
namespace Go.Proofs.YtjapjfcennemeaaGreat.wid
open Go.RowKit Go.Proofs.YtjapjfcennemeaaGreat.mem Go.Proofs.YtjapjfcennemeaaGreat.gro
set_option linter.unusedVariables false
set_option linter.unusedSimpArgs false
theorem bnd_eql (a b c d e f : Int) (w : World) : (binOp .eql 33 (Value.agg #[Value.int IntKind.i64 a, Value.int IntKind.i64 b, Value.int IntKind.i64 c, Value.int IntKind.i64 d, Value.int IntKind.i64 e, Value.int IntKind.i64 f]) (Value.agg #[Value.int IntKind.i64 a, Value.int IntKind.i64 b, Value.int IntKind.i64 c, Value.int IntKind.i64 d, Value.int IntKind.i64 e, Value.int IntKind.i64 f])).run Tryz.prog w = .ok (.bool true) w := by
  go_simp
end Go.Proofs.YtjapjfcennemeaaGreat.wid
end
