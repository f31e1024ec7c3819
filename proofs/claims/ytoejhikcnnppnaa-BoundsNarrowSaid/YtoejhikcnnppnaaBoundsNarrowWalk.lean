/- The walk of the law BoundsNarrow: it returns true and leaves what was there. -/
import Derived.Test.YtoejhikcnnppnaaRows
import Derived.Test.YtoejhikcnnppnaaOpen
import Derived.Test.YtoejhikcnnppnaaNarrowL
import Derived.Test.YtoejhikcnnppnaaAwake4
import Derived.Test.YtoejhikcnnppnaaOpenB
import Derived.Test.YtoejhikcnnppnaaOpenR
import Derived.WalkKit
import Derived.ProofKit
import Derived.OpenShut
import Derived.ShutString
namespace Go.Proofs.Ytoejhikcnnppnaa.boundsNarrow
open Go.ChangeShapes Go.WideShapes Go.ChangeAt Go.RowKit
open Go.ChangeMaps (open_string shut_string)
set_option linter.unusedVariables false

set_option maxHeartbeats 4000000 in
theorem walk (xa0 xb0 xc0 xd0 xe0 xf0 : Int) (a1 : Int) (a2 : Int) (a3 b3 : Int) (a4 b4 : Int) (w : World) (iw0 : opn.Rng xa0 ∧ opn.Rng xb0 ∧ opn.Rng xc0 ∧ opn.Rng xd0 ∧ opn.Rng xe0 ∧ opn.Rng xf0) (iw1 : opn.Rng a1) (iw2 : opn.Rng a2) (iw3 : opn.Rng a3 ∧ opn.Rng b3) (iw4 : opn.Rng a4 ∧ opn.Rng b4) :
    Calls Try.prog 17 #[.agg #[.int .i64 xa0, .int .i64 xb0, .int .i64 xc0, .int .i64 xd0, .int .i64 xe0, .int .i64 xf0], .int .i64 a1, .int .i64 a2, .agg #[.int .i64 a3, .int .i64 b3], .agg #[.int .i64 a4, .int .i64 b4]] w fun e w' => e = .returned (.bool true) ∧ Below w.heap.size w w' := by
  obtain ⟨i1, i2, i3, i4, i5, i6⟩ := iw0
  have h1 := Lib.hid (fun W => wid.Within_any xa0 xb0 xc0 xd0 xe0 xf0 a1 a3 b3 i1 i2 i3 i4 i5 i6 iw1 iw3.1 iw3.2 W)
  have h2 := Lib.hid (fun W => wid.ValidR_any a4 b4 iw4.1 iw4.2 W)
  have h3 := Lib.hid (fun W => wid.CompareQR_any a3 b3 a4 b4 iw3.1 iw3.2 iw4.1 iw4.2 W)
  have h4 := Lib.hid (fun W => wid.Within_any xa0 xb0 xc0 xd0 xe0 xf0 a2 a4 b4 i1 i2 i3 i4 i5 i6 iw2 iw4.1 iw4.2 W)
  have h5 := Lib.hid (fun W => wid.awake4_any W)
  have hl : wid.withB xa0 xb0 xc0 xd0 xe0 xf0 a1 a3 b3 = true → 1 ≤ a2 → a2 ≤ a1 → wid.validQ a4 b4 = true → wid.cmpQ a3 b3 a4 b4 ≤ 0 → wid.withB xa0 xb0 xc0 xd0 xe0 xf0 a2 a4 b4 = true := fun p q r t z => wid.with_narrow p q r t z
  clear iw1 iw2 iw3 iw4 i1 i2 i3 i4 i5 i6
  generalize wid.withB xa0 xb0 xc0 xd0 xe0 xf0 a1 a3 b3 = w1 at *
  generalize wid.withB xa0 xb0 xc0 xd0 xe0 xf0 a2 a4 b4 = w2 at *
  generalize wid.validQ a4 b4 = vu at *
  generalize wid.cmpQ a3 b3 a4 b4 = c at *
  cases w1
  case false =>
    clear hl
    go_enter Try.func17, Try.ntmps17
    go_wp2_with fail
    obtain ⟨W0, hW, hs0, K0, B0⟩ := gro.start3 w 36 23 23 #[Value.int IntKind.i64 xa0, Value.int IntKind.i64 xb0, Value.int IntKind.i64 xc0, Value.int IntKind.i64 xd0, Value.int IntKind.i64 xe0, Value.int IntKind.i64 xf0] #[Value.int IntKind.i64 a3, Value.int IntKind.i64 b3] #[Value.int IntKind.i64 a4, Value.int IntKind.i64 b4]
    rw [hW]
    clear hW
    have KK := Lib.hid K0
    have BB := Lib.hid B0
    have R := K0.rules
    simp only [gro.Rules] at R
    clear K0 B0 hs0
    (with_reducible refine (h1.out _).mono ?_)
    rintro e wv ⟨rfl, hbv⟩; replace BB := Lib.hid (BB.out.trans (hbv.mono BB.out.size)); replace KK := Lib.hid (KK.out.below hbv); replace R := KK.out.rules; simp only [gro.Rules] at R; clear hbv
    go_wp2_with fail
    (with_reducible refine (h5.out _).mono ?_)
    rintro e wv ⟨rfl, hbv⟩; replace BB := Lib.hid (BB.out.trans (hbv.mono BB.out.size)); replace KK := Lib.hid (KK.out.below hbv); replace R := KK.out.rules; simp only [gro.Rules] at R; clear hbv
    go_wp2
    go_ret
    exact ⟨rfl, BB.out⟩
  by_cases hj : 1 ≤ a2
  case neg =>
    have q1 : decide (a2 < 1) = true := decide_eq_true (by omega)
    clear hl hj
    go_enter Try.func17, Try.ntmps17
    go_wp2_with fail
    obtain ⟨W0, hW, hs0, K0, B0⟩ := gro.start3 w 36 23 23 #[Value.int IntKind.i64 xa0, Value.int IntKind.i64 xb0, Value.int IntKind.i64 xc0, Value.int IntKind.i64 xd0, Value.int IntKind.i64 xe0, Value.int IntKind.i64 xf0] #[Value.int IntKind.i64 a3, Value.int IntKind.i64 b3] #[Value.int IntKind.i64 a4, Value.int IntKind.i64 b4]
    rw [hW]
    clear hW
    have KK := Lib.hid K0
    have BB := Lib.hid B0
    have R := K0.rules
    simp only [gro.Rules] at R
    clear K0 B0 hs0
    (with_reducible refine (h1.out _).mono ?_)
    rintro e wv ⟨rfl, hbv⟩; replace BB := Lib.hid (BB.out.trans (hbv.mono BB.out.size)); replace KK := Lib.hid (KK.out.below hbv); replace R := KK.out.rules; simp only [gro.Rules] at R; clear hbv
    go_wp2_with fail
    (with_reducible refine (h5.out _).mono ?_)
    rintro e wv ⟨rfl, hbv⟩; replace BB := Lib.hid (BB.out.trans (hbv.mono BB.out.size)); replace KK := Lib.hid (KK.out.below hbv); replace R := KK.out.rules; simp only [gro.Rules] at R; clear hbv
    go_wp2
    go_ret
    exact ⟨rfl, BB.out⟩
  have q1 : decide (a2 < 1) = false := decide_eq_false (by omega)
  by_cases hjk : a2 ≤ a1
  case neg =>
    have q2 : decide (a1 < a2) = true := decide_eq_true (by omega)
    clear hl hj hjk
    go_enter Try.func17, Try.ntmps17
    go_wp2_with fail
    obtain ⟨W0, hW, hs0, K0, B0⟩ := gro.start3 w 36 23 23 #[Value.int IntKind.i64 xa0, Value.int IntKind.i64 xb0, Value.int IntKind.i64 xc0, Value.int IntKind.i64 xd0, Value.int IntKind.i64 xe0, Value.int IntKind.i64 xf0] #[Value.int IntKind.i64 a3, Value.int IntKind.i64 b3] #[Value.int IntKind.i64 a4, Value.int IntKind.i64 b4]
    rw [hW]
    clear hW
    have KK := Lib.hid K0
    have BB := Lib.hid B0
    have R := K0.rules
    simp only [gro.Rules] at R
    clear K0 B0 hs0
    (with_reducible refine (h1.out _).mono ?_)
    rintro e wv ⟨rfl, hbv⟩; replace BB := Lib.hid (BB.out.trans (hbv.mono BB.out.size)); replace KK := Lib.hid (KK.out.below hbv); replace R := KK.out.rules; simp only [gro.Rules] at R; clear hbv
    go_wp2_with fail
    (with_reducible refine (h5.out _).mono ?_)
    rintro e wv ⟨rfl, hbv⟩; replace BB := Lib.hid (BB.out.trans (hbv.mono BB.out.size)); replace KK := Lib.hid (KK.out.below hbv); replace R := KK.out.rules; simp only [gro.Rules] at R; clear hbv
    go_wp2
    go_ret
    exact ⟨rfl, BB.out⟩
  have q2 : decide (a1 < a2) = false := decide_eq_false (by omega)
  cases vu
  case false =>
    clear hl hj hjk
    go_enter Try.func17, Try.ntmps17
    go_wp2_with fail
    obtain ⟨W0, hW, hs0, K0, B0⟩ := gro.start3 w 36 23 23 #[Value.int IntKind.i64 xa0, Value.int IntKind.i64 xb0, Value.int IntKind.i64 xc0, Value.int IntKind.i64 xd0, Value.int IntKind.i64 xe0, Value.int IntKind.i64 xf0] #[Value.int IntKind.i64 a3, Value.int IntKind.i64 b3] #[Value.int IntKind.i64 a4, Value.int IntKind.i64 b4]
    rw [hW]
    clear hW
    have KK := Lib.hid K0
    have BB := Lib.hid B0
    have R := K0.rules
    simp only [gro.Rules] at R
    clear K0 B0 hs0
    (with_reducible refine (h1.out _).mono ?_)
    rintro e wv ⟨rfl, hbv⟩; replace BB := Lib.hid (BB.out.trans (hbv.mono BB.out.size)); replace KK := Lib.hid (KK.out.below hbv); replace R := KK.out.rules; simp only [gro.Rules] at R; clear hbv
    go_wp2_with fail
    (with_reducible refine (h2.out _).mono ?_)
    rintro e wv ⟨rfl, hbv⟩; replace BB := Lib.hid (BB.out.trans (hbv.mono BB.out.size)); replace KK := Lib.hid (KK.out.below hbv); replace R := KK.out.rules; simp only [gro.Rules] at R; clear hbv
    go_wp2_with fail
    (with_reducible refine (h5.out _).mono ?_)
    rintro e wv ⟨rfl, hbv⟩; replace BB := Lib.hid (BB.out.trans (hbv.mono BB.out.size)); replace KK := Lib.hid (KK.out.below hbv); replace R := KK.out.rules; simp only [gro.Rules] at R; clear hbv
    go_wp2
    go_ret
    exact ⟨rfl, BB.out⟩
  by_cases hc : c ≤ 0
  case neg =>
    have q3 : decide (0 < c) = true := decide_eq_true (by omega)
    clear hl hj hjk hc
    go_enter Try.func17, Try.ntmps17
    go_wp2_with fail
    obtain ⟨W0, hW, hs0, K0, B0⟩ := gro.start3 w 36 23 23 #[Value.int IntKind.i64 xa0, Value.int IntKind.i64 xb0, Value.int IntKind.i64 xc0, Value.int IntKind.i64 xd0, Value.int IntKind.i64 xe0, Value.int IntKind.i64 xf0] #[Value.int IntKind.i64 a3, Value.int IntKind.i64 b3] #[Value.int IntKind.i64 a4, Value.int IntKind.i64 b4]
    rw [hW]
    clear hW
    have KK := Lib.hid K0
    have BB := Lib.hid B0
    have R := K0.rules
    simp only [gro.Rules] at R
    clear K0 B0 hs0
    (with_reducible refine (h1.out _).mono ?_)
    rintro e wv ⟨rfl, hbv⟩; replace BB := Lib.hid (BB.out.trans (hbv.mono BB.out.size)); replace KK := Lib.hid (KK.out.below hbv); replace R := KK.out.rules; simp only [gro.Rules] at R; clear hbv
    go_wp2_with fail
    (with_reducible refine (h2.out _).mono ?_)
    rintro e wv ⟨rfl, hbv⟩; replace BB := Lib.hid (BB.out.trans (hbv.mono BB.out.size)); replace KK := Lib.hid (KK.out.below hbv); replace R := KK.out.rules; simp only [gro.Rules] at R; clear hbv
    go_wp2_with fail
    (with_reducible refine (h3.out _).mono ?_)
    rintro e wv ⟨rfl, hbv⟩; replace BB := Lib.hid (BB.out.trans (hbv.mono BB.out.size)); replace KK := Lib.hid (KK.out.below hbv); replace R := KK.out.rules; simp only [gro.Rules] at R; clear hbv
    go_wp2_with fail
    (with_reducible refine (h5.out _).mono ?_)
    rintro e wv ⟨rfl, hbv⟩; replace BB := Lib.hid (BB.out.trans (hbv.mono BB.out.size)); replace KK := Lib.hid (KK.out.below hbv); replace R := KK.out.rules; simp only [gro.Rules] at R; clear hbv
    go_wp2
    go_ret
    exact ⟨rfl, BB.out⟩
  have q3 : decide (0 < c) = false := decide_eq_false (by omega)
  obtain rfl : w2 = true := hl rfl hj hjk rfl hc
  clear hl hj hjk hc
  go_enter Try.func17, Try.ntmps17
  go_wp2_with fail
  obtain ⟨W0, hW, hs0, K0, B0⟩ := gro.start3 w 36 23 23 #[Value.int IntKind.i64 xa0, Value.int IntKind.i64 xb0, Value.int IntKind.i64 xc0, Value.int IntKind.i64 xd0, Value.int IntKind.i64 xe0, Value.int IntKind.i64 xf0] #[Value.int IntKind.i64 a3, Value.int IntKind.i64 b3] #[Value.int IntKind.i64 a4, Value.int IntKind.i64 b4]
  rw [hW]
  clear hW
  have KK := Lib.hid K0
  have BB := Lib.hid B0
  have R := K0.rules
  simp only [gro.Rules] at R
  clear K0 B0 hs0
  (with_reducible refine (h1.out _).mono ?_)
  rintro e wv ⟨rfl, hbv⟩; replace BB := Lib.hid (BB.out.trans (hbv.mono BB.out.size)); replace KK := Lib.hid (KK.out.below hbv); replace R := KK.out.rules; simp only [gro.Rules] at R; clear hbv
  go_wp2_with fail
  (with_reducible refine (h2.out _).mono ?_)
  rintro e wv ⟨rfl, hbv⟩; replace BB := Lib.hid (BB.out.trans (hbv.mono BB.out.size)); replace KK := Lib.hid (KK.out.below hbv); replace R := KK.out.rules; simp only [gro.Rules] at R; clear hbv
  go_wp2_with fail
  (with_reducible refine (h3.out _).mono ?_)
  rintro e wv ⟨rfl, hbv⟩; replace BB := Lib.hid (BB.out.trans (hbv.mono BB.out.size)); replace KK := Lib.hid (KK.out.below hbv); replace R := KK.out.rules; simp only [gro.Rules] at R; clear hbv
  go_wp2_with fail
  (with_reducible refine (h4.out _).mono ?_)
  rintro e wv ⟨rfl, hbv⟩; replace BB := Lib.hid (BB.out.trans (hbv.mono BB.out.size)); replace KK := Lib.hid (KK.out.below hbv); replace R := KK.out.rules; simp only [gro.Rules] at R; clear hbv
  go_wp2_with fail
  (with_reducible refine (h5.out _).mono ?_)
  rintro e wv ⟨rfl, hbv⟩; replace BB := Lib.hid (BB.out.trans (hbv.mono BB.out.size)); replace KK := Lib.hid (KK.out.below hbv); replace R := KK.out.rules; simp only [gro.Rules] at R; clear hbv
  go_wp2
  go_ret
  exact ⟨rfl, BB.out⟩
end Go.Proofs.Ytoejhikcnnppnaa.boundsNarrow
