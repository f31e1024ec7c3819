/- The walk of the law RatioBetween: it returns true and leaves what was there. -/
import Derived.Test.YtoejhikcnnppnaaRows
import Derived.Test.YtoejhikcnnppnaaOpen
import Derived.Test.YtoejhikcnnppnaaBet
import Derived.Test.YtoejhikcnnppnaaOpenR
import Derived.WalkKit
import Derived.ProofKit
import Derived.OpenShut
import Derived.ShutString
namespace Go.Proofs.Ytoejhikcnnppnaa.ratioBetween
open Go.ChangeShapes Go.WideShapes Go.ChangeAt Go.RowKit
open Go.ChangeMaps (open_string shut_string)
set_option linter.unusedVariables false

set_option maxHeartbeats 4000000 in
theorem walk (a0 b0 : Int) (w : World) (iw0 : opn.Rng a0 ∧ opn.Rng b0) :
    Calls Try.prog 8 #[.agg #[.int .i64 a0, .int .i64 b0]] w fun e w' => e = .returned (.bool true) ∧ Below w.heap.size w w' := by
  have h5 := Lib.hid (fun W => wid.awake3_any W)
  have HV := Lib.hid (fun W => wid.ValidR_any a0 b0 iw0.1 iw0.2 W)
  by_cases hv : wid.validQ a0 b0 = true
  case neg =>
    rw [show wid.validQ a0 b0 = false by simpa using hv] at HV
    clear hv iw0
    go_enter Try.func8, Try.ntmps8
    go_wp2_with fail
    obtain ⟨W0, hW, hs0, K0, B0⟩ := gro.start1 w 23 #[Value.int IntKind.i64 a0, Value.int IntKind.i64 b0]
    rw [hW]
    clear hW
    have KK := Lib.hid K0
    have BB := Lib.hid B0
    have R := K0.rules
    simp only [gro.Rules] at R
    clear K0 B0 hs0
    (with_reducible refine (HV.out _).mono ?_)
    rintro e wv ⟨rfl, hbv⟩; replace BB := Lib.hid (BB.out.trans (hbv.mono BB.out.size)); replace KK := Lib.hid (KK.out.below hbv); replace R := KK.out.rules; simp only [gro.Rules] at R; clear hbv
    go_wp2_with fail
    (with_reducible refine (h5.out _).mono ?_)
    rintro e wv ⟨rfl, hbv⟩; replace BB := Lib.hid (BB.out.trans (hbv.mono BB.out.size)); replace KK := Lib.hid (KK.out.below hbv); replace R := KK.out.rules; simp only [gro.Rules] at R; clear hbv
    go_wp2
    go_ret
    exact ⟨rfl, BB.out⟩
  rw [hv] at HV
  obtain ⟨f1, f2, f3, f4, f5⟩ := wid.floor_facts hv
  have hl := @wid.floor_bd a0 b0 iw0.1
  have hg := @wid.ceil_bd a0 b0 iw0.1
  have h1 := Lib.hid (fun W => wid.Floor_any a0 b0 iw0.1 iw0.2 W)
  have h2 := Lib.hid (fun W => wid.Ceil_any a0 b0 iw0.1 iw0.2 W)
  have h3 := Lib.hid (fun W => wid.ofQ_any (wid.floorQ a0 b0) W)
  have h4 := Lib.hid (fun W => wid.ofQ_any (wid.ceilQ a0 b0) W)
  have c1 := Lib.hid (fun W => wid.CompareQ_any (wid.floorQ a0 b0) 1 a0 b0 hl (by unfold wid.I64; omega) iw0.1 iw0.2 W)
  have c2 := Lib.hid (fun W => wid.CompareQ_any a0 b0 (wid.ceilQ a0 b0) 1 iw0.1 iw0.2 hg (by unfold wid.I64; omega) W)
  clear hl hg iw0 hv
  generalize wid.cmpQ (wid.floorQ a0 b0) 1 a0 b0 = u at *
  generalize wid.cmpQ a0 b0 (wid.ceilQ a0 b0) 1 = v at *
  generalize wid.floorQ a0 b0 = l at *
  generalize wid.ceilQ a0 b0 = g at *
  have q1 : decide (u ≤ 0) = true := decide_eq_true f1
  have q2 : decide (v ≤ 0) = true := decide_eq_true f2
  have q3 : decide (l ≤ g) = true := decide_eq_true f3
  have q4 : IntKind.i64.wrap (g - l) = g - l := IntWalk.i64_in _ (by omega)
  have q5 : decide (g - l ≤ 1) = true := decide_eq_true (by omega)
  clear f1 f2
  by_cases hb : b0 = 1
  case pos =>
    subst hb
    obtain rfl : g = l := f5.2 rfl
    clear f3 f4 f5
    go_enter Try.func8, Try.ntmps8
    go_wp2_with fail
    obtain ⟨W0, hW, hs0, K0, B0⟩ := gro.start1 w 23 #[Value.int IntKind.i64 a0, Value.int IntKind.i64 1]
    rw [hW]
    clear hW
    have KK := Lib.hid K0
    have BB := Lib.hid B0
    have R := K0.rules
    simp only [gro.Rules] at R
    clear K0 B0 hs0
    (with_reducible refine (HV.out _).mono ?_)
    rintro e wv ⟨rfl, hbv⟩; replace BB := Lib.hid (BB.out.trans (hbv.mono BB.out.size)); replace KK := Lib.hid (KK.out.below hbv); replace R := KK.out.rules; simp only [gro.Rules] at R; clear hbv
    go_wp2_with fail
    (refine gro.wp_region_grown (by kernel_rfl) (by kernel_rfl) ?_; (repeat (go_big_quiet_step ((first | (go_at_call 22; exact gro.call_grown (h1.out _)) | (go_at_call 24; exact gro.call_grown (h2.out _)))))); refine wpQuiet_nil ?_; intro _ hw'; obtain ⟨nx, hw''⟩ := hw'; subst hw'')
    replace KK := Lib.hid (KK.out.below (gro.below_grown _ nx))
    replace BB := Lib.hid (BB.out.trans ((gro.below_grown _ nx).mono BB.out.size))
    clear R
    generalize gro.grown _ nx = W4 at *
    have R := KK.out.rules
    simp only [gro.Rules] at R
    go_wp2_with fail
    (refine gro.wp_region_grown (by kernel_rfl) (by kernel_rfl) ?_; (repeat (go_big_quiet_step ((first | (go_at_call 28; first | (with_reducible exact gro.call_grown (h3.out _)) | (with_reducible exact gro.call_grown (h4.out _))) | (go_at_call 34; first | (with_reducible exact gro.call_grown (c1.out _)) | (with_reducible exact gro.call_grown (c2.out _))) | (go_at_call 21; exact gro.call_grown (h5.out _)))))); refine wpQuiet_nil ?_; intro _ hw'; obtain ⟨nx, hw''⟩ := hw'; subst hw'')
    replace BB := Lib.hid (BB.out.trans ((gro.below_grown _ nx).mono BB.out.size))
    clear R KK
    go_wp2
    go_ret
    exact ⟨rfl, BB.out⟩
  case neg =>
    have q6 : (g == l) = false := by have : g ≠ l := fun h => hb (f5.1 h); simpa using this
    have q7 : (b0 == 1) = false := by simpa using hb
    clear f3 f4 f5 hb
    go_enter Try.func8, Try.ntmps8
    go_wp2_with fail
    obtain ⟨W0, hW, hs0, K0, B0⟩ := gro.start1 w 23 #[Value.int IntKind.i64 a0, Value.int IntKind.i64 b0]
    rw [hW]
    clear hW
    have KK := Lib.hid K0
    have BB := Lib.hid B0
    have R := K0.rules
    simp only [gro.Rules] at R
    clear K0 B0 hs0
    (with_reducible refine (HV.out _).mono ?_)
    rintro e wv ⟨rfl, hbv⟩; replace BB := Lib.hid (BB.out.trans (hbv.mono BB.out.size)); replace KK := Lib.hid (KK.out.below hbv); replace R := KK.out.rules; simp only [gro.Rules] at R; clear hbv
    go_wp2_with fail
    (refine gro.wp_region_grown (by kernel_rfl) (by kernel_rfl) ?_; (repeat (go_big_quiet_step ((first | (go_at_call 22; exact gro.call_grown (h1.out _)) | (go_at_call 24; exact gro.call_grown (h2.out _)))))); refine wpQuiet_nil ?_; intro _ hw'; obtain ⟨nx, hw''⟩ := hw'; subst hw'')
    replace KK := Lib.hid (KK.out.below (gro.below_grown _ nx))
    replace BB := Lib.hid (BB.out.trans ((gro.below_grown _ nx).mono BB.out.size))
    clear R
    generalize gro.grown _ nx = W4 at *
    have R := KK.out.rules
    simp only [gro.Rules] at R
    go_wp2_with fail
    (refine gro.wp_region_grown (by kernel_rfl) (by kernel_rfl) ?_; (repeat (go_big_quiet_step ((first | (go_at_call 28; first | (with_reducible exact gro.call_grown (h3.out _)) | (with_reducible exact gro.call_grown (h4.out _))) | (go_at_call 34; first | (with_reducible exact gro.call_grown (c1.out _)) | (with_reducible exact gro.call_grown (c2.out _))) | (go_at_call 21; exact gro.call_grown (h5.out _)))))); refine wpQuiet_nil ?_; intro _ hw'; obtain ⟨nx, hw''⟩ := hw'; subst hw'')
    replace BB := Lib.hid (BB.out.trans ((gro.below_grown _ nx).mono BB.out.size))
    clear R KK
    go_wp2
    go_ret
    exact ⟨rfl, BB.out⟩
end Go.Proofs.Ytoejhikcnnppnaa.ratioBetween
