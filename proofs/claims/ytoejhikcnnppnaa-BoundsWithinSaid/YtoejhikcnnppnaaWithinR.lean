/- Contracts of atMost and Within of the reference of bounds. -/
import Derived.Test.YtoejhikcnnppnaaWithin
import Derived.Test.YtoejhikcnnppnaaLimb
import Derived.Test.YtoejhikcnnppnaaSumR
namespace Go.Proofs.Ytoejhikcnnppnaa.wid
open Go.RowKit Go.Proofs.Ytoejhikcnnppnaa.mem Go.Proofs.Ytoejhikcnnppnaa.gro
set_option linter.unusedVariables false
set_option linter.unusedSimpArgs false
set_option maxHeartbeats 4000000 in
set_option maxRecDepth 100000 in
theorem atMost_any (V U : Nat) (hV : V < 115792089237316195423570985008687907853269984665640564039457584007913129639936) (hU : U < 115792089237316195423570985008687907853269984665640564039457584007913129639936) (w : World) :
    Calls Try.prog 79 #[.agg #[.int .u64 (q0 V : Nat), .int .u64 (q1 V : Nat), .int .u64 (q2 V : Nat), .int .u64 (q3 V : Nat)], .agg #[.int .u64 (q0 U : Nat), .int .u64 (q1 U : Nat), .int .u64 (q2 U : Nat), .int .u64 (q3 U : Nat)]] w fun e w' => e = .returned (.bool (decide (V ≤ U))) ∧ Below w.heap.size w w' := by
  have HQ := q_eq hV hU
  obtain ⟨vB, HB⟩ : ∃ b, decide (V ≤ U) = b := ⟨_, rfl⟩
  rw [HB]
  have HQ2 : (((q3 V : Nat) : Int) ≠ (q3 U : Nat) → vB = decide (((q3 V : Nat) : Int) < (q3 U : Nat))) ∧ (((q3 V : Nat) : Int) = (q3 U : Nat) → ((q2 V : Nat) : Int) ≠ (q2 U : Nat) → vB = decide (((q2 V : Nat) : Int) < (q2 U : Nat))) ∧ (((q3 V : Nat) : Int) = (q3 U : Nat) → ((q2 V : Nat) : Int) = (q2 U : Nat) → ((q1 V : Nat) : Int) ≠ (q1 U : Nat) → vB = decide (((q1 V : Nat) : Int) < (q1 U : Nat))) ∧
      (((q3 V : Nat) : Int) = (q3 U : Nat) → ((q2 V : Nat) : Int) = (q2 U : Nat) → ((q1 V : Nat) : Int) = (q1 U : Nat) → ((q0 V : Nat) : Int) ≠ (q0 U : Nat) → vB = decide (((q0 V : Nat) : Int) < (q0 U : Nat))) ∧ (((q3 V : Nat) : Int) = (q3 U : Nat) → ((q2 V : Nat) : Int) = (q2 U : Nat) → ((q1 V : Nat) : Int) = (q1 U : Nat) → ((q0 V : Nat) : Int) = (q0 U : Nat) → vB = true) := by
    obtain ⟨z3, z2, z1, z0, ze⟩ := HQ
    refine ⟨fun h => ?_, fun e3 h => ?_, fun e3 e2 h => ?_, fun e3 e2 e1 h => ?_, fun e3 e2 e1 e0 => ?_⟩
    · have := z3 (by omega); rw [← HB]; exact decide_eq_decide.2 (by omega)
    · have := z2 (by omega) (by omega); rw [← HB]; exact decide_eq_decide.2 (by omega)
    · have := z1 (by omega) (by omega) (by omega); rw [← HB]; exact decide_eq_decide.2 (by omega)
    · have := z0 (by omega) (by omega) (by omega) (by omega); rw [← HB]; exact decide_eq_decide.2 (by omega)
    · have := ze (by omega) (by omega) (by omega) (by omega); rw [← HB, this]; simp
  clear HQ HB hV hU
  generalize ((q0 V : Nat) : Int) = l0 at *
  generalize ((q0 U : Nat) : Int) = r0 at *
  generalize ((q1 V : Nat) : Int) = l1 at *
  generalize ((q1 U : Nat) : Int) = r1 at *
  generalize ((q2 V : Nat) : Int) = l2 at *
  generalize ((q2 U : Nat) : Int) = r2 at *
  generalize ((q3 V : Nat) : Int) = l3 at *
  generalize ((q3 U : Nat) : Int) = r3 at *
  replace HQ2 := Lib.hid HQ2
  by_cases h3 : l3 = r3
  case pos =>
    subst h3
    by_cases h2 : l2 = r2
    case pos =>
      subst h2
      by_cases h1 : l1 = r1
      case pos =>
        subst h1
        by_cases h0 : l0 = r0
        case pos =>
          subst h0
          obtain rfl : vB = true := HQ2.out.2.2.2.2 rfl rfl rfl rfl
          clear HQ2
          go_enter Try.func79, Try.ntmps79
          go_wp2_with fail
          obtain ⟨W0, hW, hs0, K0, B0⟩ := start2 w 71 71 #[Value.int IntKind.u64 l0, Value.int IntKind.u64 l1, Value.int IntKind.u64 l2, Value.int IntKind.u64 l3] #[Value.int IntKind.u64 l0, Value.int IntKind.u64 l1, Value.int IntKind.u64 l2, Value.int IntKind.u64 l3]
          rw [hW]
          clear hW
          have KK := Lib.hid K0
          have BB := Lib.hid B0
          have R := K0.rules
          simp only [Rules] at R
          clear K0 B0 hs0
          refine wp_loop_rounds 5 ?_
          rw [rounds_succ]
          go_wp2_with fail
          (refine gro.wp_region_grown (by kernel_rfl) (by kernel_rfl) ?_; (repeat (go_big_quiet_step ((fail)))); refine wpQuiet_nil ?_; intro _ hw'; obtain ⟨nx, hw''⟩ := hw'; subst hw'')
          replace KK := Lib.hid (KK.out.below (below_grown _ nx))
          replace BB := Lib.hid (BB.out.trans ((below_grown _ nx).mono BB.out.size))
          clear R
          generalize grown _ nx = W7 at *
          have R := KK.out.rules
          simp only [Rules] at R
          go_wp2_with fail
          rw [rounds_succ]
          go_wp2_with fail
          (refine gro.wp_region_grown (by kernel_rfl) (by kernel_rfl) ?_; (repeat (go_big_quiet_step ((fail)))); refine wpQuiet_nil ?_; intro _ hw'; obtain ⟨nx, hw''⟩ := hw'; subst hw'')
          replace KK := Lib.hid (KK.out.below (below_grown _ nx))
          replace BB := Lib.hid (BB.out.trans ((below_grown _ nx).mono BB.out.size))
          clear R
          generalize grown _ nx = W7 at *
          have R := KK.out.rules
          simp only [Rules] at R
          go_wp2_with fail
          rw [rounds_succ]
          go_wp2_with fail
          (refine gro.wp_region_grown (by kernel_rfl) (by kernel_rfl) ?_; (repeat (go_big_quiet_step ((fail)))); refine wpQuiet_nil ?_; intro _ hw'; obtain ⟨nx, hw''⟩ := hw'; subst hw'')
          replace KK := Lib.hid (KK.out.below (below_grown _ nx))
          replace BB := Lib.hid (BB.out.trans ((below_grown _ nx).mono BB.out.size))
          clear R
          generalize grown _ nx = W7 at *
          have R := KK.out.rules
          simp only [Rules] at R
          go_wp2_with fail
          rw [rounds_succ]
          go_wp2_with fail
          (refine gro.wp_region_grown (by kernel_rfl) (by kernel_rfl) ?_; (repeat (go_big_quiet_step ((fail)))); refine wpQuiet_nil ?_; intro _ hw'; obtain ⟨nx, hw''⟩ := hw'; subst hw'')
          replace KK := Lib.hid (KK.out.below (below_grown _ nx))
          replace BB := Lib.hid (BB.out.trans ((below_grown _ nx).mono BB.out.size))
          clear R
          generalize grown _ nx = W7 at *
          have R := KK.out.rules
          simp only [Rules] at R
          go_wp2_with fail
          rw [rounds_succ]
          go_wp2
          go_ret
          exact ⟨rfl, BB.out⟩
        case neg =>
          have hv := HQ2.out.2.2.2.1 rfl rfl rfl h0
          clear HQ2
          obtain ⟨bb, hbb⟩ : ∃ b, decide (l0 < r0) = b := ⟨_, rfl⟩
          rw [hbb] at hv
          subst hv
          have hq : (l0 == r0) = false := by simpa using h0
          have hq2 : decide (l0 = r0) = false := decide_eq_false h0
          go_enter Try.func79, Try.ntmps79
          go_wp2_with fail
          obtain ⟨W0, hW, hs0, K0, B0⟩ := start2 w 71 71 #[Value.int IntKind.u64 l0, Value.int IntKind.u64 l1, Value.int IntKind.u64 l2, Value.int IntKind.u64 l3] #[Value.int IntKind.u64 r0, Value.int IntKind.u64 l1, Value.int IntKind.u64 l2, Value.int IntKind.u64 l3]
          rw [hW]
          clear hW
          have KK := Lib.hid K0
          have BB := Lib.hid B0
          have R := K0.rules
          simp only [Rules] at R
          clear K0 B0 hs0
          refine wp_loop_rounds 4 ?_
          rw [rounds_succ]
          go_wp2_with fail
          (refine gro.wp_region_grown (by kernel_rfl) (by kernel_rfl) ?_; (repeat (go_big_quiet_step ((fail)))); refine wpQuiet_nil ?_; intro _ hw'; obtain ⟨nx, hw''⟩ := hw'; subst hw'')
          replace KK := Lib.hid (KK.out.below (below_grown _ nx))
          replace BB := Lib.hid (BB.out.trans ((below_grown _ nx).mono BB.out.size))
          clear R
          generalize grown _ nx = W7 at *
          have R := KK.out.rules
          simp only [Rules] at R
          go_wp2_with fail
          rw [rounds_succ]
          go_wp2_with fail
          (refine gro.wp_region_grown (by kernel_rfl) (by kernel_rfl) ?_; (repeat (go_big_quiet_step ((fail)))); refine wpQuiet_nil ?_; intro _ hw'; obtain ⟨nx, hw''⟩ := hw'; subst hw'')
          replace KK := Lib.hid (KK.out.below (below_grown _ nx))
          replace BB := Lib.hid (BB.out.trans ((below_grown _ nx).mono BB.out.size))
          clear R
          generalize grown _ nx = W7 at *
          have R := KK.out.rules
          simp only [Rules] at R
          go_wp2_with fail
          rw [rounds_succ]
          go_wp2_with fail
          (refine gro.wp_region_grown (by kernel_rfl) (by kernel_rfl) ?_; (repeat (go_big_quiet_step ((fail)))); refine wpQuiet_nil ?_; intro _ hw'; obtain ⟨nx, hw''⟩ := hw'; subst hw'')
          replace KK := Lib.hid (KK.out.below (below_grown _ nx))
          replace BB := Lib.hid (BB.out.trans ((below_grown _ nx).mono BB.out.size))
          clear R
          generalize grown _ nx = W7 at *
          have R := KK.out.rules
          simp only [Rules] at R
          go_wp2_with fail
          rw [rounds_succ]
          go_wp2_with fail
          (refine gro.wp_region_grown (by kernel_rfl) (by kernel_rfl) ?_; (repeat (go_big_quiet_step ((fail)))); refine wpQuiet_nil ?_; intro _ hw'; obtain ⟨nx, hw''⟩ := hw'; subst hw'')
          replace KK := Lib.hid (KK.out.below (below_grown _ nx))
          replace BB := Lib.hid (BB.out.trans ((below_grown _ nx).mono BB.out.size))
          clear R
          generalize grown _ nx = W7 at *
          have R := KK.out.rules
          simp only [Rules] at R
          go_wp2_with fail
          (refine gro.wp_region_grown (by kernel_rfl) (by kernel_rfl) ?_; (repeat (go_big_quiet_step ((fail)))); refine wpQuiet_nil ?_; intro _ hw'; obtain ⟨nx, hw''⟩ := hw'; subst hw'')
          replace KK := Lib.hid (KK.out.below (below_grown _ nx))
          replace BB := Lib.hid (BB.out.trans ((below_grown _ nx).mono BB.out.size))
          clear R
          generalize grown _ nx = W7 at *
          have R := KK.out.rules
          simp only [Rules] at R
          go_wp2
          go_ret
          exact ⟨rfl, BB.out⟩
      case neg =>
        have hv := HQ2.out.2.2.1 rfl rfl h1
        clear HQ2
        obtain ⟨bb, hbb⟩ : ∃ b, decide (l1 < r1) = b := ⟨_, rfl⟩
        rw [hbb] at hv
        subst hv
        have hq : (l1 == r1) = false := by simpa using h1
        have hq2 : decide (l1 = r1) = false := decide_eq_false h1
        go_enter Try.func79, Try.ntmps79
        go_wp2_with fail
        obtain ⟨W0, hW, hs0, K0, B0⟩ := start2 w 71 71 #[Value.int IntKind.u64 l0, Value.int IntKind.u64 l1, Value.int IntKind.u64 l2, Value.int IntKind.u64 l3] #[Value.int IntKind.u64 r0, Value.int IntKind.u64 r1, Value.int IntKind.u64 l2, Value.int IntKind.u64 l3]
        rw [hW]
        clear hW
        have KK := Lib.hid K0
        have BB := Lib.hid B0
        have R := K0.rules
        simp only [Rules] at R
        clear K0 B0 hs0
        refine wp_loop_rounds 3 ?_
        rw [rounds_succ]
        go_wp2_with fail
        (refine gro.wp_region_grown (by kernel_rfl) (by kernel_rfl) ?_; (repeat (go_big_quiet_step ((fail)))); refine wpQuiet_nil ?_; intro _ hw'; obtain ⟨nx, hw''⟩ := hw'; subst hw'')
        replace KK := Lib.hid (KK.out.below (below_grown _ nx))
        replace BB := Lib.hid (BB.out.trans ((below_grown _ nx).mono BB.out.size))
        clear R
        generalize grown _ nx = W7 at *
        have R := KK.out.rules
        simp only [Rules] at R
        go_wp2_with fail
        rw [rounds_succ]
        go_wp2_with fail
        (refine gro.wp_region_grown (by kernel_rfl) (by kernel_rfl) ?_; (repeat (go_big_quiet_step ((fail)))); refine wpQuiet_nil ?_; intro _ hw'; obtain ⟨nx, hw''⟩ := hw'; subst hw'')
        replace KK := Lib.hid (KK.out.below (below_grown _ nx))
        replace BB := Lib.hid (BB.out.trans ((below_grown _ nx).mono BB.out.size))
        clear R
        generalize grown _ nx = W7 at *
        have R := KK.out.rules
        simp only [Rules] at R
        go_wp2_with fail
        rw [rounds_succ]
        go_wp2_with fail
        (refine gro.wp_region_grown (by kernel_rfl) (by kernel_rfl) ?_; (repeat (go_big_quiet_step ((fail)))); refine wpQuiet_nil ?_; intro _ hw'; obtain ⟨nx, hw''⟩ := hw'; subst hw'')
        replace KK := Lib.hid (KK.out.below (below_grown _ nx))
        replace BB := Lib.hid (BB.out.trans ((below_grown _ nx).mono BB.out.size))
        clear R
        generalize grown _ nx = W7 at *
        have R := KK.out.rules
        simp only [Rules] at R
        go_wp2_with fail
        (refine gro.wp_region_grown (by kernel_rfl) (by kernel_rfl) ?_; (repeat (go_big_quiet_step ((fail)))); refine wpQuiet_nil ?_; intro _ hw'; obtain ⟨nx, hw''⟩ := hw'; subst hw'')
        replace KK := Lib.hid (KK.out.below (below_grown _ nx))
        replace BB := Lib.hid (BB.out.trans ((below_grown _ nx).mono BB.out.size))
        clear R
        generalize grown _ nx = W7 at *
        have R := KK.out.rules
        simp only [Rules] at R
        go_wp2
        go_ret
        exact ⟨rfl, BB.out⟩
    case neg =>
      have hv := HQ2.out.2.1 rfl h2
      clear HQ2
      obtain ⟨bb, hbb⟩ : ∃ b, decide (l2 < r2) = b := ⟨_, rfl⟩
      rw [hbb] at hv
      subst hv
      have hq : (l2 == r2) = false := by simpa using h2
      have hq2 : decide (l2 = r2) = false := decide_eq_false h2
      go_enter Try.func79, Try.ntmps79
      go_wp2_with fail
      obtain ⟨W0, hW, hs0, K0, B0⟩ := start2 w 71 71 #[Value.int IntKind.u64 l0, Value.int IntKind.u64 l1, Value.int IntKind.u64 l2, Value.int IntKind.u64 l3] #[Value.int IntKind.u64 r0, Value.int IntKind.u64 r1, Value.int IntKind.u64 r2, Value.int IntKind.u64 l3]
      rw [hW]
      clear hW
      have KK := Lib.hid K0
      have BB := Lib.hid B0
      have R := K0.rules
      simp only [Rules] at R
      clear K0 B0 hs0
      refine wp_loop_rounds 2 ?_
      rw [rounds_succ]
      go_wp2_with fail
      (refine gro.wp_region_grown (by kernel_rfl) (by kernel_rfl) ?_; (repeat (go_big_quiet_step ((fail)))); refine wpQuiet_nil ?_; intro _ hw'; obtain ⟨nx, hw''⟩ := hw'; subst hw'')
      replace KK := Lib.hid (KK.out.below (below_grown _ nx))
      replace BB := Lib.hid (BB.out.trans ((below_grown _ nx).mono BB.out.size))
      clear R
      generalize grown _ nx = W7 at *
      have R := KK.out.rules
      simp only [Rules] at R
      go_wp2_with fail
      rw [rounds_succ]
      go_wp2_with fail
      (refine gro.wp_region_grown (by kernel_rfl) (by kernel_rfl) ?_; (repeat (go_big_quiet_step ((fail)))); refine wpQuiet_nil ?_; intro _ hw'; obtain ⟨nx, hw''⟩ := hw'; subst hw'')
      replace KK := Lib.hid (KK.out.below (below_grown _ nx))
      replace BB := Lib.hid (BB.out.trans ((below_grown _ nx).mono BB.out.size))
      clear R
      generalize grown _ nx = W7 at *
      have R := KK.out.rules
      simp only [Rules] at R
      go_wp2_with fail
      (refine gro.wp_region_grown (by kernel_rfl) (by kernel_rfl) ?_; (repeat (go_big_quiet_step ((fail)))); refine wpQuiet_nil ?_; intro _ hw'; obtain ⟨nx, hw''⟩ := hw'; subst hw'')
      replace KK := Lib.hid (KK.out.below (below_grown _ nx))
      replace BB := Lib.hid (BB.out.trans ((below_grown _ nx).mono BB.out.size))
      clear R
      generalize grown _ nx = W7 at *
      have R := KK.out.rules
      simp only [Rules] at R
      go_wp2
      go_ret
      exact ⟨rfl, BB.out⟩
  case neg =>
    have hv := HQ2.out.1 h3
    clear HQ2
    obtain ⟨bb, hbb⟩ : ∃ b, decide (l3 < r3) = b := ⟨_, rfl⟩
    rw [hbb] at hv
    subst hv
    have hq : (l3 == r3) = false := by simpa using h3
    have hq2 : decide (l3 = r3) = false := decide_eq_false h3
    go_enter Try.func79, Try.ntmps79
    go_wp2_with fail
    obtain ⟨W0, hW, hs0, K0, B0⟩ := start2 w 71 71 #[Value.int IntKind.u64 l0, Value.int IntKind.u64 l1, Value.int IntKind.u64 l2, Value.int IntKind.u64 l3] #[Value.int IntKind.u64 r0, Value.int IntKind.u64 r1, Value.int IntKind.u64 r2, Value.int IntKind.u64 r3]
    rw [hW]
    clear hW
    have KK := Lib.hid K0
    have BB := Lib.hid B0
    have R := K0.rules
    simp only [Rules] at R
    clear K0 B0 hs0
    refine wp_loop_rounds 1 ?_
    rw [rounds_succ]
    go_wp2_with fail
    (refine gro.wp_region_grown (by kernel_rfl) (by kernel_rfl) ?_; (repeat (go_big_quiet_step ((fail)))); refine wpQuiet_nil ?_; intro _ hw'; obtain ⟨nx, hw''⟩ := hw'; subst hw'')
    replace KK := Lib.hid (KK.out.below (below_grown _ nx))
    replace BB := Lib.hid (BB.out.trans ((below_grown _ nx).mono BB.out.size))
    clear R
    generalize grown _ nx = W7 at *
    have R := KK.out.rules
    simp only [Rules] at R
    go_wp2_with fail
    (refine gro.wp_region_grown (by kernel_rfl) (by kernel_rfl) ?_; (repeat (go_big_quiet_step ((fail)))); refine wpQuiet_nil ?_; intro _ hw'; obtain ⟨nx, hw''⟩ := hw'; subst hw'')
    replace KK := Lib.hid (KK.out.below (below_grown _ nx))
    replace BB := Lib.hid (BB.out.trans ((below_grown _ nx).mono BB.out.size))
    clear R
    generalize grown _ nx = W7 at *
    have R := KK.out.rules
    simp only [Rules] at R
    go_wp2
    go_ret
    exact ⟨rfl, BB.out⟩
set_option maxHeartbeats 8000000 in
set_option maxRecDepth 100000 in
theorem WithinR_any (a0 a1 a2 a3 a4 a5 k n d : Int) (ha0 : I64 a0) (ha1 : I64 a1) (ha2 : I64 a2) (ha3 : I64 a3) (ha4 : I64 a4) (ha5 : I64 a5) (hk : I64 k) (hn : I64 n) (hd : I64 d) (w : World) :
    Calls Try.prog 53 #[Value.agg #[Value.int IntKind.i64 a0, Value.int IntKind.i64 a1, Value.int IntKind.i64 a2, Value.int IntKind.i64 a3, Value.int IntKind.i64 a4, Value.int IntKind.i64 a5], .int .i64 k, (Value.agg #[Value.int IntKind.i64 (n), Value.int IntKind.i64 ( d)])] w fun x w' => x = .returned (.bool (withB a0 a1 a2 a3 a4 a5 k n d)) ∧ Below w.heap.size w w' := by
  have H1 := Lib.hid (fun W => ValidBR_any a0 a1 a2 a3 a4 a5 ha0 ha1 ha2 ha3 ha4 ha5 W)
  have H2 := Lib.hid (fun W => ValidR_any n d hn hd W)
  by_cases hvb : validB a0 a1 a2 a3 a4 a5 = true
  case neg =>
    have e := by simpa using hvb
    rw [show (withB a0 a1 a2 a3 a4 a5 k n d) = false by unfold withB; rw [e]; rfl]
    rw [e] at H1
    clear e hvb ha0 ha1 ha2 ha3 ha4 ha5 hk hn hd
    go_enter Try.func53, Try.ntmps53
    go_wp2_with fail
    obtain ⟨W0, hW, hs0, K0, B0⟩ := start2 w 36 23 #[Value.int IntKind.i64 a0, Value.int IntKind.i64 a1, Value.int IntKind.i64 a2, Value.int IntKind.i64 a3, Value.int IntKind.i64 a4, Value.int IntKind.i64 a5] #[Value.int IntKind.i64 n, Value.int IntKind.i64 d]
    rw [hW]
    clear hW
    have KK := Lib.hid K0
    have BB := Lib.hid B0
    have sz : w.heap.size + 1 + 1 ≤ W0.heap.size := by omega
    have R := K0.rules
    simp only [Rules] at R
    clear K0 B0 hs0
    (with_reducible refine (H1.out _).mono ?_)
    rintro e wv ⟨rfl, hbv⟩; replace BB := Lib.hid (BB.out.trans (hbv.mono BB.out.size)); replace KK := Lib.hid (KK.out.below hbv); replace R := KK.out.rules; simp only [gro.Rules] at R; clear hbv
    go_wp2
    go_ret
    exact ⟨rfl, BB.out⟩
  rw [hvb] at H1
  by_cases hvq : validQ n d = true
  case neg =>
    have e := by simpa using hvq
    rw [show (withB a0 a1 a2 a3 a4 a5 k n d) = false by unfold withB; rw [hvb, e]; rfl]
    rw [e] at H2
    clear e hvb hvq ha0 ha1 ha2 ha3 ha4 ha5 hk hn hd
    go_enter Try.func53, Try.ntmps53
    go_wp2_with fail
    obtain ⟨W0, hW, hs0, K0, B0⟩ := start2 w 36 23 #[Value.int IntKind.i64 a0, Value.int IntKind.i64 a1, Value.int IntKind.i64 a2, Value.int IntKind.i64 a3, Value.int IntKind.i64 a4, Value.int IntKind.i64 a5] #[Value.int IntKind.i64 n, Value.int IntKind.i64 d]
    rw [hW]
    clear hW
    have KK := Lib.hid K0
    have BB := Lib.hid B0
    have sz : w.heap.size + 1 + 1 ≤ W0.heap.size := by omega
    have R := K0.rules
    simp only [Rules] at R
    clear K0 B0 hs0
    (with_reducible refine (H1.out _).mono ?_)
    rintro e wv ⟨rfl, hbv⟩; replace BB := Lib.hid (BB.out.trans (hbv.mono BB.out.size)); replace KK := Lib.hid (KK.out.below hbv); replace R := KK.out.rules; simp only [gro.Rules] at R; clear hbv
    go_wp2_with fail
    (with_reducible refine (H2.out _).mono ?_)
    rintro e wv ⟨rfl, hbv⟩; replace BB := Lib.hid (BB.out.trans (hbv.mono BB.out.size)); replace KK := Lib.hid (KK.out.below hbv); replace R := KK.out.rules; simp only [gro.Rules] at R; clear hbv
    go_wp2
    go_ret
    exact ⟨rfl, BB.out⟩
  rw [hvq] at H2
  by_cases hk1 : 1 ≤ k
  case neg =>
    rw [show (withB a0 a1 a2 a3 a4 a5 k n d) = false by unfold withB; rw [hvb, hvq, decide_eq_false hk1]; rfl]
    have qk : decide (k < 1) = true := decide_eq_true (by omega)
    clear hk1 hvb hvq ha0 ha1 ha2 ha3 ha4 ha5 hk hn hd
    go_enter Try.func53, Try.ntmps53
    go_wp2_with fail
    obtain ⟨W0, hW, hs0, K0, B0⟩ := start2 w 36 23 #[Value.int IntKind.i64 a0, Value.int IntKind.i64 a1, Value.int IntKind.i64 a2, Value.int IntKind.i64 a3, Value.int IntKind.i64 a4, Value.int IntKind.i64 a5] #[Value.int IntKind.i64 n, Value.int IntKind.i64 d]
    rw [hW]
    clear hW
    have KK := Lib.hid K0
    have BB := Lib.hid B0
    have sz : w.heap.size + 1 + 1 ≤ W0.heap.size := by omega
    have R := K0.rules
    simp only [Rules] at R
    clear K0 B0 hs0
    (with_reducible refine (H1.out _).mono ?_)
    rintro e wv ⟨rfl, hbv⟩; replace BB := Lib.hid (BB.out.trans (hbv.mono BB.out.size)); replace KK := Lib.hid (KK.out.below hbv); replace R := KK.out.rules; simp only [gro.Rules] at R; clear hbv
    go_wp2_with fail
    (with_reducible refine (H2.out _).mono ?_)
    rintro e wv ⟨rfl, hbv⟩; replace BB := Lib.hid (BB.out.trans (hbv.mono BB.out.size)); replace KK := Lib.hid (KK.out.below hbv); replace R := KK.out.rules; simp only [gro.Rules] at R; clear hbv
    go_wp2
    go_ret
    exact ⟨rfl, BB.out⟩
  have qk : decide (k < 1) = false := decide_eq_false (by omega)
  by_cases hn1 : 0 ≤ n
  case neg =>
    rw [show (withB a0 a1 a2 a3 a4 a5 k n d) = false by unfold withB; rw [hvb, hvq, decide_eq_true hk1, decide_eq_false hn1]; rfl]
    have qn : decide (n < 0) = true := decide_eq_true (by omega)
    clear hk1 hn1 hvb hvq ha0 ha1 ha2 ha3 ha4 ha5 hk hn hd
    go_enter Try.func53, Try.ntmps53
    go_wp2_with fail
    obtain ⟨W0, hW, hs0, K0, B0⟩ := start2 w 36 23 #[Value.int IntKind.i64 a0, Value.int IntKind.i64 a1, Value.int IntKind.i64 a2, Value.int IntKind.i64 a3, Value.int IntKind.i64 a4, Value.int IntKind.i64 a5] #[Value.int IntKind.i64 n, Value.int IntKind.i64 d]
    rw [hW]
    clear hW
    have KK := Lib.hid K0
    have BB := Lib.hid B0
    have sz : w.heap.size + 1 + 1 ≤ W0.heap.size := by omega
    have R := K0.rules
    simp only [Rules] at R
    clear K0 B0 hs0
    (with_reducible refine (H1.out _).mono ?_)
    rintro e wv ⟨rfl, hbv⟩; replace BB := Lib.hid (BB.out.trans (hbv.mono BB.out.size)); replace KK := Lib.hid (KK.out.below hbv); replace R := KK.out.rules; simp only [gro.Rules] at R; clear hbv
    go_wp2_with fail
    (with_reducible refine (H2.out _).mono ?_)
    rintro e wv ⟨rfl, hbv⟩; replace BB := Lib.hid (BB.out.trans (hbv.mono BB.out.size)); replace KK := Lib.hid (KK.out.below hbv); replace R := KK.out.rules; simp only [gro.Rules] at R; clear hbv
    go_wp2
    go_ret
    exact ⟨rfl, BB.out⟩
  have qn : decide (n < 0) = false := decide_eq_false (by omega)
  have hB : validQ a0 a1 = true ∧ validQ a2 a3 = true ∧ validQ a4 a5 = true ∧ cmpQ a0 a1 a2 a3 ≤ 0 ∧ cmpQ a2 a3 a4 a5 ≤ 0 := by
    have := hvb
    unfold validB at this
    simp only [Bool.and_eq_true, decide_eq_true_eq] at this
    exact ⟨this.1.1.1.1, this.1.1.1.2, this.1.1.2, this.1.2, this.2⟩
  have hd1 : 1 ≤ a1 := valid_pos hB.1
  have he1 : 1 ≤ a5 := valid_pos hB.2.2.1
  have pd : 1 ≤ d := valid_pos hvq
  have hle : a0 * a5 ≤ a4 * a1 := (cmpQ_le hB.1 hB.2.2.1).1 (cmpQ_trans hB.1 hB.2.1 hB.2.2.1 hB.2.2.2.1 hB.2.2.2.2)
  have bW := wd_bd ha0 ha1 ha4 ha5
  have bR := right_bd ha1 ha5 hn
  have bL := left_bd bW hk hd
  have eL : wdN a0 a1 a4 a5 * k.toNat * d.toNat = wdN a0 a1 a4 a5 * (k * d).natAbs := by
    rw [Int.natAbs_mul, Nat.mul_assoc, show k.natAbs = k.toNat by omega, show d.natAbs = d.toNat by omega]
  have eR : (a1 * a5).natAbs * n.toNat = n.toNat * (a5 * a1).natAbs := by rw [Nat.mul_comm, Int.mul_comm a1 a5]
  have eD : (a1 * a5).natAbs = (a5 * a1).natAbs := by rw [Int.mul_comm]
  have bK : (k * d).natAbs < 340282366920938463463374607431768211456 := by
    rw [Int.natAbs_mul]
    have := Nat.mul_le_mul (show k.natAbs ≤ 9223372036854775808 by unfold I64 at hk; omega) (show d.natAbs ≤ 9223372036854775808 by unfold I64 at hd; omega)
    omega
  have HB : (withB a0 a1 a2 a3 a4 a5 k n d) = decide (wdN a0 a1 a4 a5 * (k * d).natAbs ≤ n.toNat * (a5 * a1).natAbs) := by
    unfold withB
    rw [hvb, hvq, decide_eq_true hk1, decide_eq_true hn1]
    simp only [Bool.and_self, Bool.true_and]
    rw [← eL, ← eR]
    exact decide_eq_decide.2 (with_nat hk1 hn1 pd hd1 he1 hle)
  rw [HB]
  rw [eL] at bL
  rw [eR, eD] at bR
  have HM := Lib.hid (fun W => atMost_any _ _ bL bR.2 W)
  have HT1 := Lib.hid (fun W => timesR_any (wdN a0 a1 a4 a5) (k * d).natAbs (by omega) bK W)
  have HT2 := Lib.hid (fun W => timesR_any n.toNat (a5 * a1).natAbs (by unfold I64 at hn; omega) bR.1 W)
  have HPk := Lib.hid (prod_pos (F := 67) (fun x y a b c d W => ProductR_any x y a b c d W) k d hk hd hk1 pd)
  have HPd := Lib.hid (prod_pos (F := 67) (fun x y a b c d W => ProductR_any x y a b c d W) a5 a1 ha5 ha1 he1 hd1)
  have HO := Lib.hid (fun W => OfR_any n W hn1 (by unfold I64 at hn; omega))
  have HF := wd_facts hd1 he1 hle
  have HS1 := Lib.hid (fun W => Abs_any a4 W ha4.1 ha4.2)
  have HS2 := Lib.hid (fun W => Abs_any a0 W ha0.1 ha0.2)
  have HP1 := Lib.hid (prod_at (F := 67) (fun x y a b c d W => ProductR_any x y a b c d W) a4 a1 ha4 ha1 hd1)
  have HP2 := Lib.hid (prod_at (F := 67) (fun x y a b c d W => ProductR_any x y a b c d W) a0 a5 ha0 ha5 he1)
  have bX : a4.natAbs * a1.natAbs ≤ 85070591730234615865843651857942052864 := Nat.mul_le_mul (show a4.natAbs ≤ 9223372036854775808 by unfold I64 at ha4; omega) (show a1.natAbs ≤ 9223372036854775808 by unfold I64 at ha1; omega)
  have bY : a0.natAbs * a5.natAbs ≤ 85070591730234615865843651857942052864 := Nat.mul_le_mul (show a0.natAbs ≤ 9223372036854775808 by unfold I64 at ha0; omega) (show a5.natAbs ≤ 9223372036854775808 by unfold I64 at ha5; omega)
  have u1 : a1 ≤ 9223372036854775807 := ha1.2
  have u5 : a5 ≤ 9223372036854775807 := ha5.2
  have ud : d ≤ 9223372036854775807 := hd.2
  have uk : k ≤ 9223372036854775807 := hk.2
  have un : n ≤ 9223372036854775807 := hn.2
  clear HB hB hvb hvq hle bW bL bR bK eL eR eD ha0 ha1 ha2 ha3 ha4 ha5 hk hn hd
  generalize decide (wdN a0 a1 a4 a5 * (k * d).natAbs ≤ n.toNat * (a5 * a1).natAbs) = vB at *
  generalize n.toNat * (a5 * a1).natAbs = U at *
  generalize wdN a0 a1 a4 a5 * (k * d).natAbs = V at *
  generalize (a5 * a1).natAbs = D at *
  generalize (k * d).natAbs = kd at *
  generalize n.toNat = nn at *
  generalize wdN a0 a1 a4 a5 = N at *
  generalize a4.natAbs * a1.natAbs = X at *
  generalize a0.natAbs * a5.natAbs = Y at *
  generalize a4.natAbs = an at *
  generalize a0.natAbs = am at *
  have F : Hid (∀ W, (a4 < 0 → Calls Try.prog 73 #[(Value.agg #[Value.int IntKind.u64 (hi (Y)), Value.int IntKind.u64 (lo (Y))]), (Value.agg #[Value.int IntKind.u64 (hi (X)), Value.int IntKind.u64 (lo (X))])] W fun e w' => e = .returned (.tuple #[(Value.agg #[Value.int IntKind.u64 (hi (N)), Value.int IntKind.u64 (lo (N))]), .bool true]) ∧ Below W.heap.size W w') ∧
      (¬ a4 < 0 → a0 < 0 → Calls Try.prog 71 #[(Value.agg #[Value.int IntKind.u64 (hi (X)), Value.int IntKind.u64 (lo (X))]), (Value.agg #[Value.int IntKind.u64 (hi (Y)), Value.int IntKind.u64 (lo (Y))])] W fun e w' => e = .returned (.tuple #[(Value.agg #[Value.int IntKind.u64 (hi (N)), Value.int IntKind.u64 (lo (N))]), .bool true]) ∧ Below W.heap.size W w') ∧
      (¬ a4 < 0 → ¬ a0 < 0 → Calls Try.prog 73 #[(Value.agg #[Value.int IntKind.u64 (hi (X)), Value.int IntKind.u64 (lo (X))]), (Value.agg #[Value.int IntKind.u64 (hi (Y)), Value.int IntKind.u64 (lo (Y))])] W fun e w' => e = .returned (.tuple #[(Value.agg #[Value.int IntKind.u64 (hi (N)), Value.int IntKind.u64 (lo (N))]), .bool true]) ∧ Below W.heap.size W w')) := by
    refine fun W => ⟨fun h => ?_, fun h h2 => ?_, fun h h2 => ?_⟩
    · obtain ⟨e1, e2⟩ := HF.1 h
      rw [e2]; exact SubR_any Y X (by omega) e1 W
    · rw [HF.2.1 h h2]; exact AddR_any X Y (by omega) (by omega) (by omega) W
    · obtain ⟨e1, e2⟩ := HF.2.2 h h2
      rw [e2]; exact SubR_any X Y (by omega) e1 W
  clear HF bX bY
  generalize ((q0 V : Nat) : Int) = l0 at *
  generalize ((q1 V : Nat) : Int) = l1 at *
  generalize ((q2 V : Nat) : Int) = l2 at *
  generalize ((q3 V : Nat) : Int) = l3 at *
  generalize ((q0 U : Nat) : Int) = r0 at *
  generalize ((q1 U : Nat) : Int) = r1 at *
  generalize ((q2 U : Nat) : Int) = r2 at *
  generalize ((q3 U : Nat) : Int) = r3 at *
  go_enter Try.func53, Try.ntmps53
  go_wp2_with fail
  obtain ⟨W0, hW, hs0, K0, B0⟩ := start2 w 36 23 #[Value.int IntKind.i64 a0, Value.int IntKind.i64 a1, Value.int IntKind.i64 a2, Value.int IntKind.i64 a3, Value.int IntKind.i64 a4, Value.int IntKind.i64 a5] #[Value.int IntKind.i64 n, Value.int IntKind.i64 d]
  rw [hW]
  clear hW
  have KK := Lib.hid K0
  have BB := Lib.hid B0
  have sz : w.heap.size + 1 + 1 ≤ W0.heap.size := by omega
  have R := K0.rules
  simp only [Rules] at R
  clear K0 B0 hs0
  (with_reducible refine (H1.out _).mono ?_)
  rintro e u1 ⟨rfl, hb⟩
  replace BB := Lib.hid (BB.out.trans (hb.mono BB.out.size))
  replace KK := Lib.hid (KK.out.below hb)
  replace sz := Nat.le_trans sz hb.size
  replace R := KK.out.rules
  simp only [Rules] at R
  clear hb
  go_wp2_with fail
  (with_reducible refine (H2.out _).mono ?_)
  rintro e u2 ⟨rfl, hb⟩
  replace BB := Lib.hid (BB.out.trans (hb.mono BB.out.size))
  replace KK := Lib.hid (KK.out.below hb)
  replace sz := Nat.le_trans sz hb.size
  replace R := KK.out.rules
  simp only [Rules] at R
  clear hb
  clear H1 H2
  go_wp2_with fail
  go_cut [7, 8] (fun s7 s8 wx => ∃ p q : Nat, s7 = .pointer (some ⟨p, 0, none⟩) ∧ s8 = .pointer (some ⟨q, 0, none⟩) ∧ p ≠ q ∧ w.heap.size + 1 + 1 ≤ p ∧ w.heap.size + 1 + 1 ≤ q ∧ p < wx.heap.size ∧ q < wx.heap.size ∧ Hid (Below w.heap.size w wx) ∧
    Hid (Bx wx [(q, 51, #[Value.int IntKind.u64 (hi Y), Value.int IntKind.u64 (lo Y)]), (p, 51, #[Value.int IntKind.u64 (hi X), Value.int IntKind.u64 (lo X)]), (w.heap.size + 1, 23, #[Value.int IntKind.i64 n, Value.int IntKind.i64 d]), (w.heap.size, 36, #[Value.int IntKind.i64 a0, Value.int IntKind.i64 a1, Value.int IntKind.i64 a2, Value.int IntKind.i64 a3, Value.int IntKind.i64 a4, Value.int IntKind.i64 a5])]))
  case first =>
    (refine gro.wp_region_steady_n 18 4 (by kernel_rfl) (by kernel_rfl) (by intro _ _ _ _ _ h; exact h) (by kernel_rfl) (by kernel_rfl) (by kernel_rfl) ?_; apply Exists.intro; refine ⟨fun w0 hb0 => ?_, ?_⟩; focus (have KZ := (KK.out).below hb0; have RZ := KZ.rules; simp only [gro.Rules] at RZ; simp only [List.take_succ_cons, List.take_zero]; (repeat (go_big_quiet_step ((first | (go_at_call 59; first | (with_reducible exact call_same (HS1.out _)) | (with_reducible exact call_same (HS2.out _))) | (go_at_call 67; first | (with_reducible exact call_grown (HP1.out _)) | (with_reducible exact call_grown (HP2.out _))))))); exact wpQuiet_nil rfl))
    have hBn : w.heap.size + 1 + 1 ≤ u2.drew.heap.size := sz
    refine gro.anyG_two 18 19 (by kernel_rfl) rfl rfl ?_ ?_
    · intro y1 hz1 K' hK'
      have KY1 := (KK.out).drew.below hz1
      have BY1 := hz1
      go_simp
      refine hK' _ _ ⟨BY1.alloc BY1.size _, ?_⟩
      clear hK' K'
      obtain ⟨p, hp⟩ : ∃ p, y1.heap.size = p := ⟨_, rfl⟩
      have KY2 := KY1.new (t := 51) (c := #[Value.int IntKind.u64 0, Value.int IntKind.u64 0]) hp
      have BY2 := BY1.alloc BY1.size (.cells #[Value.int IntKind.u64 0, Value.int IntKind.u64 0] 51)
      have sY2 : (y1.alloc (.cells #[Value.int IntKind.u64 0, Value.int IntKind.u64 0] 51)).heap.size = p + 1 := by simp [hp]
      have hlp := hz1.size
      rw [hp] at hlp ⊢
      have hmp := hlp
      try simp at hmp
      generalize y1.alloc (.cells #[Value.int IntKind.u64 0, Value.int IntKind.u64 0] 51) = y2 at *
      refine gro.anyG_one 19 (by kernel_rfl) rfl ?_
      intro y3 hz3 K' hK'
      have KY3 := KY2.below hz3
      have BY3 := BY2.trans (hz3.mono BY2.size)
      go_simp
      refine hK' _ _ ⟨BY3.alloc BY3.size _, ?_⟩
      clear hK' K'
      obtain ⟨q, hq⟩ : ∃ q, y3.heap.size = q := ⟨_, rfl⟩
      have hlq := hz3.size
      rw [sY2, hq] at hlq
      rw [hq]
      have KY4 := KY3.new (t := 51) (c := #[Value.int IntKind.u64 0, Value.int IntKind.u64 0]) hq
      have BY4 := BY3.alloc BY3.size (.cells #[Value.int IntKind.u64 0, Value.int IntKind.u64 0] 51)
      have sY4 : (y3.alloc (.cells #[Value.int IntKind.u64 0, Value.int IntKind.u64 0] 51)).heap.size = q + 1 := by simp [hq]
      generalize y3.alloc (.cells #[Value.int IntKind.u64 0, Value.int IntKind.u64 0] 51) = y4 at *
      replace KY4 := KY4.swap
      clear hz1 hz3 KY1 KY2 KY3 BY1 BY2 BY3
      refine gro.anyG_one 20 (by kernel_rfl) rfl ?_
      intro y5 hz5 K' hK'
      have KY5 := KY4.below hz5
      have BY5 := BY4.trans (hz5.mono BY4.size)
      have sY5 := hz5.size
      have RY := KY5.rules
      simp only [gro.Rules] at RY
      go_simp
      refine hK' _ _ ⟨(BY5.setCell (by first | (simp; done) | (simp; omega)) _).setCell (by first | (simp; done) | (simp; omega)) _, ?_⟩
      clear hK' K' RY
      obtain ⟨y6, hy6, KY6, BY6, sY6⟩ := gro.name_world (gro.Bx.put2 (u := .int .u64 (hi X)) (v := .int .u64 (lo X)) KY5 (by first | (simp; done) | (simp; omega))).swap ((BY5.setCell (by first | (simp; done) | (simp; omega)) _).setCell (by first | (simp; done) | (simp; omega)) _) (s := q + 1) (by simp only [gro.set2_size]; omega)
      rw [hy6]
      clear hy6
      refine gro.anyG_one 21 (by kernel_rfl) rfl ?_
      intro y7 hz7 K' hK'
      have KY7 := KY6.below hz7
      have BY7 := BY6.trans (hz7.mono BY6.size)
      have sY7 := hz7.size
      have RY := KY7.rules
      simp only [gro.Rules] at RY
      go_simp
      refine hK' _ _ ⟨(BY7.setCell (by first | (simp; done) | (simp; omega)) _).setCell (by first | (simp; done) | (simp; omega)) _, ?_⟩
      clear hK' K' RY
      obtain ⟨y8, hy8, KY8, BY8, sY8⟩ := gro.name_world (gro.Bx.put2 (u := .int .u64 (hi Y)) (v := .int .u64 (lo Y)) KY7 (by first | (simp; done) | (simp; omega))) ((BY7.setCell (by first | (simp; done) | (simp; omega)) _).setCell (by first | (simp; done) | (simp; omega)) _) (s := q + 1) (by simp only [gro.set2_size]; omega)
      rw [hy8]
      clear hy8
      refine gro.anyG_done (by kernel_rfl) ?_
      intro y9 hz9
      have KP := KY8.below hz9
      have BP := (BB.out).drew.trans ((BY8.trans (hz9.mono BY8.size)).mono (BB.out).size)
      have sP := hz9.size
      clear KY4 BY4 KY5 BY5 KY6 BY6 KY7 BY7 KY8 BY8 hz5 hz7 hz9
      go_wp2_with fail; go_meet; case rel => exact ⟨p, q, rfl, rfl, by omega, by omega, by omega, by omega, by omega, BP, KP⟩
    · intro y1 hz1 K' hK'
      have KY1 := (KK.out).drew.below hz1
      have BY1 := hz1
      go_simp
      refine hK' _ _ ⟨BY1.alloc BY1.size _, ?_⟩
      clear hK' K'
      obtain ⟨q, hq⟩ : ∃ q, y1.heap.size = q := ⟨_, rfl⟩
      have KY2 := KY1.new (t := 51) (c := #[Value.int IntKind.u64 0, Value.int IntKind.u64 0]) hq
      have BY2 := BY1.alloc BY1.size (.cells #[Value.int IntKind.u64 0, Value.int IntKind.u64 0] 51)
      have sY2 : (y1.alloc (.cells #[Value.int IntKind.u64 0, Value.int IntKind.u64 0] 51)).heap.size = q + 1 := by simp [hq]
      have hlq := hz1.size
      rw [hq] at hlq ⊢
      have hmq := hlq
      try simp at hmq
      generalize y1.alloc (.cells #[Value.int IntKind.u64 0, Value.int IntKind.u64 0] 51) = y2 at *
      refine gro.anyG_one 18 (by kernel_rfl) rfl ?_
      intro y3 hz3 K' hK'
      have KY3 := KY2.below hz3
      have BY3 := BY2.trans (hz3.mono BY2.size)
      go_simp
      refine hK' _ _ ⟨BY3.alloc BY3.size _, ?_⟩
      clear hK' K'
      obtain ⟨p, hp⟩ : ∃ p, y3.heap.size = p := ⟨_, rfl⟩
      have hlp := hz3.size
      rw [sY2, hp] at hlp
      rw [hp]
      have KY4 := KY3.new (t := 51) (c := #[Value.int IntKind.u64 0, Value.int IntKind.u64 0]) hp
      have BY4 := BY3.alloc BY3.size (.cells #[Value.int IntKind.u64 0, Value.int IntKind.u64 0] 51)
      have sY4 : (y3.alloc (.cells #[Value.int IntKind.u64 0, Value.int IntKind.u64 0] 51)).heap.size = p + 1 := by simp [hp]
      generalize y3.alloc (.cells #[Value.int IntKind.u64 0, Value.int IntKind.u64 0] 51) = y4 at *
      clear hz1 hz3 KY1 KY2 KY3 BY1 BY2 BY3
      refine gro.anyG_one 20 (by kernel_rfl) rfl ?_
      intro y5 hz5 K' hK'
      have KY5 := KY4.below hz5
      have BY5 := BY4.trans (hz5.mono BY4.size)
      have sY5 := hz5.size
      have RY := KY5.rules
      simp only [gro.Rules] at RY
      go_simp
      refine hK' _ _ ⟨(BY5.setCell (by first | (simp; done) | (simp; omega)) _).setCell (by first | (simp; done) | (simp; omega)) _, ?_⟩
      clear hK' K' RY
      obtain ⟨y6, hy6, KY6, BY6, sY6⟩ := gro.name_world (gro.Bx.put2 (u := .int .u64 (hi X)) (v := .int .u64 (lo X)) KY5 (by first | (simp; done) | (simp; omega))).swap ((BY5.setCell (by first | (simp; done) | (simp; omega)) _).setCell (by first | (simp; done) | (simp; omega)) _) (s := p + 1) (by simp only [gro.set2_size]; omega)
      rw [hy6]
      clear hy6
      refine gro.anyG_one 21 (by kernel_rfl) rfl ?_
      intro y7 hz7 K' hK'
      have KY7 := KY6.below hz7
      have BY7 := BY6.trans (hz7.mono BY6.size)
      have sY7 := hz7.size
      have RY := KY7.rules
      simp only [gro.Rules] at RY
      go_simp
      refine hK' _ _ ⟨(BY7.setCell (by first | (simp; done) | (simp; omega)) _).setCell (by first | (simp; done) | (simp; omega)) _, ?_⟩
      clear hK' K' RY
      obtain ⟨y8, hy8, KY8, BY8, sY8⟩ := gro.name_world (gro.Bx.put2 (u := .int .u64 (hi Y)) (v := .int .u64 (lo Y)) KY7 (by first | (simp; done) | (simp; omega))) ((BY7.setCell (by first | (simp; done) | (simp; omega)) _).setCell (by first | (simp; done) | (simp; omega)) _) (s := p + 1) (by simp only [gro.set2_size]; omega)
      rw [hy8]
      clear hy8
      refine gro.anyG_done (by kernel_rfl) ?_
      intro y9 hz9
      have KP := KY8.below hz9
      have BP := (BB.out).drew.trans ((BY8.trans (hz9.mono BY8.size)).mono (BB.out).size)
      have sP := hz9.size
      clear KY4 BY4 KY5 BY5 KY6 BY6 KY7 BY7 KY8 BY8 hz5 hz7 hz9
      go_wp2_with fail; go_meet; case rel => exact ⟨p, q, rfl, rfl, by omega, by omega, by omega, by omega, by omega, BP, KP⟩
  case rest =>
    obtain ⟨p, q, rfl, rfl, hpq, hp, hq, hpl, hql, HBc, HKc⟩ := hcut
    clear R sz KK BB HS1 HS2 HP1 HP2
    obtain ⟨s5, hs5⟩ : ∃ s5, wc.heap.size = s5 := ⟨_, rfl⟩
    have KK := Lib.hid (HKc.out.new (t := 51) (c := #[Value.int IntKind.u64 0, Value.int IntKind.u64 0]) hs5)
    have BB := Lib.hid (HBc.out.alloc HBc.out.size (.cells #[Value.int IntKind.u64 0, Value.int IntKind.u64 0] 51))
    have R := KK.out.rules
    simp only [Rules] at R
    rw [hs5] at hpl hql
    clear HKc HBc
    by_cases c0n : a4 < 0
    case pos =>
      have HA : Hid (∀ W, Calls Try.prog 73 #[(Value.agg #[Value.int IntKind.u64 (hi (Y)), Value.int IntKind.u64 (lo (Y))]), (Value.agg #[Value.int IntKind.u64 (hi (X)), Value.int IntKind.u64 (lo (X))])] W fun e w' => e = .returned (.tuple #[(Value.agg #[Value.int IntKind.u64 (hi (N)), Value.int IntKind.u64 (lo (N))]), .bool true]) ∧ Below W.heap.size W w') := fun W => (F.out W).1 (by omega)
      have g1 : decide (0 ≤ a4) = false := decide_eq_false (by omega)
      clear F
      go_wp2_with fail
      (with_reducible refine (HA.out _).mono ?_)
      rintro e wv ⟨rfl, hbv⟩; replace BB := Lib.hid (BB.out.trans (hbv.mono BB.out.size)); replace KK := Lib.hid (KK.out.below hbv); replace R := KK.out.rules; simp only [gro.Rules] at R; clear hbv
      clear HA
      go_wp2_with fail
      obtain ⟨W6, hW, K6, B6, z6⟩ := name_world (gro.Bx.put2 (u := .int .u64 (hi N)) (v := .int .u64 (lo N)) KK.out (by simp; omega)) ((BB.out.setCell (by simp; omega) _).setCell (by simp; omega) _) (s := 0) (by omega)
      rw [hW]
      clear hW KK BB R
      have KK := Lib.hid K6
      have BB := Lib.hid B6
      have R := K6.rules
      simp only [Rules] at R
      clear K6 B6 z6
      (refine gro.wp_region_grown (by kernel_rfl) (by kernel_rfl) ?_; (repeat (go_big_quiet_step ((first | (go_at_call 67; first | (with_reducible exact call_grown (HPk.out _)) | (with_reducible exact call_grown (HPd.out _))) | (go_at_call 80; first | (with_reducible exact call_grown (HT1.out _)) | (with_reducible exact call_grown (HT2.out _))) | (go_at_call 58; exact call_grown (HO.out _)) | (go_at_call 79; exact call_grown (HM.out _)))))); refine wpQuiet_nil ?_; intro _ hw'; obtain ⟨nx, hw''⟩ := hw'; subst hw'')
      replace BB := Lib.hid (BB.out.trans ((below_grown _ nx).mono BB.out.size))
      clear R KK
      go_wp2
      go_ret
      exact ⟨rfl, BB.out⟩
    by_cases c1n : a0 < 0
    case pos =>
      have HA : Hid (∀ W, Calls Try.prog 71 #[(Value.agg #[Value.int IntKind.u64 (hi (X)), Value.int IntKind.u64 (lo (X))]), (Value.agg #[Value.int IntKind.u64 (hi (Y)), Value.int IntKind.u64 (lo (Y))])] W fun e w' => e = .returned (.tuple #[(Value.agg #[Value.int IntKind.u64 (hi (N)), Value.int IntKind.u64 (lo (N))]), .bool true]) ∧ Below W.heap.size W w') := fun W => (F.out W).2.1 (by omega) (by omega)
      have g1 : decide (0 ≤ a4) = true := decide_eq_true (by omega)
      have g2 : decide (0 ≤ a0) = false := decide_eq_false (by omega)
      clear F
      go_wp2_with fail
      (with_reducible refine (HA.out _).mono ?_)
      rintro e wv ⟨rfl, hbv⟩; replace BB := Lib.hid (BB.out.trans (hbv.mono BB.out.size)); replace KK := Lib.hid (KK.out.below hbv); replace R := KK.out.rules; simp only [gro.Rules] at R; clear hbv
      clear HA
      go_wp2_with fail
      obtain ⟨W6, hW, K6, B6, z6⟩ := name_world (gro.Bx.put2 (u := .int .u64 (hi N)) (v := .int .u64 (lo N)) KK.out (by simp; omega)) ((BB.out.setCell (by simp; omega) _).setCell (by simp; omega) _) (s := 0) (by omega)
      rw [hW]
      clear hW KK BB R
      have KK := Lib.hid K6
      have BB := Lib.hid B6
      have R := K6.rules
      simp only [Rules] at R
      clear K6 B6 z6
      (refine gro.wp_region_grown (by kernel_rfl) (by kernel_rfl) ?_; (repeat (go_big_quiet_step ((first | (go_at_call 67; first | (with_reducible exact call_grown (HPk.out _)) | (with_reducible exact call_grown (HPd.out _))) | (go_at_call 80; first | (with_reducible exact call_grown (HT1.out _)) | (with_reducible exact call_grown (HT2.out _))) | (go_at_call 58; exact call_grown (HO.out _)) | (go_at_call 79; exact call_grown (HM.out _)))))); refine wpQuiet_nil ?_; intro _ hw'; obtain ⟨nx, hw''⟩ := hw'; subst hw'')
      replace BB := Lib.hid (BB.out.trans ((below_grown _ nx).mono BB.out.size))
      clear R KK
      go_wp2
      go_ret
      exact ⟨rfl, BB.out⟩
    have HA : Hid (∀ W, Calls Try.prog 73 #[(Value.agg #[Value.int IntKind.u64 (hi (X)), Value.int IntKind.u64 (lo (X))]), (Value.agg #[Value.int IntKind.u64 (hi (Y)), Value.int IntKind.u64 (lo (Y))])] W fun e w' => e = .returned (.tuple #[(Value.agg #[Value.int IntKind.u64 (hi (N)), Value.int IntKind.u64 (lo (N))]), .bool true]) ∧ Below W.heap.size W w') := fun W => (F.out W).2.2 (by omega) (by omega)
    have g1 : decide (0 ≤ a4) = true := decide_eq_true (by omega)
    have g2 : decide (0 ≤ a0) = true := decide_eq_true (by omega)
    clear F
    go_wp2_with fail
    (with_reducible refine (HA.out _).mono ?_)
    rintro e wv ⟨rfl, hbv⟩; replace BB := Lib.hid (BB.out.trans (hbv.mono BB.out.size)); replace KK := Lib.hid (KK.out.below hbv); replace R := KK.out.rules; simp only [gro.Rules] at R; clear hbv
    clear HA
    go_wp2_with fail
    obtain ⟨W6, hW, K6, B6, z6⟩ := name_world (gro.Bx.put2 (u := .int .u64 (hi N)) (v := .int .u64 (lo N)) KK.out (by simp; omega)) ((BB.out.setCell (by simp; omega) _).setCell (by simp; omega) _) (s := 0) (by omega)
    rw [hW]
    clear hW KK BB R
    have KK := Lib.hid K6
    have BB := Lib.hid B6
    have R := K6.rules
    simp only [Rules] at R
    clear K6 B6 z6
    (refine gro.wp_region_grown (by kernel_rfl) (by kernel_rfl) ?_; (repeat (go_big_quiet_step ((first | (go_at_call 67; first | (with_reducible exact call_grown (HPk.out _)) | (with_reducible exact call_grown (HPd.out _))) | (go_at_call 80; first | (with_reducible exact call_grown (HT1.out _)) | (with_reducible exact call_grown (HT2.out _))) | (go_at_call 58; exact call_grown (HO.out _)) | (go_at_call 79; exact call_grown (HM.out _)))))); refine wpQuiet_nil ?_; intro _ hw'; obtain ⟨nx, hw''⟩ := hw'; subst hw'')
    replace BB := Lib.hid (BB.out.trans ((below_grown _ nx).mono BB.out.size))
    clear R KK
    go_wp2
    go_ret
    exact ⟨rfl, BB.out⟩
end Go.Proofs.Ytoejhikcnnppnaa.wid
