/- RQu: proved here in one text, no conditions beyond those that each theorem states. -/
import Derived.Deep.DeepCutAuto
import Derived.Deep.CutBlock
import Derived.Test.YtjapjfcennemeaaGreatZ27
import Derived.Test.YtjapjfcennemeaaGreatZ23
import Derived.Test.YtjapjfcennemeaaGreatZ41
import Derived.Test.YtjapjfcennemeaaGreatZ39
import Derived.Test.YtjapjfcennemeaaGreatZ38
set_option linter.unusedVariables false
set_option linter.unusedSimpArgs false
namespace Go.Proofs.YtjapjfcennemeaaGreat.rnk
open Go.RowKit Go.Proofs.YtjapjfcennemeaaGreat.mem Go.Proofs.YtjapjfcennemeaaGreat.gro
open Go.Proofs.YtjapjfcennemeaaGreat.wid (hi lo)
set_option linter.unusedVariables false
set_option linter.unusedSimpArgs false
set_option pp.maxSteps 200000
theorem quaV_2 {N : Int} {es : L3} {p q : Int} (h : valR N es = false) : quaV N es p q = (0, 2) := by unfold quaV; rw [if_neg (by rw [h]; exact Bool.false_ne_true)]
theorem quaV_1 {N : Int} {es : L3} {p q : Int} (h : valR N es = true) (h2 : ¬ asksQ p q) : quaV N es p q = (0, 1) := by unfold quaV; rw [if_pos h, if_neg h2]
theorem quaV_7 {N : Int} {es : L3} {p q : Int} (h : valR N es = true) (h2 : asksQ p q) (h3 : N = 0) : quaV N es p q = (0, 7) := by unfold quaV; rw [if_pos h, if_pos h2, if_pos h3]
theorem quaV_0 {N : Int} {es : L3} {p q : Int} (h : valR N es = true) (h2 : asksQ p q) (h3 : ¬ N = 0) : quaV N es p q = ((at3 es (place es (tgtQ p q N) 0)).1, 0) := by unfold quaV; rw [if_pos h, if_pos h2, if_neg h3]
theorem u64_in {x : Int} (h0 : 0 ≤ x) (h1 : x ≤ 18446744073709551615) : IntKind.u64.wrap x = x := by rw [IntKind.wrap_u64]; omega
set_option maxHeartbeats 8000000 in
set_option maxRecDepth 100000 in
theorem Quantile_any (N : Int) (A : Option Addr) (n c : Nat) (es : L3) (p q : Int) (w : World) (h1 : ERead w w.heap.size A n es) (hs : n ≤ 16777216) (hp64 : p ≤ 9223372036854775807) (hq64 : q ≤ 9223372036854775807) : Calls Tryz.prog 26 #[.agg #[.int .i64 N, .slice A n c], .int .i64 p, .int .i64 q] w fun e w' => e = .returned (.tuple #[.int .i64 (quaV N es p q).1, .int .i64 (quaV N es p q).2]) ∧ Below w.heap.size w w' := by
  have H1 := Lib.hid h1
  have HL := Lib.hid h1.len
  have HV := Lib.hid (fun W (hb : Below w.heap.size w W) => Validate_any N A n c es W ((h1.below hb).more hb.size) (by omega))
  clear h1
  rcases Bool.eq_false_or_eq_true (valR N es) with hv | hv
  case inr =>
    rw [quaV_2 hv]
    rw [hv, erS_f] at HV
    go_enter Tryz.func26, Tryz.ntmps26
    go_wp2_with fail
    obtain ⟨W0, hW, hs0, K0, B0⟩ := start1 w 39 #[Value.int IntKind.i64 N, Value.slice A n c]
    rw [hW]
    clear hW
    have KK := Lib.hid K0
    have BB := Lib.hid B0
    have R := K0.rules
    simp only [Rules] at R
    clear K0 B0 hs0
    (with_reducible refine (HV.out _ BB.out).mono ?_)
    rintro e wv ⟨rfl, hbv⟩; replace BB := Lib.hid (BB.out.trans (hbv.mono BB.out.size)); replace KK := Lib.hid (KK.out.below hbv); replace R := KK.out.rules; simp only [gro.Rules] at R; clear hbv
    go_wp2
    refine bodyPost_ret (v := Value.tuple #[.int .i64 0, .int .i64 2]) (by simp [results, Tryz.results26, go_sem]) rfl ⟨rfl, BB.out⟩
  have hN := (valR_iff.1 hv).1
  rw [HL.out] at hN
  have HBd := Lib.hid (bnds_of_val HL.out hv)
  by_cases ha : asksQ p q
  case neg =>
    rw [quaV_1 hv ha]
    rw [hv, erS_t] at HV
    have hno : q < 1 ∨ p < 0 ∨ q < p := by unfold asksQ at ha; omega
    clear hv ha HBd
    rcases hno with hc | hc | hc
    all_goals
      go_enter Tryz.func26, Tryz.ntmps26
      go_wp2_with fail
      obtain ⟨W0, hW, hs0, K0, B0⟩ := start1 w 39 #[Value.int IntKind.i64 N, Value.slice A n c]
      rw [hW]
      clear hW
      have KK := Lib.hid K0
      have BB := Lib.hid B0
      have R := K0.rules
      simp only [Rules] at R
      clear K0 B0 hs0
      (with_reducible refine (HV.out _ BB.out).mono ?_)
      rintro e wv ⟨rfl, hbv⟩; replace BB := Lib.hid (BB.out.trans (hbv.mono BB.out.size)); replace KK := Lib.hid (KK.out.below hbv); replace R := KK.out.rules; simp only [gro.Rules] at R; clear hbv
      go_wp2
      all_goals first
        | (exfalso; omega)
        | (refine bodyPost_ret (v := Value.tuple #[.int .i64 0, .int .i64 1]) (by simp [results, Tryz.results26, go_sem]) rfl ⟨rfl, BB.out⟩)
  have hA1 : ¬ q < 1 := by have := ha.1; omega
  have hA2 : ¬ p < 0 := by have := ha.2.1; omega
  have hA3 : ¬ q < p := by have := ha.2.2; omega
  by_cases hN0 : N = 0
  case pos =>
    rw [quaV_7 hv ha hN0]
    rw [hv, erS_t] at HV
    subst hN0
    clear hv ha HBd
    go_enter Tryz.func26, Tryz.ntmps26
    go_wp2_with fail
    obtain ⟨W0, hW, hs0, K0, B0⟩ := start1 w 39 #[Value.int IntKind.i64 0, Value.slice A n c]
    rw [hW]
    clear hW
    have KK := Lib.hid K0
    have BB := Lib.hid B0
    have R := K0.rules
    simp only [Rules] at R
    clear K0 B0 hs0
    (with_reducible refine (HV.out _ BB.out).mono ?_)
    rintro e wv ⟨rfl, hbv⟩; replace BB := Lib.hid (BB.out.trans (hbv.mono BB.out.size)); replace KK := Lib.hid (KK.out.below hbv); replace R := KK.out.rules; simp only [gro.Rules] at R; clear hbv
    go_wp2
    refine bodyPost_ret (v := Value.tuple #[.int .i64 0, .int .i64 7]) (by simp [results, Tryz.results26, go_sem]) rfl ⟨rfl, BB.out⟩
  rw [quaV_0 hv ha hN0]
  have hn0 : 0 < n := by omega
  have hN1 : 1 ≤ N := by omega
  have hTd := tgtQ_div ha (show 0 ≤ N by omega)
  have hTb := quo_le ha (show 0 ≤ N by omega)
  have hT := tgtQ_bd ha hN1
  have hTe : tgtQ p q N = max 1 ((p * N + q - 1) / q) := rfl
  rw [← hTd] at hTe hTb
  have hPl := place_lt (es := es) (n := tgtQ p q N) (s := 0) (by rw [HL.out]; exact hn0)
  rw [HL.out] at hPl
  have HCl := Lib.hid (fun W (hb : Below w.heap.size w W) => place_any A n c es (tgtQ p q N) 0 W ((H1.out.below hb).more hb.size) (by omega) hn0 (by omega) HBd.out)
  simp only [show ((0 : Nat) : Int) = 0 from rfl] at HCl
  have hP := Lib.hid (fun W => wid.Product_any p N (by omega) (by omega) (by omega) (by omega) W)
  have hO := Lib.hid (fun W => wid.Of_any q W (by omega) (by omega))
  have hD := Lib.hid (fun W => wid.Div_any (p.toNat * N.toNat) q.toNat W (prod_lt ⟨by omega, by omega⟩ ⟨by omega, by omega⟩) (by omega))
  have hq0 : q.toNat ≠ 0 := by omega
  rw [show wid.divq (p.toNat * N.toNat) q.toNat = p.toNat * N.toNat / q.toNat from if_neg hq0, show wid.divr (p.toNat * N.toNat) q.toNat = p.toNat * N.toNat % q.toNat from if_neg hq0, decide_eq_true hq0] at hD
  have e1 : IntKind.u64.wrap p = p := u64_in (by omega) (by omega)
  have e2 : IntKind.u64.wrap N = N := u64_in (by omega) (by omega)
  have e3 : IntKind.u64.wrap q = q := u64_in (by omega) (by omega)
  generalize p.toNat * N.toNat / q.toNat = Q at *
  generalize p.toNat * N.toNat % q.toNat = M at *
  generalize p.toNat * N.toNat = PN at *
  generalize q.toNat = qn at *
  clear hTd ha hq0 HBd
  have hQ : (Q : Int) ≤ 1099511627776 := by split at hTb <;> omega
  rw [wid.hi_small (n := Q) (by omega), wid.lo_small (n := Q) (by omega)] at hD
  generalize tgtQ p q N = T at *
  generalize place es T 0 = pl at *
  obtain ⟨_, hpl⟩ := hPl
  rw [hv, erS_t] at HV
  clear hv hTb
  obtain ⟨ad, rfl, hbl, HC⟩ := ERead.cells H1.out hpl
  generalize hxv : (at3 es pl).1 = xv at *
  clear hxv
  have HX := Lib.hid (fun W hb => (HC.out W hb).1)
  clear HC
  by_cases hM : M = 0
  case pos =>
    rw [if_pos hM] at hTe
    subst hM
    rw [wid.hi_zero, wid.lo_zero] at hD
    have s5 : IntKind.i64.wrap (Q : Int) = (Q : Int) := IntWalk.i64_in _ (by omega)
    go_enter Tryz.func26, Tryz.ntmps26
    go_wp2_with fail
    obtain ⟨W0, hW, hs0, K0, B0⟩ := start1 w 39 #[Value.int IntKind.i64 N, Value.slice (some ad) n c]
    rw [hW]
    clear hW
    have KK := Lib.hid K0
    have BB := Lib.hid B0
    have R := K0.rules
    simp only [Rules] at R
    clear K0 B0 hs0
    (with_reducible refine (HV.out _ BB.out).mono ?_)
    rintro e wv ⟨rfl, hbv⟩; replace BB := Lib.hid (BB.out.trans (hbv.mono BB.out.size)); replace KK := Lib.hid (KK.out.below hbv); replace R := KK.out.rules; simp only [gro.Rules] at R; clear hbv
    go_wp2_with fail
    (with_reducible refine (hP.out _).mono ?_)
    rintro e wv ⟨rfl, hbv⟩; replace BB := Lib.hid (BB.out.trans (hbv.mono BB.out.size)); replace KK := Lib.hid (KK.out.below hbv); replace R := KK.out.rules; simp only [gro.Rules] at R; clear hbv
    go_wp2_with fail
    (with_reducible refine (hO.out _).mono ?_)
    rintro e wv ⟨rfl, hbv⟩; replace BB := Lib.hid (BB.out.trans (hbv.mono BB.out.size)); replace KK := Lib.hid (KK.out.below hbv); replace R := KK.out.rules; simp only [gro.Rules] at R; clear hbv
    go_wp2_with fail
    (with_reducible refine (hD.out _).mono ?_)
    rintro e wv ⟨rfl, hbv⟩; replace BB := Lib.hid (BB.out.trans (hbv.mono BB.out.size)); replace KK := Lib.hid (KK.out.below hbv); replace R := KK.out.rules; simp only [gro.Rules] at R; clear hbv
    obtain ⟨g, hg⟩ : ∃ s, wv.heap.size = s := ⟨_, rfl⟩
    have hwg : w.heap.size < g := by have := (KK.out _ (List.mem_cons_self ..)).lt; omega
    go_upto_region 9 with fail
    have KP := (KK.out.new (t := 84) (c := #[Value.int IntKind.u64 0, Value.int IntKind.u64 (Q : Int)]) hg).new (t := 84) (c := #[Value.int IntKind.u64 0, Value.int IntKind.u64 0]) (g := g + 1) (by simp [hg])
    have BP := (BB.out.alloc BB.out.size (.cells #[Value.int IntKind.u64 0, Value.int IntKind.u64 (Q : Int)] 84)).alloc (by have := BB.out.size; simp; omega) (.cells #[Value.int IntKind.u64 0, Value.int IntKind.u64 0] 84)
    replace KK := Lib.hid KP
    replace BB := Lib.hid BP
    clear KP BP R hg
    generalize (wv.alloc (.cells #[Value.int IntKind.u64 0, Value.int IntKind.u64 (Q : Int)] 84)).alloc (.cells #[Value.int IntKind.u64 0, Value.int IntKind.u64 0] 84) = W2 at *
    have R := KK.out.rules
    simp only [Rules] at R
    have hcx := HX.out _ BB.out
    by_cases hc : (1 : Int) < (Q : Int)
    case pos =>
      subst hTe
      go_wp2_with fail
      (refine gro.wp_region_grown (by kernel_rfl) (by kernel_rfl) ?_; (repeat (go_big_quiet_step (((go_at_call 57; exact call_grown (HCl.out _ (BB.out.trans ((below_grown _ _).mono BB.out.size)))))))); refine wpQuiet_nil ?_; intro _ hw'; obtain ⟨nx, hw''⟩ := hw'; subst hw'')
      replace BB := Lib.hid (BB.out.trans ((below_grown _ nx).mono BB.out.size))
      clear R hcx KK HCl HX HV H1 HL hP hO hD
      generalize grown _ nx = W5 at *
      go_wp2
      refine bodyPost_ret (v := Value.tuple #[.int .i64 xv, .int .i64 0]) (by simp [results, Tryz.results26, go_sem]) rfl ⟨rfl, BB.out⟩
    subst hTe
    go_wp2_with fail
    (refine gro.wp_region_grown (by kernel_rfl) (by kernel_rfl) ?_; (repeat (go_big_quiet_step (((go_at_call 57; exact call_grown (HCl.out _ (BB.out.trans ((below_grown _ _).mono BB.out.size)))))))); refine wpQuiet_nil ?_; intro _ hw'; obtain ⟨nx, hw''⟩ := hw'; subst hw'')
    replace BB := Lib.hid (BB.out.trans ((below_grown _ nx).mono BB.out.size))
    clear R hcx KK HCl HX HV H1 HL hP hO hD
    generalize grown _ nx = W5 at *
    go_wp2
    refine bodyPost_ret (v := Value.tuple #[.int .i64 xv, .int .i64 0]) (by simp [results, Tryz.results26, go_sem]) rfl ⟨rfl, BB.out⟩
  rw [if_neg hM] at hTe
  have hne : ∀ W, (binOp .neq 84 (Value.agg #[Value.int IntKind.u64 (hi (M)), Value.int IntKind.u64 (lo (M))]) (Value.agg #[Value.int IntKind.u64 0, Value.int IntKind.u64 0])).run Tryz.prog W = .ok (.bool true) W := fun W => by
    have := wid.wide_neq M 0 W
    rwa [decide_eq_false hM] at this
  generalize wid.hi M = mh at *
  generalize wid.lo M = ml at *
  have s5 : IntKind.i64.wrap ((Q : Int) + 1) = (Q : Int) + 1 := IntWalk.i64_in _ (by omega)
  have s8 : IntKind.u64.wrap ((Q : Int) + 1) = (Q : Int) + 1 := u64_in (by omega) (by omega)
  go_enter Tryz.func26, Tryz.ntmps26
  go_wp2_with fail
  obtain ⟨W0, hW, hs0, K0, B0⟩ := start1 w 39 #[Value.int IntKind.i64 N, Value.slice (some ad) n c]
  rw [hW]
  clear hW
  have KK := Lib.hid K0
  have BB := Lib.hid B0
  have R := K0.rules
  simp only [Rules] at R
  clear K0 B0 hs0
  (with_reducible refine (HV.out _ BB.out).mono ?_)
  rintro e wv ⟨rfl, hbv⟩; replace BB := Lib.hid (BB.out.trans (hbv.mono BB.out.size)); replace KK := Lib.hid (KK.out.below hbv); replace R := KK.out.rules; simp only [gro.Rules] at R; clear hbv
  go_wp2_with fail
  (with_reducible refine (hP.out _).mono ?_)
  rintro e wv ⟨rfl, hbv⟩; replace BB := Lib.hid (BB.out.trans (hbv.mono BB.out.size)); replace KK := Lib.hid (KK.out.below hbv); replace R := KK.out.rules; simp only [gro.Rules] at R; clear hbv
  go_wp2_with fail
  (with_reducible refine (hO.out _).mono ?_)
  rintro e wv ⟨rfl, hbv⟩; replace BB := Lib.hid (BB.out.trans (hbv.mono BB.out.size)); replace KK := Lib.hid (KK.out.below hbv); replace R := KK.out.rules; simp only [gro.Rules] at R; clear hbv
  go_wp2_with fail
  (with_reducible refine (hD.out _).mono ?_)
  rintro e wv ⟨rfl, hbv⟩; replace BB := Lib.hid (BB.out.trans (hbv.mono BB.out.size)); replace KK := Lib.hid (KK.out.below hbv); replace R := KK.out.rules; simp only [gro.Rules] at R; clear hbv
  obtain ⟨g, hg⟩ : ∃ s, wv.heap.size = s := ⟨_, rfl⟩
  have hwg : w.heap.size < g := by have := (KK.out _ (List.mem_cons_self ..)).lt; omega
  go_upto_region 9 with fail
  have KP := (KK.out.new (t := 84) (c := #[Value.int IntKind.u64 0, Value.int IntKind.u64 (Q : Int)]) hg).new (t := 84) (c := #[Value.int IntKind.u64 mh, Value.int IntKind.u64 ml]) (g := g + 1) (by simp [hg])
  have BP := (BB.out.alloc BB.out.size (.cells #[Value.int IntKind.u64 0, Value.int IntKind.u64 (Q : Int)] 84)).alloc (by have := BB.out.size; simp; omega) (.cells #[Value.int IntKind.u64 mh, Value.int IntKind.u64 ml] 84)
  replace KK := Lib.hid KP
  replace BB := Lib.hid BP
  clear KP BP R hg
  generalize (wv.alloc (.cells #[Value.int IntKind.u64 0, Value.int IntKind.u64 (Q : Int)] 84)).alloc (.cells #[Value.int IntKind.u64 mh, Value.int IntKind.u64 ml] 84) = W2 at *
  have R := KK.out.rules
  simp only [Rules] at R
  go_upto_region 11 with fail
  replace BB := Lib.hid (BB.out.setCell (p := ⟨g, 1, none⟩) (by simp; omega) (Value.int IntKind.u64 ((Q : Int) + 1)))
  replace KK := Lib.hid (Bx.perm (Bx.put1 (v := Value.int IntKind.u64 ((Q : Int) + 1)) (KK.out.swap) (by simp; omega)) (fun p hp => hp))
  clear R
  generalize World.setCell W2 _ _ = W3 at *
  have R := KK.out.rules
  simp only [Rules] at R
  have hcx := HX.out _ BB.out
  by_cases hc : (1 : Int) < (Q : Int) + 1
  case pos =>
    subst hTe
    go_wp2_with fail
    (refine gro.wp_region_grown (by kernel_rfl) (by kernel_rfl) ?_; (repeat (go_big_quiet_step (((go_at_call 57; exact call_grown (HCl.out _ (BB.out.trans ((below_grown _ _).mono BB.out.size)))))))); refine wpQuiet_nil ?_; intro _ hw'; obtain ⟨nx, hw''⟩ := hw'; subst hw'')
    replace BB := Lib.hid (BB.out.trans ((below_grown _ nx).mono BB.out.size))
    clear R hcx KK HCl HX HV H1 HL hP hO hD
    generalize grown _ nx = W5 at *
    go_wp2
    refine bodyPost_ret (v := Value.tuple #[.int .i64 xv, .int .i64 0]) (by simp [results, Tryz.results26, go_sem]) rfl ⟨rfl, BB.out⟩
  subst hTe
  go_wp2_with fail
  (refine gro.wp_region_grown (by kernel_rfl) (by kernel_rfl) ?_; (repeat (go_big_quiet_step (((go_at_call 57; exact call_grown (HCl.out _ (BB.out.trans ((below_grown _ _).mono BB.out.size)))))))); refine wpQuiet_nil ?_; intro _ hw'; obtain ⟨nx, hw''⟩ := hw'; subst hw'')
  replace BB := Lib.hid (BB.out.trans ((below_grown _ nx).mono BB.out.size))
  clear R hcx KK HCl HX HV H1 HL hP hO hD
  generalize grown _ nx = W5 at *
  go_wp2
  refine bodyPost_ret (v := Value.tuple #[.int .i64 xv, .int .i64 0]) (by simp [results, Tryz.results26, go_sem]) rfl ⟨rfl, BB.out⟩
end Go.Proofs.YtjapjfcennemeaaGreat.rnk
