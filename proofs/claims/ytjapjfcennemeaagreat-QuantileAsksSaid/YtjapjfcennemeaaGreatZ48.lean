/- RQuR, RAsk: proved here in one text, no conditions beyond those that each theorem states. -/
import Derived.Deep.DeepCutAuto
import Derived.Deep.CutBlock
import Derived.LoopN
import Derived.Test.YtjapjfcennemeaaGreatZ44
import Derived.Test.YtjapjfcennemeaaGreatZ27
import Derived.Test.YtjapjfcennemeaaGreatZ20
import Derived.Test.YtjapjfcennemeaaGreatZ45
import Derived.Test.YtjapjfcennemeaaGreatZ46
import Derived.Test.YtjapjfcennemeaaGreatZ13
import Derived.Test.YtjapjfcennemeaaGreatZ7
import Derived.Test.YtjapjfcennemeaaGreatZ47
set_option linter.unusedVariables false
set_option linter.unusedSimpArgs false
section
namespace Go.Proofs.YtjapjfcennemeaaGreat.rnk
open Go.RowKit Go.Proofs.YtjapjfcennemeaaGreat.mem Go.Proofs.YtjapjfcennemeaaGreat.gro
open Go.Proofs.YtjapjfcennemeaaGreat.wid (hi lo)
set_option linter.unusedVariables false
set_option linter.unusedSimpArgs false
set_option pp.maxSteps 200000
theorem Asks_any (p q : Int) (w : World) : Calls Tryz.prog 15 #[.int .i64 p, .int .i64 q] w fun e w' => e = .returned (.bool (decide (asksQ p q))) ∧ w = w' := by
  by_cases h1 : 1 ≤ q
  case neg =>
    have hd : Hid (decide (asksQ p q) = false) := decide_eq_false (fun h => h1 h.1)
    go_enter Tryz.func15, Tryz.ntmps15
    go_wp2
    go_ret
    exact ⟨ret_bool hd.out.symm, rfl⟩
  by_cases h2 : 0 ≤ p
  case neg =>
    have hd : Hid (decide (asksQ p q) = false) := decide_eq_false (fun h => h2 h.2.1)
    go_enter Tryz.func15, Tryz.ntmps15
    go_wp2
    go_ret
    exact ⟨ret_bool hd.out.symm, rfl⟩
  have hd : Hid (decide (asksQ p q) = decide (p ≤ q)) := decide_eq_decide.2 ⟨fun h => h.2.2, fun h => ⟨h1, h2, h⟩⟩
  go_enter Tryz.func15, Tryz.ntmps15
  go_wp2
  go_ret
  exact ⟨ret_bool (by rw [hd.out]), rfl⟩
set_option maxHeartbeats 8000000 in
set_option maxRecDepth 100000 in
theorem Target_any (p q N : Int) (w : World) (ha : asksQ p q) (hN : 1 ≤ N ∧ N ≤ 1099511627776) (hq64 : q ≤ 9223372036854775807) : Calls Tryz.prog 71 #[.int .i64 p, .int .i64 q, .int .i64 N] w fun e w' => e = .returned (.int .i64 (tgtQ p q N)) ∧ Below w.heap.size w w' := by
  have hA1 := ha.1
  have hA2 := ha.2.1
  have hA3 := ha.2.2
  have hTd := tgtQ_div ha (show 0 ≤ N by omega)
  have hTb := quo_le ha (show 0 ≤ N by omega)
  have hTe : tgtQ p q N = max 1 ((p * N + q - 1) / q) := rfl
  rw [← hTd] at hTe hTb
  have hP := Lib.hid (fun W => wid.ProductR_any p N (by omega) (by omega) (by omega) (by omega) W)
  have hO := Lib.hid (fun W => wid.OfR_any q W (by omega) (by omega))
  have hD := Lib.hid (fun W => wid.DivR_any (p.toNat * N.toNat) q.toNat W (prod_lt ⟨by omega, by omega⟩ ⟨by omega, by omega⟩) (by omega))
  have hq0 : q.toNat ≠ 0 := by omega
  rw [show wid.divq (p.toNat * N.toNat) q.toNat = p.toNat * N.toNat / q.toNat from if_neg hq0, show wid.divr (p.toNat * N.toNat) q.toNat = p.toNat * N.toNat % q.toNat from if_neg hq0, decide_eq_true hq0] at hD
  have e1 : IntKind.u64.wrap p = p := u64_in (by omega) (by omega)
  have e2 : IntKind.u64.wrap N = N := u64_in (by omega) (by omega)
  have e3 : IntKind.u64.wrap q = q := u64_in (by omega) (by omega)
  generalize p.toNat * N.toNat / q.toNat = Q at *
  generalize p.toNat * N.toNat % q.toNat = M at *
  generalize p.toNat * N.toNat = PN at *
  generalize q.toNat = qn at *
  clear hTd ha hq0
  have hQ : (Q : Int) ≤ 1099511627776 := by split at hTb <;> omega
  rw [wid.hi_small (n := Q) (by omega), wid.lo_small (n := Q) (by omega)] at hD
  generalize tgtQ p q N = T at *
  clear hTb
  have s5 : IntKind.i64.wrap (Q : Int) = (Q : Int) := IntWalk.i64_in _ (by omega)
  have s6 : IntKind.i64.wrap ((Q : Int) + 1) = (Q : Int) + 1 := IntWalk.i64_in _ (by omega)
  by_cases hM : M = 0
  case pos =>
    rw [if_pos hM] at hTe
    subst hM
    rw [wid.hi_zero, wid.lo_zero] at hD
    have HT := Lib.hid hTe
    clear hTe
    go_enter Tryz.func71, Tryz.ntmps71
    go_wp2_with fail
    (with_reducible refine (hP.out _).mono ?_)
    rintro e w1 ⟨rfl, hb1⟩
    go_wp2_with fail
    (with_reducible refine (hO.out _).mono ?_)
    rintro e w2 ⟨rfl, hb2⟩
    go_wp2_with fail
    (with_reducible refine (hD.out _).mono ?_)
    rintro e w3 ⟨rfl, hb3⟩
    have BB := Lib.hid (hb1.trans ((hb2.trans (hb3.mono hb2.size)).mono hb1.size))
    clear hb1 hb2 hb3
    by_cases hc : (1 : Int) < (Q : Int)
    all_goals
      go_wp2
      go_ret
      exact ⟨ret_int (by first | (rw [HT.out]; done) | (rw [HT.out]; omega)), (BB.out.alloc BB.out.size _).alloc (by have := BB.out.size; simp; omega) _⟩
  rw [if_neg hM] at hTe
  have hne : ∀ W, (binOp .neq 84 (Value.agg #[Value.int IntKind.u64 (hi (M)), Value.int IntKind.u64 (lo (M))]) (Value.agg #[Value.int IntKind.u64 0, Value.int IntKind.u64 0])).run Tryz.prog W = .ok (.bool true) W := fun W => by
    have := wid.wide_neq M 0 W
    rwa [decide_eq_false hM] at this
  generalize wid.hi M = mh at *
  generalize wid.lo M = ml at *
  have HT := Lib.hid hTe
  clear hTe
  go_enter Tryz.func71, Tryz.ntmps71
  go_wp2_with fail
  (with_reducible refine (hP.out _).mono ?_)
  rintro e w1 ⟨rfl, hb1⟩
  go_wp2_with fail
  (with_reducible refine (hO.out _).mono ?_)
  rintro e w2 ⟨rfl, hb2⟩
  go_wp2_with fail
  (with_reducible refine (hD.out _).mono ?_)
  rintro e w3 ⟨rfl, hb3⟩
  have BB := Lib.hid (hb1.trans ((hb2.trans (hb3.mono hb2.size)).mono hb1.size))
  clear hb1 hb2 hb3
  by_cases hc : (1 : Int) < (Q : Int) + 1
  all_goals
    go_wp2
    go_ret
    exact ⟨ret_int (by first | (rw [HT.out]; done) | (rw [HT.out]; omega)), (BB.out.alloc BB.out.size _).alloc (by have := BB.out.size; simp; omega) _⟩
set_option maxHeartbeats 8000000 in
set_option maxRecDepth 100000 in
theorem At_any (N : Int) (A : Option Addr) (n c : Nat) (es : L3) (r : Int) (w : World) (h1 : ERead w w.heap.size A n es) (hs : n ≤ 16777216) (hv : valR N es = true) (hr : 1 ≤ r ∧ r ≤ N) : Calls Tryz.prog 70 #[.agg #[.int .i64 N, .slice A n c], .int .i64 r] w fun e w' => e = .returned (.tuple #[.int .i64 (at3 es (forN es r)).1, .int .i64 0]) ∧ Below w.heap.size w w' := by
  have H1 := Lib.hid h1
  have HL := Lib.hid h1.len
  have HV := Lib.hid (fun W (hb : Below w.heap.size w W) => ValidateR_any N A n c es W ((h1.below hb).more hb.size) (by omega))
  clear h1
  have hN := (valR_iff.1 hv).1
  rw [HL.out] at hN
  have hn0 : 0 < n := by omega
  have HBd := Lib.hid (bnds_of_val HL.out hv)
  have hPl := place_lt (es := es) (n := r) (s := 0) (by rw [HL.out]; exact hn0)
  rw [place_forN hv (by rw [HL.out]; exact hn0), HL.out] at hPl
  have HCl := Lib.hid (fun W (hb : Below w.heap.size w W) => For_any A n c es r W ((H1.out.below hb).more hb.size) (by omega) (by omega) HBd.out)
  rw [hv, erS_t] at HV
  clear hv HBd
  generalize forN es r = pl at *
  obtain ⟨_, hpl⟩ := hPl
  obtain ⟨ad, rfl, hbl, HC⟩ := ERead.cells H1.out hpl
  generalize hxv : (at3 es pl).1 = xv at *
  clear hxv
  have HX := Lib.hid (fun W hb => (HC.out W hb).1)
  clear HC
  have r1 : ¬ r < 1 := by omega
  have r2 : ¬ N < r := by omega
  go_enter Tryz.func70, Tryz.ntmps70
  go_wp2_with fail
  obtain ⟨W0, hW, hs0, K0, B0⟩ := start1 w 39 #[Value.int IntKind.i64 N, Value.slice (some ad) n c]
  rw [hW]
  clear hW
  have KK := Lib.hid K0
  have BB := Lib.hid B0
  have R := K0.rules
  simp only [Rules] at R
  clear K0 B0 hs0
  (with_reducible refine (HV.out _ BB.out).mono ?_)
  rintro e wv ⟨rfl, hbv⟩; replace BB := Lib.hid (BB.out.trans (hbv.mono BB.out.size)); replace KK := Lib.hid (KK.out.below hbv); replace R := KK.out.rules; simp only [gro.Rules] at R; clear hbv
  have hcx := HX.out _ BB.out
  go_wp2_with fail
  (refine gro.wp_region_grown (by kernel_rfl) (by kernel_rfl) ?_; (repeat (go_big_quiet_step (((go_at_call 92; exact call_grown (HCl.out _ (BB.out.trans ((below_grown _ _).mono BB.out.size)))))))); refine wpQuiet_nil ?_; intro _ hw'; obtain ⟨nx, hw''⟩ := hw'; subst hw'')
  replace BB := Lib.hid (BB.out.trans ((below_grown _ nx).mono BB.out.size))
  clear R hcx KK HCl HX HV H1 HL
  generalize grown _ nx = W5 at *
  go_wp2
  refine bodyPost_ret (v := Value.tuple #[.int .i64 xv, .int .i64 0]) (by simp [results, Tryz.results70, go_sem]) rfl ⟨rfl, BB.out⟩
set_option maxHeartbeats 8000000 in
set_option maxRecDepth 100000 in
theorem QuantileR_any (N : Int) (A : Option Addr) (n c : Nat) (es : L3) (p q : Int) (w : World) (h1 : ERead w w.heap.size A n es) (hs : n ≤ 16777216) (hp64 : p ≤ 9223372036854775807) (hq64 : q ≤ 9223372036854775807) : Calls Tryz.prog 34 #[.agg #[.int .i64 N, .slice A n c], .int .i64 p, .int .i64 q] w fun e w' => e = .returned (.tuple #[.int .i64 (quaV N es p q).1, .int .i64 (quaV N es p q).2]) ∧ Below w.heap.size w w' := by
  have H1 := Lib.hid h1
  have HL := Lib.hid h1.len
  have HV := Lib.hid (fun W (hb : Below w.heap.size w W) => ValidateR_any N A n c es W ((h1.below hb).more hb.size) (by omega))
  have HA := Lib.hid (fun W => Asks_any p q W)
  clear h1
  rcases Bool.eq_false_or_eq_true (valR N es) with hv | hv
  case inr =>
    rw [quaV_2 hv]
    rw [hv, erS_f] at HV
    go_enter Tryz.func34, Tryz.ntmps34
    go_wp2_with fail
    obtain ⟨W0, hW, hs0, K0, B0⟩ := start1 w 39 #[Value.int IntKind.i64 N, Value.slice A n c]
    rw [hW]
    clear hW
    have KK := Lib.hid K0
    have BB := Lib.hid B0
    have R := K0.rules
    simp only [Rules] at R
    clear K0 B0 hs0
    (with_reducible refine (HV.out _ BB.out).mono ?_)
    rintro e wv ⟨rfl, hbv⟩; replace BB := Lib.hid (BB.out.trans (hbv.mono BB.out.size)); replace KK := Lib.hid (KK.out.below hbv); replace R := KK.out.rules; simp only [gro.Rules] at R; clear hbv
    go_wp2
    refine bodyPost_ret (v := Value.tuple #[.int .i64 0, .int .i64 2]) (by simp [results, Tryz.results34, go_sem]) rfl ⟨rfl, BB.out⟩
  by_cases ha : asksQ p q
  case neg =>
    rw [quaV_1 hv ha]
    rw [hv, erS_t] at HV
    rw [decide_eq_false ha] at HA
    clear hv
    go_enter Tryz.func34, Tryz.ntmps34
    go_wp2_with fail
    obtain ⟨W0, hW, hs0, K0, B0⟩ := start1 w 39 #[Value.int IntKind.i64 N, Value.slice A n c]
    rw [hW]
    clear hW
    have KK := Lib.hid K0
    have BB := Lib.hid B0
    have R := K0.rules
    simp only [Rules] at R
    clear K0 B0 hs0
    (with_reducible refine (HV.out _ BB.out).mono ?_)
    rintro e wv ⟨rfl, hbv⟩; replace BB := Lib.hid (BB.out.trans (hbv.mono BB.out.size)); replace KK := Lib.hid (KK.out.below hbv); replace R := KK.out.rules; simp only [gro.Rules] at R; clear hbv
    go_wp2_with (go_at_call 15; refine (HA.out _).mono ?_; rintro e w' ⟨rfl, rfl⟩)
    refine bodyPost_ret (v := Value.tuple #[.int .i64 0, .int .i64 1]) (by simp [results, Tryz.results34, go_sem]) rfl ⟨rfl, BB.out⟩
  rw [decide_eq_true ha] at HA
  by_cases hN0 : N = 0
  case pos =>
    rw [quaV_7 hv ha hN0]
    rw [hv, erS_t] at HV
    subst hN0
    clear hv ha
    go_enter Tryz.func34, Tryz.ntmps34
    go_wp2_with fail
    obtain ⟨W0, hW, hs0, K0, B0⟩ := start1 w 39 #[Value.int IntKind.i64 0, Value.slice A n c]
    rw [hW]
    clear hW
    have KK := Lib.hid K0
    have BB := Lib.hid B0
    have R := K0.rules
    simp only [Rules] at R
    clear K0 B0 hs0
    (with_reducible refine (HV.out _ BB.out).mono ?_)
    rintro e wv ⟨rfl, hbv⟩; replace BB := Lib.hid (BB.out.trans (hbv.mono BB.out.size)); replace KK := Lib.hid (KK.out.below hbv); replace R := KK.out.rules; simp only [gro.Rules] at R; clear hbv
    go_wp2_with (go_at_call 15; refine (HA.out _).mono ?_; rintro e w' ⟨rfl, rfl⟩)
    refine bodyPost_ret (v := Value.tuple #[.int .i64 0, .int .i64 7]) (by simp [results, Tryz.results34, go_sem]) rfl ⟨rfl, BB.out⟩
  have hN := (valR_iff.1 hv).1
  rw [HL.out] at hN
  have hn0 : 0 < n := by omega
  have hT := tgtQ_bd ha (show 1 ≤ N by omega)
  rw [quaV_0 hv ha hN0, place_forN hv (by rw [HL.out]; exact hn0)]
  have HT := Lib.hid (fun W => Target_any p q N W ha ⟨by omega, by omega⟩ hq64)
  have HAt := Lib.hid (fun W (hb : Below w.heap.size w W) => At_any N A n c es (tgtQ p q N) W ((H1.out.below hb).more hb.size) hs hv hT)
  rw [hv, erS_t] at HV
  clear hv ha hT
  generalize (at3 es (forN es (tgtQ p q N))).1 = xv at *
  generalize tgtQ p q N = T at *
  go_enter Tryz.func34, Tryz.ntmps34
  go_wp2_with fail
  obtain ⟨W0, hW, hs0, K0, B0⟩ := start1 w 39 #[Value.int IntKind.i64 N, Value.slice A n c]
  rw [hW]
  clear hW
  have KK := Lib.hid K0
  have BB := Lib.hid B0
  have R := K0.rules
  simp only [Rules] at R
  clear K0 B0 hs0
  (with_reducible refine (HV.out _ BB.out).mono ?_)
  rintro e wv ⟨rfl, hbv⟩; replace BB := Lib.hid (BB.out.trans (hbv.mono BB.out.size)); replace KK := Lib.hid (KK.out.below hbv); replace R := KK.out.rules; simp only [gro.Rules] at R; clear hbv
  go_wp2_with (go_at_call 15; refine (HA.out _).mono ?_; rintro e w' ⟨rfl, rfl⟩)
  (refine gro.wp_region_grown (by kernel_rfl) (by kernel_rfl) ?_; (repeat (go_big_quiet_step ((first | (go_at_call 71; exact call_grown (HT.out _)) | (go_at_call 70; exact call_grown (HAt.out _ (BB.out.trans ((below_grown _ _).mono BB.out.size)))))))); refine wpQuiet_nil ?_; intro _ hw'; obtain ⟨nx, hw''⟩ := hw'; subst hw'')
  replace BB := Lib.hid (BB.out.trans ((below_grown _ nx).mono BB.out.size))
  clear R KK HAt HT HV HA H1 HL
  generalize grown _ nx = W5 at *
  go_wp2
  refine bodyPost_ret (v := Value.tuple #[.int .i64 xv, .int .i64 0]) (by simp [results, Tryz.results34, go_sem]) rfl ⟨rfl, BB.out⟩
end Go.Proofs.YtjapjfcennemeaaGreat.rnk
end
section
namespace Go.Proofs.YtjapjfcennemeaaGreat.rnk
open Go.RowKit Go.Proofs.YtjapjfcennemeaaGreat.mem Go.Proofs.YtjapjfcennemeaaGreat.gro
set_option linter.unusedVariables false
set_option linter.unusedSimpArgs false
set_option pp.maxSteps 200000
theorem lwup_bd {N : Int} {es : L3} (h : valR N es = true) {i : Nat} (hi : i ≤ es.length) : 0 ≤ lw es i ∧ lw es i ≤ up es N i ∧ up es N i ≤ N := ⟨lw_nn h hi, lw_up h hi, up_le h hi⟩
theorem lw_succ (es : L3) (i : Nat) : lw es (i + 1) = (at3 es i).2.1 := by unfold lw; rw [if_pos (by omega)]; rfl
theorem up_lt {es : L3} {N : Int} {i : Nat} (h : i < es.length) : up es N i = (at3 es i).2.2 - 1 := by unfold up; rw [if_pos h]
theorem up_end {es : L3} {N : Int} {i : Nat} (h : es.length ≤ i) : up es N i = N := by unfold up; rw [if_neg (by omega)]
def rankV (N : Int) (es : L3) (v : Int) : Value := if valR N es = true then .tuple #[.agg (bnd6 (lw es (cutV es v)) (up es N (cutV es v))), .int .i64 0] else .tuple #[.agg #[.int .i64 0, .int .i64 0, .int .i64 0, .int .i64 0, .int .i64 0, .int .i64 0], .int .i64 2]
set_option maxHeartbeats 8000000 in
set_option maxRecDepth 100000 in
theorem Rank_any (N : Int) (A : Option Addr) (n c : Nat) (es : L3) (v : Int) (w : World) (h1 : ERead w w.heap.size A n es) (hs : n ≤ 9223372036854775807) : Calls Tryz.prog 37 #[.agg #[.int .i64 N, .slice A n c], .int .i64 v] w fun e w' => e = .returned (rankV N es v) ∧ Below w.heap.size w w' := by
  have H1 := Lib.hid h1
  have HL := Lib.hid h1.len
  have HV := Lib.hid (fun W (hb : Below w.heap.size w W) => Validate_any N A n c es W ((h1.below hb).more hb.size) hs)
  clear h1
  unfold rankV
  rcases Bool.eq_false_or_eq_true (valR N es) with hv | hv
  case inr =>
    rw [if_neg (by rw [hv]; exact Bool.false_ne_true)]
    rw [hv, erS_f] at HV
    go_enter Tryz.func37, Tryz.ntmps37
    go_wp2_with fail
    obtain ⟨W0, hW, hs0, K0, B0⟩ := start2 w 39 33 #[Value.int IntKind.i64 N, Value.slice A n c] #[Value.int IntKind.i64 0, Value.int IntKind.i64 0, Value.int IntKind.i64 0, Value.int IntKind.i64 0, Value.int IntKind.i64 0, Value.int IntKind.i64 0]
    rw [hW]
    clear hW
    have KK := Lib.hid K0
    have BB := Lib.hid B0
    have R := K0.rules
    simp only [Rules] at R
    clear K0 B0 hs0
    go_wp2_with fail
    (with_reducible refine (HV.out _ BB.out).mono ?_)
    rintro e wv ⟨rfl, hbv⟩; replace BB := Lib.hid (BB.out.trans (hbv.mono BB.out.size)); replace KK := Lib.hid (KK.out.below hbv); replace R := KK.out.rules; simp only [gro.Rules] at R; clear hbv
    go_wp2
    refine bodyPost_ret (v := Value.tuple #[.agg #[.int .i64 0, .int .i64 0, .int .i64 0, .int .i64 0, .int .i64 0, .int .i64 0], .int .i64 2]) (by simp [results, Tryz.results37, go_sem, R]) rfl ⟨rfl, ?_⟩
    exact (((((BB.out.setCell (p := ⟨w.heap.size + 1, 0, none⟩) (by simp) _).setCell (p := ⟨w.heap.size + 1, 1, none⟩) (by simp) _).setCell (p := ⟨w.heap.size + 1, 2, none⟩) (by simp) _).setCell (p := ⟨w.heap.size + 1, 3, none⟩) (by simp) _).setCell (p := ⟨w.heap.size + 1, 4, none⟩) (by simp) _).setCell (p := ⟨w.heap.size + 1, 5, none⟩) (by simp) _
  rw [if_pos hv]
  obtain ⟨hp0, hp1, hp2⟩ := cutV_spec v es
  have HB := Lib.hid (lwup_bd hv hp0)
  have hN := (valR_iff.1 hv).1
  rw [HL.out] at hp0 hp2
  have HU := Lib.hid (fun p (hp : p ≤ n) h1 (h2 : p < n → v < (at3 es p).1) => cutV_uniq (es := es) (v := v) (p := p) (by rw [HL.out]; exact hp) h1 (by rw [HL.out]; exact h2))
  have HBd := Lib.hid (bnds_of_val HL.out hv)
  have HW := Lib.hid (fun W => wid.WholeB_any (lw es (cutV es v)) (up es N (cutV es v)) (by have := HB.out; unfold wid.I64; omega) (by have := HB.out; unfold wid.I64; omega) W)
  have hle := HB.out.2.1
  simp only [wid.whl, if_pos hle, decide_eq_true hle] at HW
  obtain ⟨lo, hlo⟩ : ∃ lo, lw es (cutV es v) = lo := ⟨_, rfl⟩
  obtain ⟨hi, hhi⟩ : ∃ hi, up es N (cutV es v) = hi := ⟨_, rfl⟩
  rw [hlo, hhi] at HW ⊢
  have HLO := Lib.hid hlo
  have HHI := Lib.hid hhi
  clear hlo hhi hle
  rw [hv, erS_t] at HV
  clear hv
  go_enter Tryz.func37, Tryz.ntmps37
  go_wp2_with fail
  obtain ⟨W0, hW, hs0, K0, B0⟩ := start2 w 39 33 #[Value.int IntKind.i64 N, Value.slice A n c] #[Value.int IntKind.i64 0, Value.int IntKind.i64 0, Value.int IntKind.i64 0, Value.int IntKind.i64 0, Value.int IntKind.i64 0, Value.int IntKind.i64 0]
  rw [hW]
  clear hW
  have KK := Lib.hid K0
  have BB := Lib.hid B0
  have R := K0.rules
  simp only [Rules] at R
  clear K0 B0 hs0
  go_wp2_with fail
  (with_reducible refine (HV.out _ BB.out).mono ?_)
  rintro e wv ⟨rfl, hbv⟩; replace BB := Lib.hid (BB.out.trans (hbv.mono BB.out.size)); replace KK := Lib.hid (KK.out.below hbv); replace R := KK.out.rules; simp only [gro.Rules] at R; clear hbv
  go_wp2_with fail
  (refine gro.wp_region_grown (by kernel_rfl) (by kernel_rfl) ?_; (repeat (go_big_quiet_step ((fail)))); refine wpQuiet_nil ?_; intro _ hw'; obtain ⟨nx, hw''⟩ := hw'; subst hw'')
  replace BB := Lib.hid (BB.out.trans ((below_grown _ nx).mono BB.out.size))
  replace KK := Lib.hid (KK.out.below (below_grown _ nx))
  clear R
  generalize grown _ nx = W5 at *
  have R := KK.out.rules
  simp only [Rules] at R
  go_upto_block 0 with fail
  clear R
  go_cut [7, 8] (fun s7 s8 wx => s7 = .int .i64 lo ∧ s8 = .int .i64 hi ∧ Hid (Bx wx [(w.heap.size + 1, 33, #[Value.int IntKind.i64 0, Value.int IntKind.i64 0, Value.int IntKind.i64 0, Value.int IntKind.i64 0, Value.int IntKind.i64 0, Value.int IntKind.i64 0]), (w.heap.size, 39, #[Value.int IntKind.i64 N, Value.slice A n c])]) ∧ Hid (Below w.heap.size w wx))
  case first =>
    go_wp2_with fail
    go_loopg [7, 8, 24] n (fun kx s7 s8 s24 wr => ∃ i : Nat, s24 = .int .i64 i ∧ s7 = .int .i64 (lw es i) ∧ s8 = .int .i64 N ∧ i ≤ n ∧ n - i ≤ kx ∧ Hid (∀ j < i, (at3 es j).1 ≤ v) ∧ Hid (Bx wr [(w.heap.size + 1, 33, #[Value.int IntKind.i64 0, Value.int IntKind.i64 0, Value.int IntKind.i64 0, Value.int IntKind.i64 0, Value.int IntKind.i64 0, Value.int IntKind.i64 0]), (w.heap.size, 39, #[Value.int IntKind.i64 N, Value.slice A n c])]) ∧ Hid (Below w.heap.size w wr))
    case atStart => exact ⟨0, rfl, rfl, rfl, Nat.zero_le _, by omega, fun j h => absurd h (Nat.not_lt_zero _), KK, BB⟩
    case round =>
      clear KK BB
      obtain ⟨i, rfl, rfl, rfl, hi, hik, HJ, KK, BB⟩ := hrel
      by_cases hlt : i < n
      case neg =>
        obtain rfl : i = n := by omega
        have hp := HU.out i (Nat.le_refl _) HJ.out (fun h => absurd h (Nat.lt_irrefl _))
        have hu := up_end (es := es) (N := N) (i := i) (by rw [HL.out]; exact Nat.le_refl _)
        go_wp2
        go_meet
        exact ⟨by rw [← HLO.out, hp], by rw [← HHI.out, hp, hu], KK, BB⟩
      obtain ⟨ad, rfl, hbl, HC⟩ := ERead.cells H1.out hlt
      obtain ⟨f1, f2, f3⟩ := HC.out _ BB.out
      have hb := HBd.out i hlt
      have hu := Lib.hid (up_lt (es := es) (N := N) (i := i) (by rw [HL.out]; exact hlt))
      have hl := Lib.hid (lw_succ es i)
      have HX := Lib.hid (fun (h : (at3 es i).1 ≤ v) j (hj : j < i + 1) => show (at3 es j).1 ≤ v by
        by_cases e : j = i
        · rw [e]; exact h
        · exact HJ.out j (by omega))
      have HY := Lib.hid (fun (h : v < (at3 es i).1) => HU.out i (by omega) HJ.out (fun _ => h))
      clear HC HJ
      generalize (at3 es i).1 = xv at *
      generalize (at3 es i).2.1 = xm at *
      generalize (at3 es i).2.2 = xx at *
      have s1 : IntKind.i64.wrap (xx - 1) = xx - 1 := IntWalk.i64_in _ (by omega)
      by_cases hc : v < xv
      case pos =>
        have hp := Lib.hid (HY.out hc)
        go_wp2
        go_meet
        exact ⟨by rw [← HLO.out, hp.out], by rw [← HHI.out, hp.out, hu.out], KK.out.alloc _, BB.out.alloc BB.out.size _⟩
      have hx := Lib.hid (HX.out (by omega))
      go_wp2
      go_roundg (n - (i + 1))
      case measure => omega
      case rel => exact ⟨i + 1, by go_num, by rw [hl.out], rfl, by omega, by omega, hx, KK.out.alloc _, BB.out.alloc BB.out.size _⟩
  case rest =>
  obtain ⟨rfl, rfl, KK, BB⟩ := hcut
  clear HU HBd HB HV H1
  have R := KK.out.rules
  simp only [Rules] at R
  go_wp2_with fail
  (with_reducible refine (HW.out _).mono ?_)
  rintro e wv ⟨rfl, hbv⟩; replace BB := Lib.hid (BB.out.trans (hbv.mono BB.out.size)); replace KK := Lib.hid (KK.out.below hbv); replace R := KK.out.rules; simp only [gro.Rules] at R; clear hbv
  obtain ⟨g8, hg8⟩ : ∃ s, wv.heap.size = s := ⟨_, rfl⟩
  have hw8 : w.heap.size + 1 < g8 := by have := (KK.out _ (List.mem_cons_self ..)).lt; omega
  have BZ := Lib.hid (BB.out.alloc BB.out.size (.cells (bnd6 lo hi) 33))
  have KZ := Lib.hid (KK.out.new (t := 33) (c := bnd6 lo hi) hg8)
  unfold bnd6 at BZ KZ
  go_upto_region 13 with fail
  obtain ⟨W3, hW, K3, B3, z3⟩ := name_world KZ.out BZ.out (s := g8 + 1) (by simp; omega)
  rw [hW]
  clear hW KK BB KZ BZ R HW
  have KK := Lib.hid K3
  have BB := Lib.hid B3
  have R := K3.rules
  simp only [Rules] at R
  clear K3 B3 z3
  go_wp2_with fail
  refine bodyPost_ret (v := Value.tuple #[.agg (bnd6 lo hi), .int .i64 0]) (by simp [results, Tryz.results37, go_sem, R, bnd6]) rfl ⟨rfl, ?_⟩
  exact (((((BB.out.setCell (p := ⟨w.heap.size + 1, 0, none⟩) (by simp) _).setCell (p := ⟨w.heap.size + 1, 1, none⟩) (by simp) _).setCell (p := ⟨w.heap.size + 1, 2, none⟩) (by simp) _).setCell (p := ⟨w.heap.size + 1, 3, none⟩) (by simp) _).setCell (p := ⟨w.heap.size + 1, 4, none⟩) (by simp) _).setCell (p := ⟨w.heap.size + 1, 5, none⟩) (by simp) _
end Go.Proofs.YtjapjfcennemeaaGreat.rnk
end
