/- Contracts of Validate of histograms of counts and of sums, and of Fits. -/
import Derived.Test.YtofgjcfiinmimaaCst1
import Derived.Test.YtofgjcfiinmimaaValidR
import Derived.Test.YtofgjcfiinmimaaMgGrown
namespace Go.Proofs.Ytofgjcfiinmimaa.cst
open Go.RowKit Go.Proofs.Ytofgjcfiinmimaa.mem Go.Proofs.Ytofgjcfiinmimaa.lst Go.Proofs.Ytofgjcfiinmimaa.gro
set_option linter.unusedVariables false
set_option linter.unusedSimpArgs false
def okE (b : Bool) : Int := if b = true then 0 else 2
theorem okE_t : okE true = 0 := rfl
theorem okE_f : okE false = 2 := rfl
open Classical in
noncomputable def fitS (xs : List (Int × Int)) (v k p m o : Int) : Bool := fitB xs v k p o && mB m
theorem fitS_iff {xs : List (Int × Int)} {v k p m o : Int} : fitS xs v k p m o = true ↔ goodS v k p m o = true ∧ buk.validB xs k = true ∧ (totalN xs : Int) ≤ p ∧ liveTo xs o v xs.length := by
  unfold fitS goodS
  rw [Bool.and_eq_true, Bool.and_eq_true, fit_iff]
  exact ⟨fun ⟨⟨a, b, c, d⟩, e⟩ => ⟨⟨a, e⟩, b, c, d⟩, fun ⟨⟨a, e⟩, b, c, d⟩ => ⟨⟨a, b, c, d⟩, e⟩⟩
theorem fitS_not {xs : List (Int × Int)} {v k p m o : Int} (h : ¬ (goodS v k p m o = true ∧ buk.validB xs k = true ∧ (totalN xs : Int) ≤ p ∧ liveTo xs o v xs.length)) : fitS xs v k p m o = false := by
  rw [← Bool.not_eq_true, fitS_iff]; exact h
set_option maxHeartbeats 4000000 in
set_option maxRecDepth 100000 in
theorem ValidateC_any (v k p o : Int) (A : Option Addr) (n c : Nat) (xs : List (Int × Int)) (w : World) (h1 : PRead w w.heap.size A n xs) (hnc : n ≤ c) (hcm : c ≤ maxLen) (hsmall : n ≤ 2000) :
    Calls Try.prog 29 #[(Value.agg #[.int .i64 v, .int .i64 k, .int .i64 p, .int .i64 o, .slice A n c])] w fun e w' => e = .returned (.int .i64 (okE (fitB xs v k p o))) ∧ Below w.heap.size w w' := by
  have HL := Lib.hid h1.len
  have H1 := Lib.hid h1
  have HG := Lib.hid (fun W => goodC_any v k p o W)
  have HV := Lib.hid (fun W (hb : Below w.heap.size w W) => Valid_any A n c xs k W ((h1.below hb).more hb.size) (by omega))
  have HT : Hid (∀ W, Below w.heap.size w W → Calls Try.prog 65 #[.slice A n c] W fun e w' => e = .returned (.int .i64 (totalN xs : Nat)) ∧ Below W.heap.size W w') := fun W hb => Total_any A n c xs W ((h1.below hb).more hb.size) (by omega)
  have hcm9 : c ≤ 9223372036854775807 := hcm
  clear h1 hcm
  have FALSE := fun h => @fit_not xs v k p o h
  have RET : ∀ b : Bool, fitB xs v k p o = b → Hid (okE (fitB xs v k p o) = okE b) := fun b h => by rw [h]; rfl
  cases hg : goodC v k p o
  case false =>
    have RT := RET _ (FALSE (by rw [hg]; simp))
    rw [hg] at HG
    clear FALSE RET HV HT H1
    go_enter Try.func29, Try.ntmps29
    go_wp2_with fail
    obtain ⟨W0, hW, hs0, K0, B0⟩ := start1 w 24 #[Value.int IntKind.i64 v, Value.int IntKind.i64 k, Value.int IntKind.i64 p, Value.int IntKind.i64 o, Value.slice A n c]
    rw [hW]
    clear hW
    have KK := Lib.hid K0
    have BB := Lib.hid B0
    have R := K0.rules
    simp only [Rules] at R
    clear K0 B0 hs0
    (refine gro.wp_region_grown (by kernel_rfl) (by kernel_rfl) ?_; (repeat (go_big_quiet_step ((first | (go_at_call 54; exact call_same (HG.out _)))))); refine wpQuiet_nil ?_; intro _ hw'; obtain ⟨nx, hw''⟩ := hw'; subst hw'')
    replace BB := Lib.hid (BB.out.trans ((below_grown _ nx).mono BB.out.size))
    replace KK := Lib.hid (KK.out.below (below_grown _ nx))
    clear R
    generalize grown _ nx = W7 at *
    have R := KK.out.rules
    simp only [Rules] at R
    go_wp2
    go_ret
    exact ⟨clk.ret_int RT.out.symm, BB.out⟩
  rw [hg] at HG
  cases hv : buk.validB xs k
  case false =>
    have RT := RET _ (FALSE (by rw [hv]; simp))
    have HV2 : Hid (∀ W, Below w.heap.size w W → Calls Try.prog 71 #[.slice A n c, .int .i64 k] W fun e w' => e = .returned (.bool false) ∧ Below W.heap.size W w') := fun W hb => by have := HV.out W hb; rwa [hv] at this
    clear HV FALSE RET HT H1
    go_enter Try.func29, Try.ntmps29
    go_wp2_with fail
    obtain ⟨W0, hW, hs0, K0, B0⟩ := start1 w 24 #[Value.int IntKind.i64 v, Value.int IntKind.i64 k, Value.int IntKind.i64 p, Value.int IntKind.i64 o, Value.slice A n c]
    rw [hW]
    clear hW
    have KK := Lib.hid K0
    have BB := Lib.hid B0
    have R := K0.rules
    simp only [Rules] at R
    clear K0 B0 hs0
    (refine gro.wp_region_grown (by kernel_rfl) (by kernel_rfl) ?_; (repeat (go_big_quiet_step ((first | (go_at_call 54; exact call_same (HG.out _)) | (go_at_call 71; exact call_grown (HV2.out _ (BB.out.trans ((below_grown _ _).mono BB.out.size)))))))); refine wpQuiet_nil ?_; intro _ hw'; obtain ⟨nx, hw''⟩ := hw'; subst hw'')
    replace BB := Lib.hid (BB.out.trans ((below_grown _ nx).mono BB.out.size))
    replace KK := Lib.hid (KK.out.below (below_grown _ nx))
    clear R
    generalize grown _ nx = W7 at *
    have R := KK.out.rules
    simp only [Rules] at R
    go_wp2
    go_ret
    exact ⟨clk.ret_int RT.out.symm, BB.out⟩
  have HV2 : Hid (∀ W, Below w.heap.size w W → Calls Try.prog 71 #[.slice A n c, .int .i64 k] W fun e w' => e = .returned (.bool true) ∧ Below W.heap.size W w') := fun W hb => by have := HV.out W hb; rwa [hv] at this
  clear HV
  by_cases ht : (totalN xs : Int) ≤ p
  case neg =>
    have RT := RET _ (FALSE (fun h => ht h.2.2.1))
    have qt : decide (p < (totalN xs : Int)) = true := decide_eq_true (by omega)
    clear FALSE RET H1
    go_enter Try.func29, Try.ntmps29
    go_wp2_with fail
    obtain ⟨W0, hW, hs0, K0, B0⟩ := start1 w 24 #[Value.int IntKind.i64 v, Value.int IntKind.i64 k, Value.int IntKind.i64 p, Value.int IntKind.i64 o, Value.slice A n c]
    rw [hW]
    clear hW
    have KK := Lib.hid K0
    have BB := Lib.hid B0
    have R := K0.rules
    simp only [Rules] at R
    clear K0 B0 hs0
    (refine gro.wp_region_grown (by kernel_rfl) (by kernel_rfl) ?_; (repeat (go_big_quiet_step ((first | (go_at_call 54; exact call_same (HG.out _)) | (go_at_call 71; exact call_grown (HV2.out _ (BB.out.trans ((below_grown _ _).mono BB.out.size)))) | (go_at_call 65; exact call_grown (HT.out _ (BB.out.trans ((below_grown _ _).mono BB.out.size)))))))); refine wpQuiet_nil ?_; intro _ hw'; obtain ⟨nx, hw''⟩ := hw'; subst hw'')
    replace BB := Lib.hid (BB.out.trans ((below_grown _ nx).mono BB.out.size))
    replace KK := Lib.hid (KK.out.below (below_grown _ nx))
    clear R
    generalize grown _ nx = W7 at *
    have R := KK.out.rules
    simp only [Rules] at R
    go_wp2
    go_ret
    exact ⟨clk.ret_int RT.out.symm, BB.out⟩
  have qt : decide (p < (totalN xs : Int)) = false := decide_eq_false (by omega)
  have TRUE : Hid (liveTo xs o v xs.length → fitB xs v k p o = true) := fun h => fit_iff.2 ⟨hg, hv, ht, h⟩
  have FALSE2 : Hid (∀ i, i < xs.length → clk.liveB o v (buk.at_ xs i).1 = false → fitB xs v k p o = false) := fun i hi h => FALSE (fun h2 => by have := h2.2.2.2 i hi; rw [h] at this; simp at this)
  replace RET := Lib.hid RET
  clear hg hv FALSE
  go_enter Try.func29, Try.ntmps29
  go_wp2_with fail
  obtain ⟨W0, hW, hs0, K0, B0⟩ := start1 w 24 #[Value.int IntKind.i64 v, Value.int IntKind.i64 k, Value.int IntKind.i64 p, Value.int IntKind.i64 o, Value.slice A n c]
  rw [hW]
  clear hW
  have KK := Lib.hid K0
  have BB := Lib.hid B0
  have R := K0.rules
  simp only [Rules] at R
  clear K0 B0 hs0
  (refine gro.wp_region_grown (by kernel_rfl) (by kernel_rfl) ?_; (repeat (go_big_quiet_step ((first | (go_at_call 54; exact call_same (HG.out _)) | (go_at_call 71; exact call_grown (HV2.out _ (BB.out.trans ((below_grown _ _).mono BB.out.size)))) | (go_at_call 65; exact call_grown (HT.out _ (BB.out.trans ((below_grown _ _).mono BB.out.size)))))))); refine wpQuiet_nil ?_; intro _ hw'; obtain ⟨nx, hw''⟩ := hw'; subst hw'')
  replace BB := Lib.hid (BB.out.trans ((below_grown _ nx).mono BB.out.size))
  replace KK := Lib.hid (KK.out.below (below_grown _ nx))
  clear R
  generalize grown _ nx = W7 at *
  have R := KK.out.rules
  simp only [Rules] at R
  go_wp2_with fail
  clear HG HV2 HT qt
  go_loopg [34] n (fun kx s wr => ∃ i : Nat, i ≤ n ∧ s = .int .i64 i ∧ n - i ≤ kx ∧ Hid (liveTo xs o v i) ∧ Hid (Bx wr [(w.heap.size, 24, #[Value.int IntKind.i64 v, Value.int IntKind.i64 k, Value.int IntKind.i64 p, Value.int IntKind.i64 o, Value.slice A n c])]) ∧ Hid (Below w.heap.size w wr))
  case atStart => exact ⟨0, Nat.zero_le _, rfl, by omega, liveTo_zero _ _ _, KK.out, BB.out⟩
  case round =>
    obtain ⟨i, hi, rfl, hgx, HLv, KX, HB⟩ := hrel
    clear KK BB R
    by_cases hlt : i < n
    · have H2 := H1.out.below HB.out
      obtain ⟨ad, rfl, hbl, hc1, hc2⟩ := PRead.at_ H2 hlt
      have hs := HB.out.size
      have hbl2 : ad.block < wr.heap.size := by omega
      clear H2
      have hS := Lib.hid (fun h => liveTo_succ HLv.out h)
      have hF := Lib.hid (FALSE2.out i (by rw [HL.out]; exact hlt))
      change wr.cell? (ad.add (i * 2)) = some (.int .i64 (buk.at_ xs i).1) at hc1
      change wr.cell? ⟨(ad.add (i * 2)).block, (ad.add (i * 2)).off + 1, none⟩ = some (.int .i64 (buk.at_ xs i).2) at hc2
      generalize (buk.at_ xs i).1 = t1 at *
      generalize (buk.at_ xs i).2 = l1 at *
      have HC := Lib.hid (fun W => clk.live_any o v t1 W)
      have KZ := Lib.hid (KX.out.alloc (.cells #[Value.int IntKind.i64 t1, Value.int IntKind.i64 l1] 87))
      have BZ := Lib.hid (HB.out.alloc HB.out.size (.cells #[Value.int IntKind.i64 t1, Value.int IntKind.i64 l1] 87))
      have R := KZ.out.rules
      simp only [Rules] at R
      cases hl : clk.liveB o v t1
      case false =>
        rw [hl] at HC
        have RT := RET.out _ (hF.out hl)
        clear hF hS RET
        go_wp2_with (go_at_call 72; refine (HC.out _).mono ?_; rintro e w1 ⟨rfl, rfl⟩)
        go_ret
        exact ⟨clk.ret_int RT.out.symm, BZ.out⟩
      case true =>
        rw [hl] at HC
        clear hF
        go_wp2_with (go_at_call 72; refine (HC.out _).mono ?_; rintro e w1 ⟨rfl, rfl⟩)
        go_roundg (n - (i + 1))
        case measure => omega
        case rel => exact ⟨i + 1, by omega, by go_num, by omega, hS.out hl, KZ.out, BZ.out⟩
    · obtain rfl : i = n := by omega
      have RT := RET.out _ (TRUE.out (by rw [HL.out]; exact HLv.out))
      have R := KX.out.rules
      simp only [Rules] at R
      go_wp2
      go_ret
      exact ⟨clk.ret_int RT.out.symm, HB.out⟩
set_option maxHeartbeats 4000000 in
set_option maxRecDepth 100000 in
theorem ValidateS_any (v k p m o : Int) (A : Option Addr) (n c : Nat) (xs : List (Int × Int)) (w : World) (h1 : PRead w w.heap.size A n xs) (hnc : n ≤ c) (hcm : c ≤ maxLen) (hsmall : n ≤ 2000) :
    Calls Try.prog 41 #[(Value.agg #[.int .i64 v, .int .i64 k, .int .i64 p, .int .i64 m, .int .i64 o, .slice A n c])] w fun e w' => e = .returned (.int .i64 (okE (fitS xs v k p m o))) ∧ Below w.heap.size w w' := by
  have HL := Lib.hid h1.len
  have H1 := Lib.hid h1
  have HG := Lib.hid (fun W => goodS_any v k p m o W)
  have HV := Lib.hid (fun W (hb : Below w.heap.size w W) => Valid_any A n c xs k W ((h1.below hb).more hb.size) (by omega))
  have HT : Hid (∀ W, Below w.heap.size w W → Calls Try.prog 65 #[.slice A n c] W fun e w' => e = .returned (.int .i64 (totalN xs : Nat)) ∧ Below W.heap.size W w') := fun W hb => Total_any A n c xs W ((h1.below hb).more hb.size) (by omega)
  have hcm9 : c ≤ 9223372036854775807 := hcm
  clear h1 hcm
  have FALSE := fun h => @fitS_not xs v k p m o h
  have RET : ∀ b : Bool, fitS xs v k p m o = b → Hid (okE (fitS xs v k p m o) = okE b) := fun b h => by rw [h]; rfl
  cases hg : goodS v k p m o
  case false =>
    have RT := RET _ (FALSE (by rw [hg]; simp))
    rw [hg] at HG
    clear FALSE RET HV HT H1
    go_enter Try.func41, Try.ntmps41
    go_wp2_with fail
    obtain ⟨W0, hW, hs0, K0, B0⟩ := start1 w 32 #[Value.int IntKind.i64 v, Value.int IntKind.i64 k, Value.int IntKind.i64 p, Value.int IntKind.i64 m, Value.int IntKind.i64 o, Value.slice A n c]
    rw [hW]
    clear hW
    have KK := Lib.hid K0
    have BB := Lib.hid B0
    have R := K0.rules
    simp only [Rules] at R
    clear K0 B0 hs0
    (refine gro.wp_region_grown (by kernel_rfl) (by kernel_rfl) ?_; (repeat (go_big_quiet_step ((first | (go_at_call 57; exact call_same (HG.out _)))))); refine wpQuiet_nil ?_; intro _ hw'; obtain ⟨nx, hw''⟩ := hw'; subst hw'')
    replace BB := Lib.hid (BB.out.trans ((below_grown _ nx).mono BB.out.size))
    replace KK := Lib.hid (KK.out.below (below_grown _ nx))
    clear R
    generalize grown _ nx = W7 at *
    have R := KK.out.rules
    simp only [Rules] at R
    go_wp2
    go_ret
    exact ⟨clk.ret_int RT.out.symm, BB.out⟩
  rw [hg] at HG
  cases hv : buk.validB xs k
  case false =>
    have RT := RET _ (FALSE (by rw [hv]; simp))
    have HV2 : Hid (∀ W, Below w.heap.size w W → Calls Try.prog 71 #[.slice A n c, .int .i64 k] W fun e w' => e = .returned (.bool false) ∧ Below W.heap.size W w') := fun W hb => by have := HV.out W hb; rwa [hv] at this
    clear HV FALSE RET HT H1
    go_enter Try.func41, Try.ntmps41
    go_wp2_with fail
    obtain ⟨W0, hW, hs0, K0, B0⟩ := start1 w 32 #[Value.int IntKind.i64 v, Value.int IntKind.i64 k, Value.int IntKind.i64 p, Value.int IntKind.i64 m, Value.int IntKind.i64 o, Value.slice A n c]
    rw [hW]
    clear hW
    have KK := Lib.hid K0
    have BB := Lib.hid B0
    have R := K0.rules
    simp only [Rules] at R
    clear K0 B0 hs0
    (refine gro.wp_region_grown (by kernel_rfl) (by kernel_rfl) ?_; (repeat (go_big_quiet_step ((first | (go_at_call 57; exact call_same (HG.out _)) | (go_at_call 71; exact call_grown (HV2.out _ (BB.out.trans ((below_grown _ _).mono BB.out.size)))))))); refine wpQuiet_nil ?_; intro _ hw'; obtain ⟨nx, hw''⟩ := hw'; subst hw'')
    replace BB := Lib.hid (BB.out.trans ((below_grown _ nx).mono BB.out.size))
    replace KK := Lib.hid (KK.out.below (below_grown _ nx))
    clear R
    generalize grown _ nx = W7 at *
    have R := KK.out.rules
    simp only [Rules] at R
    go_wp2
    go_ret
    exact ⟨clk.ret_int RT.out.symm, BB.out⟩
  have HV2 : Hid (∀ W, Below w.heap.size w W → Calls Try.prog 71 #[.slice A n c, .int .i64 k] W fun e w' => e = .returned (.bool true) ∧ Below W.heap.size W w') := fun W hb => by have := HV.out W hb; rwa [hv] at this
  clear HV
  by_cases ht : (totalN xs : Int) ≤ p
  case neg =>
    have RT := RET _ (FALSE (fun h => ht h.2.2.1))
    have qt : decide (p < (totalN xs : Int)) = true := decide_eq_true (by omega)
    clear FALSE RET H1
    go_enter Try.func41, Try.ntmps41
    go_wp2_with fail
    obtain ⟨W0, hW, hs0, K0, B0⟩ := start1 w 32 #[Value.int IntKind.i64 v, Value.int IntKind.i64 k, Value.int IntKind.i64 p, Value.int IntKind.i64 m, Value.int IntKind.i64 o, Value.slice A n c]
    rw [hW]
    clear hW
    have KK := Lib.hid K0
    have BB := Lib.hid B0
    have R := K0.rules
    simp only [Rules] at R
    clear K0 B0 hs0
    (refine gro.wp_region_grown (by kernel_rfl) (by kernel_rfl) ?_; (repeat (go_big_quiet_step ((first | (go_at_call 57; exact call_same (HG.out _)) | (go_at_call 71; exact call_grown (HV2.out _ (BB.out.trans ((below_grown _ _).mono BB.out.size)))) | (go_at_call 65; exact call_grown (HT.out _ (BB.out.trans ((below_grown _ _).mono BB.out.size)))))))); refine wpQuiet_nil ?_; intro _ hw'; obtain ⟨nx, hw''⟩ := hw'; subst hw'')
    replace BB := Lib.hid (BB.out.trans ((below_grown _ nx).mono BB.out.size))
    replace KK := Lib.hid (KK.out.below (below_grown _ nx))
    clear R
    generalize grown _ nx = W7 at *
    have R := KK.out.rules
    simp only [Rules] at R
    go_wp2
    go_ret
    exact ⟨clk.ret_int RT.out.symm, BB.out⟩
  have qt : decide (p < (totalN xs : Int)) = false := decide_eq_false (by omega)
  have TRUE : Hid (liveTo xs o v xs.length → fitS xs v k p m o = true) := fun h => fitS_iff.2 ⟨hg, hv, ht, h⟩
  have FALSE2 : Hid (∀ i, i < xs.length → clk.liveB o v (buk.at_ xs i).1 = false → fitS xs v k p m o = false) := fun i hi h => FALSE (fun h2 => by have := h2.2.2.2 i hi; rw [h] at this; simp at this)
  replace RET := Lib.hid RET
  clear hg hv FALSE
  go_enter Try.func41, Try.ntmps41
  go_wp2_with fail
  obtain ⟨W0, hW, hs0, K0, B0⟩ := start1 w 32 #[Value.int IntKind.i64 v, Value.int IntKind.i64 k, Value.int IntKind.i64 p, Value.int IntKind.i64 m, Value.int IntKind.i64 o, Value.slice A n c]
  rw [hW]
  clear hW
  have KK := Lib.hid K0
  have BB := Lib.hid B0
  have R := K0.rules
  simp only [Rules] at R
  clear K0 B0 hs0
  (refine gro.wp_region_grown (by kernel_rfl) (by kernel_rfl) ?_; (repeat (go_big_quiet_step ((first | (go_at_call 57; exact call_same (HG.out _)) | (go_at_call 71; exact call_grown (HV2.out _ (BB.out.trans ((below_grown _ _).mono BB.out.size)))) | (go_at_call 65; exact call_grown (HT.out _ (BB.out.trans ((below_grown _ _).mono BB.out.size)))))))); refine wpQuiet_nil ?_; intro _ hw'; obtain ⟨nx, hw''⟩ := hw'; subst hw'')
  replace BB := Lib.hid (BB.out.trans ((below_grown _ nx).mono BB.out.size))
  replace KK := Lib.hid (KK.out.below (below_grown _ nx))
  clear R
  generalize grown _ nx = W7 at *
  have R := KK.out.rules
  simp only [Rules] at R
  go_wp2_with fail
  clear HG HV2 HT qt
  go_loopg [36] n (fun kx s wr => ∃ i : Nat, i ≤ n ∧ s = .int .i64 i ∧ n - i ≤ kx ∧ Hid (liveTo xs o v i) ∧ Hid (Bx wr [(w.heap.size, 32, #[Value.int IntKind.i64 v, Value.int IntKind.i64 k, Value.int IntKind.i64 p, Value.int IntKind.i64 m, Value.int IntKind.i64 o, Value.slice A n c])]) ∧ Hid (Below w.heap.size w wr))
  case atStart => exact ⟨0, Nat.zero_le _, rfl, by omega, liveTo_zero _ _ _, KK.out, BB.out⟩
  case round =>
    obtain ⟨i, hi, rfl, hgx, HLv, KX, HB⟩ := hrel
    clear KK BB R
    by_cases hlt : i < n
    · have H2 := H1.out.below HB.out
      obtain ⟨ad, rfl, hbl, hc1, hc2⟩ := PRead.at_ H2 hlt
      have hs := HB.out.size
      have hbl2 : ad.block < wr.heap.size := by omega
      clear H2
      have hS := Lib.hid (fun h => liveTo_succ HLv.out h)
      have hF := Lib.hid (FALSE2.out i (by rw [HL.out]; exact hlt))
      change wr.cell? (ad.add (i * 2)) = some (.int .i64 (buk.at_ xs i).1) at hc1
      change wr.cell? ⟨(ad.add (i * 2)).block, (ad.add (i * 2)).off + 1, none⟩ = some (.int .i64 (buk.at_ xs i).2) at hc2
      generalize (buk.at_ xs i).1 = t1 at *
      generalize (buk.at_ xs i).2 = l1 at *
      have HC := Lib.hid (fun W => clk.live_any o v t1 W)
      have KZ := Lib.hid (KX.out.alloc (.cells #[Value.int IntKind.i64 t1, Value.int IntKind.i64 l1] 87))
      have BZ := Lib.hid (HB.out.alloc HB.out.size (.cells #[Value.int IntKind.i64 t1, Value.int IntKind.i64 l1] 87))
      have R := KZ.out.rules
      simp only [Rules] at R
      cases hl : clk.liveB o v t1
      case false =>
        rw [hl] at HC
        have RT := RET.out _ (hF.out hl)
        clear hF hS RET
        go_wp2_with (go_at_call 72; refine (HC.out _).mono ?_; rintro e w1 ⟨rfl, rfl⟩)
        go_ret
        exact ⟨clk.ret_int RT.out.symm, BZ.out⟩
      case true =>
        rw [hl] at HC
        clear hF
        go_wp2_with (go_at_call 72; refine (HC.out _).mono ?_; rintro e w1 ⟨rfl, rfl⟩)
        go_roundg (n - (i + 1))
        case measure => omega
        case rel => exact ⟨i + 1, by omega, by go_num, by omega, hS.out hl, KZ.out, BZ.out⟩
    · obtain rfl : i = n := by omega
      have RT := RET.out _ (TRUE.out (by rw [HL.out]; exact HLv.out))
      have R := KX.out.rules
      simp only [Rules] at R
      go_wp2
      go_ret
      exact ⟨clk.ret_int RT.out.symm, HB.out⟩
set_option maxHeartbeats 4000000 in
set_option maxRecDepth 100000 in
theorem Fits_any (v k p o : Int) (A : Option Addr) (n c : Nat) (xs : List (Int × Int)) (w : World) (h1 : PRead w w.heap.size A n xs) (hnc : n ≤ c) (hcm : c ≤ maxLen) (hsmall : n ≤ 2000) :
    Calls Try.prog 73 #[.slice A n c, .int .i64 v, .int .i64 k, .int .i64 p, .int .i64 o] w fun e w' => e = .returned (.bool (fitB xs v k p o)) ∧ Below w.heap.size w w' := by
  have HL := Lib.hid h1.len
  have H1 := Lib.hid h1
  have HM := Lib.hid (fun W => May_any v p o W)
  have HK := Lib.hid (fun W => MayKc_any k W)
  have HV := Lib.hid (fun W (hb : Below w.heap.size w W) => ValidRef_any A n c xs k W ((h1.below hb).more hb.size) (by omega))
  have HT : Hid (∀ W, Below w.heap.size w W → Calls Try.prog 67 #[.slice A n c] W fun e w' => e = .returned (.int .i64 (totalN xs : Nat)) ∧ Below W.heap.size W w') := fun W hb => TotalRef_any A n c xs W ((h1.below hb).more hb.size) (by omega)
  have hcm9 : c ≤ 9223372036854775807 := hcm
  clear h1 hcm
  have FALSE := fun h => @fit_not xs v k p o h
  have hgm := goodC_may v k p o
  have RET : ∀ b : Bool, fitB xs v k p o = b → Hid (fitB xs v k p o = b) := fun b h => h
  cases hm : mayB v p o
  case false =>
    have RT := RET _ (FALSE (by rw [hgm, hm]; simp))
    rw [hm] at HM
    clear FALSE RET HV HT H1
    go_enter Try.func73, Try.ntmps73
    have BB := Lib.hid (Below.refl w.heap.size w)
    go_wp2_with fail
    (with_reducible refine (HM.out _).mono ?_)
    rintro e w1 ⟨rfl, rfl⟩
    go_wp2
    go_ret
    exact ⟨clk.ret_bool RT.out.symm, BB.out⟩
  rw [hm] at HM
  cases hk : kB k
  case false =>
    have RT := RET _ (FALSE (by rw [hgm, hm, hk]; simp))
    rw [hk] at HK
    clear FALSE RET HV HT H1
    go_enter Try.func73, Try.ntmps73
    have BB := Lib.hid (Below.refl w.heap.size w)
    go_wp2_with fail
    (with_reducible refine (HM.out _).mono ?_)
    rintro e w1 ⟨rfl, rfl⟩
    go_wp2_with fail
    (with_reducible refine (HK.out _).mono ?_)
    rintro e w1 ⟨rfl, rfl⟩
    go_wp2
    go_ret
    exact ⟨clk.ret_bool RT.out.symm, BB.out⟩
  rw [hk] at HK
  have hg : goodC v k p o = true := by rw [hgm, hm, hk]; rfl
  cases hv : buk.validB xs k
  case false =>
    have RT := RET _ (FALSE (by rw [hv]; simp))
    have HV2 : Hid (∀ W, Below w.heap.size w W → Calls Try.prog 94 #[.slice A n c, .int .i64 k] W fun e w' => e = .returned (.bool false) ∧ Below W.heap.size W w') := fun W hb => by have := HV.out W hb; rwa [hv] at this
    clear HV FALSE RET HT H1
    go_enter Try.func73, Try.ntmps73
    have BB := Lib.hid (Below.refl w.heap.size w)
    go_wp2_with fail
    (with_reducible refine (HM.out _).mono ?_)
    rintro e w1 ⟨rfl, rfl⟩
    go_wp2_with fail
    (with_reducible refine (HK.out _).mono ?_)
    rintro e w1 ⟨rfl, rfl⟩
    go_wp2_with fail
    (with_reducible refine (HV2.out _ BB.out).mono ?_)
    rintro e wv ⟨rfl, hbv⟩
    replace BB := Lib.hid (BB.out.trans (hbv.mono BB.out.size))
    clear hbv
    go_wp2
    go_ret
    exact ⟨clk.ret_bool RT.out.symm, BB.out⟩
  have HV2 : Hid (∀ W, Below w.heap.size w W → Calls Try.prog 94 #[.slice A n c, .int .i64 k] W fun e w' => e = .returned (.bool true) ∧ Below W.heap.size W w') := fun W hb => by have := HV.out W hb; rwa [hv] at this
  clear HV
  by_cases ht : (totalN xs : Int) ≤ p
  case neg =>
    have RT := RET _ (FALSE (fun h => ht h.2.2.1))
    have qt : decide (p < (totalN xs : Int)) = true := decide_eq_true (by omega)
    clear FALSE RET H1
    go_enter Try.func73, Try.ntmps73
    have BB := Lib.hid (Below.refl w.heap.size w)
    go_wp2_with fail
    (with_reducible refine (HM.out _).mono ?_)
    rintro e w1 ⟨rfl, rfl⟩
    go_wp2_with fail
    (with_reducible refine (HK.out _).mono ?_)
    rintro e w1 ⟨rfl, rfl⟩
    go_wp2_with fail
    (with_reducible refine (HV2.out _ BB.out).mono ?_)
    rintro e wv ⟨rfl, hbv⟩
    replace BB := Lib.hid (BB.out.trans (hbv.mono BB.out.size))
    clear hbv
    go_wp2_with fail
    (with_reducible refine (HT.out _ BB.out).mono ?_)
    rintro e wv ⟨rfl, hbv⟩
    replace BB := Lib.hid (BB.out.trans (hbv.mono BB.out.size))
    clear hbv
    go_wp2
    go_ret
    exact ⟨clk.ret_bool RT.out.symm, BB.out⟩
  have qt : decide (p < (totalN xs : Int)) = false := decide_eq_false (by omega)
  have TRUE : Hid (liveTo xs o v xs.length → fitB xs v k p o = true) := fun h => fit_iff.2 ⟨hg, hv, ht, h⟩
  have FALSE2 : Hid (∀ i, i < xs.length → clk.liveB o v (buk.at_ xs i).1 = false → fitB xs v k p o = false) := fun i hi h => FALSE (fun h2 => by have := h2.2.2.2 i hi; rw [h] at this; simp at this)
  clear hg hv FALSE RET hgm hm hk
  go_enter Try.func73, Try.ntmps73
  have BB := Lib.hid (Below.refl w.heap.size w)
  go_wp2_with fail
  (with_reducible refine (HM.out _).mono ?_)
  rintro e w1 ⟨rfl, rfl⟩
  go_wp2_with fail
  (with_reducible refine (HK.out _).mono ?_)
  rintro e w1 ⟨rfl, rfl⟩
  go_wp2_with fail
  (with_reducible refine (HV2.out _ BB.out).mono ?_)
  rintro e wv ⟨rfl, hbv⟩
  replace BB := Lib.hid (BB.out.trans (hbv.mono BB.out.size))
  clear hbv
  go_wp2_with fail
  (with_reducible refine (HT.out _ BB.out).mono ?_)
  rintro e wv ⟨rfl, hbv⟩
  replace BB := Lib.hid (BB.out.trans (hbv.mono BB.out.size))
  clear hbv
  go_wp2_with fail
  clear HM HK HV2 HT qt
  go_loopg [37] n (fun kx s wr => ∃ i : Nat, i ≤ n ∧ s = .int .i64 i ∧ n - i ≤ kx ∧ Hid (liveTo xs o v i) ∧ Hid (Below w.heap.size w wr))
  case atStart => exact ⟨0, Nat.zero_le _, rfl, by omega, liveTo_zero _ _ _, BB.out⟩
  case round =>
    obtain ⟨i, hi, rfl, hgx, HLv, HB⟩ := hrel
    clear BB
    by_cases hlt : i < n
    · have H2 := H1.out.below HB.out
      obtain ⟨ad, rfl, hbl, hc1, hc2⟩ := PRead.at_ H2 hlt
      have hs := HB.out.size
      have hbl2 : ad.block < wr.heap.size := by omega
      clear H2
      have hS := Lib.hid (fun h => liveTo_succ HLv.out h)
      have hF := Lib.hid (FALSE2.out i (by rw [HL.out]; exact hlt))
      change wr.cell? (ad.add (i * 2)) = some (.int .i64 (buk.at_ xs i).1) at hc1
      change wr.cell? ⟨(ad.add (i * 2)).block, (ad.add (i * 2)).off + 1, none⟩ = some (.int .i64 (buk.at_ xs i).2) at hc2
      generalize (buk.at_ xs i).1 = t1 at *
      generalize (buk.at_ xs i).2 = l1 at *
      have HC := Lib.hid (fun W => clk.Live_any o v t1 W)
      have BZ := Lib.hid (HB.out.alloc HB.out.size (.cells #[Value.int IntKind.i64 t1, Value.int IntKind.i64 l1] 87))
      cases hl : clk.liveB o v t1
      case false =>
        rw [hl] at HC
        have RT := hF.out hl
        clear hF hS
        go_wp2_with (go_at_call 103; refine (HC.out _).mono ?_; rintro e w1 ⟨rfl, rfl⟩)
        go_ret
        exact ⟨clk.ret_bool RT.symm, BZ.out⟩
      case true =>
        rw [hl] at HC
        clear hF
        go_wp2_with (go_at_call 103; refine (HC.out _).mono ?_; rintro e w1 ⟨rfl, rfl⟩)
        go_roundg (n - (i + 1))
        case measure => omega
        case rel => exact ⟨i + 1, by omega, by go_num, by omega, hS.out hl, BZ.out⟩
    · obtain rfl : i = n := by omega
      have RT := TRUE.out (by rw [HL.out]; exact HLv.out)
      go_wp2
      go_ret
      exact ⟨clk.ret_bool RT.symm, HB.out⟩
set_option maxHeartbeats 2000000 in
set_option maxRecDepth 100000 in
theorem ValidateCR_any (v k p o : Int) (A : Option Addr) (n c : Nat) (xs : List (Int × Int)) (w : World) (h1 : PRead w w.heap.size A n xs) (hnc : n ≤ c) (hcm : c ≤ maxLen) (hsmall : n ≤ 2000) :
    Calls Try.prog 30 #[(Value.agg #[.int .i64 v, .int .i64 k, .int .i64 p, .int .i64 o, .slice A n c])] w fun e w' => e = .returned (.int .i64 (okE (fitB xs v k p o))) ∧ Below w.heap.size w w' := by
  have HF := Lib.hid (fun W (hb : Below w.heap.size w W) => Fits_any v k p o A n c xs W ((h1.below hb).more hb.size) hnc hcm hsmall)
  clear h1 hnc hcm hsmall
  generalize fitB xs v k p o = ft at *
  cases ft
  all_goals
    simp only [okE_t, okE_f]
    go_enter Try.func30, Try.ntmps30
    go_wp2_with fail
    obtain ⟨W0, hW, hs0, K0, B0⟩ := start1 w 24 #[Value.int IntKind.i64 v, Value.int IntKind.i64 k, Value.int IntKind.i64 p, Value.int IntKind.i64 o, Value.slice A n c]
    rw [hW]
    clear hW
    have KK := Lib.hid K0
    have BB := Lib.hid B0
    have R := K0.rules
    simp only [Rules] at R
    clear K0 B0 hs0
    (with_reducible refine (HF.out _ BB.out).mono ?_)
    rintro e wv ⟨rfl, hbv⟩; replace BB := Lib.hid (BB.out.trans (hbv.mono BB.out.size)); replace KK := Lib.hid (KK.out.below hbv); replace R := KK.out.rules; simp only [gro.Rules] at R; clear hbv
    go_wp2
    go_ret
    exact ⟨rfl, BB.out⟩
set_option maxHeartbeats 2000000 in
set_option maxRecDepth 100000 in
theorem ValidateSR_any (v k p m o : Int) (A : Option Addr) (n c : Nat) (xs : List (Int × Int)) (w : World) (h1 : PRead w w.heap.size A n xs) (hnc : n ≤ c) (hcm : c ≤ maxLen) (hsmall : n ≤ 2000) :
    Calls Try.prog 42 #[(Value.agg #[.int .i64 v, .int .i64 k, .int .i64 p, .int .i64 m, .int .i64 o, .slice A n c])] w fun e w' => e = .returned (.int .i64 (okE (fitS xs v k p m o))) ∧ Below w.heap.size w w' := by
  have HF := Lib.hid (fun W (hb : Below w.heap.size w W) => Fits_any v k p o A n c xs W ((h1.below hb).more hb.size) hnc hcm hsmall)
  have HX := Lib.hid (fun W => MayMax_any m W)
  unfold fitS
  clear h1 hnc hcm hsmall
  generalize fitB xs v k p o = ft at *
  generalize mB m = mt at *
  cases ft
  case false =>
    simp only [Bool.false_and, okE_t, okE_f]
    go_enter Try.func42, Try.ntmps42
    go_wp2_with fail
    obtain ⟨W0, hW, hs0, K0, B0⟩ := start1 w 32 #[Value.int IntKind.i64 v, Value.int IntKind.i64 k, Value.int IntKind.i64 p, Value.int IntKind.i64 m, Value.int IntKind.i64 o, Value.slice A n c]
    rw [hW]
    clear hW
    have KK := Lib.hid K0
    have BB := Lib.hid B0
    have R := K0.rules
    simp only [Rules] at R
    clear K0 B0 hs0
    (with_reducible refine (HF.out _ BB.out).mono ?_)
    rintro e wv ⟨rfl, hbv⟩; replace BB := Lib.hid (BB.out.trans (hbv.mono BB.out.size)); replace KK := Lib.hid (KK.out.below hbv); replace R := KK.out.rules; simp only [gro.Rules] at R; clear hbv
    go_wp2
    go_ret
    exact ⟨rfl, BB.out⟩
  cases mt
  all_goals
    simp only [Bool.true_and, okE_t, okE_f]
    go_enter Try.func42, Try.ntmps42
    go_wp2_with fail
    obtain ⟨W0, hW, hs0, K0, B0⟩ := start1 w 32 #[Value.int IntKind.i64 v, Value.int IntKind.i64 k, Value.int IntKind.i64 p, Value.int IntKind.i64 m, Value.int IntKind.i64 o, Value.slice A n c]
    rw [hW]
    clear hW
    have KK := Lib.hid K0
    have BB := Lib.hid B0
    have R := K0.rules
    simp only [Rules] at R
    clear K0 B0 hs0
    (with_reducible refine (HF.out _ BB.out).mono ?_)
    rintro e wv ⟨rfl, hbv⟩; replace BB := Lib.hid (BB.out.trans (hbv.mono BB.out.size)); replace KK := Lib.hid (KK.out.below hbv); replace R := KK.out.rules; simp only [gro.Rules] at R; clear hbv
    go_wp2_with fail
    (with_reducible refine (HX.out _).mono ?_)
    rintro e w1 ⟨rfl, rfl⟩
    go_wp2
    go_ret
    exact ⟨rfl, BB.out⟩
end Go.Proofs.Ytofgjcfiinmimaa.cst
