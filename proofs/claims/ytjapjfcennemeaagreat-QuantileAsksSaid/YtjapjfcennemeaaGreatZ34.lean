/- Qt2: proved here in one text, no conditions beyond those that each theorem states. -/
import Derived.LoopN
import Derived.Deep.DeepCutAuto
import Derived.Deep.CutBlock
import Derived.Test.YtjapjfcennemeaaGreatZ16
import Derived.Test.YtjapjfcennemeaaGreatZ25
import Derived.Test.YtjapjfcennemeaaGreatZ26
import Derived.Test.YtjapjfcennemeaaGreatZ33
set_option linter.unusedVariables false
set_option linter.unusedSimpArgs false
namespace Go.Proofs.YtjapjfcennemeaaGreat.qtl
open Go.RowKit Go.Proofs.YtjapjfcennemeaaGreat.mem Go.Proofs.YtjapjfcennemeaaGreat.gro Go.Proofs.YtjapjfcennemeaaGreat.rnk Go.Proofs.YtjapjfcennemeaaGreat.blk
set_option linter.unusedVariables false
set_option linter.unusedSimpArgs false
set_option pp.maxSteps 200000
set_option maxHeartbeats 8000000 in
set_option maxRecDepth 100000 in
theorem ValidateQ_any (v k p o : Int) (A : Option Addr) (n c : Nat) (xs : List BlkM) (w : World) (h1 : BRead w w.heap.size A n xs) (hs : n ≤ 65000) (hp : p ≤ 9223372036854775807) :
    Calls Tryz.prog 12 #[(Value.agg #[.int .i64 v, .int .i64 k, .int .i64 p, .int .i64 o, .slice A n c])] w fun e w' => e = .returned (.int .i64 (okE (fitQ (xs.map bkey) v k p o))) ∧ Below w.heap.size w w' := by
  have HL := Lib.hid (BRead.key_len h1)
  have H1 := Lib.hid h1
  have HG := Lib.hid (fun W => goodQ_any v k p o W)
  have HZ := Lib.hid (fun W => SizeQ_any k p hp W)
  have HV := Lib.hid (fun W (hb : Below w.heap.size w W) => blk.ValidB_any A n c xs (2 * k) (sizeQ k p) W ((h1.below hb).more hb.size) (by omega))
  have HT := Lib.hid (fun W (hb : Below w.heap.size w W) => blk.TotalB_any A n c xs W ((h1.below hb).more hb.size) (by omega))
  clear h1
  have FALSE := fun h => @fitQ_not (xs.map bkey) v k p o h
  have RET : ∀ b : Bool, fitQ (xs.map bkey) v k p o = b → Hid (okE (fitQ (xs.map bkey) v k p o) = okE b) := fun b h => by rw [h]; rfl
  cases hg : goodC v k p o
  case false =>
    have RT := RET _ (FALSE (by rw [hg]; simp))
    rw [hg] at HG
    clear FALSE RET HV HT H1 HZ
    go_enter Tryz.func12, Tryz.ntmps12
    go_wp2_with fail
    obtain ⟨W0, hW, hs0, K0, B0⟩ := start1 w 24 #[Value.int IntKind.i64 v, Value.int IntKind.i64 k, Value.int IntKind.i64 p, Value.int IntKind.i64 o, Value.slice A n c]
    rw [hW]
    clear hW
    have KK := Lib.hid K0
    have BB := Lib.hid B0
    have R := K0.rules
    simp only [Rules] at R
    clear K0 B0 hs0
    (refine gro.wp_region_grown (by kernel_rfl) (by kernel_rfl) ?_; (repeat (go_big_quiet_step ((first | (go_at_call 19; exact call_same (HG.out _)))))); refine wpQuiet_nil ?_; intro _ hw'; obtain ⟨nx, hw''⟩ := hw'; subst hw'')
    replace BB := Lib.hid (BB.out.trans ((below_grown _ nx).mono BB.out.size))
    replace KK := Lib.hid (KK.out.below (below_grown _ nx))
    clear R
    generalize grown _ nx = W7 at *
    have R := KK.out.rules
    simp only [Rules] at R
    go_wp2
    go_ret
    exact ⟨clk.ret_int RT.out.symm, BB.out⟩
  rw [hg] at HG
  have hkb := (goodC_iff.1 hg).2.1
  have s1 : IntKind.i64.wrap (2 * k) = 2 * k := IntWalk.i64_in _ (by omega)
  generalize hzz : sizeQ k p = z at *
  cases hv : validK (xs.map bkey) (2 * k) z
  case false =>
    have RT := RET _ (FALSE (by rw [hv]; simp))
    have HV2 : Hid (∀ W, Below w.heap.size w W → Calls Tryz.prog 23 #[.slice A n c, .int .i64 (2 * k), .int .i64 z] W fun e w' => e = .returned (.bool false) ∧ Below W.heap.size W w') := fun W hb => by have := HV.out W hb; unfold lst.BOk at this; rwa [hv] at this
    clear HV FALSE RET HT H1 hzz
    go_enter Tryz.func12, Tryz.ntmps12
    go_wp2_with fail
    obtain ⟨W0, hW, hs0, K0, B0⟩ := start1 w 24 #[Value.int IntKind.i64 v, Value.int IntKind.i64 k, Value.int IntKind.i64 p, Value.int IntKind.i64 o, Value.slice A n c]
    rw [hW]
    clear hW
    have KK := Lib.hid K0
    have BB := Lib.hid B0
    have R := K0.rules
    simp only [Rules] at R
    clear K0 B0 hs0
    (refine gro.wp_region_grown (by kernel_rfl) (by kernel_rfl) ?_; (repeat (go_big_quiet_step ((first | (go_at_call 19; exact call_same (HG.out _)) | (go_at_call 22; exact call_same (HZ.out _)) | (go_at_call 23; exact call_grown (HV2.out _ (BB.out.trans ((below_grown _ _).mono BB.out.size)))))))); refine wpQuiet_nil ?_; intro _ hw'; obtain ⟨nx, hw''⟩ := hw'; subst hw'')
    replace BB := Lib.hid (BB.out.trans ((below_grown _ nx).mono BB.out.size))
    replace KK := Lib.hid (KK.out.below (below_grown _ nx))
    clear R
    generalize grown _ nx = W7 at *
    have R := KK.out.rules
    simp only [Rules] at R
    go_wp2
    go_ret
    exact ⟨clk.ret_int RT.out.symm, BB.out⟩
  have HV2 : Hid (∀ W, Below w.heap.size w W → Calls Tryz.prog 23 #[.slice A n c, .int .i64 (2 * k), .int .i64 z] W fun e w' => e = .returned (.bool true) ∧ Below W.heap.size W w') := fun W hb => by have := HV.out W hb; unfold lst.BOk at this; rwa [hv] at this
  clear HV
  by_cases ht : (totalK (xs.map bkey) : Int) ≤ p
  case neg =>
    have RT := RET _ (FALSE (fun h => ht h.2.2.1))
    have qt : decide (p < (totalK (xs.map bkey) : Int)) = true := decide_eq_true (by omega)
    clear FALSE RET H1 hzz
    go_enter Tryz.func12, Tryz.ntmps12
    go_wp2_with fail
    obtain ⟨W0, hW, hs0, K0, B0⟩ := start1 w 24 #[Value.int IntKind.i64 v, Value.int IntKind.i64 k, Value.int IntKind.i64 p, Value.int IntKind.i64 o, Value.slice A n c]
    rw [hW]
    clear hW
    have KK := Lib.hid K0
    have BB := Lib.hid B0
    have R := K0.rules
    simp only [Rules] at R
    clear K0 B0 hs0
    (refine gro.wp_region_grown (by kernel_rfl) (by kernel_rfl) ?_; (repeat (go_big_quiet_step ((first | (go_at_call 19; exact call_same (HG.out _)) | (go_at_call 22; exact call_same (HZ.out _)) | (go_at_call 23; exact call_grown (HV2.out _ (BB.out.trans ((below_grown _ _).mono BB.out.size)))) | (go_at_call 20; exact call_grown (HT.out _ (BB.out.trans ((below_grown _ _).mono BB.out.size)))))))); refine wpQuiet_nil ?_; intro _ hw'; obtain ⟨nx, hw''⟩ := hw'; subst hw'')
    replace BB := Lib.hid (BB.out.trans ((below_grown _ nx).mono BB.out.size))
    replace KK := Lib.hid (KK.out.below (below_grown _ nx))
    clear R
    generalize grown _ nx = W7 at *
    have R := KK.out.rules
    simp only [Rules] at R
    go_wp2
    go_ret
    exact ⟨clk.ret_int RT.out.symm, BB.out⟩
  have qt : decide (p < (totalK (xs.map bkey) : Int)) = false := decide_eq_false (by omega)
  have TRUE : Hid (liveTo (xs.map bkey) o v (xs.map bkey).length → fitQ (xs.map bkey) v k p o = true) := fun h => fitQ_iff.2 ⟨hg, by rw [hzz]; exact hv, ht, h⟩
  have FALSE2 : Hid (∀ i, i < (xs.map bkey).length → clk.liveB o v (atK (xs.map bkey) i).1 = false → fitQ (xs.map bkey) v k p o = false) := fun i hi h => FALSE (fun h2 => by have := h2.2.2.2 i hi; rw [h] at this; simp at this)
  replace RET := Lib.hid RET
  clear hg hv FALSE hzz
  go_enter Tryz.func12, Tryz.ntmps12
  go_wp2_with fail
  obtain ⟨W0, hW, hs0, K0, B0⟩ := start1 w 24 #[Value.int IntKind.i64 v, Value.int IntKind.i64 k, Value.int IntKind.i64 p, Value.int IntKind.i64 o, Value.slice A n c]
  rw [hW]
  clear hW
  have KK := Lib.hid K0
  have BB := Lib.hid B0
  have R := K0.rules
  simp only [Rules] at R
  clear K0 B0 hs0
  (refine gro.wp_region_grown (by kernel_rfl) (by kernel_rfl) ?_; (repeat (go_big_quiet_step ((first | (go_at_call 19; exact call_same (HG.out _)) | (go_at_call 22; exact call_same (HZ.out _)) | (go_at_call 23; exact call_grown (HV2.out _ (BB.out.trans ((below_grown _ _).mono BB.out.size)))) | (go_at_call 20; exact call_grown (HT.out _ (BB.out.trans ((below_grown _ _).mono BB.out.size)))))))); refine wpQuiet_nil ?_; intro _ hw'; obtain ⟨nx, hw''⟩ := hw'; subst hw'')
  replace BB := Lib.hid (BB.out.trans ((below_grown _ nx).mono BB.out.size))
  replace KK := Lib.hid (KK.out.below (below_grown _ nx))
  clear R
  generalize grown _ nx = W7 at *
  have R := KK.out.rules
  simp only [Rules] at R
  go_wp2_with fail
  clear HV2 HT qt
  go_loopg [40] n (fun kx s wr => ∃ i : Nat, i ≤ n ∧ s = .int .i64 i ∧ n - i ≤ kx ∧ Hid (liveTo (xs.map bkey) o v i) ∧ Hid (Bx wr [(w.heap.size, 24, #[Value.int IntKind.i64 v, Value.int IntKind.i64 k, Value.int IntKind.i64 p, Value.int IntKind.i64 o, Value.slice A n c])]) ∧ Hid (Below w.heap.size w wr))
  case atStart => exact ⟨0, Nat.zero_le _, rfl, by omega, liveTo_zero _ _ _, KK.out, BB.out⟩
  case round =>
    obtain ⟨i, hi, rfl, hgx, HLv, KX, HB⟩ := hrel
    clear KK BB R
    by_cases hlt : i < n
    · obtain ⟨ad, x, rfl, hbl, hx, hc1, hc2, hc3, hc4, hc5, -, -, -⟩ := BRead.at_ (H1.out.below HB.out) hlt
      have hsz := HB.out.size
      have hbl2 : ad.block < wr.heap.size := by omega
      have hK := atK_key hx
      have hS : Hid (clk.liveB o v x.t = true → liveTo (xs.map bkey) o v (i + 1)) := fun h => liveTo_succ HLv.out (by rw [hK]; exact h)
      have hF : Hid (clk.liveB o v x.t = false → fitQ (xs.map bkey) v k p o = false) := fun h => FALSE2.out i (by rw [HL.out]; exact hlt) (by rw [hK]; exact h)
      clear hK hx
      generalize x.t = bt at *
      generalize x.last = bl at *
      generalize x.level = bv at *
      generalize x.num = bn at *
      generalize x.adr = ba at *
      generalize x.en = be at *
      generalize x.ec = bq at *
      clear x
      have HC := Lib.hid (fun W => clk.live_any o v bt W)
      have hwr : w.heap.size < wr.heap.size := (KX.out _ (List.mem_cons_self ..)).lt
      obtain ⟨g5, hg5⟩ : ∃ s, wr.heap.size = s := ⟨_, rfl⟩
      have KZ := Lib.hid (KX.out.new (t := 41) (c := #[Value.int IntKind.i64 bt, Value.int IntKind.i64 bl, Value.int IntKind.i64 bv, Value.int IntKind.i64 bn, Value.slice ba be bq]) hg5)
      have BZ := Lib.hid (HB.out.alloc HB.out.size (.cells #[Value.int IntKind.i64 bt, Value.int IntKind.i64 bl, Value.int IntKind.i64 bv, Value.int IntKind.i64 bn, Value.slice ba be bq] 41))
      go_upto_region 6 with fail
      obtain ⟨W3, hW, K3, B3, z3⟩ := name_world KZ.out BZ.out (s := g5 + 1) (by simp; omega)
      rw [hW]
      clear hW KX HB KZ BZ hc1 hc2 hc3 hc4 hc5
      have KK := Lib.hid K3
      have BB := Lib.hid B3
      have R := KK.out.rules
      simp only [Rules] at R
      clear K3 B3 z3 hg5
      cases hl : clk.liveB o v bt
      case false =>
        rw [hl] at HC
        have RT := RET.out _ (hF.out hl)
        clear hF hS RET
        go_wp2_with (go_at_call 24; refine (HC.out _).mono ?_; rintro e w1 ⟨rfl, rfl⟩)
        go_ret
        exact ⟨clk.ret_int RT.out.symm, BB.out⟩
      case true =>
        rw [hl] at HC
        clear hF
        go_wp2_with (go_at_call 24; refine (HC.out _).mono ?_; rintro e w1 ⟨rfl, rfl⟩)
        go_roundg (n - (i + 1))
        case measure => omega
        case rel => exact ⟨i + 1, by omega, by go_num, by omega, hS.out hl, KK.out.tail, BB.out⟩
    · obtain rfl : i = n := by omega
      have RT := RET.out _ (TRUE.out (by rw [HL.out]; exact HLv.out))
      have R := KX.out.rules
      simp only [Rules] at R
      go_wp2
      go_ret
      exact ⟨clk.ret_int RT.out.symm, HB.out⟩
set_option maxHeartbeats 8000000 in
set_option maxRecDepth 100000 in
theorem ValidateQR_any (v k p o : Int) (A : Option Addr) (n c : Nat) (xs : List BlkM) (w : World) (h1 : BRead w w.heap.size A n xs) (hs : n ≤ 65000) (hp : p ≤ 9223372036854775807) :
    Calls Tryz.prog 14 #[(Value.agg #[.int .i64 v, .int .i64 k, .int .i64 p, .int .i64 o, .slice A n c])] w fun e w' => e = .returned (.int .i64 (okE (fitQ (xs.map bkey) v k p o))) ∧ Below w.heap.size w w' := by
  have HL := Lib.hid (BRead.key_len h1)
  have H1 := Lib.hid h1
  have HM := Lib.hid (fun W => May_any v p o W)
  have HK := Lib.hid (fun W => MayKc_any k W)
  have HZ := Lib.hid (fun W => SizeQR_any k p hp W)
  have HV := Lib.hid (fun W (hb : Below w.heap.size w W) => blk.ValidBR_any A n c xs (2 * k) (sizeQ k p) W ((h1.below hb).more hb.size) (by omega))
  have HT := Lib.hid (fun W (hb : Below w.heap.size w W) => blk.TotalBR_any A n c xs W ((h1.below hb).more hb.size) (by omega))
  clear h1
  have FALSE := fun h => @fitQ_not (xs.map bkey) v k p o h
  have RET : ∀ b : Bool, fitQ (xs.map bkey) v k p o = b → Hid (okE (fitQ (xs.map bkey) v k p o) = okE b) := fun b h => by rw [h]; rfl
  have hgd : (goodC v k p o) = (mayB v p o && kB k) := goodC_may v k p o
  cases hm : mayB v p o
  case false =>
    have RT := RET _ (FALSE (by rw [hgd, hm]; simp))
    rw [hm] at HM
    clear FALSE RET HV HT H1 HZ hgd HK
    go_enter Tryz.func14, Tryz.ntmps14
    go_wp2_with fail
    obtain ⟨W0, hW, hs0, K0, B0⟩ := start1 w 24 #[Value.int IntKind.i64 v, Value.int IntKind.i64 k, Value.int IntKind.i64 p, Value.int IntKind.i64 o, Value.slice A n c]
    rw [hW]
    clear hW
    have KK := Lib.hid K0
    have BB := Lib.hid B0
    have R := K0.rules
    simp only [Rules] at R
    clear K0 B0 hs0
    (refine gro.wp_region_grown (by kernel_rfl) (by kernel_rfl) ?_; (repeat (go_big_quiet_step ((first | (go_at_call 27; exact call_same (HM.out _)))))); refine wpQuiet_nil ?_; intro _ hw'; obtain ⟨nx, hw''⟩ := hw'; subst hw'')
    replace BB := Lib.hid (BB.out.trans ((below_grown _ nx).mono BB.out.size))
    replace KK := Lib.hid (KK.out.below (below_grown _ nx))
    clear R
    generalize grown _ nx = W7 at *
    have R := KK.out.rules
    simp only [Rules] at R
    go_wp2
    go_ret
    exact ⟨clk.ret_int RT.out.symm, BB.out⟩
  rw [hm] at HM
  cases hk : kB k
  case false =>
    have RT := RET _ (FALSE (by rw [hgd, hm, hk]; simp))
    rw [hk] at HK
    clear FALSE RET HV HT H1 HZ hgd
    go_enter Tryz.func14, Tryz.ntmps14
    go_wp2_with fail
    obtain ⟨W0, hW, hs0, K0, B0⟩ := start1 w 24 #[Value.int IntKind.i64 v, Value.int IntKind.i64 k, Value.int IntKind.i64 p, Value.int IntKind.i64 o, Value.slice A n c]
    rw [hW]
    clear hW
    have KK := Lib.hid K0
    have BB := Lib.hid B0
    have R := K0.rules
    simp only [Rules] at R
    clear K0 B0 hs0
    (refine gro.wp_region_grown (by kernel_rfl) (by kernel_rfl) ?_; (repeat (go_big_quiet_step ((first | (go_at_call 27; exact call_same (HM.out _)) | (go_at_call 28; exact call_same (HK.out _)))))); refine wpQuiet_nil ?_; intro _ hw'; obtain ⟨nx, hw''⟩ := hw'; subst hw'')
    replace BB := Lib.hid (BB.out.trans ((below_grown _ nx).mono BB.out.size))
    replace KK := Lib.hid (KK.out.below (below_grown _ nx))
    clear R
    generalize grown _ nx = W7 at *
    have R := KK.out.rules
    simp only [Rules] at R
    go_wp2
    go_ret
    exact ⟨clk.ret_int RT.out.symm, BB.out⟩
  rw [hk] at HK
  have hg : goodC v k p o = true := by rw [hgd, hm, hk]; rfl
  clear hgd hm hk
  have hkb := (goodC_iff.1 hg).2.1
  have s1 : IntKind.i64.wrap (2 * k) = 2 * k := IntWalk.i64_in _ (by omega)
  generalize hzz : sizeQ k p = z at *
  cases hv : validK (xs.map bkey) (2 * k) z
  case false =>
    have RT := RET _ (FALSE (by rw [hv]; simp))
    have HV2 : Hid (∀ W, Below w.heap.size w W → Calls Tryz.prog 29 #[.slice A n c, .int .i64 (2 * k), .int .i64 z] W fun e w' => e = .returned (.bool false) ∧ Below W.heap.size W w') := fun W hb => by have := HV.out W hb; unfold lst.BOk at this; rwa [hv] at this
    clear HV FALSE RET HT H1 hzz
    go_enter Tryz.func14, Tryz.ntmps14
    go_wp2_with fail
    obtain ⟨W0, hW, hs0, K0, B0⟩ := start1 w 24 #[Value.int IntKind.i64 v, Value.int IntKind.i64 k, Value.int IntKind.i64 p, Value.int IntKind.i64 o, Value.slice A n c]
    rw [hW]
    clear hW
    have KK := Lib.hid K0
    have BB := Lib.hid B0
    have R := K0.rules
    simp only [Rules] at R
    clear K0 B0 hs0
    (refine gro.wp_region_grown (by kernel_rfl) (by kernel_rfl) ?_; (repeat (go_big_quiet_step ((first | (go_at_call 27; exact call_same (HM.out _)) | (go_at_call 28; exact call_same (HK.out _)) | (go_at_call 30; exact call_same (HZ.out _)) | (go_at_call 29; exact call_grown (HV2.out _ (BB.out.trans ((below_grown _ _).mono BB.out.size)))))))); refine wpQuiet_nil ?_; intro _ hw'; obtain ⟨nx, hw''⟩ := hw'; subst hw'')
    replace BB := Lib.hid (BB.out.trans ((below_grown _ nx).mono BB.out.size))
    replace KK := Lib.hid (KK.out.below (below_grown _ nx))
    clear R
    generalize grown _ nx = W7 at *
    have R := KK.out.rules
    simp only [Rules] at R
    go_wp2
    go_ret
    exact ⟨clk.ret_int RT.out.symm, BB.out⟩
  have HV2 : Hid (∀ W, Below w.heap.size w W → Calls Tryz.prog 29 #[.slice A n c, .int .i64 (2 * k), .int .i64 z] W fun e w' => e = .returned (.bool true) ∧ Below W.heap.size W w') := fun W hb => by have := HV.out W hb; unfold lst.BOk at this; rwa [hv] at this
  clear HV
  by_cases ht : (totalK (xs.map bkey) : Int) ≤ p
  case neg =>
    have RT := RET _ (FALSE (fun h => ht h.2.2.1))
    have qt : decide (p < (totalK (xs.map bkey) : Int)) = true := decide_eq_true (by omega)
    clear FALSE RET H1 hzz
    go_enter Tryz.func14, Tryz.ntmps14
    go_wp2_with fail
    obtain ⟨W0, hW, hs0, K0, B0⟩ := start1 w 24 #[Value.int IntKind.i64 v, Value.int IntKind.i64 k, Value.int IntKind.i64 p, Value.int IntKind.i64 o, Value.slice A n c]
    rw [hW]
    clear hW
    have KK := Lib.hid K0
    have BB := Lib.hid B0
    have R := K0.rules
    simp only [Rules] at R
    clear K0 B0 hs0
    (refine gro.wp_region_grown (by kernel_rfl) (by kernel_rfl) ?_; (repeat (go_big_quiet_step ((first | (go_at_call 27; exact call_same (HM.out _)) | (go_at_call 28; exact call_same (HK.out _)) | (go_at_call 30; exact call_same (HZ.out _)) | (go_at_call 29; exact call_grown (HV2.out _ (BB.out.trans ((below_grown _ _).mono BB.out.size)))) | (go_at_call 31; exact call_grown (HT.out _ (BB.out.trans ((below_grown _ _).mono BB.out.size)))))))); refine wpQuiet_nil ?_; intro _ hw'; obtain ⟨nx, hw''⟩ := hw'; subst hw'')
    replace BB := Lib.hid (BB.out.trans ((below_grown _ nx).mono BB.out.size))
    replace KK := Lib.hid (KK.out.below (below_grown _ nx))
    clear R
    generalize grown _ nx = W7 at *
    have R := KK.out.rules
    simp only [Rules] at R
    go_wp2
    go_ret
    exact ⟨clk.ret_int RT.out.symm, BB.out⟩
  have qt : decide (p < (totalK (xs.map bkey) : Int)) = false := decide_eq_false (by omega)
  have TRUE : Hid (liveTo (xs.map bkey) o v (xs.map bkey).length → fitQ (xs.map bkey) v k p o = true) := fun h => fitQ_iff.2 ⟨hg, by rw [hzz]; exact hv, ht, h⟩
  have FALSE2 : Hid (∀ i, i < (xs.map bkey).length → clk.liveB o v (atK (xs.map bkey) i).1 = false → fitQ (xs.map bkey) v k p o = false) := fun i hi h => FALSE (fun h2 => by have := h2.2.2.2 i hi; rw [h] at this; simp at this)
  replace RET := Lib.hid RET
  clear hg hv FALSE hzz
  go_enter Tryz.func14, Tryz.ntmps14
  go_wp2_with fail
  obtain ⟨W0, hW, hs0, K0, B0⟩ := start1 w 24 #[Value.int IntKind.i64 v, Value.int IntKind.i64 k, Value.int IntKind.i64 p, Value.int IntKind.i64 o, Value.slice A n c]
  rw [hW]
  clear hW
  have KK := Lib.hid K0
  have BB := Lib.hid B0
  have R := K0.rules
  simp only [Rules] at R
  clear K0 B0 hs0
  (refine gro.wp_region_grown (by kernel_rfl) (by kernel_rfl) ?_; (repeat (go_big_quiet_step ((first | (go_at_call 27; exact call_same (HM.out _)) | (go_at_call 28; exact call_same (HK.out _)) | (go_at_call 30; exact call_same (HZ.out _)) | (go_at_call 29; exact call_grown (HV2.out _ (BB.out.trans ((below_grown _ _).mono BB.out.size)))) | (go_at_call 31; exact call_grown (HT.out _ (BB.out.trans ((below_grown _ _).mono BB.out.size)))))))); refine wpQuiet_nil ?_; intro _ hw'; obtain ⟨nx, hw''⟩ := hw'; subst hw'')
  replace BB := Lib.hid (BB.out.trans ((below_grown _ nx).mono BB.out.size))
  replace KK := Lib.hid (KK.out.below (below_grown _ nx))
  clear R
  generalize grown _ nx = W7 at *
  have R := KK.out.rules
  simp only [Rules] at R
  go_wp2_with fail
  clear HV2 HT qt
  go_loopg [44] n (fun kx s wr => ∃ i : Nat, i ≤ n ∧ s = .int .i64 i ∧ n - i ≤ kx ∧ Hid (liveTo (xs.map bkey) o v i) ∧ Hid (Bx wr [(w.heap.size, 24, #[Value.int IntKind.i64 v, Value.int IntKind.i64 k, Value.int IntKind.i64 p, Value.int IntKind.i64 o, Value.slice A n c])]) ∧ Hid (Below w.heap.size w wr))
  case atStart => exact ⟨0, Nat.zero_le _, rfl, by omega, liveTo_zero _ _ _, KK.out, BB.out⟩
  case round =>
    obtain ⟨i, hi, rfl, hgx, HLv, KX, HB⟩ := hrel
    clear KK BB R
    by_cases hlt : i < n
    · obtain ⟨ad, x, rfl, hbl, hx, hc1, hc2, hc3, hc4, hc5, -, -, -⟩ := BRead.at_ (H1.out.below HB.out) hlt
      have hsz := HB.out.size
      have hbl2 : ad.block < wr.heap.size := by omega
      have hK := atK_key hx
      have hS : Hid (clk.liveB o v x.t = true → liveTo (xs.map bkey) o v (i + 1)) := fun h => liveTo_succ HLv.out (by rw [hK]; exact h)
      have hF : Hid (clk.liveB o v x.t = false → fitQ (xs.map bkey) v k p o = false) := fun h => FALSE2.out i (by rw [HL.out]; exact hlt) (by rw [hK]; exact h)
      clear hK hx
      generalize x.t = bt at *
      generalize x.last = bl at *
      generalize x.level = bv at *
      generalize x.num = bn at *
      generalize x.adr = ba at *
      generalize x.en = be at *
      generalize x.ec = bq at *
      clear x
      have HC := Lib.hid (fun W => clk.Live_any o v bt W)
      have hwr : w.heap.size < wr.heap.size := (KX.out _ (List.mem_cons_self ..)).lt
      obtain ⟨g5, hg5⟩ : ∃ s, wr.heap.size = s := ⟨_, rfl⟩
      have KZ := Lib.hid (KX.out.new (t := 41) (c := #[Value.int IntKind.i64 bt, Value.int IntKind.i64 bl, Value.int IntKind.i64 bv, Value.int IntKind.i64 bn, Value.slice ba be bq]) hg5)
      have BZ := Lib.hid (HB.out.alloc HB.out.size (.cells #[Value.int IntKind.i64 bt, Value.int IntKind.i64 bl, Value.int IntKind.i64 bv, Value.int IntKind.i64 bn, Value.slice ba be bq] 41))
      go_upto_region 6 with fail
      obtain ⟨W3, hW, K3, B3, z3⟩ := name_world KZ.out BZ.out (s := g5 + 1) (by simp; omega)
      rw [hW]
      clear hW KX HB KZ BZ hc1 hc2 hc3 hc4 hc5
      have KK := Lib.hid K3
      have BB := Lib.hid B3
      have R := KK.out.rules
      simp only [Rules] at R
      clear K3 B3 z3 hg5
      cases hl : clk.liveB o v bt
      case false =>
        rw [hl] at HC
        have RT := RET.out _ (hF.out hl)
        clear hF hS RET
        go_wp2_with (go_at_call 32; refine (HC.out _).mono ?_; rintro e w1 ⟨rfl, rfl⟩)
        go_ret
        exact ⟨clk.ret_int RT.out.symm, BB.out⟩
      case true =>
        rw [hl] at HC
        clear hF
        go_wp2_with (go_at_call 32; refine (HC.out _).mono ?_; rintro e w1 ⟨rfl, rfl⟩)
        go_roundg (n - (i + 1))
        case measure => omega
        case rel => exact ⟨i + 1, by omega, by go_num, by omega, hS.out hl, KK.out.tail, BB.out⟩
    · obtain rfl : i = n := by omega
      have RT := RET.out _ (TRUE.out (by rw [HL.out]; exact HLv.out))
      have R := KX.out.rules
      simp only [Rules] at R
      go_wp2
      go_ret
      exact ⟨clk.ret_int RT.out.symm, HB.out⟩
end Go.Proofs.YtjapjfcennemeaaGreat.qtl
