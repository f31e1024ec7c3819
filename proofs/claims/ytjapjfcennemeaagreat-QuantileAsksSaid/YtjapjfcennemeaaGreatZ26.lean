/- BValR: proved here in one text, no conditions beyond those that each theorem states. -/
import Derived.Test.YtjapjfcennemeaaGreatZ25
import Derived.Test.YtjapjfcennemeaaGreatZ9
import Derived.Test.YtjapjfcennemeaaGreatZ23
import Derived.Test.YtjapjfcennemeaaGreatZ22
import Derived.Test.YtjapjfcennemeaaGreatZ14
import Derived.Test.YtjapjfcennemeaaGreatZ24
set_option linter.unusedVariables false
set_option linter.unusedSimpArgs false
namespace Go.Proofs.YtjapjfcennemeaaGreat.blk
open Go.RowKit Go.Proofs.YtjapjfcennemeaaGreat.mem Go.Proofs.YtjapjfcennemeaaGreat.rnk Go.Proofs.YtjapjfcennemeaaGreat.gro Go.Proofs.YtjapjfcennemeaaGreat.buk
open Go.Proofs.YtjapjfcennemeaaGreat.lst (BOk)
set_option linter.unusedVariables false
set_option linter.unusedSimpArgs false
set_option pp.maxSteps 200000
def valB (v : Int) : Bool := decide (-4096 ≤ v ∧ v ≤ 4096)
theorem Value_any (v : Int) (w : World) : Calls Tryz.prog 63 #[.int .i64 v] w fun e w' => e = .returned (.bool (valB v)) ∧ w = w' := by
  go_enter Tryz.func63, Tryz.ntmps63
  go_wp2
  all_goals (go_ret; exact ⟨ret_bool (by unfold valB; simp; omega), rfl⟩)
theorem valB_t {v : Int} (h : -4096 ≤ v ∧ v ≤ 4096) : valB v = true := by unfold valB; simpa using h
theorem valB_f {v : Int} (h : ¬ (-4096 ≤ v ∧ v ≤ 4096)) : valB v = false := by unfold valB; simpa using h
set_option maxHeartbeats 16000000 in
set_option maxRecDepth 100000 in
theorem ValidBR_any (A : Option Addr) (n c : Nat) (xs : List BlkM) (k b : Int) (w : World) (h1 : BRead w w.heap.size A n xs) (hs : n ≤ 65000) : Calls Tryz.prog 29 #[.slice A n c, .int .i64 k, .int .i64 b] w (BOk (validK (xs.map bkey) k b) w) := by
  have H1 := Lib.hid h1
  have HL := Lib.hid h1.len
  have HLk := Lib.hid (BRead.key_len h1)
  have HP := Lib.hid (PlainR_any A n c xs w h1 hs)
  clear h1
  by_cases hb : 1 ≤ b ∧ b ≤ 65536
  case neg =>
    have HF := Lib.hid (validK_b (xs := xs.map bkey) (k := k) hb)
    by_cases g1 : b < 1
    case pos =>
      clear hb
      go_enter Tryz.func29, Tryz.ntmps29
      go_wp2
      go_ret
      exact ⟨ret_bool (by rw [HF.out]), Below.refl _ _⟩
    have g2 : 65536 < b := by omega
    clear hb
    go_enter Tryz.func29, Tryz.ntmps29
    go_wp2
    go_ret
    exact ⟨ret_bool (by rw [HF.out]), Below.refl _ _⟩
  have HV := Lib.hid (fun (A1 : Option Addr) (m1 c1 : Nat) (W : World) (hr : PRead W W.heap.size A1 m1 (plainB xs)) => lst.ValidRef_any A1 m1 c1 (plainB xs) k W hr (by have := PRead.len hr; rw [plainB_len, HL.out] at this; omega))
  rcases Bool.eq_false_or_eq_true (validB (plainB xs) k) with hv | hv
  case inr =>
    have HF := Lib.hid (validK_p (xs := xs.map bkey) (b := b) (by rw [← plainB_key]; exact hv))
    rw [hv] at HV
    clear hv
    obtain ⟨g1, g2⟩ := hb
    go_enter Tryz.func29, Tryz.ntmps29
    go_wp2_with fail
    refine HP.out.mono ?_
    rintro e w1 ⟨A1, m1, c1, rfl, q1, q2, q3, hb1⟩
    have HT := Lib.hid (HV.out A1 m1 c1 w1 q3)
    have HB := Lib.hid hb1
    clear q3 hb1
    go_wp2_with (go_at_call 60; refine HT.out.mono ?_; rintro e w2 ⟨rfl, hb2⟩; have HB2 := Lib.hid (HB.out.trans (hb2.mono HB.out.size)); clear hb2)
    go_ret
    exact ⟨ret_bool (by rw [HF.out]), HB2.out⟩
  have HYes := Lib.hid (fun h => validK_yes (xs := xs.map bkey) (k := k) HLk.out hb (by rw [← plainB_key]; exact hv) h)
  have HLev := Lib.hid (fun (i : Nat) (x : BlkM) (h : xs[i]? = some x) => lev_of hv h)
  rw [hv] at HV
  clear hv
  obtain ⟨g1, g2⟩ := hb
  go_enter Tryz.func29, Tryz.ntmps29
  go_wp2_with fail
  refine HP.out.mono ?_
  rintro e w1 ⟨A1, m1, c1, rfl, q1, q2, q3, hb1⟩
  have HT := Lib.hid (HV.out A1 m1 c1 w1 q3)
  have HB := Lib.hid hb1
  clear q3 hb1
  go_wp2_with (go_at_call 60; refine HT.out.mono ?_; rintro e w2 ⟨rfl, hb2⟩; have HB2 := Lib.hid (HB.out.trans (hb2.mono HB.out.size)); clear hb2)
  go_loopg [27] n (fun kx s27 wr => ∃ i : Nat, i ≤ n ∧ s27 = .int .i64 i ∧ n - i ≤ kx ∧ Hid (Below w.heap.size w wr) ∧ Hid (bkTo b (xs.map bkey) i = true))
  case atStart => exact ⟨0, Nat.zero_le _, rfl, by omega, HB2, (rfl : bkTo b (xs.map bkey) 0 = true)⟩
  case round =>
    clear HT HV HP HB HB2
    obtain ⟨i, hi, rfl, hik, BB, HO⟩ := hrel
    by_cases hlt : i < n
    case neg =>
      obtain rfl : i = n := by omega
      have HF := Lib.hid (HYes.out HO.out)
      go_wp2
      go_ret
      exact ⟨ret_bool (by rw [HF.out]), BB.out⟩
    obtain ⟨ad, x, rfl, hbl, hx, hc1, hc2, hc3, hc4, hc5, _, hq1, hq2⟩ := BRead.at_ (H1.out.below BB.out) hlt
    have hmem := List.mem_of_getElem? hx
    have hen : x.en ≤ 9223372036854775807 := Nat.le_trans hq1 hq2
    have HR0 := Lib.hid (H1.out.2 x hmem).1
    have HEl := Lib.hid HR0.out.len
    have HVd := Lib.hid (fun W (hb : Below w.heap.size w W) => rnk.ValidateR_any x.num x.adr x.en x.ec x.es W ((HR0.out.below hb).more hb.size) hen)
    have HGp := Lib.hid (fun (hl : x.en ≤ 16777216) W (hb : Below w.heap.size w W) => rnk.GapR_any x.num x.adr x.en x.ec x.es W ((HR0.out.below hb).more hb.size) hl)
    have HAl := Lib.hid (fun W => rnk.AllowedR_any x.level b W)
    have hlev := HLev.out i x hx
    have hK := atK_key hx
    have HNo := Lib.hid (fun h => validK_not (xs := xs.map bkey) (k := k) (b := b) (i := i) (by rw [HLk.out]; exact hlt) (by rw [hK]; exact h))
    have HSu := Lib.hid (fun h => bkTo_succ HO.out (by rw [hK]; exact h))
    have HIf := Lib.hid (blk_iff (b := b) (t := x.t) (l := x.last) (v := x.level) (n := x.num) (es := x.es))
    rw [HEl.out] at HIf
    clear hK hx hmem HO HYes HLev
    generalize x.t = bt at *
    generalize x.last = bl at *
    generalize x.level = bv at *
    generalize x.num = bn at *
    generalize x.adr = ba at *
    generalize x.en = be at *
    generalize x.ec = bq at *
    generalize x.es = es at *
    clear x
    obtain ⟨l, rfl⟩ := Int.eq_ofNat_of_zero_le hlev.1
    obtain ⟨_, hl30⟩ := hlev
    rw [Int.toNat_natCast] at HIf
    have hsz := BB.out.size
    have hbl2 : ad.block < wr.heap.size := by omega
    have HS2 := Lib.hid (shl_nat (show l ≤ 30 by omega))
    have s1 : IntKind.i64.wrap (b + 1) = b + 1 := IntWalk.i64_in _ (by omega)
    have HW1 := Lib.hid (fun W => Value_any (at3 es 0).1 W)
    have HW2 := Lib.hid (fun W => Value_any (at3 es (be - 1)).1 W)
    go_wp2_with fail
    obtain ⟨W0, hW, hs0, K0, B0⟩ := start1 wr 41 #[Value.int IntKind.i64 bt, Value.int IntKind.i64 bl, Value.int IntKind.i64 (l : Int), Value.int IntKind.i64 bn, Value.slice ba be bq]
    rw [hW]
    clear hW
    have B1 := Lib.hid (BB.out.trans (B0.mono BB.out.size))
    have KK := Lib.hid K0
    have R := K0.rules
    simp only [Rules] at R
    clear K0 B0 BB hc1 hc2 hc3 hc4 hc5
    have BB := B1
    clear B1
    rcases Bool.eq_false_or_eq_true (valR bn es) with hv | hv
    case inr =>
      have HF := Lib.hid (HNo.out (fun h => by have := (HIf.out.1 h).1; rw [hv] at this; cases this))
      rw [hv, erS_f] at HVd
      clear HIf hv HNo HSu
      (with_reducible refine (HVd.out _ BB.out).mono ?_)
      rintro e wv ⟨rfl, hbv⟩; replace BB := Lib.hid (BB.out.trans (hbv.mono BB.out.size)); replace KK := Lib.hid (KK.out.below hbv); replace R := KK.out.rules; simp only [gro.Rules] at R; clear hbv
      go_wp2
      go_ret
      exact ⟨ret_bool (by rw [HF.out]), BB.out⟩
    rw [hv, erS_t] at HVd
    by_cases hn : bn = 2 ^ l
    case neg =>
      have HF := Lib.hid (HNo.out (fun h => hn (HIf.out.1 h).2.1))
      have hn1 : ¬ (bn = wrap64 (2 ^ l)) := by rw [HS2.out]; exact hn
      have hn2 : (bn == wrap64 (2 ^ l)) = false := by simpa using hn1
      clear HIf hv HNo HSu hn
      (with_reducible refine (HVd.out _ BB.out).mono ?_)
      rintro e wv ⟨rfl, hbv⟩; replace BB := Lib.hid (BB.out.trans (hbv.mono BB.out.size)); replace KK := Lib.hid (KK.out.below hbv); replace R := KK.out.rules; simp only [gro.Rules] at R; clear hbv
      go_wp2
      go_ret
      exact ⟨ret_bool (by rw [HF.out]), BB.out⟩
    by_cases hlen : (be : Int) ≤ b + 1
    case neg =>
      have HF := Lib.hid (HNo.out (fun h => hlen (HIf.out.1 h).2.2.1))
      have hn1 : bn = wrap64 (2 ^ l) := by rw [HS2.out]; exact hn
      have hn2 : (bn == wrap64 (2 ^ l)) = true := by simpa using hn1
      have hn3 := Lib.hid hn1
      have hd0 : b + 1 < (be : Int) := by omega
      clear HIf hv HNo HSu hn hn1
      (with_reducible refine (HVd.out _ BB.out).mono ?_)
      rintro e wv ⟨rfl, hbv⟩; replace BB := Lib.hid (BB.out.trans (hbv.mono BB.out.size)); replace KK := Lib.hid (KK.out.below hbv); replace R := KK.out.rules; simp only [gro.Rules] at R; clear hbv
      go_wp2
      go_ret
      exact ⟨ret_bool (by rw [HF.out]), BB.out⟩
    replace HGp := Lib.hid (HGp.out (by omega))
    have hgb : 0 ≤ gapR bn es ∧ gapR bn es ≤ 1099511627776 := gapR_bd hv
    have hab : -1 ≤ allowed l b ∧ allowed l b ≤ 66571993088 := allowed_bd g1
    have hbe0 : 0 < be := by
      rcases Nat.eq_zero_or_pos be with e | e
      · have h2 := (valR_iff.1 hv).1.2.2; rw [HEl.out] at h2; have := h2.1 e; have := pow_bd (show l ≤ 30 by omega); omega
      · exact e
    have hn1 : bn = wrap64 (2 ^ l) := by rw [HS2.out]; exact hn
    have hn2 : (bn == wrap64 (2 ^ l)) = true := by simpa using hn1
    have HIg := Lib.hid (show blkOk b (bt, bl, (l : Int), bn, es) = true ↔ gapR bn es - 1 ≤ allowed l b ∧ -4096 ≤ (at3 es 0).1 ∧ (at3 es (be - 1)).1 ≤ 4096 ∧ (at3 es 0).1 ≤ bl ∧ bl ≤ (at3 es (be - 1)).1 from ⟨fun h => (HIf.out.1 h).2.2.2, fun h => HIf.out.2 ⟨hv, hn, hlen, h⟩⟩)
    have hasc := asc_of_val hv 0 (be - 1) (by omega) (by rw [HEl.out]; omega)
    have hdl : ¬ b + 1 < (be : Int) := by omega
    have hn4 : (bn = wrap64 (2 ^ l)) = True := eq_true hn1
    have hn5 : (bn != wrap64 (2 ^ l)) = false := by rw [HS2.out]; simpa using hn
    clear hv hn HIf hn1
    generalize gapR bn es = gp at *
    generalize allowed l b = al at *
    have s2 : IntKind.i64.wrap (gp - 1) = gp - 1 := IntWalk.i64_in _ (by omega)
    (with_reducible refine (HVd.out _ BB.out).mono ?_)
    rintro e wv ⟨rfl, hbv⟩; replace BB := Lib.hid (BB.out.trans (hbv.mono BB.out.size)); replace KK := Lib.hid (KK.out.below hbv); replace R := KK.out.rules; simp only [gro.Rules] at R; clear hbv
    have H2 := HR0.out.below BB.out
    obtain ⟨ae, rfl, hbl3, he1, he2, he3⟩ := ERead.at_ H2 hbe0
    obtain ⟨ae', e, _, hf1, hf2, hf3⟩ := ERead.at_ H2 (show be - 1 < be by omega)
    injection e with e
    subst e
    rw [show ae.add (0 * 3) = ae from by simp [Addr.add]] at he1
    clear H2 he2 he3 hf2 hf3
    generalize (at3 es 0).1 = lo at *
    generalize (at3 es (be - 1)).1 = hi2 at *
    have s3 : 0 ≤ (be : Int) - 1 := by omega
    have s4 : ((be : Int) - 1).toNat = be - 1 := by omega
    have s5 : (be : Int) - 1 < be := by omega
    have s6 : IntKind.i64.wrap ((be : Int) - 1) = (be : Int) - 1 := IntWalk.i64_in _ (by omega)
    go_wp2_with fail
    (refine gro.wp_region_grown (by kernel_rfl) (by kernel_rfl) ?_; (repeat (go_big_quiet_step ((fail)))); refine wpQuiet_nil ?_; intro _ hw'; obtain ⟨nx, hw''⟩ := hw'; subst hw'')
    replace BB := Lib.hid (BB.out.trans ((below_grown _ nx).mono BB.out.size))
    replace KK := Lib.hid (KK.out.below (below_grown _ nx))
    clear R s3 s4 s5 s6 he1 hf1 s1 hn2 hn4 hn5 hlen HVd HS2
    generalize grown _ nx = W8 at *
    have R := KK.out.rules
    simp only [Rules] at R
    go_wp2_with fail
    by_cases v1 : -4096 ≤ lo ∧ lo ≤ 4096
    case neg =>
      have HF := Lib.hid (HNo.out (fun h => by have := HIg.out.1 h; omega))
      rw [valB_f v1] at HW1
      clear v1 HNo HSu HIg
      (refine gro.wp_region_grown (by kernel_rfl) (by kernel_rfl) ?_; (repeat (go_big_quiet_step ((first | (go_at_call 63; first | exact call_same (HW1.out _) | exact call_same (HW2.out _)) | (go_at_call 64; exact call_grown (HGp.out _ (BB.out.trans ((below_grown _ _).mono BB.out.size)))) | (go_at_call 65; exact call_same (HAl.out _)))))); refine wpQuiet_nil ?_; intro _ hw'; obtain ⟨nx, hw''⟩ := hw'; subst hw'')
      replace BB := Lib.hid (BB.out.trans ((below_grown _ nx).mono BB.out.size))
      clear R KK
      generalize grown _ nx = W9 at *
      go_wp2
      go_ret
      exact ⟨ret_bool (by rw [HF.out]), BB.out⟩
    rw [valB_t v1] at HW1
    by_cases v2 : -4096 ≤ hi2 ∧ hi2 ≤ 4096
    case neg =>
      have HF := Lib.hid (HNo.out (fun h => by have := HIg.out.1 h; omega))
      rw [valB_f v2] at HW2
      clear v1 v2 HNo HSu HIg
      (refine gro.wp_region_grown (by kernel_rfl) (by kernel_rfl) ?_; (repeat (go_big_quiet_step ((first | (go_at_call 63; first | exact call_same (HW1.out _) | exact call_same (HW2.out _)) | (go_at_call 64; exact call_grown (HGp.out _ (BB.out.trans ((below_grown _ _).mono BB.out.size)))) | (go_at_call 65; exact call_same (HAl.out _)))))); refine wpQuiet_nil ?_; intro _ hw'; obtain ⟨nx, hw''⟩ := hw'; subst hw'')
      replace BB := Lib.hid (BB.out.trans ((below_grown _ nx).mono BB.out.size))
      clear R KK
      generalize grown _ nx = W9 at *
      go_wp2
      go_ret
      exact ⟨ret_bool (by rw [HF.out]), BB.out⟩
    rw [valB_t v2] at HW2
    by_cases v3 : bl < lo
    case pos =>
      have HF := Lib.hid (HNo.out (fun h => by have := HIg.out.1 h; omega))
      have hd3 : decide (bl < lo) = true := by simpa using v3
      clear v1 v2 HNo HSu HIg
      (refine gro.wp_region_grown (by kernel_rfl) (by kernel_rfl) ?_; (repeat (go_big_quiet_step ((first | (go_at_call 63; first | exact call_same (HW1.out _) | exact call_same (HW2.out _)) | (go_at_call 64; exact call_grown (HGp.out _ (BB.out.trans ((below_grown _ _).mono BB.out.size)))) | (go_at_call 65; exact call_same (HAl.out _)))))); refine wpQuiet_nil ?_; intro _ hw'; obtain ⟨nx, hw''⟩ := hw'; subst hw'')
      replace BB := Lib.hid (BB.out.trans ((below_grown _ nx).mono BB.out.size))
      clear R KK
      generalize grown _ nx = W9 at *
      go_wp2
      go_ret
      exact ⟨ret_bool (by rw [HF.out]), BB.out⟩
    have hd3 : decide (bl < lo) = false := by simpa using v3
    by_cases v4 : hi2 < bl
    case pos =>
      have HF := Lib.hid (HNo.out (fun h => by have := HIg.out.1 h; omega))
      have hd4 : decide (hi2 < bl) = true := by simpa using v4
      clear v1 v2 HNo HSu HIg
      (refine gro.wp_region_grown (by kernel_rfl) (by kernel_rfl) ?_; (repeat (go_big_quiet_step ((first | (go_at_call 63; first | exact call_same (HW1.out _) | exact call_same (HW2.out _)) | (go_at_call 64; exact call_grown (HGp.out _ (BB.out.trans ((below_grown _ _).mono BB.out.size)))) | (go_at_call 65; exact call_same (HAl.out _)))))); refine wpQuiet_nil ?_; intro _ hw'; obtain ⟨nx, hw''⟩ := hw'; subst hw'')
      replace BB := Lib.hid (BB.out.trans ((below_grown _ nx).mono BB.out.size))
      clear R KK
      generalize grown _ nx = W9 at *
      go_wp2
      go_ret
      exact ⟨ret_bool (by rw [HF.out]), BB.out⟩
    have hd4 : decide (hi2 < bl) = false := by simpa using v4
    by_cases v5 : al < gp - 1
    case pos =>
      have HF := Lib.hid (HNo.out (fun h => by have := HIg.out.1 h; omega))
      have hd5 : decide (al < gp - 1) = true := by simpa using v5
      clear v1 v2 HNo HSu HIg
      (refine gro.wp_region_grown (by kernel_rfl) (by kernel_rfl) ?_; (repeat (go_big_quiet_step ((first | (go_at_call 63; first | exact call_same (HW1.out _) | exact call_same (HW2.out _)) | (go_at_call 64; exact call_grown (HGp.out _ (BB.out.trans ((below_grown _ _).mono BB.out.size)))) | (go_at_call 65; exact call_same (HAl.out _)))))); refine wpQuiet_nil ?_; intro _ hw'; obtain ⟨nx, hw''⟩ := hw'; subst hw'')
      replace BB := Lib.hid (BB.out.trans ((below_grown _ nx).mono BB.out.size))
      clear R KK
      generalize grown _ nx = W9 at *
      go_wp2
      go_ret
      exact ⟨ret_bool (by rw [HF.out]), BB.out⟩
    have hd5 : decide (al < gp - 1) = false := by simpa using v5
    have HY := Lib.hid (HSu.out (HIg.out.2 (by omega)))
    clear v1 v2 HNo HSu HIg
    (refine gro.wp_region_grown (by kernel_rfl) (by kernel_rfl) ?_; (repeat (go_big_quiet_step ((first | (go_at_call 63; first | exact call_same (HW1.out _) | exact call_same (HW2.out _)) | (go_at_call 64; exact call_grown (HGp.out _ (BB.out.trans ((below_grown _ _).mono BB.out.size)))) | (go_at_call 65; exact call_same (HAl.out _)))))); refine wpQuiet_nil ?_; intro _ hw'; obtain ⟨nx, hw''⟩ := hw'; subst hw'')
    replace BB := Lib.hid (BB.out.trans ((below_grown _ nx).mono BB.out.size))
    clear R KK
    generalize grown _ nx = W9 at *
    go_wp2
    go_roundg (n - (i + 1))
    case measure => omega
    case rel => exact ⟨i + 1, by omega, by go_num, by omega, BB, HY.out⟩
end Go.Proofs.YtjapjfcennemeaaGreat.blk
