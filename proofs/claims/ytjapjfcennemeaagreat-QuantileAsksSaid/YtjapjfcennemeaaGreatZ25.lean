/- BVal: proved here in one text, no conditions beyond those that each theorem states. -/
import Derived.Test.YtjapjfcennemeaaGreatZ19
import Derived.Test.YtjapjfcennemeaaGreatZ23
import Derived.Test.YtjapjfcennemeaaGreatZ22
import Derived.Test.YtjapjfcennemeaaGreatZ14
import Derived.Test.YtjapjfcennemeaaGreatZ24
set_option linter.unusedVariables false
set_option linter.unusedSimpArgs false
namespace Go.Proofs.YtjapjfcennemeaaGreat.blk
open Go.RowKit Go.Proofs.YtjapjfcennemeaaGreat.mem Go.Proofs.YtjapjfcennemeaaGreat.rnk Go.Proofs.YtjapjfcennemeaaGreat.gro Go.Proofs.YtjapjfcennemeaaGreat.buk
open Go.Proofs.YtjapjfcennemeaaGreat.lst (BOk)
set_option linter.unusedVariables false
set_option linter.unusedSimpArgs false
set_option pp.maxSteps 200000
theorem atK_key {xs : List BlkM} {i : Nat} {x : BlkM} (h : xs[i]? = some x) : atK (xs.map bkey) i = (x.t, x.last, x.level, x.num, x.es) := by
  unfold atK
  rw [List.getElem?_map, h]
  rfl
theorem blk_iff {b t l v n : Int} {es : L3} : blkOk b (t, l, v, n, es) = true ↔ valR n es = true ∧ n = 2 ^ v.toNat ∧ (es.length : Int) ≤ b + 1 ∧ gapR n es - 1 ≤ allowed v b ∧ -4096 ≤ (at3 es 0).1 ∧ (at3 es (es.length - 1)).1 ≤ 4096 ∧ (at3 es 0).1 ≤ l ∧ l ≤ (at3 es (es.length - 1)).1 := by
  unfold blkOk
  simp only [Bool.and_eq_true, decide_eq_true_eq]
  simp only [and_assoc]
theorem lev_of {xs : List BlkM} {k : Int} (h : validB (plainB xs) k = true) {i : Nat} {x : BlkM} (hx : xs[i]? = some x) : 0 ≤ x.level ∧ x.level ≤ 30 := by
  have h1 := (validB_iff.1 h).2.1
  have hi : i < xs.length := by rw [List.getElem?_eq_some_iff] at hx; exact hx.1
  have h2 := (h1 i (by rw [plainB_len]; exact hi)).2.1
  have e : at_ (plainB xs) i = (x.t, x.level) := by unfold at_ plainB; rw [List.getElem?_map, hx]; rfl
  rw [e] at h2
  exact h2
theorem validK_b {xs : List K5} {k b : Int} (h : ¬ (1 ≤ b ∧ b ≤ 65536)) : validK xs k b = false := by
  rw [Bool.eq_false_iff]; intro h2; exact h (validK_iff.1 h2).1
theorem validK_p {xs : List K5} {k b : Int} (h : validB (plainK xs) k = false) : validK xs k b = false := by
  rw [Bool.eq_false_iff]; intro h2; rw [(validK_iff.1 h2).2.1] at h; cases h
theorem validK_not {xs : List K5} {k b : Int} {i : Nat} (hi : i < xs.length) (h : ¬ blkOk b (atK xs i) = true) : validK xs k b = false := by
  rw [Bool.eq_false_iff]; intro h2; exact h ((validK_iff.1 h2).2.2 i hi)
theorem validK_yes {xs : List K5} {k b : Int} {n : Nat} (hl : xs.length = n) (h1 : 1 ≤ b ∧ b ≤ 65536) (h2 : validB (plainK xs) k = true) (h3 : bkTo b xs n = true) : validK xs k b = true := by
  subst hl
  exact validK_iff.2 ⟨h1, h2, (bkTo_iff _).1 h3⟩
theorem gapR_bd {N : Int} {es : L3} (h : valR N es = true) : 0 ≤ gapR N es ∧ gapR N es ≤ 1099511627776 := by
  obtain ⟨⟨h0, h1, h2⟩, _⟩ := valR_iff.1 h
  by_cases e : 0 < es.length
  · rw [gapR_t rfl h e]
    have : N ≠ 0 := fun h3 => by have := h2.2 h3; omega
    have := gapTo_bd h (by omega) (es.length - 1) (by omega)
    omega
  · rw [gapR_0 (by omega)]; omega
theorem allowed_bd {v b : Int} (hb : 1 ≤ b) : -1 ≤ allowed v b ∧ allowed v b ≤ 66571993088 := by
  unfold allowed
  split
  · rename_i h
    have := allow_bd hb (show v.toNat + 1 ≤ 31 by omega)
    omega
  · omega
set_option maxHeartbeats 16000000 in
set_option maxRecDepth 100000 in
theorem ValidB_any (A : Option Addr) (n c : Nat) (xs : List BlkM) (k b : Int) (w : World) (h1 : BRead w w.heap.size A n xs) (hs : n ≤ 65000) : Calls Tryz.prog 23 #[.slice A n c, .int .i64 k, .int .i64 b] w (BOk (validK (xs.map bkey) k b) w) := by
  have H1 := Lib.hid h1
  have HL := Lib.hid h1.len
  have HLk := Lib.hid (BRead.key_len h1)
  have HP := Lib.hid (Plain_any A n c xs w h1 hs)
  clear h1
  by_cases hb : 1 ≤ b ∧ b ≤ 65536
  case neg =>
    have HF := Lib.hid (validK_b (xs := xs.map bkey) (k := k) hb)
    by_cases g1 : b < 1
    case pos =>
      clear hb
      go_enter Tryz.func23, Tryz.ntmps23
      go_wp2
      go_ret
      exact ⟨ret_bool (by rw [HF.out]), Below.refl _ _⟩
    have g2 : 65536 < b := by omega
    clear hb
    go_enter Tryz.func23, Tryz.ntmps23
    go_wp2
    go_ret
    exact ⟨ret_bool (by rw [HF.out]), Below.refl _ _⟩
  have HV := Lib.hid (fun (A1 : Option Addr) (m1 c1 : Nat) (W : World) (hr : PRead W W.heap.size A1 m1 (plainB xs)) => lst.Valid_any A1 m1 c1 (plainB xs) k W hr (by have := PRead.len hr; rw [plainB_len, HL.out] at this; omega))
  rcases Bool.eq_false_or_eq_true (validB (plainB xs) k) with hv | hv
  case inr =>
    have HF := Lib.hid (validK_p (xs := xs.map bkey) (b := b) (by rw [← plainB_key]; exact hv))
    rw [hv] at HV
    clear hv
    obtain ⟨g1, g2⟩ := hb
    go_enter Tryz.func23, Tryz.ntmps23
    go_wp2_with fail
    refine HP.out.mono ?_
    rintro e w1 ⟨A1, m1, c1, rfl, q1, q2, q3, hb1⟩
    have HT := Lib.hid (HV.out A1 m1 c1 w1 q3)
    have HB := Lib.hid hb1
    clear q3 hb1
    go_wp2_with (go_at_call 48; refine HT.out.mono ?_; rintro e w2 ⟨rfl, hb2⟩; have HB2 := Lib.hid (HB.out.trans (hb2.mono HB.out.size)); clear hb2)
    go_ret
    exact ⟨ret_bool (by rw [HF.out]), HB2.out⟩
  have HYes := Lib.hid (fun h => validK_yes (xs := xs.map bkey) (k := k) HLk.out hb (by rw [← plainB_key]; exact hv) h)
  have HLev := Lib.hid (fun (i : Nat) (x : BlkM) (h : xs[i]? = some x) => lev_of hv h)
  rw [hv] at HV
  clear hv
  obtain ⟨g1, g2⟩ := hb
  go_enter Tryz.func23, Tryz.ntmps23
  go_wp2_with fail
  refine HP.out.mono ?_
  rintro e w1 ⟨A1, m1, c1, rfl, q1, q2, q3, hb1⟩
  have HT := Lib.hid (HV.out A1 m1 c1 w1 q3)
  have HB := Lib.hid hb1
  clear q3 hb1
  go_wp2_with (go_at_call 48; refine HT.out.mono ?_; rintro e w2 ⟨rfl, hb2⟩; have HB2 := Lib.hid (HB.out.trans (hb2.mono HB.out.size)); clear hb2)
  go_loopg [27] n (fun kx s27 wr => ∃ i : Nat, i ≤ n ∧ s27 = .int .i64 i ∧ n - i ≤ kx ∧ Hid (Below w.heap.size w wr) ∧ Hid (bkTo b (xs.map bkey) i = true))
  case atStart => exact ⟨0, Nat.zero_le _, rfl, by omega, HB2, (rfl : bkTo b (xs.map bkey) 0 = true)⟩
  case round =>
    clear HT HV HP HB HB2
    obtain ⟨i, hi, rfl, hik, BB, HO⟩ := hrel
    by_cases hlt : i < n
    case neg =>
      obtain rfl : i = n := by omega
      have HF := Lib.hid (HYes.out HO.out)
      go_wp2
      go_ret
      exact ⟨ret_bool (by rw [HF.out]), BB.out⟩
    obtain ⟨ad, x, rfl, hbl, hx, hc1, hc2, hc3, hc4, hc5, _, hq1, hq2⟩ := BRead.at_ (H1.out.below BB.out) hlt
    have hmem := List.mem_of_getElem? hx
    have hen : x.en ≤ 9223372036854775807 := Nat.le_trans hq1 hq2
    have HR0 := Lib.hid (H1.out.2 x hmem).1
    have HEl := Lib.hid HR0.out.len
    have HVd := Lib.hid (fun W (hb : Below w.heap.size w W) => rnk.Validate_any x.num x.adr x.en x.ec x.es W ((HR0.out.below hb).more hb.size) hen)
    have HGp := Lib.hid (fun (hl : x.en ≤ 16777216) W (hb : Below w.heap.size w W) => rnk.Gap_any x.num x.adr x.en x.ec x.es W ((HR0.out.below hb).more hb.size) hl)
    have HAl := Lib.hid (fun W => rnk.Allowed_any x.level b W)
    have hlev := HLev.out i x hx
    have hK := atK_key hx
    have HNo := Lib.hid (fun h => validK_not (xs := xs.map bkey) (k := k) (b := b) (i := i) (by rw [HLk.out]; exact hlt) (by rw [hK]; exact h))
    have HSu := Lib.hid (fun h => bkTo_succ HO.out (by rw [hK]; exact h))
    have HIf := Lib.hid (blk_iff (b := b) (t := x.t) (l := x.last) (v := x.level) (n := x.num) (es := x.es))
    rw [HEl.out] at HIf
    clear hK hx hmem HO HYes HLev
    generalize x.t = bt at *
    generalize x.last = bl at *
    generalize x.level = bv at *
    generalize x.num = bn at *
    generalize x.adr = ba at *
    generalize x.en = be at *
    generalize x.ec = bq at *
    generalize x.es = es at *
    clear x
    obtain ⟨l, rfl⟩ := Int.eq_ofNat_of_zero_le hlev.1
    obtain ⟨_, hl30⟩ := hlev
    rw [Int.toNat_natCast] at HIf
    have hsz := BB.out.size
    have hbl2 : ad.block < wr.heap.size := by omega
    have HS2 := Lib.hid (shl_nat (show l ≤ 30 by omega))
    have s1 : IntKind.i64.wrap (b + 1) = b + 1 := IntWalk.i64_in _ (by omega)
    go_wp2_with fail
    obtain ⟨W0, hW, hs0, K0, B0⟩ := start2 wr 41 39 #[Value.int IntKind.i64 bt, Value.int IntKind.i64 bl, Value.int IntKind.i64 (l : Int), Value.int IntKind.i64 bn, Value.slice ba be bq] #[Value.int IntKind.i64 bn, Value.slice ba be bq]
    rw [hW]
    clear hW
    have B1 := Lib.hid (BB.out.trans (B0.mono BB.out.size))
    have KK := Lib.hid K0
    have R := K0.rules
    simp only [Rules] at R
    clear K0 B0 BB hc1 hc2 hc3 hc4 hc5
    have BB := B1
    clear B1
    rcases Bool.eq_false_or_eq_true (valR bn es) with hv | hv
    case inr =>
      have HF := Lib.hid (HNo.out (fun h => by have := (HIf.out.1 h).1; rw [hv] at this; cases this))
      rw [hv, erS_f] at HVd
      clear HIf hv HNo HSu
      (refine gro.wp_region_grown (by kernel_rfl) (by kernel_rfl) ?_; (repeat (go_big_quiet_step ((first | (go_at_call 49; exact call_grown (HVd.out _ (BB.out.trans ((below_grown _ _).mono BB.out.size)))) | (go_at_call 50; exact call_grown (HGp.out _ (BB.out.trans ((below_grown _ _).mono BB.out.size)))) | (go_at_call 51; exact call_same (HAl.out _)))))); refine wpQuiet_nil ?_; intro _ hw'; obtain ⟨nx, hw''⟩ := hw'; subst hw'')
      replace BB := Lib.hid (BB.out.trans ((below_grown _ nx).mono BB.out.size))
      clear R KK
      generalize grown _ nx = W7 at *
      go_wp2
      go_ret
      exact ⟨ret_bool (by rw [HF.out]), BB.out⟩
    rw [hv, erS_t] at HVd
    by_cases hn : bn = 2 ^ l
    case neg =>
      have HF := Lib.hid (HNo.out (fun h => hn (HIf.out.1 h).2.1))
      have hn1 : (bn == wrap64 (2 ^ l)) = false := by rw [HS2.out]; simpa using hn
      have hn2 : (bn != wrap64 (2 ^ l)) = true := by rw [HS2.out]; simpa using hn
      clear HIf hv HNo HSu hn
      (refine gro.wp_region_grown (by kernel_rfl) (by kernel_rfl) ?_; (repeat (go_big_quiet_step ((first | (go_at_call 49; exact call_grown (HVd.out _ (BB.out.trans ((below_grown _ _).mono BB.out.size)))) | (go_at_call 50; exact call_grown (HGp.out _ (BB.out.trans ((below_grown _ _).mono BB.out.size)))) | (go_at_call 51; exact call_same (HAl.out _)))))); refine wpQuiet_nil ?_; intro _ hw'; obtain ⟨nx, hw''⟩ := hw'; subst hw'')
      replace BB := Lib.hid (BB.out.trans ((below_grown _ nx).mono BB.out.size))
      clear R KK
      generalize grown _ nx = W7 at *
      go_wp2
      go_ret
      exact ⟨ret_bool (by rw [HF.out]), BB.out⟩
    by_cases hlen : (be : Int) ≤ b + 1
    case neg =>
      have HF := Lib.hid (HNo.out (fun h => hlen (HIf.out.1 h).2.2.1))
      have hn1 : (bn == wrap64 (2 ^ l)) = true := by rw [HS2.out]; simpa using hn
      have hn2 : (bn != wrap64 (2 ^ l)) = false := by rw [HS2.out]; simpa using hn
      have hd1 : decide (b + 1 < (be : Int)) = true := by simp; omega
      clear HIf hv HNo HSu hn
      (refine gro.wp_region_grown (by kernel_rfl) (by kernel_rfl) ?_; (repeat (go_big_quiet_step ((first | (go_at_call 49; exact call_grown (HVd.out _ (BB.out.trans ((below_grown _ _).mono BB.out.size)))) | (go_at_call 50; exact call_grown (HGp.out _ (BB.out.trans ((below_grown _ _).mono BB.out.size)))) | (go_at_call 51; exact call_same (HAl.out _)))))); refine wpQuiet_nil ?_; intro _ hw'; obtain ⟨nx, hw''⟩ := hw'; subst hw'')
      replace BB := Lib.hid (BB.out.trans ((below_grown _ nx).mono BB.out.size))
      clear R KK
      generalize grown _ nx = W7 at *
      go_wp2
      go_ret
      exact ⟨ret_bool (by rw [HF.out]), BB.out⟩
    replace HGp := Lib.hid (HGp.out (by omega))
    have hd1 : decide (b + 1 < (be : Int)) = false := by simp; omega
    have hgb : 0 ≤ gapR bn es ∧ gapR bn es ≤ 1099511627776 := gapR_bd hv
    have hab : -1 ≤ allowed l b ∧ allowed l b ≤ 66571993088 := allowed_bd g1
    by_cases hg : gapR bn es - 1 ≤ allowed l b
    case neg =>
      have HF := Lib.hid (HNo.out (fun h => hg (HIf.out.1 h).2.2.2.1))
      have hn1 : (bn == wrap64 (2 ^ l)) = true := by rw [HS2.out]; simpa using hn
      have hn2 : (bn != wrap64 (2 ^ l)) = false := by rw [HS2.out]; simpa using hn
      clear HIf hv HNo HSu hn
      generalize gapR bn es = gp at *
      generalize allowed l b = al at *
      have hd2 : decide (al < gp - 1) = true := by simp; omega
      have s2 : IntKind.i64.wrap (gp - 1) = gp - 1 := IntWalk.i64_in _ (by omega)
      (refine gro.wp_region_grown (by kernel_rfl) (by kernel_rfl) ?_; (repeat (go_big_quiet_step ((first | (go_at_call 49; exact call_grown (HVd.out _ (BB.out.trans ((below_grown _ _).mono BB.out.size)))) | (go_at_call 50; exact call_grown (HGp.out _ (BB.out.trans ((below_grown _ _).mono BB.out.size)))) | (go_at_call 51; exact call_same (HAl.out _)))))); refine wpQuiet_nil ?_; intro _ hw'; obtain ⟨nx, hw''⟩ := hw'; subst hw'')
      replace BB := Lib.hid (BB.out.trans ((below_grown _ nx).mono BB.out.size))
      clear R KK
      generalize grown _ nx = W7 at *
      go_wp2
      go_ret
      exact ⟨ret_bool (by rw [HF.out]), BB.out⟩
    have hbe0 : 0 < be := by
      rcases Nat.eq_zero_or_pos be with e | e
      · have h2 := (valR_iff.1 hv).1.2.2; rw [HEl.out] at h2; have := h2.1 e; have := pow_bd (show l ≤ 30 by omega); omega
      · exact e
    have hn1 : (bn == wrap64 (2 ^ l)) = true := by rw [HS2.out]; simpa using hn
    have hn2 : (bn != wrap64 (2 ^ l)) = false := by rw [HS2.out]; simpa using hn
    have HIg := Lib.hid (show blkOk b (bt, bl, (l : Int), bn, es) = true ↔ -4096 ≤ (at3 es 0).1 ∧ (at3 es (be - 1)).1 ≤ 4096 ∧ (at3 es 0).1 ≤ bl ∧ bl ≤ (at3 es (be - 1)).1 from ⟨fun h => (HIf.out.1 h).2.2.2.2, fun h => HIf.out.2 ⟨hv, hn, hlen, hg, h⟩⟩)
    clear hv hn HIf
    generalize gapR bn es = gp at *
    generalize allowed l b = al at *
    have hd2 : decide (al < gp - 1) = false := by simp; omega
    have s2 : IntKind.i64.wrap (gp - 1) = gp - 1 := IntWalk.i64_in _ (by omega)
    (refine gro.wp_region_grown (by kernel_rfl) (by kernel_rfl) ?_; (repeat (go_big_quiet_step ((first | (go_at_call 49; exact call_grown (HVd.out _ (BB.out.trans ((below_grown _ _).mono BB.out.size)))) | (go_at_call 50; exact call_grown (HGp.out _ (BB.out.trans ((below_grown _ _).mono BB.out.size)))) | (go_at_call 51; exact call_same (HAl.out _)))))); refine wpQuiet_nil ?_; intro _ hw'; obtain ⟨nx, hw''⟩ := hw'; subst hw'')
    replace BB := Lib.hid (BB.out.trans ((below_grown _ nx).mono BB.out.size))
    replace KK := Lib.hid (KK.out.below (below_grown _ nx))
    clear R
    generalize grown _ nx = W7 at *
    have R := KK.out.rules
    simp only [Rules] at R
    have H2 := HR0.out.below BB.out
    obtain ⟨ae, rfl, hbl3, he1, he2, he3⟩ := ERead.at_ H2 hbe0
    obtain ⟨ae', e, _, hf1, hf2, hf3⟩ := ERead.at_ H2 (show be - 1 < be by omega)
    injection e with e
    subst e
    rw [show ae.add (0 * 3) = ae from by simp [Addr.add]] at he1
    clear H2 he2 he3 hf2 hf3 hd1 hd2 s1 hn1 hn2 hlen hg HVd HGp HAl HS2 hgb hab
    generalize (at3 es 0).1 = lo at *
    generalize (at3 es (be - 1)).1 = hi2 at *
    have s3 : 0 ≤ (be : Int) - 1 := by omega
    have s4 : ((be : Int) - 1).toNat = be - 1 := by omega
    have s5 : (be : Int) - 1 < be := by omega
    have s6 : IntKind.i64.wrap ((be : Int) - 1) = (be : Int) - 1 := IntWalk.i64_in _ (by omega)
    go_wp2_with fail
    (refine gro.wp_region_grown (by kernel_rfl) (by kernel_rfl) ?_; (repeat (go_big_quiet_step ((fail)))); refine wpQuiet_nil ?_; intro _ hw'; obtain ⟨nx, hw''⟩ := hw'; subst hw'')
    replace BB := Lib.hid (BB.out.trans ((below_grown _ nx).mono BB.out.size))
    replace KK := Lib.hid (KK.out.below (below_grown _ nx))
    clear R s3 s4 s5 s6 he1 hf1
    generalize grown _ nx = W8 at *
    have R := KK.out.rules
    simp only [Rules] at R
    go_wp2
    all_goals first
      | (go_ret; exact ⟨ret_bool (by rw [HNo.out (fun h => by have := HIg.out.1 h; omega)]), BB.out⟩)
      | (go_roundg (n - (i + 1)); (case measure => omega); (case rel => exact ⟨i + 1, by omega, by go_num, by omega, BB, HSu.out (HIg.out.2 (by omega))⟩))
end Go.Proofs.YtjapjfcennemeaaGreat.blk
