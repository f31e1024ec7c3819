/- RMrR: proved here in one text, no conditions beyond those that each theorem states. -/
import Derived.LoopN
import Derived.Test.YtjapjfcennemeaaGreatZ31
import Derived.Test.YtjapjfcennemeaaGreatZ20
set_option linter.unusedVariables false
set_option linter.unusedSimpArgs false
namespace Go.Proofs.YtjapjfcennemeaaGreat.rnk
open Go.RowKit Go.Proofs.YtjapjfcennemeaaGreat.mem Go.Proofs.YtjapjfcennemeaaGreat.gro
set_option linter.unusedVariables false
set_option linter.unusedSimpArgs false
set_option pp.maxSteps 200000
theorem mrgQ_nx {x y : L3} {n1 n2 i j : Nat} {o R : L3} (hl : x.length = n1) (hi : i < n1) (hj : j ≤ n2) (h : takeX x y i j) (HE : o ++ mrgQ x y (n1 - i + (n2 - j)) i j = R) : (o ++ [at3 x i]) ++ mrgQ x y (n1 - (i + 1) + (n2 - j)) (i + 1) j = R := by
  rw [show n1 - i + (n2 - j) = (n1 - (i + 1) + (n2 - j)) + 1 by omega, mrgQ_x h] at HE
  rw [← HE]; simp
theorem mrgQ_ny {x y : L3} {n1 n2 i j : Nat} {o R : L3} (hl : y.length = n2) (hi : i ≤ n1) (hj : j < n2) (h : ¬ takeX x y i j) (HE : o ++ mrgQ x y (n1 - i + (n2 - j)) i j = R) : (o ++ [at3 y j]) ++ mrgQ x y (n1 - i + (n2 - (j + 1))) i (j + 1) = R := by
  rw [show n1 - i + (n2 - j) = (n1 - i + (n2 - (j + 1))) + 1 by omega, mrgQ_y h] at HE
  rw [← HE]; simp
theorem ERead.tail {w : World} {B n : Nat} {xs : L3} {ad : Addr} (h : ERead w B (some ad) n xs) (hn : 0 < n) {c : Nat} (hc : n ≤ c) :
    ERead w B (if c = 1 then some ad else some ⟨ad.block, ad.off + 3, none⟩) (n - 1) (xs.drop 1) := by
  have := Reads.cut (cap := c) (k := 1) h hn hc
  have e : (some ad : Option Addr).map (fun x => Addr.add x (1 * 3)) = some ⟨ad.block, ad.off + 3, none⟩ := by simp [Addr.add]
  rw [e] at this
  have e2 : tc (xs.drop 1) = (tc xs).drop (1 * 3) := by
    cases xs with
    | nil => rfl
    | cons p xs => rw [tc_cons]; rfl
  show Reads w B 3 _ _ (tc (xs.drop 1))
  rw [e2]
  exact this
set_option maxHeartbeats 16000000 in
set_option maxRecDepth 100000 in
theorem MergeR_any (a : Int) (A1 : Option Addr) (n1 c1 : Nat) (x : L3) (b : Int) (A2 : Option Addr) (n2 c2 : Nat) (y : L3) (w : World) (h1 : ERead w w.heap.size A1 n1 x) (h2 : ERead w w.heap.size A2 n2 y) (hs1 : n1 ≤ 8388608) (hs2 : n2 ≤ 8388608) : Calls Tryz.prog 69 #[.agg #[.int .i64 a, .slice A1 n1 c1], .agg #[.int .i64 b, .slice A2 n2 c2]] w (NewRE (mrgP a x b y) (mrgE a x b y) w) := by
  have H1 := Lib.hid h1
  have H2 := Lib.hid h2
  have HL1 := Lib.hid h1.len
  have HL2 := Lib.hid h2.len
  have HV1 := Lib.hid (fun W (hb : Below w.heap.size w W) => ValidateR_any a A1 n1 c1 x W ((h1.below hb).more hb.size) (by omega))
  have HV2 := Lib.hid (fun W (hb : Below w.heap.size w W) => ValidateR_any b A2 n2 c2 y W ((h2.below hb).more hb.size) (by omega))
  clear h1 h2
  rcases Bool.eq_false_or_eq_true (valR a x) with hv1 | hv1
  case inr =>
    rw [mrgP_f (by unfold mrgOk; rw [hv1]; rfl), mrgE_f (fun h => by rw [hv1] at h; cases h.1)]
    rw [hv1, erS_f] at HV1
    go_enter Tryz.func69, Tryz.ntmps69
    go_wp2_with fail
    obtain ⟨W0, hW, hs0, K0, B0⟩ := start3 w 39 39 39 #[Value.int IntKind.i64 a, Value.slice A1 n1 c1] #[Value.int IntKind.i64 b, Value.slice A2 n2 c2] #[Value.int IntKind.i64 0, Value.slice none 0 0]
    rw [hW]
    clear hW
    have KK := Lib.hid K0
    have BB := Lib.hid B0
    have R := K0.rules
    simp only [Rules] at R
    clear K0 B0 hs0
    go_wp2_with fail
    (with_reducible refine (HV1.out _ BB.out).mono ?_)
    rintro e wv ⟨rfl, hbv⟩; replace BB := Lib.hid (BB.out.trans (hbv.mono BB.out.size)); replace KK := Lib.hid (KK.out.below hbv); replace R := KK.out.rules; simp only [gro.Rules] at R; clear hbv
    go_wp2
    refine bodyPost_ret (v := Value.tuple #[.agg #[.int .i64 0, .slice none 0 0], .int .i64 2]) (by simp [results, Tryz.results69, go_sem, R]) rfl ?_
    exact newRE_nil 2 BB.out (by omega) _ _
  rcases Bool.eq_false_or_eq_true (valR b y) with hv2 | hv2
  case inr =>
    rw [mrgP_f (by unfold mrgOk; rw [hv2, Bool.and_false]; rfl), mrgE_f (fun h => by rw [hv2] at h; cases h.2)]
    rw [hv2, erS_f] at HV2
    rw [hv1, erS_t] at HV1
    go_enter Tryz.func69, Tryz.ntmps69
    go_wp2_with fail
    obtain ⟨W0, hW, hs0, K0, B0⟩ := start3 w 39 39 39 #[Value.int IntKind.i64 a, Value.slice A1 n1 c1] #[Value.int IntKind.i64 b, Value.slice A2 n2 c2] #[Value.int IntKind.i64 0, Value.slice none 0 0]
    rw [hW]
    clear hW
    have KK := Lib.hid K0
    have BB := Lib.hid B0
    have R := K0.rules
    simp only [Rules] at R
    clear K0 B0 hs0
    go_wp2_with fail
    (with_reducible refine (HV1.out _ BB.out).mono ?_)
    rintro e wv ⟨rfl, hbv⟩; replace BB := Lib.hid (BB.out.trans (hbv.mono BB.out.size)); replace KK := Lib.hid (KK.out.below hbv); replace R := KK.out.rules; simp only [gro.Rules] at R; clear hbv
    go_wp2_with fail
    (with_reducible refine (HV2.out _ BB.out).mono ?_)
    rintro e wv ⟨rfl, hbv⟩; replace BB := Lib.hid (BB.out.trans (hbv.mono BB.out.size)); replace KK := Lib.hid (KK.out.below hbv); replace R := KK.out.rules; simp only [gro.Rules] at R; clear hbv
    go_wp2
    refine bodyPost_ret (v := Value.tuple #[.agg #[.int .i64 0, .slice none 0 0], .int .i64 2]) (by simp [results, Tryz.results69, go_sem, R]) rfl ?_
    exact newRE_nil 2 BB.out (by omega) _ _
  rw [mrgE_t hv1 hv2]
  have HWT := Lib.hid (fun W (hb : Below w.heap.size w W) => widT_any a A1 n1 c1 x b A2 n2 c2 y W ((H1.out.below hb).more hb.size) ((H2.out.below hb).more hb.size) hs1 hs2 hv1 hv2)
  have HWF := Lib.hid (fun W (hb : Below w.heap.size w W) => widF_any b A2 n2 c2 y a A1 n1 c1 x W ((H2.out.below hb).more hb.size) ((H1.out.below hb).more hb.size) hs2 hs1 hv2 hv1)
  have HME := Lib.hid (mergeQ_eq (a := a) (b := b) (asc_of_val hv1) (asc_of_val hv2))
  have HPT := Lib.hid (fun h => mrgP_t hv1 hv2 h)
  have HPF := Lib.hid (fun (h : ¬ a + b ≤ 1099511627776) => mrgP_f (a := a) (b := b) (x := x) (y := y) (by unfold mrgOk; rw [hv1, hv2]; simpa using h))
  rw [hv1, erS_t] at HV1
  rw [hv2, erS_t] at HV2
  obtain ⟨⟨a1, a2, a3⟩, _⟩ := valR_iff.1 hv1
  obtain ⟨⟨b1, b2, b3⟩, _⟩ := valR_iff.1 hv2
  clear hv1 hv2 a3 b3
  have s2 : IntKind.i64.wrap (a + b) = a + b := IntWalk.i64_in _ (by omega)
  by_cases hab : a + b ≤ 1099511627776
  case neg =>
    rw [if_neg hab, HPF.out hab]
    clear HPT HPF
    go_enter Tryz.func69, Tryz.ntmps69
    go_wp2_with fail
    obtain ⟨W0, hW, hs0, K0, B0⟩ := start3 w 39 39 39 #[Value.int IntKind.i64 a, Value.slice A1 n1 c1] #[Value.int IntKind.i64 b, Value.slice A2 n2 c2] #[Value.int IntKind.i64 0, Value.slice none 0 0]
    rw [hW]
    clear hW
    have KK := Lib.hid K0
    have BB := Lib.hid B0
    have R := K0.rules
    simp only [Rules] at R
    clear K0 B0 hs0
    go_wp2_with fail
    (with_reducible refine (HV1.out _ BB.out).mono ?_)
    rintro e wv ⟨rfl, hbv⟩; replace BB := Lib.hid (BB.out.trans (hbv.mono BB.out.size)); replace KK := Lib.hid (KK.out.below hbv); replace R := KK.out.rules; simp only [gro.Rules] at R; clear hbv
    go_wp2_with fail
    (with_reducible refine (HV2.out _ BB.out).mono ?_)
    rintro e wv ⟨rfl, hbv⟩; replace BB := Lib.hid (BB.out.trans (hbv.mono BB.out.size)); replace KK := Lib.hid (KK.out.below hbv); replace R := KK.out.rules; simp only [gro.Rules] at R; clear hbv
    go_wp2
    refine bodyPost_ret (v := Value.tuple #[.agg #[.int .i64 0, .slice none 0 0], .int .i64 5]) (by simp [results, Tryz.results69, go_sem, R]) rfl ?_
    exact newRE_nil 5 BB.out (by omega) _ _
  rw [if_pos hab, HPT.out hab]
  clear HPT HPF
  have hab2 : ¬ 1099511627776 < a + b := by omega
  obtain ⟨i0, hi0, hz0, hz1, hz2⟩ := info_parts entry_info
  have HI := Lib.hid hi0
  have HZ0 := Lib.hid hz0
  have HZ1 := Lib.hid hz1
  have HZ2 := Lib.hid hz2
  clear hi0 hz0 hz1 hz2
  go_enter Tryz.func69, Tryz.ntmps69
  go_wp2_with fail
  obtain ⟨W0, hW, hs0, K0, B0⟩ := start3 w 39 39 39 #[Value.int IntKind.i64 a, Value.slice A1 n1 c1] #[Value.int IntKind.i64 b, Value.slice A2 n2 c2] #[Value.int IntKind.i64 0, Value.slice none 0 0]
  rw [hW]
  clear hW
  have KK := Lib.hid K0
  have BB := Lib.hid B0
  have R := K0.rules
  simp only [Rules] at R
  clear K0 B0 hs0
  go_wp2_with fail
  (with_reducible refine (HV1.out _ BB.out).mono ?_)
  rintro e wv ⟨rfl, hbv⟩; replace BB := Lib.hid (BB.out.trans (hbv.mono BB.out.size)); replace KK := Lib.hid (KK.out.below hbv); replace R := KK.out.rules; simp only [gro.Rules] at R; clear hbv
  go_wp2_with fail
  (with_reducible refine (HV2.out _ BB.out).mono ?_)
  rintro e wv ⟨rfl, hbv⟩; replace BB := Lib.hid (BB.out.trans (hbv.mono BB.out.size)); replace KK := Lib.hid (KK.out.below hbv); replace R := KK.out.rules; simp only [gro.Rules] at R; clear hbv
  have hw8 : w.heap.size + 1 + 1 < wv.heap.size := (KK.out _ (List.mem_cons_self ..)).lt
  obtain ⟨g8, hg8⟩ : ∃ s, wv.heap.size = s := ⟨_, rfl⟩
  have BZ := Lib.hid (BB.out.alloc BB.out.size (.cells #[Value.int IntKind.i64 (a + b), Value.slice none 0 0] 39))
  have KZ := Lib.hid (KK.out.new (t := 39) (c := #[Value.int IntKind.i64 (a + b), Value.slice none 0 0]) hg8)
  go_wp2_with fail
  obtain ⟨W3, hW, K3, B3, z3⟩ := name_world KZ.out BZ.out (s := g8 + 1) (by simp; omega)
  rw [hW]
  clear hW KK BB KZ BZ R
  have KK := Lib.hid K3
  have BB := Lib.hid B3
  have R := K3.rules
  simp only [Rules] at R
  clear K3 B3
  clear HV1 HV2
  (refine gro.wp_region_heldA [0, 1, 3, 4] 4 7 _ (gro.lasts_bx _) (by kernel_rfl) (by kernel_rfl) (by intro _ _ _ _ _ h; exact h) (by kernel_rfl) (by kernel_rfl) (by kernel_rfl) (by kernel_rfl) (by kernel_rfl) (by decide) (KK.out).drew ?_; apply Exists.intro; refine ⟨fun w0 hb0 => ?_, ?_⟩; focus (have RZ := gro.Bx.rules hb0; simp only [gro.Rules] at RZ; simp only [gro.pickA, List.filterMap_cons, List.filterMap_nil, List.getElem?_toArray, List.getElem?_cons_succ, List.getElem?_cons_zero]; change wpQuiet _ _ _ _ (_ :: _ :: _ :: _ ::  []) _; (repeat (go_big_quiet_step ((fail)))); exact wpQuiet_nil rfl))
  have B0 : Below W3.heap.size W3 W3.drew := (Below.refl _ _).drew
  refine gro.anyM_one 2 (by kernel_rfl) rfl ?_
  intro y1 hz1 K' hK'
  have B1 := B0.trans (hz1.mono B0.size)
  go_simp
  refine (HWT.out _ (BB.out.trans (B1.mono BB.out.size))).mono ?_
  rintro e w1 ⟨A9, m9, c9, rfl, q1, q2, q3, hb1, hfr1⟩
  have B2 := B1.trans (hb1.mono B1.size)
  obtain rfl : n1 = m9 := by have := q3.len; rw [widL_len, HL1.out] at this; exact this
  refine hK' _ _ ⟨fun _ => KK.out.below B2, ?_⟩
  clear hK' K'
  refine gro.anyM_one 5 (by kernel_rfl) rfl ?_
  intro y2 hz2 K' hK'
  have B3 := B2.trans (hz2.mono B2.size)
  go_simp
  refine (HWF.out _ (BB.out.trans (B3.mono BB.out.size))).mono ?_
  rintro e w2 ⟨A10, m10, c10, rfl, r1, r2, r3, hb2, hfr2⟩
  have B4 := B3.trans (hb2.mono B3.size)
  obtain rfl : n2 = m10 := by have := r3.len; rw [widL_len, HL2.out] at this; exact this
  have q4 := (Reads.below (Reads.below q3 hz2) (hb2.mono hz2.size))
  refine hK' _ _ ⟨fun _ => KK.out.below B4, ?_⟩
  clear hK' K'
  refine gro.anyM_one 6 (by kernel_rfl) rfl ?_
  intro y3 hz3 K' hK'
  have B5 := B4.trans (hz3.mono B4.size)
  go_simp
  refine hK' _ _ ⟨fun _ => KK.out.below B5, ?_⟩
  clear hK' K'
  refine gro.anyM_one 7 (by kernel_rfl) rfl ?_
  intro y4 hz4 K' hK'
  have B6 := B5.trans (hz4.mono B5.size)
  go_simp
  refine hK' _ _ ⟨fun h => absurd (show true = false from h) (by decide), ?_⟩
  clear hK' K'
  refine gro.anyM_done (by kernel_rfl) ?_
  intro y5 hz5
  have B7 := B6.trans (hz5.mono B6.size)
  have hz35 := hz3.trans ((hz4.mono hz3.size).trans (hz5.mono (Nat.le_trans hz3.size hz4.size)))
  have hsz1 := hb1.size
  have hsz2 := hb2.size
  have hsz3 := hz2.size
  have hsz5 := hz35.size
  have hB0 := B1.size
  obtain ⟨sb, hsb⟩ : ∃ s, y5.heap.size = s := ⟨_, rfl⟩
  have f9 : Hid (0 < n1 → ∀ ad, A9 = some ad → g8 < ad.block) := fun _ ad h => by have := hfr1 ad h; omega
  have f10 : Hid (0 < n2 → ∀ ad, A10 = some ad → g8 < ad.block) := fun _ ad h => by have := hfr2 ad h; have := B3.size; omega
  have HX := Lib.hid (Reads.more (B' := sb) (Reads.below (Reads.below q4 (hz35.mono (Nat.le_trans hsz3 hsz2))) ((Below.refl _ _ : Below _ y5 y5))) (by omega))
  have HY := Lib.hid (Reads.more (B' := sb) (Reads.below r3 hz35) (by omega))
  have hsb8 : g8 < sb := by omega
  replace BB := Lib.hid (BB.out.trans (B7.mono BB.out.size))
  replace KK := Lib.hid (KK.out.below B7)
  clear R hz1 hz2 hz3 hz4 hz5 hz35 B0 B1 B2 B3 B4 B5 B6 B7 q3 q4 r3 hfr1 hfr2 hb1 hb2 HWT HWF hsz1 hsz2 hsz3 hB0
  have R := KK.out.rules
  simp only [Rules] at R
  have q2' : c9 ≤ 9223372036854775807 := q2
  have r2' : c10 ≤ 9223372036854775807 := r2
  clear q2 r2
  have hXl := Lib.hid (show (widL x y b true).length = n1 by rw [widL_len]; exact HL1.out)
  have hYl := Lib.hid (show (widL y x a false).length = n2 by rw [widL_len]; exact HL2.out)
  have HQ : Hid (mrgQ (widL x y b true) (widL y x a false) (n1 - 0 + (n2 - 0)) 0 0 = mergeL x y a b) := by rw [Hid, ← HME.out, mergeQ, HL1.out, HL2.out]; rfl
  clear HME
  generalize widL x y b true = X at *
  generalize widL y x a false = Y at *
  go_wp2_with fail
  clear R s2
  go_loopg [9, 10] (n1 + n2) (fun kx s9 s10 wr => ∃ (i j k9 d9 k10 d10 : Nat) (D9 D10 : Option Addr) (u : Value) (o : L3), s9 = .slice D9 k9 d9 ∧ s10 = .slice D10 k10 d10 ∧ Hid (i + k9 = n1) ∧ Hid (j + k10 = n2) ∧ k9 + k10 ≤ kx ∧ k9 ≤ d9 ∧ d9 ≤ 9223372036854775807 ∧ k10 ≤ d10 ∧ d10 ≤ 9223372036854775807 ∧ Hid (0 < k9 → ∀ ad, D9 = some ad → g8 < ad.block) ∧ Hid (0 < k10 → ∀ ad, D10 = some ad → g8 < ad.block) ∧ Hid (ERead wr sb D9 k9 (X.drop i)) ∧ Hid (ERead wr sb D10 k10 (Y.drop j)) ∧ Hid (wr.ownsRow sb 79 3 u (i + j) (tc o)) ∧ Hid (Bx wr [(g8, 39, #[Value.int IntKind.i64 (a + b), u]), (w.heap.size + 1 + 1, 39, #[Value.int IntKind.i64 0, Value.slice none 0 0]), (w.heap.size + 1, 39, #[Value.int IntKind.i64 b, Value.slice A2 n2 c2]), (w.heap.size, 39, #[Value.int IntKind.i64 a, Value.slice A1 n1 c1])]) ∧ Hid (Below w.heap.size w wr) ∧ sb ≤ wr.heap.size ∧ Hid (o ++ mrgQ X Y (n1 - i + (n2 - j)) i j = mergeL x y a b))
  case atStart => exact ⟨0, 0, n1, c9, n2, c10, A9, A10, .slice none 0 0, [], rfl, rfl, Nat.zero_add _, Nat.zero_add _, by omega, q1, q2', r1, r2', f9, f10, HX, HY, own_nil _ _ _ _, KK, BB, by omega, HQ⟩
  case round =>
    clear KK BB HX HY f9 f10 q1 q2' r1 r2' HQ
    obtain ⟨i, j, k9, d9, k10, d10, D9, D10, u, o, rfl, rfl, hk9, hk10, hkx, q1, q2, r1, r2, f9, f10, HX, HY, HO, KK, BB, szb, HE⟩ := hrel
    have R := KK.out.rules
    simp only [Rules] at R
    have hub := Lib.hid (fun k (h : u.ownBlock = some k) => show sb ≤ k by have := World.ownsRow.lt HO.out k h; omega)
    have hle9 : i + k9 ≤ 8388608 := by have := hk9.out; omega
    have hle10 : j + k10 ≤ 8388608 := by have := hk10.out; omega
    have sa : IntKind.i64.wrap ((k9 : Int) + (k10 : Int)) = (k9 : Int) + (k10 : Int) := IntWalk.i64_in _ (by omega)
    by_cases hend : k9 + k10 = 0
    case pos =>
      obtain rfl : k9 = 0 := by omega
      obtain rfl : k10 = 0 := by omega
      have e1 : i = n1 := by have := hk9.out; omega
      have e2 : j = n2 := by have := hk10.out; omega
      have HEE := Lib.hid (show o = mergeL x y a b by have := HE.out; rw [e1, e2, show n1 - n1 + (n2 - n2) = 0 by omega] at this; simpa [mrgQ] using this)
      obtain ⟨A9, c9, rfl, m1, m2, m3⟩ := own_form HO.out
      have hge := fun ad (h : A9 = some ad) => own_block_ge HO.out ad.block (by rw [h]; rfl)
      obtain ⟨p1, p2⟩ := put_out (g := w.heap.size + 1 + 1) BB.out (by omega) m3 (fun _ ad h => by have := hge ad h; omega) (Value.int IntKind.i64 (a + b)) (.slice A9 (i + j) c9)
      replace p1 := Lib.hid p1
      replace p2 := Lib.hid p2
      clear m3 hge e1 e2
      go_wp2
      refine bodyPost_ret (v := Value.tuple #[.agg #[.int .i64 (a + b), .slice A9 (i + j) c9], .int .i64 0]) (by simp [results, Tryz.results69, go_sem, R]) rfl ⟨A9, i + j, c9, rfl, m1, m2, by rw [← HEE.out]; exact p1.out, p2.out⟩
    have hsum : (0 : Int) < (k9 : Int) + (k10 : Int) := by omega
    by_cases h10 : 0 < k10
    case neg =>
      obtain rfl : k10 = 0 := by omega
      have hp9 : 0 < k9 := by omega
      have hstep := Lib.hid (mrgQ_nx hXl.out (show i < n1 by have := hk9.out; omega) (show j ≤ n2 by have := hk10.out; omega) (.inl (by have := hk10.out; rw [hYl.out]; omega)) HE.out)
      obtain ⟨ad, rfl, hb9, HC⟩ := ERead.cells HX.out hp9
      rw [show ad.add (0 * 3) = ad from by simp [Addr.add], show at3 (X.drop i) 0 = at3 X i by simp [at3]] at HC
      have hx : Hid (at3 X i = ((at3 X i).1, (at3 X i).2.1, (at3 X i).2.2)) := rfl
      rw [hx.out] at hstep
      clear hx
      generalize (at3 X i).1 = e1 at *
      generalize (at3 X i).2.1 = e2 at *
      generalize (at3 X i).2.2 = e3 at *
      obtain ⟨f1, f2, f3⟩ := HC.out _ (Below.refl _ _)
      have hd1 : (((0 : Nat) : Int) == 0) = true := by simp
      go_wp2_with fail
      (refine gro.wp_region_grown (by kernel_rfl) (by kernel_rfl) ?_; (repeat (go_big_quiet_step ((fail)))); refine wpQuiet_nil ?_; intro _ hw'; obtain ⟨nx, hw''⟩ := hw'; subst hw'')
      replace BB := Lib.hid (BB.out.trans ((below_grown _ nx).mono BB.out.size))
      replace KK := Lib.hid (KK.out.below (below_grown _ nx))
      replace HO := Lib.hid (own_keep HO.out (below_grown _ nx))
      replace HX := Lib.hid (Reads.below HX.out ((below_grown _ nx).mono szb))
      replace HY := Lib.hid (Reads.below HY.out ((below_grown _ nx).mono szb))
      replace HC := Lib.hid (fun W hW => HC.out W (((below_grown _ nx).mono szb).trans hW))
      replace szb := Nat.le_trans szb (below_grown _ nx).size
      clear R
      generalize grown _ nx = W6 at *
      have R := KK.out.rules
      simp only [Rules] at R
      clear f1 f2 f3
      go_wp2_with fail
      by_cases hd9 : d9 = 1
      case pos =>
        subst hd9
        obtain rfl : k9 = 1 := by omega
        have HS0 := Lib.hid (show SC _ _ _ _ _ _ _ W6.drew from ⟨KK.out.drew, HC.out _ (Below.refl _ _).drew⟩)
        (refine gro.wp_region_heldA [0, 1, 2, 3, 4] 7 10 _ (rnk.lasts_sc _ _ _ _ _ _ _) (by kernel_rfl) (by kernel_rfl) (by intro _ _ _ _ _ h; exact h) (by kernel_rfl) (by kernel_rfl) (by kernel_rfl) (by kernel_rfl) (by kernel_rfl) (by decide) (HS0.out) ?_; apply Exists.intro; refine ⟨fun w0 hb0 => ?_, ?_⟩; focus (obtain ⟨kz, f1, f2, f3⟩ := hb0; have RZ := kz.rules; simp only [gro.Rules] at RZ; simp only [gro.pickA, List.filterMap_cons, List.filterMap_nil, List.getElem?_toArray, List.getElem?_cons_succ, List.getElem?_cons_zero]; change wpQuiet _ _ _ _ (_ :: _ :: _ :: _ :: _ ::  []) _; (repeat (go_big_quiet_step ((fail)))); exact wpQuiet_nil rfl))
        (refine gro.anyM_first_all [7, 8] 5 (rnk.lasts_sc _ _ _ _ _ _ _) (by kernel_rfl) (by intro _ _ _ _ _ h; exact h) (by kernel_rfl) (by kernel_rfl) (by kernel_rfl) (by kernel_rfl) (by kernel_rfl) (HS0.out) ?_; apply Exists.intro; refine ⟨fun w0 => ?_, ?_⟩; focus (simp only [gro.pickA, List.filterMap_cons, List.filterMap_nil, List.getElem?_toArray, List.getElem?_cons_succ, List.getElem?_cons_zero]; change wpQuiet _ _ _ _ (_ :: _ ::  []) _; (repeat (go_big_quiet_step ((fail)))); exact wpQuiet_nil rfl))
        refine gro.anyM_one 5 (by kernel_rfl) rfl ?_
        intro y2 hz2 K' hK'
        go_simp
        refine hK' _ _ ⟨fun _ => lasts_sc _ _ _ _ _ _ _ _ _ HS0.out (hz2.alloc hz2.size _), ?_⟩
        clear hK' K'
        have B2 : Below W6.heap.size W6 y2 := ((Below.refl _ _).drew).trans hz2
        obtain ⟨z2, hy2⟩ : ∃ z, y2.alloc (.cells #[Value.int IntKind.i64 e1, Value.int IntKind.i64 e2, Value.int IntKind.i64 e3] 79) = z := ⟨_, rfl⟩
        have hr2 : Reads z2 z2.heap.size 3 (some ⟨y2.heap.size, 0, none⟩) 1 [Value.int IntKind.i64 e1, Value.int IntKind.i64 e2, Value.int IntKind.i64 e3] := by rw [← hy2]; exact Reads.more (reads_new y2 79 #[Value.int IntKind.i64 e1, Value.int IntKind.i64 e2, Value.int IntKind.i64 e3] rfl) (by simp)
        have hA2 : Below y2.heap.size y2 z2 := by rw [← hy2]; exact (Below.refl _ _).alloc (Nat.le_refl _) _
        have B3 := B2.trans (hA2.mono B2.size)
        rw [hy2]
        refine gro.anyM_one 6 (by kernel_rfl) rfl ?_
        intro y3 hz3 K' hK'
        have B4 := B3.trans (hz3.mono B3.size)
        have HU := own_keep HO.out B4
        refine step_append_any _ (by rfl) (.tmp 68) (.tmp 72) 37 rfl sb 79 i0 (.agg #[.int .i64 0, .int .i64 0, .int .i64 0]) 3 24 Tryz.underlying37 HI.out HZ0.out HZ1.out HZ2.out rfl (by omega) u (i + j) (tc o) (by rfl) HU z2.heap.size (some ⟨y2.heap.size, 0, none⟩) 1 1 [Value.int IntKind.i64 e1, Value.int IntKind.i64 e2, Value.int IntKind.i64 e3] (by rfl) (Reads.below hr2 hz3) (by simp [Value.oneCell']) (by unfold maxLen; omega) (by omega) (Nat.le_trans szb B4.size) ?_
        intro v4 w4 hown4 hg4 hat4
        have BG := below_own hg4 HU (BB.out.trans (B4.mono BB.out.size)) (by omega) (Nat.le_trans BB.out.size B4.size)
        have KW := Bx.app3 (KK.out.below B4) hg4 (fun q hq h => by have h8 := hub.out _ h.symm; simp at hq; rcases hq with h | h | h | h <;> subst h <;> simp at h8 <;> omega)
        have sz4 := Nat.le_trans szb (Nat.le_trans B4.size hg4.size)
        obtain ⟨A4, c4, rfl, m1, m2, m3⟩ := own_form hown4
        clear m3
        have BGs := below_own hg4 HU (B4.mono szb) (Nat.le_refl _) (Nat.le_trans szb B4.size)
        refine hK' _ _ ⟨fun _ => ⟨KW, HC.out _ BGs⟩, ?_⟩
        clear hK' K' HS0 HU hr2 hA2 B2 B3 B4 hz2 hz3
        refine gro.anyM_one 9 (by kernel_rfl) rfl ?_
        intro y4 hz4 K' hK'
        replace BG := BG.trans (hz4.mono BG.size)
        replace BGs := BGs.trans (hz4.mono sz4)
        replace KW := KW.below hz4
        replace hown4 := own_keep hown4 hz4
        replace sz4 := Nat.le_trans sz4 hz4.size
        go_simp
        refine hK' _ _ ⟨fun _ => ⟨KW, HC.out _ BGs⟩, ?_⟩
        clear hK' K' hz4
        refine gro.anyM_one 10 (by kernel_rfl) rfl ?_
        intro y5 hz5 K' hK'
        have KV := (KW.below hz5).perm (L' := [(g8, 39, #[Value.int IntKind.i64 (a + b), u]), (w.heap.size + 1 + 1, 39, #[Value.int IntKind.i64 0, Value.slice none 0 0]), (w.heap.size + 1, 39, #[Value.int IntKind.i64 b, Value.slice A2 n2 c2]), (w.heap.size, 39, #[Value.int IntKind.i64 a, Value.slice A1 n1 c1])]) (by simp)
        have RV := KV.rules
        simp only [Rules] at RV
        clear R
        go_simp
        refine hK' _ _ ⟨fun h => absurd (show true = false from h) (by decide), ?_⟩
        clear hK' K'
        have KT := Bx.puti KV (by simp <;> omega) 1 (.slice A4 (i + j + 1) c4)
        have HO7 := ownsRow_setCell_below (own_keep hown4 hz5) (a := ⟨g8, 1, none⟩) (by show g8 < sb; omega) (.slice A4 (i + j + 1) c4)
        have BG2 := (BG.trans (hz5.mono BG.size)).setCell (p := ⟨g8, 1, none⟩) (by show w.heap.size ≤ g8; omega) (.slice A4 (i + j + 1) c4)
        have sz5 := Nat.le_trans sz4 hz5.size
        have k_HX := Reads.far (p := ⟨g8, 1, none⟩) ((Reads.below (Reads.below HX.out BGs) (hz5.mono sz4))) (fun h0 ad h => by have := f9.out h0 ad h; show ad.block ≠ g8; omega) (.slice A4 (i + j + 1) c4)
        have k_HY := Reads.far (p := ⟨g8, 1, none⟩) ((Reads.below (Reads.below HY.out BGs) (hz5.mono sz4))) (fun h0 ad h => by have := f10.out h0 ad h; show ad.block ≠ g8; omega) (.slice A4 (i + j + 1) c4)
        refine gro.anyM_one 11 (by kernel_rfl) rfl ?_
        intro y6 hz6 K' hK'
        go_simp
        refine hK' _ _ ⟨fun h => absurd (show true = false from h) (by decide), ?_⟩
        clear hK' K'
        replace KT := KT.below hz6
        replace HO7 := own_keep HO7 hz6
        replace BG2 := BG2.trans (hz6.mono BG2.size)
        replace k_HX := Reads.below k_HX (hz6.mono (by simp [World.setCell]; omega))
        replace k_HY := Reads.below k_HY (hz6.mono (by simp [World.setCell]; omega))
        replace sz5 : sb ≤ y6.heap.size := by have := hz6.size; simp [World.setCell] at this; omega
        refine gro.anyM_done (by kernel_rfl) ?_
        intro y7 hz7
        have sz7 : sb ≤ y7.heap.size := by have := hz7.size; first | omega | (simp [World.setCell] at this; omega)
        replace BB := Lib.hid (BG2.trans (hz7.mono BG2.size))
        replace HO := Lib.hid (own_keep HO7 hz7)
        replace KK := Lib.hid (KT.below hz7)
        replace HX := Lib.hid (Reads.below k_HX (hz7.mono (by first | exact sz5 | (simp [World.setCell]; omega))))
        clear k_HX
        replace HY := Lib.hid (Reads.below k_HY (hz7.mono (by first | exact sz5 | (simp [World.setCell]; omega))))
        clear k_HY
        clear BGs KT KV RV hz5 hz7 HO7 BG BG2 KW hown4 hg4 hat4 sz4 sz5
        have R := KK.out.rules
        simp only [Rules] at R
        go_wp2_with fail
        go_roundg (0 + 0)
        case measure => omega
        case rel => exact ⟨i + 1, j, 0, 0, 0, d10, some ad, _, .slice A4 (i + j + 1) c4, o ++ [(e1, e2, e3)], rfl, rfl, by have := hk9.out; rw [Hid]; omega, hk10, by omega, by omega, by omega, r1, r2, fun h0 => absurd h0 (by omega), f10, Lib.hid (by have := ERead.tail HX.out (by omega) q1; rw [List.drop_drop, if_pos rfl] at this; exact this), HY, Lib.hid (by rw [tc_append, tc_one, show i + 1 + j = i + j + 1 by omega]; exact HO.out), Lib.hid (by simpa using KK.out), BB, sz7, hstep⟩
      have HS0 := Lib.hid (show SC _ _ _ _ _ _ _ W6.drew from ⟨KK.out.drew, HC.out _ (Below.refl _ _).drew⟩)
      (refine gro.wp_region_heldA [0, 1, 2, 3, 4] 7 10 _ (rnk.lasts_sc _ _ _ _ _ _ _) (by kernel_rfl) (by kernel_rfl) (by intro _ _ _ _ _ h; exact h) (by kernel_rfl) (by kernel_rfl) (by kernel_rfl) (by kernel_rfl) (by kernel_rfl) (by decide) (HS0.out) ?_; apply Exists.intro; refine ⟨fun w0 hb0 => ?_, ?_⟩; focus (obtain ⟨kz, f1, f2, f3⟩ := hb0; have RZ := kz.rules; simp only [gro.Rules] at RZ; simp only [gro.pickA, List.filterMap_cons, List.filterMap_nil, List.getElem?_toArray, List.getElem?_cons_succ, List.getElem?_cons_zero]; change wpQuiet _ _ _ _ (_ :: _ :: _ :: _ :: _ ::  []) _; (repeat (go_big_quiet_step ((fail)))); exact wpQuiet_nil rfl))
      (refine gro.anyM_first_all [7, 8] 5 (rnk.lasts_sc _ _ _ _ _ _ _) (by kernel_rfl) (by intro _ _ _ _ _ h; exact h) (by kernel_rfl) (by kernel_rfl) (by kernel_rfl) (by kernel_rfl) (by kernel_rfl) (HS0.out) ?_; apply Exists.intro; refine ⟨fun w0 => ?_, ?_⟩; focus (simp only [gro.pickA, List.filterMap_cons, List.filterMap_nil, List.getElem?_toArray, List.getElem?_cons_succ, List.getElem?_cons_zero]; change wpQuiet _ _ _ _ (_ :: _ ::  []) _; (repeat (go_big_quiet_step ((fail)))); exact wpQuiet_nil rfl))
      refine gro.anyM_one 5 (by kernel_rfl) rfl ?_
      intro y2 hz2 K' hK'
      go_simp
      refine hK' _ _ ⟨fun _ => lasts_sc _ _ _ _ _ _ _ _ _ HS0.out (hz2.alloc hz2.size _), ?_⟩
      clear hK' K'
      have B2 : Below W6.heap.size W6 y2 := ((Below.refl _ _).drew).trans hz2
      obtain ⟨z2, hy2⟩ : ∃ z, y2.alloc (.cells #[Value.int IntKind.i64 e1, Value.int IntKind.i64 e2, Value.int IntKind.i64 e3] 79) = z := ⟨_, rfl⟩
      have hr2 : Reads z2 z2.heap.size 3 (some ⟨y2.heap.size, 0, none⟩) 1 [Value.int IntKind.i64 e1, Value.int IntKind.i64 e2, Value.int IntKind.i64 e3] := by rw [← hy2]; exact Reads.more (reads_new y2 79 #[Value.int IntKind.i64 e1, Value.int IntKind.i64 e2, Value.int IntKind.i64 e3] rfl) (by simp)
      have hA2 : Below y2.heap.size y2 z2 := by rw [← hy2]; exact (Below.refl _ _).alloc (Nat.le_refl _) _
      have B3 := B2.trans (hA2.mono B2.size)
      rw [hy2]
      refine gro.anyM_one 6 (by kernel_rfl) rfl ?_
      intro y3 hz3 K' hK'
      have B4 := B3.trans (hz3.mono B3.size)
      have HU := own_keep HO.out B4
      refine step_append_any _ (by rfl) (.tmp 68) (.tmp 72) 37 rfl sb 79 i0 (.agg #[.int .i64 0, .int .i64 0, .int .i64 0]) 3 24 Tryz.underlying37 HI.out HZ0.out HZ1.out HZ2.out rfl (by omega) u (i + j) (tc o) (by rfl) HU z2.heap.size (some ⟨y2.heap.size, 0, none⟩) 1 1 [Value.int IntKind.i64 e1, Value.int IntKind.i64 e2, Value.int IntKind.i64 e3] (by rfl) (Reads.below hr2 hz3) (by simp [Value.oneCell']) (by unfold maxLen; omega) (by omega) (Nat.le_trans szb B4.size) ?_
      intro v4 w4 hown4 hg4 hat4
      have BG := below_own hg4 HU (BB.out.trans (B4.mono BB.out.size)) (by omega) (Nat.le_trans BB.out.size B4.size)
      have KW := Bx.app3 (KK.out.below B4) hg4 (fun q hq h => by have h8 := hub.out _ h.symm; simp at hq; rcases hq with h | h | h | h <;> subst h <;> simp at h8 <;> omega)
      have sz4 := Nat.le_trans szb (Nat.le_trans B4.size hg4.size)
      obtain ⟨A4, c4, rfl, m1, m2, m3⟩ := own_form hown4
      clear m3
      have BGs := below_own hg4 HU (B4.mono szb) (Nat.le_refl _) (Nat.le_trans szb B4.size)
      refine hK' _ _ ⟨fun _ => ⟨KW, HC.out _ BGs⟩, ?_⟩
      clear hK' K' HS0 HU hr2 hA2 B2 B3 B4 hz2 hz3
      refine gro.anyM_one 9 (by kernel_rfl) rfl ?_
      intro y4 hz4 K' hK'
      replace BG := BG.trans (hz4.mono BG.size)
      replace BGs := BGs.trans (hz4.mono sz4)
      replace KW := KW.below hz4
      replace hown4 := own_keep hown4 hz4
      replace sz4 := Nat.le_trans sz4 hz4.size
      go_simp
      refine hK' _ _ ⟨fun _ => ⟨KW, HC.out _ BGs⟩, ?_⟩
      clear hK' K' hz4
      refine gro.anyM_one 10 (by kernel_rfl) rfl ?_
      intro y5 hz5 K' hK'
      have KV := (KW.below hz5).perm (L' := [(g8, 39, #[Value.int IntKind.i64 (a + b), u]), (w.heap.size + 1 + 1, 39, #[Value.int IntKind.i64 0, Value.slice none 0 0]), (w.heap.size + 1, 39, #[Value.int IntKind.i64 b, Value.slice A2 n2 c2]), (w.heap.size, 39, #[Value.int IntKind.i64 a, Value.slice A1 n1 c1])]) (by simp)
      have RV := KV.rules
      simp only [Rules] at RV
      clear R
      go_simp
      refine hK' _ _ ⟨fun h => absurd (show true = false from h) (by decide), ?_⟩
      clear hK' K'
      have KT := Bx.puti KV (by simp <;> omega) 1 (.slice A4 (i + j + 1) c4)
      have HO7 := ownsRow_setCell_below (own_keep hown4 hz5) (a := ⟨g8, 1, none⟩) (by show g8 < sb; omega) (.slice A4 (i + j + 1) c4)
      have BG2 := (BG.trans (hz5.mono BG.size)).setCell (p := ⟨g8, 1, none⟩) (by show w.heap.size ≤ g8; omega) (.slice A4 (i + j + 1) c4)
      have sz5 := Nat.le_trans sz4 hz5.size
      have k_HX := Reads.far (p := ⟨g8, 1, none⟩) ((Reads.below (Reads.below HX.out BGs) (hz5.mono sz4))) (fun h0 ad h => by have := f9.out h0 ad h; show ad.block ≠ g8; omega) (.slice A4 (i + j + 1) c4)
      have k_HY := Reads.far (p := ⟨g8, 1, none⟩) ((Reads.below (Reads.below HY.out BGs) (hz5.mono sz4))) (fun h0 ad h => by have := f10.out h0 ad h; show ad.block ≠ g8; omega) (.slice A4 (i + j + 1) c4)
      refine gro.anyM_one 11 (by kernel_rfl) rfl ?_
      intro y6 hz6 K' hK'
      go_simp
      refine hK' _ _ ⟨fun h => absurd (show true = false from h) (by decide), ?_⟩
      clear hK' K'
      replace KT := KT.below hz6
      replace HO7 := own_keep HO7 hz6
      replace BG2 := BG2.trans (hz6.mono BG2.size)
      replace k_HX := Reads.below k_HX (hz6.mono (by simp [World.setCell]; omega))
      replace k_HY := Reads.below k_HY (hz6.mono (by simp [World.setCell]; omega))
      replace sz5 : sb ≤ y6.heap.size := by have := hz6.size; simp [World.setCell] at this; omega
      refine gro.anyM_done (by kernel_rfl) ?_
      intro y7 hz7
      have sz7 : sb ≤ y7.heap.size := by have := hz7.size; first | omega | (simp [World.setCell] at this; omega)
      replace BB := Lib.hid (BG2.trans (hz7.mono BG2.size))
      replace HO := Lib.hid (own_keep HO7 hz7)
      replace KK := Lib.hid (KT.below hz7)
      replace HX := Lib.hid (Reads.below k_HX (hz7.mono (by first | exact sz5 | (simp [World.setCell]; omega))))
      clear k_HX
      replace HY := Lib.hid (Reads.below k_HY (hz7.mono (by first | exact sz5 | (simp [World.setCell]; omega))))
      clear k_HY
      clear BGs KT KV RV hz5 hz7 HO7 BG BG2 KW hown4 hg4 hat4 sz4 sz5
      have R := KK.out.rules
      simp only [Rules] at R
      go_wp2_with fail
      go_roundg (k9 - 1 + 0)
      case measure => omega
      case rel => exact ⟨i + 1, j, k9 - 1, d9 - 1, 0, d10, some ⟨ad.block, ad.off + 3, none⟩, _, .slice A4 (i + j + 1) c4, o ++ [(e1, e2, e3)], rfl, rfl, by have := hk9.out; rw [Hid]; omega, hk10, by omega, by omega, by omega, r1, r2, fun h0 ad' h => by have := f9.out (by omega) ad rfl; injection h with h; subst h; exact this, f10, Lib.hid (by have := ERead.tail HX.out (by omega) q1; rw [List.drop_drop, if_neg hd9] at this; exact this), HY, Lib.hid (by rw [tc_append, tc_one, show i + 1 + j = i + j + 1 by omega]; exact HO.out), Lib.hid (by simpa using KK.out), BB, sz7, hstep⟩
    by_cases h9 : 0 < k9
    case neg =>
      obtain rfl : k9 = 0 := by omega
      have hstep := Lib.hid (mrgQ_ny (x := X) (n1 := n1) (i := i) hYl.out (show i ≤ n1 by have := hk9.out; omega) (show j < n2 by have := hk10.out; omega) (fun h => by unfold takeX at h; have e1 := hk9.out; have e2 := hk10.out; have e3 := hXl.out; have e4 := hYl.out; omega) HE.out)
      obtain ⟨ad, rfl, hb10, HC⟩ := ERead.cells HY.out h10
      rw [show ad.add (0 * 3) = ad from by simp [Addr.add], show at3 (Y.drop j) 0 = at3 Y j by simp [at3]] at HC
      have hx : Hid (at3 Y j = ((at3 Y j).1, (at3 Y j).2.1, (at3 Y j).2.2)) := rfl
      rw [hx.out] at hstep
      clear hx
      generalize (at3 Y j).1 = e1 at *
      generalize (at3 Y j).2.1 = e2 at *
      generalize (at3 Y j).2.2 = e3 at *
      obtain ⟨f1, f2, f3⟩ := HC.out _ (Below.refl _ _)
      have hd1 : ((k10 : Int) == 0) = false := by simp; omega
      have hd2 : decide ((0 : Int) < ((0 : Nat) : Int)) = false := by simp
      go_wp2_with fail
      (refine gro.wp_region_grown (by kernel_rfl) (by kernel_rfl) ?_; (repeat (go_big_quiet_step ((fail)))); refine wpQuiet_nil ?_; intro _ hw'; obtain ⟨nx, hw''⟩ := hw'; subst hw'')
      replace BB := Lib.hid (BB.out.trans ((below_grown _ nx).mono BB.out.size))
      replace KK := Lib.hid (KK.out.below (below_grown _ nx))
      replace HO := Lib.hid (own_keep HO.out (below_grown _ nx))
      replace HX := Lib.hid (Reads.below HX.out ((below_grown _ nx).mono szb))
      replace HY := Lib.hid (Reads.below HY.out ((below_grown _ nx).mono szb))
      replace HC := Lib.hid (fun W hW => HC.out W (((below_grown _ nx).mono szb).trans hW))
      replace szb := Nat.le_trans szb (below_grown _ nx).size
      clear R
      generalize grown _ nx = W6 at *
      have R := KK.out.rules
      simp only [Rules] at R
      clear f1 f2 f3
      go_wp2_with fail
      by_cases hd9 : d10 = 1
      case pos =>
        subst hd9
        obtain rfl : k10 = 1 := by omega
        have HS0 := Lib.hid (show SC _ _ _ _ _ _ _ W6.drew from ⟨KK.out.drew, HC.out _ (Below.refl _ _).drew⟩)
        (refine gro.wp_region_heldA [0, 1, 2, 3, 4] 7 10 _ (rnk.lasts_sc _ _ _ _ _ _ _) (by kernel_rfl) (by kernel_rfl) (by intro _ _ _ _ _ h; exact h) (by kernel_rfl) (by kernel_rfl) (by kernel_rfl) (by kernel_rfl) (by kernel_rfl) (by decide) (HS0.out) ?_; apply Exists.intro; refine ⟨fun w0 hb0 => ?_, ?_⟩; focus (obtain ⟨kz, f1, f2, f3⟩ := hb0; have RZ := kz.rules; simp only [gro.Rules] at RZ; simp only [gro.pickA, List.filterMap_cons, List.filterMap_nil, List.getElem?_toArray, List.getElem?_cons_succ, List.getElem?_cons_zero]; change wpQuiet _ _ _ _ (_ :: _ :: _ :: _ :: _ ::  []) _; (repeat (go_big_quiet_step ((fail)))); exact wpQuiet_nil rfl))
        (refine gro.anyM_first_all [7, 8] 5 (rnk.lasts_sc _ _ _ _ _ _ _) (by kernel_rfl) (by intro _ _ _ _ _ h; exact h) (by kernel_rfl) (by kernel_rfl) (by kernel_rfl) (by kernel_rfl) (by kernel_rfl) (HS0.out) ?_; apply Exists.intro; refine ⟨fun w0 => ?_, ?_⟩; focus (simp only [gro.pickA, List.filterMap_cons, List.filterMap_nil, List.getElem?_toArray, List.getElem?_cons_succ, List.getElem?_cons_zero]; change wpQuiet _ _ _ _ (_ :: _ ::  []) _; (repeat (go_big_quiet_step ((fail)))); exact wpQuiet_nil rfl))
        refine gro.anyM_one 5 (by kernel_rfl) rfl ?_
        intro y2 hz2 K' hK'
        go_simp
        refine hK' _ _ ⟨fun _ => lasts_sc _ _ _ _ _ _ _ _ _ HS0.out (hz2.alloc hz2.size _), ?_⟩
        clear hK' K'
        have B2 : Below W6.heap.size W6 y2 := ((Below.refl _ _).drew).trans hz2
        obtain ⟨z2, hy2⟩ : ∃ z, y2.alloc (.cells #[Value.int IntKind.i64 e1, Value.int IntKind.i64 e2, Value.int IntKind.i64 e3] 79) = z := ⟨_, rfl⟩
        have hr2 : Reads z2 z2.heap.size 3 (some ⟨y2.heap.size, 0, none⟩) 1 [Value.int IntKind.i64 e1, Value.int IntKind.i64 e2, Value.int IntKind.i64 e3] := by rw [← hy2]; exact Reads.more (reads_new y2 79 #[Value.int IntKind.i64 e1, Value.int IntKind.i64 e2, Value.int IntKind.i64 e3] rfl) (by simp)
        have hA2 : Below y2.heap.size y2 z2 := by rw [← hy2]; exact (Below.refl _ _).alloc (Nat.le_refl _) _
        have B3 := B2.trans (hA2.mono B2.size)
        rw [hy2]
        refine gro.anyM_one 6 (by kernel_rfl) rfl ?_
        intro y3 hz3 K' hK'
        have B4 := B3.trans (hz3.mono B3.size)
        have HU := own_keep HO.out B4
        refine step_append_any _ (by rfl) (.tmp 78) (.tmp 82) 37 rfl sb 79 i0 (.agg #[.int .i64 0, .int .i64 0, .int .i64 0]) 3 24 Tryz.underlying37 HI.out HZ0.out HZ1.out HZ2.out rfl (by omega) u (i + j) (tc o) (by rfl) HU z2.heap.size (some ⟨y2.heap.size, 0, none⟩) 1 1 [Value.int IntKind.i64 e1, Value.int IntKind.i64 e2, Value.int IntKind.i64 e3] (by rfl) (Reads.below hr2 hz3) (by simp [Value.oneCell']) (by unfold maxLen; omega) (by omega) (Nat.le_trans szb B4.size) ?_
        intro v4 w4 hown4 hg4 hat4
        have BG := below_own hg4 HU (BB.out.trans (B4.mono BB.out.size)) (by omega) (Nat.le_trans BB.out.size B4.size)
        have KW := Bx.app3 (KK.out.below B4) hg4 (fun q hq h => by have h8 := hub.out _ h.symm; simp at hq; rcases hq with h | h | h | h <;> subst h <;> simp at h8 <;> omega)
        have sz4 := Nat.le_trans szb (Nat.le_trans B4.size hg4.size)
        obtain ⟨A4, c4, rfl, m1, m2, m3⟩ := own_form hown4
        clear m3
        have BGs := below_own hg4 HU (B4.mono szb) (Nat.le_refl _) (Nat.le_trans szb B4.size)
        refine hK' _ _ ⟨fun _ => ⟨KW, HC.out _ BGs⟩, ?_⟩
        clear hK' K' HS0 HU hr2 hA2 B2 B3 B4 hz2 hz3
        refine gro.anyM_one 9 (by kernel_rfl) rfl ?_
        intro y4 hz4 K' hK'
        replace BG := BG.trans (hz4.mono BG.size)
        replace BGs := BGs.trans (hz4.mono sz4)
        replace KW := KW.below hz4
        replace hown4 := own_keep hown4 hz4
        replace sz4 := Nat.le_trans sz4 hz4.size
        go_simp
        refine hK' _ _ ⟨fun _ => ⟨KW, HC.out _ BGs⟩, ?_⟩
        clear hK' K' hz4
        refine gro.anyM_one 10 (by kernel_rfl) rfl ?_
        intro y5 hz5 K' hK'
        have KV := (KW.below hz5).perm (L' := [(g8, 39, #[Value.int IntKind.i64 (a + b), u]), (w.heap.size + 1 + 1, 39, #[Value.int IntKind.i64 0, Value.slice none 0 0]), (w.heap.size + 1, 39, #[Value.int IntKind.i64 b, Value.slice A2 n2 c2]), (w.heap.size, 39, #[Value.int IntKind.i64 a, Value.slice A1 n1 c1])]) (by simp)
        have RV := KV.rules
        simp only [Rules] at RV
        clear R
        go_simp
        refine hK' _ _ ⟨fun h => absurd (show true = false from h) (by decide), ?_⟩
        clear hK' K'
        have KT := Bx.puti KV (by simp <;> omega) 1 (.slice A4 (i + j + 1) c4)
        have HO7 := ownsRow_setCell_below (own_keep hown4 hz5) (a := ⟨g8, 1, none⟩) (by show g8 < sb; omega) (.slice A4 (i + j + 1) c4)
        have BG2 := (BG.trans (hz5.mono BG.size)).setCell (p := ⟨g8, 1, none⟩) (by show w.heap.size ≤ g8; omega) (.slice A4 (i + j + 1) c4)
        have sz5 := Nat.le_trans sz4 hz5.size
        have k_HX := Reads.far (p := ⟨g8, 1, none⟩) ((Reads.below (Reads.below HX.out BGs) (hz5.mono sz4))) (fun h0 ad h => by have := f9.out h0 ad h; show ad.block ≠ g8; omega) (.slice A4 (i + j + 1) c4)
        have k_HY := Reads.far (p := ⟨g8, 1, none⟩) ((Reads.below (Reads.below HY.out BGs) (hz5.mono sz4))) (fun h0 ad h => by have := f10.out h0 ad h; show ad.block ≠ g8; omega) (.slice A4 (i + j + 1) c4)
        refine gro.anyM_one 11 (by kernel_rfl) rfl ?_
        intro y6 hz6 K' hK'
        go_simp
        refine hK' _ _ ⟨fun h => absurd (show true = false from h) (by decide), ?_⟩
        clear hK' K'
        replace KT := KT.below hz6
        replace HO7 := own_keep HO7 hz6
        replace BG2 := BG2.trans (hz6.mono BG2.size)
        replace k_HX := Reads.below k_HX (hz6.mono (by simp [World.setCell]; omega))
        replace k_HY := Reads.below k_HY (hz6.mono (by simp [World.setCell]; omega))
        replace sz5 : sb ≤ y6.heap.size := by have := hz6.size; simp [World.setCell] at this; omega
        refine gro.anyM_done (by kernel_rfl) ?_
        intro y7 hz7
        have sz7 : sb ≤ y7.heap.size := by have := hz7.size; first | omega | (simp [World.setCell] at this; omega)
        replace BB := Lib.hid (BG2.trans (hz7.mono BG2.size))
        replace HO := Lib.hid (own_keep HO7 hz7)
        replace KK := Lib.hid (KT.below hz7)
        replace HX := Lib.hid (Reads.below k_HX (hz7.mono (by first | exact sz5 | (simp [World.setCell]; omega))))
        clear k_HX
        replace HY := Lib.hid (Reads.below k_HY (hz7.mono (by first | exact sz5 | (simp [World.setCell]; omega))))
        clear k_HY
        clear BGs KT KV RV hz5 hz7 HO7 BG BG2 KW hown4 hg4 hat4 sz4 sz5
        have R := KK.out.rules
        simp only [Rules] at R
        go_wp2_with fail
        go_roundg (0 + (0))
        case measure => omega
        case rel => exact ⟨i, j + 1, 0, d9, 0, 0, _, some ad, .slice A4 (i + j + 1) c4, o ++ [(e1, e2, e3)], rfl, rfl, hk9, by have := hk10.out; rw [Hid]; omega, by omega, q1, q2, by omega, by omega, f9, fun h0 => absurd h0 (by omega), HX, Lib.hid (by have := ERead.tail HY.out (by omega) r1; rw [List.drop_drop, if_pos rfl] at this; exact this), Lib.hid (by rw [tc_append, tc_one, show i + (j + 1) = i + j + 1 by omega]; exact HO.out), Lib.hid (by simpa using KK.out), BB, sz7, hstep⟩
      have HS0 := Lib.hid (show SC _ _ _ _ _ _ _ W6.drew from ⟨KK.out.drew, HC.out _ (Below.refl _ _).drew⟩)
      (refine gro.wp_region_heldA [0, 1, 2, 3, 4] 7 10 _ (rnk.lasts_sc _ _ _ _ _ _ _) (by kernel_rfl) (by kernel_rfl) (by intro _ _ _ _ _ h; exact h) (by kernel_rfl) (by kernel_rfl) (by kernel_rfl) (by kernel_rfl) (by kernel_rfl) (by decide) (HS0.out) ?_; apply Exists.intro; refine ⟨fun w0 hb0 => ?_, ?_⟩; focus (obtain ⟨kz, f1, f2, f3⟩ := hb0; have RZ := kz.rules; simp only [gro.Rules] at RZ; simp only [gro.pickA, List.filterMap_cons, List.filterMap_nil, List.getElem?_toArray, List.getElem?_cons_succ, List.getElem?_cons_zero]; change wpQuiet _ _ _ _ (_ :: _ :: _ :: _ :: _ ::  []) _; (repeat (go_big_quiet_step ((fail)))); exact wpQuiet_nil rfl))
      (refine gro.anyM_first_all [7, 8] 5 (rnk.lasts_sc _ _ _ _ _ _ _) (by kernel_rfl) (by intro _ _ _ _ _ h; exact h) (by kernel_rfl) (by kernel_rfl) (by kernel_rfl) (by kernel_rfl) (by kernel_rfl) (HS0.out) ?_; apply Exists.intro; refine ⟨fun w0 => ?_, ?_⟩; focus (simp only [gro.pickA, List.filterMap_cons, List.filterMap_nil, List.getElem?_toArray, List.getElem?_cons_succ, List.getElem?_cons_zero]; change wpQuiet _ _ _ _ (_ :: _ ::  []) _; (repeat (go_big_quiet_step ((fail)))); exact wpQuiet_nil rfl))
      refine gro.anyM_one 5 (by kernel_rfl) rfl ?_
      intro y2 hz2 K' hK'
      go_simp
      refine hK' _ _ ⟨fun _ => lasts_sc _ _ _ _ _ _ _ _ _ HS0.out (hz2.alloc hz2.size _), ?_⟩
      clear hK' K'
      have B2 : Below W6.heap.size W6 y2 := ((Below.refl _ _).drew).trans hz2
      obtain ⟨z2, hy2⟩ : ∃ z, y2.alloc (.cells #[Value.int IntKind.i64 e1, Value.int IntKind.i64 e2, Value.int IntKind.i64 e3] 79) = z := ⟨_, rfl⟩
      have hr2 : Reads z2 z2.heap.size 3 (some ⟨y2.heap.size, 0, none⟩) 1 [Value.int IntKind.i64 e1, Value.int IntKind.i64 e2, Value.int IntKind.i64 e3] := by rw [← hy2]; exact Reads.more (reads_new y2 79 #[Value.int IntKind.i64 e1, Value.int IntKind.i64 e2, Value.int IntKind.i64 e3] rfl) (by simp)
      have hA2 : Below y2.heap.size y2 z2 := by rw [← hy2]; exact (Below.refl _ _).alloc (Nat.le_refl _) _
      have B3 := B2.trans (hA2.mono B2.size)
      rw [hy2]
      refine gro.anyM_one 6 (by kernel_rfl) rfl ?_
      intro y3 hz3 K' hK'
      have B4 := B3.trans (hz3.mono B3.size)
      have HU := own_keep HO.out B4
      refine step_append_any _ (by rfl) (.tmp 78) (.tmp 82) 37 rfl sb 79 i0 (.agg #[.int .i64 0, .int .i64 0, .int .i64 0]) 3 24 Tryz.underlying37 HI.out HZ0.out HZ1.out HZ2.out rfl (by omega) u (i + j) (tc o) (by rfl) HU z2.heap.size (some ⟨y2.heap.size, 0, none⟩) 1 1 [Value.int IntKind.i64 e1, Value.int IntKind.i64 e2, Value.int IntKind.i64 e3] (by rfl) (Reads.below hr2 hz3) (by simp [Value.oneCell']) (by unfold maxLen; omega) (by omega) (Nat.le_trans szb B4.size) ?_
      intro v4 w4 hown4 hg4 hat4
      have BG := below_own hg4 HU (BB.out.trans (B4.mono BB.out.size)) (by omega) (Nat.le_trans BB.out.size B4.size)
      have KW := Bx.app3 (KK.out.below B4) hg4 (fun q hq h => by have h8 := hub.out _ h.symm; simp at hq; rcases hq with h | h | h | h <;> subst h <;> simp at h8 <;> omega)
      have sz4 := Nat.le_trans szb (Nat.le_trans B4.size hg4.size)
      obtain ⟨A4, c4, rfl, m1, m2, m3⟩ := own_form hown4
      clear m3
      have BGs := below_own hg4 HU (B4.mono szb) (Nat.le_refl _) (Nat.le_trans szb B4.size)
      refine hK' _ _ ⟨fun _ => ⟨KW, HC.out _ BGs⟩, ?_⟩
      clear hK' K' HS0 HU hr2 hA2 B2 B3 B4 hz2 hz3
      refine gro.anyM_one 9 (by kernel_rfl) rfl ?_
      intro y4 hz4 K' hK'
      replace BG := BG.trans (hz4.mono BG.size)
      replace BGs := BGs.trans (hz4.mono sz4)
      replace KW := KW.below hz4
      replace hown4 := own_keep hown4 hz4
      replace sz4 := Nat.le_trans sz4 hz4.size
      go_simp
      refine hK' _ _ ⟨fun _ => ⟨KW, HC.out _ BGs⟩, ?_⟩
      clear hK' K' hz4
      refine gro.anyM_one 10 (by kernel_rfl) rfl ?_
      intro y5 hz5 K' hK'
      have KV := (KW.below hz5).perm (L' := [(g8, 39, #[Value.int IntKind.i64 (a + b), u]), (w.heap.size + 1 + 1, 39, #[Value.int IntKind.i64 0, Value.slice none 0 0]), (w.heap.size + 1, 39, #[Value.int IntKind.i64 b, Value.slice A2 n2 c2]), (w.heap.size, 39, #[Value.int IntKind.i64 a, Value.slice A1 n1 c1])]) (by simp)
      have RV := KV.rules
      simp only [Rules] at RV
      clear R
      go_simp
      refine hK' _ _ ⟨fun h => absurd (show true = false from h) (by decide), ?_⟩
      clear hK' K'
      have KT := Bx.puti KV (by simp <;> omega) 1 (.slice A4 (i + j + 1) c4)
      have HO7 := ownsRow_setCell_below (own_keep hown4 hz5) (a := ⟨g8, 1, none⟩) (by show g8 < sb; omega) (.slice A4 (i + j + 1) c4)
      have BG2 := (BG.trans (hz5.mono BG.size)).setCell (p := ⟨g8, 1, none⟩) (by show w.heap.size ≤ g8; omega) (.slice A4 (i + j + 1) c4)
      have sz5 := Nat.le_trans sz4 hz5.size
      have k_HX := Reads.far (p := ⟨g8, 1, none⟩) ((Reads.below (Reads.below HX.out BGs) (hz5.mono sz4))) (fun h0 ad h => by have := f9.out h0 ad h; show ad.block ≠ g8; omega) (.slice A4 (i + j + 1) c4)
      have k_HY := Reads.far (p := ⟨g8, 1, none⟩) ((Reads.below (Reads.below HY.out BGs) (hz5.mono sz4))) (fun h0 ad h => by have := f10.out h0 ad h; show ad.block ≠ g8; omega) (.slice A4 (i + j + 1) c4)
      refine gro.anyM_one 11 (by kernel_rfl) rfl ?_
      intro y6 hz6 K' hK'
      go_simp
      refine hK' _ _ ⟨fun h => absurd (show true = false from h) (by decide), ?_⟩
      clear hK' K'
      replace KT := KT.below hz6
      replace HO7 := own_keep HO7 hz6
      replace BG2 := BG2.trans (hz6.mono BG2.size)
      replace k_HX := Reads.below k_HX (hz6.mono (by simp [World.setCell]; omega))
      replace k_HY := Reads.below k_HY (hz6.mono (by simp [World.setCell]; omega))
      replace sz5 : sb ≤ y6.heap.size := by have := hz6.size; simp [World.setCell] at this; omega
      refine gro.anyM_done (by kernel_rfl) ?_
      intro y7 hz7
      have sz7 : sb ≤ y7.heap.size := by have := hz7.size; first | omega | (simp [World.setCell] at this; omega)
      replace BB := Lib.hid (BG2.trans (hz7.mono BG2.size))
      replace HO := Lib.hid (own_keep HO7 hz7)
      replace KK := Lib.hid (KT.below hz7)
      replace HX := Lib.hid (Reads.below k_HX (hz7.mono (by first | exact sz5 | (simp [World.setCell]; omega))))
      clear k_HX
      replace HY := Lib.hid (Reads.below k_HY (hz7.mono (by first | exact sz5 | (simp [World.setCell]; omega))))
      clear k_HY
      clear BGs KT KV RV hz5 hz7 HO7 BG BG2 KW hown4 hg4 hat4 sz4 sz5
      have R := KK.out.rules
      simp only [Rules] at R
      go_wp2_with fail
      go_roundg (0 + (k10 - 1))
      case measure => omega
      case rel => exact ⟨i, j + 1, 0, d9, k10 - 1, d10 - 1, _, some ⟨ad.block, ad.off + 3, none⟩, .slice A4 (i + j + 1) c4, o ++ [(e1, e2, e3)], rfl, rfl, hk9, by have := hk10.out; rw [Hid]; omega, by omega, q1, q2, by omega, by omega, f9, fun h0 ad' h => by have := f10.out (by omega) ad rfl; injection h with h; subst h; exact this, HX, Lib.hid (by have := ERead.tail HY.out (by omega) r1; rw [List.drop_drop, if_neg hd9] at this; exact this), Lib.hid (by rw [tc_append, tc_one, show i + (j + 1) = i + j + 1 by omega]; exact HO.out), Lib.hid (by simpa using KK.out), BB, sz7, hstep⟩
    have htx := Lib.hid (fun (h : (at3 X i).1 ≤ (at3 Y j).1) => mrgQ_nx hXl.out (show i < n1 by have := hk9.out; omega) (show j ≤ n2 by have := hk10.out; omega) (.inr ⟨by have := hk9.out; rw [hXl.out]; omega, h⟩) HE.out)
    have hty := Lib.hid (fun (h : ¬ (at3 X i).1 ≤ (at3 Y j).1) => mrgQ_ny (x := X) (n1 := n1) (i := i) hYl.out (show i ≤ n1 by have := hk9.out; omega) (show j < n2 by have := hk10.out; omega) (fun h2 => by unfold takeX at h2; have e2 := hk10.out; have e4 := hYl.out; rcases h2 with h2 | h2; omega; exact h h2.2) HE.out)
    obtain ⟨ad, rfl, hb9, HCx⟩ := ERead.cells HX.out h9
    obtain ⟨ae, rfl, hb10, HCy⟩ := ERead.cells HY.out h10
    by_cases hc : (at3 X i).1 ≤ (at3 Y j).1
    case pos =>
      have hstep := Lib.hid (htx.out hc)
      clear htx hty
      have HC := HCx
      rw [show ad.add (0 * 3) = ad from by simp [Addr.add], show at3 (X.drop i) 0 = at3 X i by simp [at3]] at HC
      have hx : Hid (at3 X i = ((at3 X i).1, (at3 X i).2.1, (at3 X i).2.2)) := rfl
      rw [hx.out] at hstep
      clear hx
      have HD := Lib.hid (fun W hW => (HCy.out W hW).1)
      rw [show ae.add (0 * 3) = ae from by simp [Addr.add], show at3 (Y.drop j) 0 = at3 Y j by simp [at3]] at HD
      clear HCx HCy
      generalize (at3 Y j).1 = ov at *
      generalize (at3 X i).1 = e1 at *
      generalize (at3 X i).2.1 = e2 at *
      generalize (at3 X i).2.2 = e3 at *
      obtain ⟨f1, f2, f3⟩ := HC.out _ (Below.refl _ _)
      have f4 := HD.out _ (Below.refl _ _)
      have hd1 : ((k10 : Int) == 0) = false := by simp; omega
      have hd2 : decide ((0 : Int) < (k9 : Int)) = true := by simp; omega
      have hd3 : decide (e1 ≤ ov) = true := by simp; omega
      go_wp2_with fail
      (refine gro.wp_region_grown (by kernel_rfl) (by kernel_rfl) ?_; (repeat (go_big_quiet_step ((fail)))); refine wpQuiet_nil ?_; intro _ hw'; obtain ⟨nx, hw''⟩ := hw'; subst hw'')
      replace BB := Lib.hid (BB.out.trans ((below_grown _ nx).mono BB.out.size))
      replace KK := Lib.hid (KK.out.below (below_grown _ nx))
      replace HO := Lib.hid (own_keep HO.out (below_grown _ nx))
      replace HX := Lib.hid (Reads.below HX.out ((below_grown _ nx).mono szb))
      replace HY := Lib.hid (Reads.below HY.out ((below_grown _ nx).mono szb))
      replace HC := Lib.hid (fun W hW => HC.out W (((below_grown _ nx).mono szb).trans hW))
      replace szb := Nat.le_trans szb (below_grown _ nx).size
      clear R
      generalize grown _ nx = W6 at *
      have R := KK.out.rules
      simp only [Rules] at R
      clear f1 f2 f3 f4 HD
      go_wp2_with fail
      by_cases hd9 : d9 = 1
      case pos =>
        subst hd9
        obtain rfl : k9 = 1 := by omega
        have HS0 := Lib.hid (show SC _ _ _ _ _ _ _ W6.drew from ⟨KK.out.drew, HC.out _ (Below.refl _ _).drew⟩)
        (refine gro.wp_region_heldA [0, 1, 2, 3, 4] 7 10 _ (rnk.lasts_sc _ _ _ _ _ _ _) (by kernel_rfl) (by kernel_rfl) (by intro _ _ _ _ _ h; exact h) (by kernel_rfl) (by kernel_rfl) (by kernel_rfl) (by kernel_rfl) (by kernel_rfl) (by decide) (HS0.out) ?_; apply Exists.intro; refine ⟨fun w0 hb0 => ?_, ?_⟩; focus (obtain ⟨kz, f1, f2, f3⟩ := hb0; have RZ := kz.rules; simp only [gro.Rules] at RZ; simp only [gro.pickA, List.filterMap_cons, List.filterMap_nil, List.getElem?_toArray, List.getElem?_cons_succ, List.getElem?_cons_zero]; change wpQuiet _ _ _ _ (_ :: _ :: _ :: _ :: _ ::  []) _; (repeat (go_big_quiet_step ((fail)))); exact wpQuiet_nil rfl))
        (refine gro.anyM_first_all [7, 8] 5 (rnk.lasts_sc _ _ _ _ _ _ _) (by kernel_rfl) (by intro _ _ _ _ _ h; exact h) (by kernel_rfl) (by kernel_rfl) (by kernel_rfl) (by kernel_rfl) (by kernel_rfl) (HS0.out) ?_; apply Exists.intro; refine ⟨fun w0 => ?_, ?_⟩; focus (simp only [gro.pickA, List.filterMap_cons, List.filterMap_nil, List.getElem?_toArray, List.getElem?_cons_succ, List.getElem?_cons_zero]; change wpQuiet _ _ _ _ (_ :: _ ::  []) _; (repeat (go_big_quiet_step ((fail)))); exact wpQuiet_nil rfl))
        refine gro.anyM_one 5 (by kernel_rfl) rfl ?_
        intro y2 hz2 K' hK'
        go_simp
        refine hK' _ _ ⟨fun _ => lasts_sc _ _ _ _ _ _ _ _ _ HS0.out (hz2.alloc hz2.size _), ?_⟩
        clear hK' K'
        have B2 : Below W6.heap.size W6 y2 := ((Below.refl _ _).drew).trans hz2
        obtain ⟨z2, hy2⟩ : ∃ z, y2.alloc (.cells #[Value.int IntKind.i64 e1, Value.int IntKind.i64 e2, Value.int IntKind.i64 e3] 79) = z := ⟨_, rfl⟩
        have hr2 : Reads z2 z2.heap.size 3 (some ⟨y2.heap.size, 0, none⟩) 1 [Value.int IntKind.i64 e1, Value.int IntKind.i64 e2, Value.int IntKind.i64 e3] := by rw [← hy2]; exact Reads.more (reads_new y2 79 #[Value.int IntKind.i64 e1, Value.int IntKind.i64 e2, Value.int IntKind.i64 e3] rfl) (by simp)
        have hA2 : Below y2.heap.size y2 z2 := by rw [← hy2]; exact (Below.refl _ _).alloc (Nat.le_refl _) _
        have B3 := B2.trans (hA2.mono B2.size)
        rw [hy2]
        refine gro.anyM_one 6 (by kernel_rfl) rfl ?_
        intro y3 hz3 K' hK'
        have B4 := B3.trans (hz3.mono B3.size)
        have HU := own_keep HO.out B4
        refine step_append_any _ (by rfl) (.tmp 68) (.tmp 72) 37 rfl sb 79 i0 (.agg #[.int .i64 0, .int .i64 0, .int .i64 0]) 3 24 Tryz.underlying37 HI.out HZ0.out HZ1.out HZ2.out rfl (by omega) u (i + j) (tc o) (by rfl) HU z2.heap.size (some ⟨y2.heap.size, 0, none⟩) 1 1 [Value.int IntKind.i64 e1, Value.int IntKind.i64 e2, Value.int IntKind.i64 e3] (by rfl) (Reads.below hr2 hz3) (by simp [Value.oneCell']) (by unfold maxLen; omega) (by omega) (Nat.le_trans szb B4.size) ?_
        intro v4 w4 hown4 hg4 hat4
        have BG := below_own hg4 HU (BB.out.trans (B4.mono BB.out.size)) (by omega) (Nat.le_trans BB.out.size B4.size)
        have KW := Bx.app3 (KK.out.below B4) hg4 (fun q hq h => by have h8 := hub.out _ h.symm; simp at hq; rcases hq with h | h | h | h <;> subst h <;> simp at h8 <;> omega)
        have sz4 := Nat.le_trans szb (Nat.le_trans B4.size hg4.size)
        obtain ⟨A4, c4, rfl, m1, m2, m3⟩ := own_form hown4
        clear m3
        have BGs := below_own hg4 HU (B4.mono szb) (Nat.le_refl _) (Nat.le_trans szb B4.size)
        refine hK' _ _ ⟨fun _ => ⟨KW, HC.out _ BGs⟩, ?_⟩
        clear hK' K' HS0 HU hr2 hA2 B2 B3 B4 hz2 hz3
        refine gro.anyM_one 9 (by kernel_rfl) rfl ?_
        intro y4 hz4 K' hK'
        replace BG := BG.trans (hz4.mono BG.size)
        replace BGs := BGs.trans (hz4.mono sz4)
        replace KW := KW.below hz4
        replace hown4 := own_keep hown4 hz4
        replace sz4 := Nat.le_trans sz4 hz4.size
        go_simp
        refine hK' _ _ ⟨fun _ => ⟨KW, HC.out _ BGs⟩, ?_⟩
        clear hK' K' hz4
        refine gro.anyM_one 10 (by kernel_rfl) rfl ?_
        intro y5 hz5 K' hK'
        have KV := (KW.below hz5).perm (L' := [(g8, 39, #[Value.int IntKind.i64 (a + b), u]), (w.heap.size + 1 + 1, 39, #[Value.int IntKind.i64 0, Value.slice none 0 0]), (w.heap.size + 1, 39, #[Value.int IntKind.i64 b, Value.slice A2 n2 c2]), (w.heap.size, 39, #[Value.int IntKind.i64 a, Value.slice A1 n1 c1])]) (by simp)
        have RV := KV.rules
        simp only [Rules] at RV
        clear R
        go_simp
        refine hK' _ _ ⟨fun h => absurd (show true = false from h) (by decide), ?_⟩
        clear hK' K'
        have KT := Bx.puti KV (by simp <;> omega) 1 (.slice A4 (i + j + 1) c4)
        have HO7 := ownsRow_setCell_below (own_keep hown4 hz5) (a := ⟨g8, 1, none⟩) (by show g8 < sb; omega) (.slice A4 (i + j + 1) c4)
        have BG2 := (BG.trans (hz5.mono BG.size)).setCell (p := ⟨g8, 1, none⟩) (by show w.heap.size ≤ g8; omega) (.slice A4 (i + j + 1) c4)
        have sz5 := Nat.le_trans sz4 hz5.size
        have k_HX := Reads.far (p := ⟨g8, 1, none⟩) ((Reads.below (Reads.below HX.out BGs) (hz5.mono sz4))) (fun h0 ad h => by have := f9.out h0 ad h; show ad.block ≠ g8; omega) (.slice A4 (i + j + 1) c4)
        have k_HY := Reads.far (p := ⟨g8, 1, none⟩) ((Reads.below (Reads.below HY.out BGs) (hz5.mono sz4))) (fun h0 ad h => by have := f10.out h0 ad h; show ad.block ≠ g8; omega) (.slice A4 (i + j + 1) c4)
        refine gro.anyM_one 11 (by kernel_rfl) rfl ?_
        intro y6 hz6 K' hK'
        go_simp
        refine hK' _ _ ⟨fun h => absurd (show true = false from h) (by decide), ?_⟩
        clear hK' K'
        replace KT := KT.below hz6
        replace HO7 := own_keep HO7 hz6
        replace BG2 := BG2.trans (hz6.mono BG2.size)
        replace k_HX := Reads.below k_HX (hz6.mono (by simp [World.setCell]; omega))
        replace k_HY := Reads.below k_HY (hz6.mono (by simp [World.setCell]; omega))
        replace sz5 : sb ≤ y6.heap.size := by have := hz6.size; simp [World.setCell] at this; omega
        refine gro.anyM_done (by kernel_rfl) ?_
        intro y7 hz7
        have sz7 : sb ≤ y7.heap.size := by have := hz7.size; first | omega | (simp [World.setCell] at this; omega)
        replace BB := Lib.hid (BG2.trans (hz7.mono BG2.size))
        replace HO := Lib.hid (own_keep HO7 hz7)
        replace KK := Lib.hid (KT.below hz7)
        replace HX := Lib.hid (Reads.below k_HX (hz7.mono (by first | exact sz5 | (simp [World.setCell]; omega))))
        clear k_HX
        replace HY := Lib.hid (Reads.below k_HY (hz7.mono (by first | exact sz5 | (simp [World.setCell]; omega))))
        clear k_HY
        clear BGs KT KV RV hz5 hz7 HO7 BG BG2 KW hown4 hg4 hat4 sz4 sz5
        have R := KK.out.rules
        simp only [Rules] at R
        go_wp2_with fail
        go_roundg (0 + k10)
        case measure => omega
        case rel => exact ⟨i + 1, j, 0, 0, k10, d10, some ad, _, .slice A4 (i + j + 1) c4, o ++ [(e1, e2, e3)], rfl, rfl, by have := hk9.out; rw [Hid]; omega, hk10, by omega, by omega, by omega, r1, r2, fun h0 => absurd h0 (by omega), f10, Lib.hid (by have := ERead.tail HX.out (by omega) q1; rw [List.drop_drop, if_pos rfl] at this; exact this), HY, Lib.hid (by rw [tc_append, tc_one, show i + 1 + j = i + j + 1 by omega]; exact HO.out), Lib.hid (by simpa using KK.out), BB, sz7, hstep⟩
      have HS0 := Lib.hid (show SC _ _ _ _ _ _ _ W6.drew from ⟨KK.out.drew, HC.out _ (Below.refl _ _).drew⟩)
      (refine gro.wp_region_heldA [0, 1, 2, 3, 4] 7 10 _ (rnk.lasts_sc _ _ _ _ _ _ _) (by kernel_rfl) (by kernel_rfl) (by intro _ _ _ _ _ h; exact h) (by kernel_rfl) (by kernel_rfl) (by kernel_rfl) (by kernel_rfl) (by kernel_rfl) (by decide) (HS0.out) ?_; apply Exists.intro; refine ⟨fun w0 hb0 => ?_, ?_⟩; focus (obtain ⟨kz, f1, f2, f3⟩ := hb0; have RZ := kz.rules; simp only [gro.Rules] at RZ; simp only [gro.pickA, List.filterMap_cons, List.filterMap_nil, List.getElem?_toArray, List.getElem?_cons_succ, List.getElem?_cons_zero]; change wpQuiet _ _ _ _ (_ :: _ :: _ :: _ :: _ ::  []) _; (repeat (go_big_quiet_step ((fail)))); exact wpQuiet_nil rfl))
      (refine gro.anyM_first_all [7, 8] 5 (rnk.lasts_sc _ _ _ _ _ _ _) (by kernel_rfl) (by intro _ _ _ _ _ h; exact h) (by kernel_rfl) (by kernel_rfl) (by kernel_rfl) (by kernel_rfl) (by kernel_rfl) (HS0.out) ?_; apply Exists.intro; refine ⟨fun w0 => ?_, ?_⟩; focus (simp only [gro.pickA, List.filterMap_cons, List.filterMap_nil, List.getElem?_toArray, List.getElem?_cons_succ, List.getElem?_cons_zero]; change wpQuiet _ _ _ _ (_ :: _ ::  []) _; (repeat (go_big_quiet_step ((fail)))); exact wpQuiet_nil rfl))
      refine gro.anyM_one 5 (by kernel_rfl) rfl ?_
      intro y2 hz2 K' hK'
      go_simp
      refine hK' _ _ ⟨fun _ => lasts_sc _ _ _ _ _ _ _ _ _ HS0.out (hz2.alloc hz2.size _), ?_⟩
      clear hK' K'
      have B2 : Below W6.heap.size W6 y2 := ((Below.refl _ _).drew).trans hz2
      obtain ⟨z2, hy2⟩ : ∃ z, y2.alloc (.cells #[Value.int IntKind.i64 e1, Value.int IntKind.i64 e2, Value.int IntKind.i64 e3] 79) = z := ⟨_, rfl⟩
      have hr2 : Reads z2 z2.heap.size 3 (some ⟨y2.heap.size, 0, none⟩) 1 [Value.int IntKind.i64 e1, Value.int IntKind.i64 e2, Value.int IntKind.i64 e3] := by rw [← hy2]; exact Reads.more (reads_new y2 79 #[Value.int IntKind.i64 e1, Value.int IntKind.i64 e2, Value.int IntKind.i64 e3] rfl) (by simp)
      have hA2 : Below y2.heap.size y2 z2 := by rw [← hy2]; exact (Below.refl _ _).alloc (Nat.le_refl _) _
      have B3 := B2.trans (hA2.mono B2.size)
      rw [hy2]
      refine gro.anyM_one 6 (by kernel_rfl) rfl ?_
      intro y3 hz3 K' hK'
      have B4 := B3.trans (hz3.mono B3.size)
      have HU := own_keep HO.out B4
      refine step_append_any _ (by rfl) (.tmp 68) (.tmp 72) 37 rfl sb 79 i0 (.agg #[.int .i64 0, .int .i64 0, .int .i64 0]) 3 24 Tryz.underlying37 HI.out HZ0.out HZ1.out HZ2.out rfl (by omega) u (i + j) (tc o) (by rfl) HU z2.heap.size (some ⟨y2.heap.size, 0, none⟩) 1 1 [Value.int IntKind.i64 e1, Value.int IntKind.i64 e2, Value.int IntKind.i64 e3] (by rfl) (Reads.below hr2 hz3) (by simp [Value.oneCell']) (by unfold maxLen; omega) (by omega) (Nat.le_trans szb B4.size) ?_
      intro v4 w4 hown4 hg4 hat4
      have BG := below_own hg4 HU (BB.out.trans (B4.mono BB.out.size)) (by omega) (Nat.le_trans BB.out.size B4.size)
      have KW := Bx.app3 (KK.out.below B4) hg4 (fun q hq h => by have h8 := hub.out _ h.symm; simp at hq; rcases hq with h | h | h | h <;> subst h <;> simp at h8 <;> omega)
      have sz4 := Nat.le_trans szb (Nat.le_trans B4.size hg4.size)
      obtain ⟨A4, c4, rfl, m1, m2, m3⟩ := own_form hown4
      clear m3
      have BGs := below_own hg4 HU (B4.mono szb) (Nat.le_refl _) (Nat.le_trans szb B4.size)
      refine hK' _ _ ⟨fun _ => ⟨KW, HC.out _ BGs⟩, ?_⟩
      clear hK' K' HS0 HU hr2 hA2 B2 B3 B4 hz2 hz3
      refine gro.anyM_one 9 (by kernel_rfl) rfl ?_
      intro y4 hz4 K' hK'
      replace BG := BG.trans (hz4.mono BG.size)
      replace BGs := BGs.trans (hz4.mono sz4)
      replace KW := KW.below hz4
      replace hown4 := own_keep hown4 hz4
      replace sz4 := Nat.le_trans sz4 hz4.size
      go_simp
      refine hK' _ _ ⟨fun _ => ⟨KW, HC.out _ BGs⟩, ?_⟩
      clear hK' K' hz4
      refine gro.anyM_one 10 (by kernel_rfl) rfl ?_
      intro y5 hz5 K' hK'
      have KV := (KW.below hz5).perm (L' := [(g8, 39, #[Value.int IntKind.i64 (a + b), u]), (w.heap.size + 1 + 1, 39, #[Value.int IntKind.i64 0, Value.slice none 0 0]), (w.heap.size + 1, 39, #[Value.int IntKind.i64 b, Value.slice A2 n2 c2]), (w.heap.size, 39, #[Value.int IntKind.i64 a, Value.slice A1 n1 c1])]) (by simp)
      have RV := KV.rules
      simp only [Rules] at RV
      clear R
      go_simp
      refine hK' _ _ ⟨fun h => absurd (show true = false from h) (by decide), ?_⟩
      clear hK' K'
      have KT := Bx.puti KV (by simp <;> omega) 1 (.slice A4 (i + j + 1) c4)
      have HO7 := ownsRow_setCell_below (own_keep hown4 hz5) (a := ⟨g8, 1, none⟩) (by show g8 < sb; omega) (.slice A4 (i + j + 1) c4)
      have BG2 := (BG.trans (hz5.mono BG.size)).setCell (p := ⟨g8, 1, none⟩) (by show w.heap.size ≤ g8; omega) (.slice A4 (i + j + 1) c4)
      have sz5 := Nat.le_trans sz4 hz5.size
      have k_HX := Reads.far (p := ⟨g8, 1, none⟩) ((Reads.below (Reads.below HX.out BGs) (hz5.mono sz4))) (fun h0 ad h => by have := f9.out h0 ad h; show ad.block ≠ g8; omega) (.slice A4 (i + j + 1) c4)
      have k_HY := Reads.far (p := ⟨g8, 1, none⟩) ((Reads.below (Reads.below HY.out BGs) (hz5.mono sz4))) (fun h0 ad h => by have := f10.out h0 ad h; show ad.block ≠ g8; omega) (.slice A4 (i + j + 1) c4)
      refine gro.anyM_one 11 (by kernel_rfl) rfl ?_
      intro y6 hz6 K' hK'
      go_simp
      refine hK' _ _ ⟨fun h => absurd (show true = false from h) (by decide), ?_⟩
      clear hK' K'
      replace KT := KT.below hz6
      replace HO7 := own_keep HO7 hz6
      replace BG2 := BG2.trans (hz6.mono BG2.size)
      replace k_HX := Reads.below k_HX (hz6.mono (by simp [World.setCell]; omega))
      replace k_HY := Reads.below k_HY (hz6.mono (by simp [World.setCell]; omega))
      replace sz5 : sb ≤ y6.heap.size := by have := hz6.size; simp [World.setCell] at this; omega
      refine gro.anyM_done (by kernel_rfl) ?_
      intro y7 hz7
      have sz7 : sb ≤ y7.heap.size := by have := hz7.size; first | omega | (simp [World.setCell] at this; omega)
      replace BB := Lib.hid (BG2.trans (hz7.mono BG2.size))
      replace HO := Lib.hid (own_keep HO7 hz7)
      replace KK := Lib.hid (KT.below hz7)
      replace HX := Lib.hid (Reads.below k_HX (hz7.mono (by first | exact sz5 | (simp [World.setCell]; omega))))
      clear k_HX
      replace HY := Lib.hid (Reads.below k_HY (hz7.mono (by first | exact sz5 | (simp [World.setCell]; omega))))
      clear k_HY
      clear BGs KT KV RV hz5 hz7 HO7 BG BG2 KW hown4 hg4 hat4 sz4 sz5
      have R := KK.out.rules
      simp only [Rules] at R
      go_wp2_with fail
      go_roundg (k9 - 1 + k10)
      case measure => omega
      case rel => exact ⟨i + 1, j, k9 - 1, d9 - 1, k10, d10, some ⟨ad.block, ad.off + 3, none⟩, _, .slice A4 (i + j + 1) c4, o ++ [(e1, e2, e3)], rfl, rfl, by have := hk9.out; rw [Hid]; omega, hk10, by omega, by omega, by omega, r1, r2, fun h0 ad' h => by have := f9.out (by omega) ad rfl; injection h with h; subst h; exact this, f10, Lib.hid (by have := ERead.tail HX.out (by omega) q1; rw [List.drop_drop, if_neg hd9] at this; exact this), HY, Lib.hid (by rw [tc_append, tc_one, show i + 1 + j = i + j + 1 by omega]; exact HO.out), Lib.hid (by simpa using KK.out), BB, sz7, hstep⟩
    have hstep := Lib.hid (hty.out hc)
    clear htx hty
    have HC := HCy
    rw [show ae.add (0 * 3) = ae from by simp [Addr.add], show at3 (Y.drop j) 0 = at3 Y j by simp [at3]] at HC
    have hx : Hid (at3 Y j = ((at3 Y j).1, (at3 Y j).2.1, (at3 Y j).2.2)) := rfl
    rw [hx.out] at hstep
    clear hx
    have HD := Lib.hid (fun W hW => (HCx.out W hW).1)
    rw [show ad.add (0 * 3) = ad from by simp [Addr.add], show at3 (X.drop i) 0 = at3 X i by simp [at3]] at HD
    clear HCx HCy
    generalize (at3 X i).1 = ov at *
    generalize (at3 Y j).1 = e1 at *
    generalize (at3 Y j).2.1 = e2 at *
    generalize (at3 Y j).2.2 = e3 at *
    obtain ⟨f1, f2, f3⟩ := HC.out _ (Below.refl _ _)
    have f4 := HD.out _ (Below.refl _ _)
    have hd1 : ((k10 : Int) == 0) = false := by simp; omega
    have hd2 : decide ((0 : Int) < (k9 : Int)) = true := by simp; omega
    have hd3 : decide (ov ≤ e1) = false := by simp; omega
    go_wp2_with fail
    (refine gro.wp_region_grown (by kernel_rfl) (by kernel_rfl) ?_; (repeat (go_big_quiet_step ((fail)))); refine wpQuiet_nil ?_; intro _ hw'; obtain ⟨nx, hw''⟩ := hw'; subst hw'')
    replace BB := Lib.hid (BB.out.trans ((below_grown _ nx).mono BB.out.size))
    replace KK := Lib.hid (KK.out.below (below_grown _ nx))
    replace HO := Lib.hid (own_keep HO.out (below_grown _ nx))
    replace HX := Lib.hid (Reads.below HX.out ((below_grown _ nx).mono szb))
    replace HY := Lib.hid (Reads.below HY.out ((below_grown _ nx).mono szb))
    replace HC := Lib.hid (fun W hW => HC.out W (((below_grown _ nx).mono szb).trans hW))
    replace szb := Nat.le_trans szb (below_grown _ nx).size
    clear R
    generalize grown _ nx = W6 at *
    have R := KK.out.rules
    simp only [Rules] at R
    clear f1 f2 f3 f4 HD
    go_wp2_with fail
    by_cases hd9 : d10 = 1
    case pos =>
      subst hd9
      obtain rfl : k10 = 1 := by omega
      have HS0 := Lib.hid (show SC _ _ _ _ _ _ _ W6.drew from ⟨KK.out.drew, HC.out _ (Below.refl _ _).drew⟩)
      (refine gro.wp_region_heldA [0, 1, 2, 3, 4] 7 10 _ (rnk.lasts_sc _ _ _ _ _ _ _) (by kernel_rfl) (by kernel_rfl) (by intro _ _ _ _ _ h; exact h) (by kernel_rfl) (by kernel_rfl) (by kernel_rfl) (by kernel_rfl) (by kernel_rfl) (by decide) (HS0.out) ?_; apply Exists.intro; refine ⟨fun w0 hb0 => ?_, ?_⟩; focus (obtain ⟨kz, f1, f2, f3⟩ := hb0; have RZ := kz.rules; simp only [gro.Rules] at RZ; simp only [gro.pickA, List.filterMap_cons, List.filterMap_nil, List.getElem?_toArray, List.getElem?_cons_succ, List.getElem?_cons_zero]; change wpQuiet _ _ _ _ (_ :: _ :: _ :: _ :: _ ::  []) _; (repeat (go_big_quiet_step ((fail)))); exact wpQuiet_nil rfl))
      (refine gro.anyM_first_all [7, 8] 5 (rnk.lasts_sc _ _ _ _ _ _ _) (by kernel_rfl) (by intro _ _ _ _ _ h; exact h) (by kernel_rfl) (by kernel_rfl) (by kernel_rfl) (by kernel_rfl) (by kernel_rfl) (HS0.out) ?_; apply Exists.intro; refine ⟨fun w0 => ?_, ?_⟩; focus (simp only [gro.pickA, List.filterMap_cons, List.filterMap_nil, List.getElem?_toArray, List.getElem?_cons_succ, List.getElem?_cons_zero]; change wpQuiet _ _ _ _ (_ :: _ ::  []) _; (repeat (go_big_quiet_step ((fail)))); exact wpQuiet_nil rfl))
      refine gro.anyM_one 5 (by kernel_rfl) rfl ?_
      intro y2 hz2 K' hK'
      go_simp
      refine hK' _ _ ⟨fun _ => lasts_sc _ _ _ _ _ _ _ _ _ HS0.out (hz2.alloc hz2.size _), ?_⟩
      clear hK' K'
      have B2 : Below W6.heap.size W6 y2 := ((Below.refl _ _).drew).trans hz2
      obtain ⟨z2, hy2⟩ : ∃ z, y2.alloc (.cells #[Value.int IntKind.i64 e1, Value.int IntKind.i64 e2, Value.int IntKind.i64 e3] 79) = z := ⟨_, rfl⟩
      have hr2 : Reads z2 z2.heap.size 3 (some ⟨y2.heap.size, 0, none⟩) 1 [Value.int IntKind.i64 e1, Value.int IntKind.i64 e2, Value.int IntKind.i64 e3] := by rw [← hy2]; exact Reads.more (reads_new y2 79 #[Value.int IntKind.i64 e1, Value.int IntKind.i64 e2, Value.int IntKind.i64 e3] rfl) (by simp)
      have hA2 : Below y2.heap.size y2 z2 := by rw [← hy2]; exact (Below.refl _ _).alloc (Nat.le_refl _) _
      have B3 := B2.trans (hA2.mono B2.size)
      rw [hy2]
      refine gro.anyM_one 6 (by kernel_rfl) rfl ?_
      intro y3 hz3 K' hK'
      have B4 := B3.trans (hz3.mono B3.size)
      have HU := own_keep HO.out B4
      refine step_append_any _ (by rfl) (.tmp 78) (.tmp 82) 37 rfl sb 79 i0 (.agg #[.int .i64 0, .int .i64 0, .int .i64 0]) 3 24 Tryz.underlying37 HI.out HZ0.out HZ1.out HZ2.out rfl (by omega) u (i + j) (tc o) (by rfl) HU z2.heap.size (some ⟨y2.heap.size, 0, none⟩) 1 1 [Value.int IntKind.i64 e1, Value.int IntKind.i64 e2, Value.int IntKind.i64 e3] (by rfl) (Reads.below hr2 hz3) (by simp [Value.oneCell']) (by unfold maxLen; omega) (by omega) (Nat.le_trans szb B4.size) ?_
      intro v4 w4 hown4 hg4 hat4
      have BG := below_own hg4 HU (BB.out.trans (B4.mono BB.out.size)) (by omega) (Nat.le_trans BB.out.size B4.size)
      have KW := Bx.app3 (KK.out.below B4) hg4 (fun q hq h => by have h8 := hub.out _ h.symm; simp at hq; rcases hq with h | h | h | h <;> subst h <;> simp at h8 <;> omega)
      have sz4 := Nat.le_trans szb (Nat.le_trans B4.size hg4.size)
      obtain ⟨A4, c4, rfl, m1, m2, m3⟩ := own_form hown4
      clear m3
      have BGs := below_own hg4 HU (B4.mono szb) (Nat.le_refl _) (Nat.le_trans szb B4.size)
      refine hK' _ _ ⟨fun _ => ⟨KW, HC.out _ BGs⟩, ?_⟩
      clear hK' K' HS0 HU hr2 hA2 B2 B3 B4 hz2 hz3
      refine gro.anyM_one 9 (by kernel_rfl) rfl ?_
      intro y4 hz4 K' hK'
      replace BG := BG.trans (hz4.mono BG.size)
      replace BGs := BGs.trans (hz4.mono sz4)
      replace KW := KW.below hz4
      replace hown4 := own_keep hown4 hz4
      replace sz4 := Nat.le_trans sz4 hz4.size
      go_simp
      refine hK' _ _ ⟨fun _ => ⟨KW, HC.out _ BGs⟩, ?_⟩
      clear hK' K' hz4
      refine gro.anyM_one 10 (by kernel_rfl) rfl ?_
      intro y5 hz5 K' hK'
      have KV := (KW.below hz5).perm (L' := [(g8, 39, #[Value.int IntKind.i64 (a + b), u]), (w.heap.size + 1 + 1, 39, #[Value.int IntKind.i64 0, Value.slice none 0 0]), (w.heap.size + 1, 39, #[Value.int IntKind.i64 b, Value.slice A2 n2 c2]), (w.heap.size, 39, #[Value.int IntKind.i64 a, Value.slice A1 n1 c1])]) (by simp)
      have RV := KV.rules
      simp only [Rules] at RV
      clear R
      go_simp
      refine hK' _ _ ⟨fun h => absurd (show true = false from h) (by decide), ?_⟩
      clear hK' K'
      have KT := Bx.puti KV (by simp <;> omega) 1 (.slice A4 (i + j + 1) c4)
      have HO7 := ownsRow_setCell_below (own_keep hown4 hz5) (a := ⟨g8, 1, none⟩) (by show g8 < sb; omega) (.slice A4 (i + j + 1) c4)
      have BG2 := (BG.trans (hz5.mono BG.size)).setCell (p := ⟨g8, 1, none⟩) (by show w.heap.size ≤ g8; omega) (.slice A4 (i + j + 1) c4)
      have sz5 := Nat.le_trans sz4 hz5.size
      have k_HX := Reads.far (p := ⟨g8, 1, none⟩) ((Reads.below (Reads.below HX.out BGs) (hz5.mono sz4))) (fun h0 ad h => by have := f9.out h0 ad h; show ad.block ≠ g8; omega) (.slice A4 (i + j + 1) c4)
      have k_HY := Reads.far (p := ⟨g8, 1, none⟩) ((Reads.below (Reads.below HY.out BGs) (hz5.mono sz4))) (fun h0 ad h => by have := f10.out h0 ad h; show ad.block ≠ g8; omega) (.slice A4 (i + j + 1) c4)
      refine gro.anyM_one 11 (by kernel_rfl) rfl ?_
      intro y6 hz6 K' hK'
      go_simp
      refine hK' _ _ ⟨fun h => absurd (show true = false from h) (by decide), ?_⟩
      clear hK' K'
      replace KT := KT.below hz6
      replace HO7 := own_keep HO7 hz6
      replace BG2 := BG2.trans (hz6.mono BG2.size)
      replace k_HX := Reads.below k_HX (hz6.mono (by simp [World.setCell]; omega))
      replace k_HY := Reads.below k_HY (hz6.mono (by simp [World.setCell]; omega))
      replace sz5 : sb ≤ y6.heap.size := by have := hz6.size; simp [World.setCell] at this; omega
      refine gro.anyM_done (by kernel_rfl) ?_
      intro y7 hz7
      have sz7 : sb ≤ y7.heap.size := by have := hz7.size; first | omega | (simp [World.setCell] at this; omega)
      replace BB := Lib.hid (BG2.trans (hz7.mono BG2.size))
      replace HO := Lib.hid (own_keep HO7 hz7)
      replace KK := Lib.hid (KT.below hz7)
      replace HX := Lib.hid (Reads.below k_HX (hz7.mono (by first | exact sz5 | (simp [World.setCell]; omega))))
      clear k_HX
      replace HY := Lib.hid (Reads.below k_HY (hz7.mono (by first | exact sz5 | (simp [World.setCell]; omega))))
      clear k_HY
      clear BGs KT KV RV hz5 hz7 HO7 BG BG2 KW hown4 hg4 hat4 sz4 sz5
      have R := KK.out.rules
      simp only [Rules] at R
      go_wp2_with fail
      go_roundg (k9 + (0))
      case measure => omega
      case rel => exact ⟨i, j + 1, k9, d9, 0, 0, _, some ae, .slice A4 (i + j + 1) c4, o ++ [(e1, e2, e3)], rfl, rfl, hk9, by have := hk10.out; rw [Hid]; omega, by omega, q1, q2, by omega, by omega, f9, fun h0 => absurd h0 (by omega), HX, Lib.hid (by have := ERead.tail HY.out (by omega) r1; rw [List.drop_drop, if_pos rfl] at this; exact this), Lib.hid (by rw [tc_append, tc_one, show i + (j + 1) = i + j + 1 by omega]; exact HO.out), Lib.hid (by simpa using KK.out), BB, sz7, hstep⟩
    have HS0 := Lib.hid (show SC _ _ _ _ _ _ _ W6.drew from ⟨KK.out.drew, HC.out _ (Below.refl _ _).drew⟩)
    (refine gro.wp_region_heldA [0, 1, 2, 3, 4] 7 10 _ (rnk.lasts_sc _ _ _ _ _ _ _) (by kernel_rfl) (by kernel_rfl) (by intro _ _ _ _ _ h; exact h) (by kernel_rfl) (by kernel_rfl) (by kernel_rfl) (by kernel_rfl) (by kernel_rfl) (by decide) (HS0.out) ?_; apply Exists.intro; refine ⟨fun w0 hb0 => ?_, ?_⟩; focus (obtain ⟨kz, f1, f2, f3⟩ := hb0; have RZ := kz.rules; simp only [gro.Rules] at RZ; simp only [gro.pickA, List.filterMap_cons, List.filterMap_nil, List.getElem?_toArray, List.getElem?_cons_succ, List.getElem?_cons_zero]; change wpQuiet _ _ _ _ (_ :: _ :: _ :: _ :: _ ::  []) _; (repeat (go_big_quiet_step ((fail)))); exact wpQuiet_nil rfl))
    (refine gro.anyM_first_all [7, 8] 5 (rnk.lasts_sc _ _ _ _ _ _ _) (by kernel_rfl) (by intro _ _ _ _ _ h; exact h) (by kernel_rfl) (by kernel_rfl) (by kernel_rfl) (by kernel_rfl) (by kernel_rfl) (HS0.out) ?_; apply Exists.intro; refine ⟨fun w0 => ?_, ?_⟩; focus (simp only [gro.pickA, List.filterMap_cons, List.filterMap_nil, List.getElem?_toArray, List.getElem?_cons_succ, List.getElem?_cons_zero]; change wpQuiet _ _ _ _ (_ :: _ ::  []) _; (repeat (go_big_quiet_step ((fail)))); exact wpQuiet_nil rfl))
    refine gro.anyM_one 5 (by kernel_rfl) rfl ?_
    intro y2 hz2 K' hK'
    go_simp
    refine hK' _ _ ⟨fun _ => lasts_sc _ _ _ _ _ _ _ _ _ HS0.out (hz2.alloc hz2.size _), ?_⟩
    clear hK' K'
    have B2 : Below W6.heap.size W6 y2 := ((Below.refl _ _).drew).trans hz2
    obtain ⟨z2, hy2⟩ : ∃ z, y2.alloc (.cells #[Value.int IntKind.i64 e1, Value.int IntKind.i64 e2, Value.int IntKind.i64 e3] 79) = z := ⟨_, rfl⟩
    have hr2 : Reads z2 z2.heap.size 3 (some ⟨y2.heap.size, 0, none⟩) 1 [Value.int IntKind.i64 e1, Value.int IntKind.i64 e2, Value.int IntKind.i64 e3] := by rw [← hy2]; exact Reads.more (reads_new y2 79 #[Value.int IntKind.i64 e1, Value.int IntKind.i64 e2, Value.int IntKind.i64 e3] rfl) (by simp)
    have hA2 : Below y2.heap.size y2 z2 := by rw [← hy2]; exact (Below.refl _ _).alloc (Nat.le_refl _) _
    have B3 := B2.trans (hA2.mono B2.size)
    rw [hy2]
    refine gro.anyM_one 6 (by kernel_rfl) rfl ?_
    intro y3 hz3 K' hK'
    have B4 := B3.trans (hz3.mono B3.size)
    have HU := own_keep HO.out B4
    refine step_append_any _ (by rfl) (.tmp 78) (.tmp 82) 37 rfl sb 79 i0 (.agg #[.int .i64 0, .int .i64 0, .int .i64 0]) 3 24 Tryz.underlying37 HI.out HZ0.out HZ1.out HZ2.out rfl (by omega) u (i + j) (tc o) (by rfl) HU z2.heap.size (some ⟨y2.heap.size, 0, none⟩) 1 1 [Value.int IntKind.i64 e1, Value.int IntKind.i64 e2, Value.int IntKind.i64 e3] (by rfl) (Reads.below hr2 hz3) (by simp [Value.oneCell']) (by unfold maxLen; omega) (by omega) (Nat.le_trans szb B4.size) ?_
    intro v4 w4 hown4 hg4 hat4
    have BG := below_own hg4 HU (BB.out.trans (B4.mono BB.out.size)) (by omega) (Nat.le_trans BB.out.size B4.size)
    have KW := Bx.app3 (KK.out.below B4) hg4 (fun q hq h => by have h8 := hub.out _ h.symm; simp at hq; rcases hq with h | h | h | h <;> subst h <;> simp at h8 <;> omega)
    have sz4 := Nat.le_trans szb (Nat.le_trans B4.size hg4.size)
    obtain ⟨A4, c4, rfl, m1, m2, m3⟩ := own_form hown4
    clear m3
    have BGs := below_own hg4 HU (B4.mono szb) (Nat.le_refl _) (Nat.le_trans szb B4.size)
    refine hK' _ _ ⟨fun _ => ⟨KW, HC.out _ BGs⟩, ?_⟩
    clear hK' K' HS0 HU hr2 hA2 B2 B3 B4 hz2 hz3
    refine gro.anyM_one 9 (by kernel_rfl) rfl ?_
    intro y4 hz4 K' hK'
    replace BG := BG.trans (hz4.mono BG.size)
    replace BGs := BGs.trans (hz4.mono sz4)
    replace KW := KW.below hz4
    replace hown4 := own_keep hown4 hz4
    replace sz4 := Nat.le_trans sz4 hz4.size
    go_simp
    refine hK' _ _ ⟨fun _ => ⟨KW, HC.out _ BGs⟩, ?_⟩
    clear hK' K' hz4
    refine gro.anyM_one 10 (by kernel_rfl) rfl ?_
    intro y5 hz5 K' hK'
    have KV := (KW.below hz5).perm (L' := [(g8, 39, #[Value.int IntKind.i64 (a + b), u]), (w.heap.size + 1 + 1, 39, #[Value.int IntKind.i64 0, Value.slice none 0 0]), (w.heap.size + 1, 39, #[Value.int IntKind.i64 b, Value.slice A2 n2 c2]), (w.heap.size, 39, #[Value.int IntKind.i64 a, Value.slice A1 n1 c1])]) (by simp)
    have RV := KV.rules
    simp only [Rules] at RV
    clear R
    go_simp
    refine hK' _ _ ⟨fun h => absurd (show true = false from h) (by decide), ?_⟩
    clear hK' K'
    have KT := Bx.puti KV (by simp <;> omega) 1 (.slice A4 (i + j + 1) c4)
    have HO7 := ownsRow_setCell_below (own_keep hown4 hz5) (a := ⟨g8, 1, none⟩) (by show g8 < sb; omega) (.slice A4 (i + j + 1) c4)
    have BG2 := (BG.trans (hz5.mono BG.size)).setCell (p := ⟨g8, 1, none⟩) (by show w.heap.size ≤ g8; omega) (.slice A4 (i + j + 1) c4)
    have sz5 := Nat.le_trans sz4 hz5.size
    have k_HX := Reads.far (p := ⟨g8, 1, none⟩) ((Reads.below (Reads.below HX.out BGs) (hz5.mono sz4))) (fun h0 ad h => by have := f9.out h0 ad h; show ad.block ≠ g8; omega) (.slice A4 (i + j + 1) c4)
    have k_HY := Reads.far (p := ⟨g8, 1, none⟩) ((Reads.below (Reads.below HY.out BGs) (hz5.mono sz4))) (fun h0 ad h => by have := f10.out h0 ad h; show ad.block ≠ g8; omega) (.slice A4 (i + j + 1) c4)
    refine gro.anyM_one 11 (by kernel_rfl) rfl ?_
    intro y6 hz6 K' hK'
    go_simp
    refine hK' _ _ ⟨fun h => absurd (show true = false from h) (by decide), ?_⟩
    clear hK' K'
    replace KT := KT.below hz6
    replace HO7 := own_keep HO7 hz6
    replace BG2 := BG2.trans (hz6.mono BG2.size)
    replace k_HX := Reads.below k_HX (hz6.mono (by simp [World.setCell]; omega))
    replace k_HY := Reads.below k_HY (hz6.mono (by simp [World.setCell]; omega))
    replace sz5 : sb ≤ y6.heap.size := by have := hz6.size; simp [World.setCell] at this; omega
    refine gro.anyM_done (by kernel_rfl) ?_
    intro y7 hz7
    have sz7 : sb ≤ y7.heap.size := by have := hz7.size; first | omega | (simp [World.setCell] at this; omega)
    replace BB := Lib.hid (BG2.trans (hz7.mono BG2.size))
    replace HO := Lib.hid (own_keep HO7 hz7)
    replace KK := Lib.hid (KT.below hz7)
    replace HX := Lib.hid (Reads.below k_HX (hz7.mono (by first | exact sz5 | (simp [World.setCell]; omega))))
    clear k_HX
    replace HY := Lib.hid (Reads.below k_HY (hz7.mono (by first | exact sz5 | (simp [World.setCell]; omega))))
    clear k_HY
    clear BGs KT KV RV hz5 hz7 HO7 BG BG2 KW hown4 hg4 hat4 sz4 sz5
    have R := KK.out.rules
    simp only [Rules] at R
    go_wp2_with fail
    go_roundg (k9 + (k10 - 1))
    case measure => omega
    case rel => exact ⟨i, j + 1, k9, d9, k10 - 1, d10 - 1, _, some ⟨ae.block, ae.off + 3, none⟩, .slice A4 (i + j + 1) c4, o ++ [(e1, e2, e3)], rfl, rfl, hk9, by have := hk10.out; rw [Hid]; omega, by omega, q1, q2, by omega, by omega, f9, fun h0 ad' h => by have := f10.out (by omega) ae rfl; injection h with h; subst h; exact this, HX, Lib.hid (by have := ERead.tail HY.out (by omega) r1; rw [List.drop_drop, if_neg hd9] at this; exact this), Lib.hid (by rw [tc_append, tc_one, show i + (j + 1) = i + j + 1 by omega]; exact HO.out), Lib.hid (by simpa using KK.out), BB, sz7, hstep⟩
end Go.Proofs.YtjapjfcennemeaaGreat.rnk
