/- RMrF; BInRA; Qt5: texts in one. -/
import Derived.Test.YtjapjfcennemeaaMgRMrR
import Derived.LoopN
import Derived.Test.YtjapjfcennemeaaMgQt4
import Derived.Test.YtjapjfcennemeaaBInR
import Derived.Deep.DeepCutAuto
import Derived.Deep.CutBlock
import Derived.StillTailTactics
import Derived.Test.YtjapjfcennemeaaBExp
set_option linter.unusedVariables false
set_option linter.unusedSimpArgs false
/- Contract of the reference's Merge: its result lies in a new row. -/
namespace Go.Proofs.Ytjapjfcennemeaa.rnk
open Go.RowKit Go.Proofs.Ytjapjfcennemeaa.mem Go.Proofs.Ytjapjfcennemeaa.gro
set_option linter.unusedVariables false
set_option linter.unusedSimpArgs false
set_option pp.maxSteps 200000
set_option maxHeartbeats 16000000 in
set_option maxRecDepth 100000 in
theorem MergeRF_any (a : Int) (A1 : Option Addr) (n1 c1 : Nat) (x : L3) (b : Int) (A2 : Option Addr) (n2 c2 : Nat) (y : L3) (w : World) (h1 : ERead w w.heap.size A1 n1 x) (h2 : ERead w w.heap.size A2 n2 y) (hs1 : n1 ≤ 8388608) (hs2 : n2 ≤ 8388608) : Calls Try.prog 81 #[.agg #[.int .i64 a, .slice A1 n1 c1], .agg #[.int .i64 b, .slice A2 n2 c2]] w (NewREF (mrgP a x b y) (mrgE a x b y) w) := by
  have H1 := Lib.hid h1
  have H2 := Lib.hid h2
  have HL1 := Lib.hid h1.len
  have HL2 := Lib.hid h2.len
  have HV1 := Lib.hid (fun W (hb : Below w.heap.size w W) => ValidateR_any a A1 n1 c1 x W ((h1.below hb).more hb.size) (by omega))
  have HV2 := Lib.hid (fun W (hb : Below w.heap.size w W) => ValidateR_any b A2 n2 c2 y W ((h2.below hb).more hb.size) (by omega))
  clear h1 h2
  rcases Bool.eq_false_or_eq_true (valR a x) with hv1 | hv1
  case inr =>
    rw [mrgP_f (by unfold mrgOk; rw [hv1]; rfl), mrgE_f (fun h => by rw [hv1] at h; cases h.1)]
    rw [hv1, erS_f] at HV1
    go_enter Try.func81, Try.ntmps81
    go_wp2_with fail
    obtain ⟨W0, hW, hs0, K0, B0⟩ := start3 w 46 46 46 #[Value.int IntKind.i64 a, Value.slice A1 n1 c1] #[Value.int IntKind.i64 b, Value.slice A2 n2 c2] #[Value.int IntKind.i64 0, Value.slice none 0 0]
    rw [hW]
    clear hW
    have KK := Lib.hid K0
    have BB := Lib.hid B0
    have R := K0.rules
    simp only [Rules] at R
    clear K0 B0 hs0
    go_wp2_with fail
    (with_reducible refine (HV1.out _ BB.out).mono ?_)
    rintro e wv ⟨rfl, hbv⟩; replace BB := Lib.hid (BB.out.trans (hbv.mono BB.out.size)); replace KK := Lib.hid (KK.out.below hbv); replace R := KK.out.rules; simp only [gro.Rules] at R; clear hbv
    go_wp2
    refine bodyPost_ret (v := Value.tuple #[.agg #[.int .i64 0, .slice none 0 0], .int .i64 2]) (by simp [results, Try.results81, go_sem, R]) rfl ?_
    exact newREF_nil 2 BB.out (by omega) _ _
  rcases Bool.eq_false_or_eq_true (valR b y) with hv2 | hv2
  case inr =>
    rw [mrgP_f (by unfold mrgOk; rw [hv2, Bool.and_false]; rfl), mrgE_f (fun h => by rw [hv2] at h; cases h.2)]
    rw [hv2, erS_f] at HV2
    rw [hv1, erS_t] at HV1
    go_enter Try.func81, Try.ntmps81
    go_wp2_with fail
    obtain ⟨W0, hW, hs0, K0, B0⟩ := start3 w 46 46 46 #[Value.int IntKind.i64 a, Value.slice A1 n1 c1] #[Value.int IntKind.i64 b, Value.slice A2 n2 c2] #[Value.int IntKind.i64 0, Value.slice none 0 0]
    rw [hW]
    clear hW
    have KK := Lib.hid K0
    have BB := Lib.hid B0
    have R := K0.rules
    simp only [Rules] at R
    clear K0 B0 hs0
    go_wp2_with fail
    (with_reducible refine (HV1.out _ BB.out).mono ?_)
    rintro e wv ⟨rfl, hbv⟩; replace BB := Lib.hid (BB.out.trans (hbv.mono BB.out.size)); replace KK := Lib.hid (KK.out.below hbv); replace R := KK.out.rules; simp only [gro.Rules] at R; clear hbv
    go_wp2_with fail
    (with_reducible refine (HV2.out _ BB.out).mono ?_)
    rintro e wv ⟨rfl, hbv⟩; replace BB := Lib.hid (BB.out.trans (hbv.mono BB.out.size)); replace KK := Lib.hid (KK.out.below hbv); replace R := KK.out.rules; simp only [gro.Rules] at R; clear hbv
    go_wp2
    refine bodyPost_ret (v := Value.tuple #[.agg #[.int .i64 0, .slice none 0 0], .int .i64 2]) (by simp [results, Try.results81, go_sem, R]) rfl ?_
    exact newREF_nil 2 BB.out (by omega) _ _
  rw [mrgE_t hv1 hv2]
  have HWT := Lib.hid (fun W (hb : Below w.heap.size w W) => widT_any a A1 n1 c1 x b A2 n2 c2 y W ((H1.out.below hb).more hb.size) ((H2.out.below hb).more hb.size) hs1 hs2 hv1 hv2)
  have HWF := Lib.hid (fun W (hb : Below w.heap.size w W) => widF_any b A2 n2 c2 y a A1 n1 c1 x W ((H2.out.below hb).more hb.size) ((H1.out.below hb).more hb.size) hs2 hs1 hv2 hv1)
  have HME := Lib.hid (mergeQ_eq (a := a) (b := b) (asc_of_val hv1) (asc_of_val hv2))
  have HPT := Lib.hid (fun h => mrgP_t hv1 hv2 h)
  have HPF := Lib.hid (fun (h : ¬ a + b ≤ 1099511627776) => mrgP_f (a := a) (b := b) (x := x) (y := y) (by unfold mrgOk; rw [hv1, hv2]; simpa using h))
  rw [hv1, erS_t] at HV1
  rw [hv2, erS_t] at HV2
  obtain ⟨⟨a1, a2, a3⟩, _⟩ := valR_iff.1 hv1
  obtain ⟨⟨b1, b2, b3⟩, _⟩ := valR_iff.1 hv2
  clear hv1 hv2 a3 b3
  have s2 : IntKind.i64.wrap (a + b) = a + b := IntWalk.i64_in _ (by omega)
  by_cases hab : a + b ≤ 1099511627776
  case neg =>
    rw [if_neg hab, HPF.out hab]
    clear HPT HPF
    go_enter Try.func81, Try.ntmps81
    go_wp2_with fail
    obtain ⟨W0, hW, hs0, K0, B0⟩ := start3 w 46 46 46 #[Value.int IntKind.i64 a, Value.slice A1 n1 c1] #[Value.int IntKind.i64 b, Value.slice A2 n2 c2] #[Value.int IntKind.i64 0, Value.slice none 0 0]
    rw [hW]
    clear hW
    have KK := Lib.hid K0
    have BB := Lib.hid B0
    have R := K0.rules
    simp only [Rules] at R
    clear K0 B0 hs0
    go_wp2_with fail
    (with_reducible refine (HV1.out _ BB.out).mono ?_)
    rintro e wv ⟨rfl, hbv⟩; replace BB := Lib.hid (BB.out.trans (hbv.mono BB.out.size)); replace KK := Lib.hid (KK.out.below hbv); replace R := KK.out.rules; simp only [gro.Rules] at R; clear hbv
    go_wp2_with fail
    (with_reducible refine (HV2.out _ BB.out).mono ?_)
    rintro e wv ⟨rfl, hbv⟩; replace BB := Lib.hid (BB.out.trans (hbv.mono BB.out.size)); replace KK := Lib.hid (KK.out.below hbv); replace R := KK.out.rules; simp only [gro.Rules] at R; clear hbv
    go_wp2
    refine bodyPost_ret (v := Value.tuple #[.agg #[.int .i64 0, .slice none 0 0], .int .i64 5]) (by simp [results, Try.results81, go_sem, R]) rfl ?_
    exact newREF_nil 5 BB.out (by omega) _ _
  rw [if_pos hab, HPT.out hab]
  clear HPT HPF
  have hab2 : ¬ 1099511627776 < a + b := by omega
  obtain ⟨i0, hi0, hz0, hz1, hz2⟩ := info_parts entry_info
  have HI := Lib.hid hi0
  have HZ0 := Lib.hid hz0
  have HZ1 := Lib.hid hz1
  have HZ2 := Lib.hid hz2
  clear hi0 hz0 hz1 hz2
  go_enter Try.func81, Try.ntmps81
  go_wp2_with fail
  obtain ⟨W0, hW, hs0, K0, B0⟩ := start3 w 46 46 46 #[Value.int IntKind.i64 a, Value.slice A1 n1 c1] #[Value.int IntKind.i64 b, Value.slice A2 n2 c2] #[Value.int IntKind.i64 0, Value.slice none 0 0]
  rw [hW]
  clear hW
  have KK := Lib.hid K0
  have BB := Lib.hid B0
  have R := K0.rules
  simp only [Rules] at R
  clear K0 B0 hs0
  go_wp2_with fail
  (with_reducible refine (HV1.out _ BB.out).mono ?_)
  rintro e wv ⟨rfl, hbv⟩; replace BB := Lib.hid (BB.out.trans (hbv.mono BB.out.size)); replace KK := Lib.hid (KK.out.below hbv); replace R := KK.out.rules; simp only [gro.Rules] at R; clear hbv
  go_wp2_with fail
  (with_reducible refine (HV2.out _ BB.out).mono ?_)
  rintro e wv ⟨rfl, hbv⟩; replace BB := Lib.hid (BB.out.trans (hbv.mono BB.out.size)); replace KK := Lib.hid (KK.out.below hbv); replace R := KK.out.rules; simp only [gro.Rules] at R; clear hbv
  have hw8 : w.heap.size + 1 + 1 < wv.heap.size := (KK.out _ (List.mem_cons_self ..)).lt
  obtain ⟨g8, hg8⟩ : ∃ s, wv.heap.size = s := ⟨_, rfl⟩
  have BZ := Lib.hid (BB.out.alloc BB.out.size (.cells #[Value.int IntKind.i64 (a + b), Value.slice none 0 0] 46))
  have KZ := Lib.hid (KK.out.new (t := 46) (c := #[Value.int IntKind.i64 (a + b), Value.slice none 0 0]) hg8)
  go_wp2_with fail
  obtain ⟨W3, hW, K3, B3, z3⟩ := name_world KZ.out BZ.out (s := g8 + 1) (by simp; omega)
  rw [hW]
  clear hW KK BB KZ BZ R
  have KK := Lib.hid K3
  have BB := Lib.hid B3
  have R := K3.rules
  simp only [Rules] at R
  clear K3 B3
  clear HV1 HV2
  (refine gro.wp_region_heldA [0, 1, 3, 4] 4 7 _ (gro.lasts_bx _) (by kernel_rfl) (by kernel_rfl) (by intro _ _ _ _ _ h; exact h) (by kernel_rfl) (by kernel_rfl) (by kernel_rfl) (by kernel_rfl) (by kernel_rfl) (by decide) (KK.out).drew ?_; apply Exists.intro; refine ⟨fun w0 hb0 => ?_, ?_⟩; focus (have RZ := gro.Bx.rules hb0; simp only [gro.Rules] at RZ; simp only [gro.pickA, List.filterMap_cons, List.filterMap_nil, List.getElem?_toArray, List.getElem?_cons_succ, List.getElem?_cons_zero]; change wpQuiet _ _ _ _ (_ :: _ :: _ :: _ ::  []) _; (repeat (go_big_quiet_step ((fail)))); exact wpQuiet_nil rfl))
  have B0 : Below W3.heap.size W3 W3.drew := (Below.refl _ _).drew
  refine gro.anyM_one 2 (by kernel_rfl) rfl ?_
  intro y1 hz1 K' hK'
  have B1 := B0.trans (hz1.mono B0.size)
  go_simp
  refine (HWT.out _ (BB.out.trans (B1.mono BB.out.size))).mono ?_
  rintro e w1 ⟨A9, m9, c9, rfl, q1, q2, q3, hb1, hfr1⟩
  have B2 := B1.trans (hb1.mono B1.size)
  obtain rfl : n1 = m9 := by have := q3.len; rw [widL_len, HL1.out] at this; exact this
  refine hK' _ _ ⟨fun _ => KK.out.below B2, ?_⟩
  clear hK' K'
  refine gro.anyM_one 5 (by kernel_rfl) rfl ?_
  intro y2 hz2 K' hK'
  have B3 := B2.trans (hz2.mono B2.size)
  go_simp
  refine (HWF.out _ (BB.out.trans (B3.mono BB.out.size))).mono ?_
  rintro e w2 ⟨A10, m10, c10, rfl, r1, r2, r3, hb2, hfr2⟩
  have B4 := B3.trans (hb2.mono B3.size)
  obtain rfl : n2 = m10 := by have := r3.len; rw [widL_len, HL2.out] at this; exact this
  have q4 := (Reads.below (Reads.below q3 hz2) (hb2.mono hz2.size))
  refine hK' _ _ ⟨fun _ => KK.out.below B4, ?_⟩
  clear hK' K'
  refine gro.anyM_one 6 (by kernel_rfl) rfl ?_
  intro y3 hz3 K' hK'
  have B5 := B4.trans (hz3.mono B4.size)
  go_simp
  refine hK' _ _ ⟨fun _ => KK.out.below B5, ?_⟩
  clear hK' K'
  refine gro.anyM_one 7 (by kernel_rfl) rfl ?_
  intro y4 hz4 K' hK'
  have B6 := B5.trans (hz4.mono B5.size)
  go_simp
  refine hK' _ _ ⟨fun h => absurd (show true = false from h) (by decide), ?_⟩
  clear hK' K'
  refine gro.anyM_done (by kernel_rfl) ?_
  intro y5 hz5
  have B7 := B6.trans (hz5.mono B6.size)
  have hz35 := hz3.trans ((hz4.mono hz3.size).trans (hz5.mono (Nat.le_trans hz3.size hz4.size)))
  have hsz1 := hb1.size
  have hsz2 := hb2.size
  have hsz3 := hz2.size
  have hsz5 := hz35.size
  have hB0 := B1.size
  obtain ⟨sb, hsb⟩ : ∃ s, y5.heap.size = s := ⟨_, rfl⟩
  have f9 : Hid (0 < n1 → ∀ ad, A9 = some ad → g8 < ad.block) := fun _ ad h => by have := hfr1 ad h; omega
  have f10 : Hid (0 < n2 → ∀ ad, A10 = some ad → g8 < ad.block) := fun _ ad h => by have := hfr2 ad h; have := B3.size; omega
  have HX := Lib.hid (Reads.more (B' := sb) (Reads.below (Reads.below q4 (hz35.mono (Nat.le_trans hsz3 hsz2))) ((Below.refl _ _ : Below _ y5 y5))) (by omega))
  have HY := Lib.hid (Reads.more (B' := sb) (Reads.below r3 hz35) (by omega))
  have hsb8 : g8 < sb := by omega
  replace BB := Lib.hid (BB.out.trans (B7.mono BB.out.size))
  replace KK := Lib.hid (KK.out.below B7)
  clear R hz1 hz2 hz3 hz4 hz5 hz35 B0 B1 B2 B3 B4 B5 B6 B7 q3 q4 r3 hfr1 hfr2 hb1 hb2 HWT HWF hsz1 hsz2 hsz3 hB0
  have R := KK.out.rules
  simp only [Rules] at R
  have q2' : c9 ≤ 9223372036854775807 := q2
  have r2' : c10 ≤ 9223372036854775807 := r2
  clear q2 r2
  have hXl := Lib.hid (show (widL x y b true).length = n1 by rw [widL_len]; exact HL1.out)
  have hYl := Lib.hid (show (widL y x a false).length = n2 by rw [widL_len]; exact HL2.out)
  have HQ : Hid (mrgQ (widL x y b true) (widL y x a false) (n1 - 0 + (n2 - 0)) 0 0 = mergeL x y a b) := by rw [Hid, ← HME.out, mergeQ, HL1.out, HL2.out]; rfl
  clear HME
  generalize widL x y b true = X at *
  generalize widL y x a false = Y at *
  go_wp2_with fail
  clear R s2
  go_loopg [9, 10] (n1 + n2) (fun kx s9 s10 wr => ∃ (i j k9 d9 k10 d10 : Nat) (D9 D10 : Option Addr) (u : Value) (o : L3), s9 = .slice D9 k9 d9 ∧ s10 = .slice D10 k10 d10 ∧ Hid (i + k9 = n1) ∧ Hid (j + k10 = n2) ∧ k9 + k10 ≤ kx ∧ k9 ≤ d9 ∧ d9 ≤ 9223372036854775807 ∧ k10 ≤ d10 ∧ d10 ≤ 9223372036854775807 ∧ Hid (0 < k9 → ∀ ad, D9 = some ad → g8 < ad.block) ∧ Hid (0 < k10 → ∀ ad, D10 = some ad → g8 < ad.block) ∧ Hid (ERead wr sb D9 k9 (X.drop i)) ∧ Hid (ERead wr sb D10 k10 (Y.drop j)) ∧ Hid (wr.ownsRow sb 94 3 u (i + j) (tc o)) ∧ Hid (Bx wr [(g8, 46, #[Value.int IntKind.i64 (a + b), u]), (w.heap.size + 1 + 1, 46, #[Value.int IntKind.i64 0, Value.slice none 0 0]), (w.heap.size + 1, 46, #[Value.int IntKind.i64 b, Value.slice A2 n2 c2]), (w.heap.size, 46, #[Value.int IntKind.i64 a, Value.slice A1 n1 c1])]) ∧ Hid (Below w.heap.size w wr) ∧ sb ≤ wr.heap.size ∧ Hid (o ++ mrgQ X Y (n1 - i + (n2 - j)) i j = mergeL x y a b))
  case atStart => exact ⟨0, 0, n1, c9, n2, c10, A9, A10, .slice none 0 0, [], rfl, rfl, Nat.zero_add _, Nat.zero_add _, by omega, q1, q2', r1, r2', f9, f10, HX, HY, own_nil _ _ _ _, KK, BB, by omega, HQ⟩
  case round =>
    clear KK BB HX HY f9 f10 q1 q2' r1 r2' HQ
    obtain ⟨i, j, k9, d9, k10, d10, D9, D10, u, o, rfl, rfl, hk9, hk10, hkx, q1, q2, r1, r2, f9, f10, HX, HY, HO, KK, BB, szb, HE⟩ := hrel
    have R := KK.out.rules
    simp only [Rules] at R
    have hub := Lib.hid (fun k (h : u.ownBlock = some k) => show sb ≤ k by have := World.ownsRow.lt HO.out k h; omega)
    have hle9 : i + k9 ≤ 8388608 := by have := hk9.out; omega
    have hle10 : j + k10 ≤ 8388608 := by have := hk10.out; omega
    have sa : IntKind.i64.wrap ((k9 : Int) + (k10 : Int)) = (k9 : Int) + (k10 : Int) := IntWalk.i64_in _ (by omega)
    by_cases hend : k9 + k10 = 0
    case pos =>
      obtain rfl : k9 = 0 := by omega
      obtain rfl : k10 = 0 := by omega
      have e1 : i = n1 := by have := hk9.out; omega
      have e2 : j = n2 := by have := hk10.out; omega
      have HEE := Lib.hid (show o = mergeL x y a b by have := HE.out; rw [e1, e2, show n1 - n1 + (n2 - n2) = 0 by omega] at this; simpa [mrgQ] using this)
      obtain ⟨A9, c9, rfl, m1, m2, m3⟩ := own_form HO.out
      have hge := fun ad (h : A9 = some ad) => own_block_ge HO.out ad.block (by rw [h]; rfl)
      obtain ⟨p1, p2⟩ := put_out (g := w.heap.size + 1 + 1) BB.out (by omega) m3 (fun _ ad h => by have := hge ad h; omega) (Value.int IntKind.i64 (a + b)) (.slice A9 (i + j) c9)
      replace p1 := Lib.hid p1
      replace p2 := Lib.hid p2
      have HGe := Lib.hid (fun ad (h : A9 = some ad) => show w.heap.size ≤ ad.block by have := hge ad h; omega)
      clear m3 hge e1 e2
      go_wp2
      refine bodyPost_ret (v := Value.tuple #[.agg #[.int .i64 (a + b), .slice A9 (i + j) c9], .int .i64 0]) (by simp [results, Try.results81, go_sem, R]) rfl ⟨A9, i + j, c9, rfl, m1, m2, by rw [← HEE.out]; exact p1.out, p2.out, HGe.out⟩
    have hsum : (0 : Int) < (k9 : Int) + (k10 : Int) := by omega
    by_cases h10 : 0 < k10
    case neg =>
      obtain rfl : k10 = 0 := by omega
      have hp9 : 0 < k9 := by omega
      have hstep := Lib.hid (mrgQ_nx hXl.out (show i < n1 by have := hk9.out; omega) (show j ≤ n2 by have := hk10.out; omega) (.inl (by have := hk10.out; rw [hYl.out]; omega)) HE.out)
      obtain ⟨ad, rfl, hb9, HC⟩ := ERead.cells HX.out hp9
      rw [show ad.add (0 * 3) = ad from by simp [Addr.add], show at3 (X.drop i) 0 = at3 X i by simp [at3]] at HC
      have hx : Hid (at3 X i = ((at3 X i).1, (at3 X i).2.1, (at3 X i).2.2)) := rfl
      rw [hx.out] at hstep
      clear hx
      generalize (at3 X i).1 = e1 at *
      generalize (at3 X i).2.1 = e2 at *
      generalize (at3 X i).2.2 = e3 at *
      obtain ⟨f1, f2, f3⟩ := HC.out _ (Below.refl _ _)
      have hd1 : (((0 : Nat) : Int) == 0) = true := by simp
      go_wp2_with fail
      (refine gro.wp_region_grown (by kernel_rfl) (by kernel_rfl) ?_; (repeat (go_big_quiet_step ((fail)))); refine wpQuiet_nil ?_; intro _ hw'; obtain ⟨nx, hw''⟩ := hw'; subst hw'')
      replace BB := Lib.hid (BB.out.trans ((below_grown _ nx).mono BB.out.size))
      replace KK := Lib.hid (KK.out.below (below_grown _ nx))
      replace HO := Lib.hid (own_keep HO.out (below_grown _ nx))
      replace HX := Lib.hid (Reads.below HX.out ((below_grown _ nx).mono szb))
      replace HY := Lib.hid (Reads.below HY.out ((below_grown _ nx).mono szb))
      replace HC := Lib.hid (fun W hW => HC.out W (((below_grown _ nx).mono szb).trans hW))
      replace szb := Nat.le_trans szb (below_grown _ nx).size
      clear R
      generalize grown _ nx = W6 at *
      have R := KK.out.rules
      simp only [Rules] at R
      clear f1 f2 f3
      go_wp2_with fail
      by_cases hd9 : d9 = 1
      case pos =>
        subst hd9
        obtain rfl : k9 = 1 := by omega
        have HS0 := Lib.hid (show SC _ _ _ _ _ _ _ W6.drew from ⟨KK.out.drew, HC.out _ (Below.refl _ _).drew⟩)
        (refine gro.wp_region_heldA [0, 1, 2, 3, 4] 7 10 _ (rnk.lasts_sc _ _ _ _ _ _ _) (by kernel_rfl) (by kernel_rfl) (by intro _ _ _ _ _ h; exact h) (by kernel_rfl) (by kernel_rfl) (by kernel_rfl) (by kernel_rfl) (by kernel_rfl) (by decide) (HS0.out) ?_; apply Exists.intro; refine ⟨fun w0 hb0 => ?_, ?_⟩; focus (obtain ⟨kz, f1, f2, f3⟩ := hb0; have RZ := kz.rules; simp only [gro.Rules] at RZ; simp only [gro.pickA, List.filterMap_cons, List.filterMap_nil, List.getElem?_toArray, List.getElem?_cons_succ, List.getElem?_cons_zero]; change wpQuiet _ _ _ _ (_ :: _ :: _ :: _ :: _ ::  []) _; (repeat (go_big_quiet_step ((fail)))); exact wpQuiet_nil rfl))
        (refine gro.anyM_first_all [7, 8] 5 (rnk.lasts_sc _ _ _ _ _ _ _) (by kernel_rfl) (by intro _ _ _ _ _ h; exact h) (by kernel_rfl) (by kernel_rfl) (by kernel_rfl) (by kernel_rfl) (by kernel_rfl) (HS0.out) ?_; apply Exists.intro; refine ⟨fun w0 => ?_, ?_⟩; focus (simp only [gro.pickA, List.filterMap_cons, List.filterMap_nil, List.getElem?_toArray, List.getElem?_cons_succ, List.getElem?_cons_zero]; change wpQuiet _ _ _ _ (_ :: _ ::  []) _; (repeat (go_big_quiet_step ((fail)))); exact wpQuiet_nil rfl))
        refine gro.anyM_one 5 (by kernel_rfl) rfl ?_
        intro y2 hz2 K' hK'
        go_simp
        refine hK' _ _ ⟨fun _ => lasts_sc _ _ _ _ _ _ _ _ _ HS0.out (hz2.alloc hz2.size _), ?_⟩
        clear hK' K'
        have B2 : Below W6.heap.size W6 y2 := ((Below.refl _ _).drew).trans hz2
        obtain ⟨z2, hy2⟩ : ∃ z, y2.alloc (.cells #[Value.int IntKind.i64 e1, Value.int IntKind.i64 e2, Value.int IntKind.i64 e3] 94) = z := ⟨_, rfl⟩
        have hr2 : Reads z2 z2.heap.size 3 (some ⟨y2.heap.size, 0, none⟩) 1 [Value.int IntKind.i64 e1, Value.int IntKind.i64 e2, Value.int IntKind.i64 e3] := by rw [← hy2]; exact Reads.more (reads_new y2 94 #[Value.int IntKind.i64 e1, Value.int IntKind.i64 e2, Value.int IntKind.i64 e3] rfl) (by simp)
        have hA2 : Below y2.heap.size y2 z2 := by rw [← hy2]; exact (Below.refl _ _).alloc (Nat.le_refl _) _
        have B3 := B2.trans (hA2.mono B2.size)
        rw [hy2]
        refine gro.anyM_one 6 (by kernel_rfl) rfl ?_
        intro y3 hz3 K' hK'
        have B4 := B3.trans (hz3.mono B3.size)
        have HU := own_keep HO.out B4
        refine step_append_any _ (by rfl) (.tmp 68) (.tmp 72) 44 rfl sb 94 i0 (.agg #[.int .i64 0, .int .i64 0, .int .i64 0]) 3 24 Try.underlying44 HI.out HZ0.out HZ1.out HZ2.out rfl (by omega) u (i + j) (tc o) (by rfl) HU z2.heap.size (some ⟨y2.heap.size, 0, none⟩) 1 1 [Value.int IntKind.i64 e1, Value.int IntKind.i64 e2, Value.int IntKind.i64 e3] (by rfl) (Reads.below hr2 hz3) (by simp [Value.oneCell']) (by unfold maxLen; omega) (by omega) (Nat.le_trans szb B4.size) ?_
        intro v4 w4 hown4 hg4 hat4
        have BG := below_own hg4 HU (BB.out.trans (B4.mono BB.out.size)) (by omega) (Nat.le_trans BB.out.size B4.size)
        have KW := Bx.app3 (KK.out.below B4) hg4 (fun q hq h => by have h8 := hub.out _ h.symm; simp at hq; rcases hq with h | h | h | h <;> subst h <;> simp at h8 <;> omega)
        have sz4 := Nat.le_trans szb (Nat.le_trans B4.size hg4.size)
        obtain ⟨A4, c4, rfl, m1, m2, m3⟩ := own_form hown4
        clear m3
        have BGs := below_own hg4 HU (B4.mono szb) (Nat.le_refl _) (Nat.le_trans szb B4.size)
        refine hK' _ _ ⟨fun _ => ⟨KW, HC.out _ BGs⟩, ?_⟩
        clear hK' K' HS0 HU hr2 hA2 B2 B3 B4 hz2 hz3
        refine gro.anyM_one 9 (by kernel_rfl) rfl ?_
        intro y4 hz4 K' hK'
        replace BG := BG.trans (hz4.mono BG.size)
        replace BGs := BGs.trans (hz4.mono sz4)
        replace KW := KW.below hz4
        replace hown4 := own_keep hown4 hz4
        replace sz4 := Nat.le_trans sz4 hz4.size
        go_simp
        refine hK' _ _ ⟨fun _ => ⟨KW, HC.out _ BGs⟩, ?_⟩
        clear hK' K' hz4
        refine gro.anyM_one 10 (by kernel_rfl) rfl ?_
        intro y5 hz5 K' hK'
        have KV := (KW.below hz5).perm (L' := [(g8, 46, #[Value.int IntKind.i64 (a + b), u]), (w.heap.size + 1 + 1, 46, #[Value.int IntKind.i64 0, Value.slice none 0 0]), (w.heap.size + 1, 46, #[Value.int IntKind.i64 b, Value.slice A2 n2 c2]), (w.heap.size, 46, #[Value.int IntKind.i64 a, Value.slice A1 n1 c1])]) (by simp)
        have RV := KV.rules
        simp only [Rules] at RV
        clear R
        go_simp
        refine hK' _ _ ⟨fun h => absurd (show true = false from h) (by decide), ?_⟩
        clear hK' K'
        have KT := Bx.puti KV (by simp <;> omega) 1 (.slice A4 (i + j + 1) c4)
        have HO7 := ownsRow_setCell_below (own_keep hown4 hz5) (a := ⟨g8, 1, none⟩) (by show g8 < sb; omega) (.slice A4 (i + j + 1) c4)
        have BG2 := (BG.trans (hz5.mono BG.size)).setCell (p := ⟨g8, 1, none⟩) (by show w.heap.size ≤ g8; omega) (.slice A4 (i + j + 1) c4)
        have sz5 := Nat.le_trans sz4 hz5.size
        have k_HX := Reads.far (p := ⟨g8, 1, none⟩) ((Reads.below (Reads.below HX.out BGs) (hz5.mono sz4))) (fun h0 ad h => by have := f9.out h0 ad h; show ad.block ≠ g8; omega) (.slice A4 (i + j + 1) c4)
        have k_HY := Reads.far (p := ⟨g8, 1, none⟩) ((Reads.below (Reads.below HY.out BGs) (hz5.mono sz4))) (fun h0 ad h => by have := f10.out h0 ad h; show ad.block ≠ g8; omega) (.slice A4 (i + j + 1) c4)
        refine gro.anyM_one 11 (by kernel_rfl) rfl ?_
        intro y6 hz6 K' hK'
        go_simp
        refine hK' _ _ ⟨fun h => absurd (show true = false from h) (by decide), ?_⟩
        clear hK' K'
        replace KT := KT.below hz6
        replace HO7 := own_keep HO7 hz6
        replace BG2 := BG2.trans (hz6.mono BG2.size)
        replace k_HX := Reads.below k_HX (hz6.mono (by simp [World.setCell]; omega))
        replace k_HY := Reads.below k_HY (hz6.mono (by simp [World.setCell]; omega))
        replace sz5 : sb ≤ y6.heap.size := by have := hz6.size; simp [World.setCell] at this; omega
        refine gro.anyM_done (by kernel_rfl) ?_
        intro y7 hz7
        have sz7 : sb ≤ y7.heap.size := by have := hz7.size; first | omega | (simp [World.setCell] at this; omega)
        replace BB := Lib.hid (BG2.trans (hz7.mono BG2.size))
        replace HO := Lib.hid (own_keep HO7 hz7)
        replace KK := Lib.hid (KT.below hz7)
        replace HX := Lib.hid (Reads.below k_HX (hz7.mono (by first | exact sz5 | (simp [World.setCell]; omega))))
        clear k_HX
        replace HY := Lib.hid (Reads.below k_HY (hz7.mono (by first | exact sz5 | (simp [World.setCell]; omega))))
        clear k_HY
        clear BGs KT KV RV hz5 hz7 HO7 BG BG2 KW hown4 hg4 hat4 sz4 sz5
        have R := KK.out.rules
        simp only [Rules] at R
        go_wp2_with fail
        go_roundg (0 + 0)
        case measure => omega
        case rel => exact ⟨i + 1, j, 0, 0, 0, d10, some ad, _, .slice A4 (i + j + 1) c4, o ++ [(e1, e2, e3)], rfl, rfl, by have := hk9.out; rw [Hid]; omega, hk10, by omega, by omega, by omega, r1, r2, fun h0 => absurd h0 (by omega), f10, Lib.hid (by have := ERead.tail HX.out (by omega) q1; rw [List.drop_drop, if_pos rfl] at this; exact this), HY, Lib.hid (by rw [tc_append, tc_one, show i + 1 + j = i + j + 1 by omega]; exact HO.out), Lib.hid (by simpa using KK.out), BB, sz7, hstep⟩
      have HS0 := Lib.hid (show SC _ _ _ _ _ _ _ W6.drew from ⟨KK.out.drew, HC.out _ (Below.refl _ _).drew⟩)
      (refine gro.wp_region_heldA [0, 1, 2, 3, 4] 7 10 _ (rnk.lasts_sc _ _ _ _ _ _ _) (by kernel_rfl) (by kernel_rfl) (by intro _ _ _ _ _ h; exact h) (by kernel_rfl) (by kernel_rfl) (by kernel_rfl) (by kernel_rfl) (by kernel_rfl) (by decide) (HS0.out) ?_; apply Exists.intro; refine ⟨fun w0 hb0 => ?_, ?_⟩; focus (obtain ⟨kz, f1, f2, f3⟩ := hb0; have RZ := kz.rules; simp only [gro.Rules] at RZ; simp only [gro.pickA, List.filterMap_cons, List.filterMap_nil, List.getElem?_toArray, List.getElem?_cons_succ, List.getElem?_cons_zero]; change wpQuiet _ _ _ _ (_ :: _ :: _ :: _ :: _ ::  []) _; (repeat (go_big_quiet_step ((fail)))); exact wpQuiet_nil rfl))
      (refine gro.anyM_first_all [7, 8] 5 (rnk.lasts_sc _ _ _ _ _ _ _) (by kernel_rfl) (by intro _ _ _ _ _ h; exact h) (by kernel_rfl) (by kernel_rfl) (by kernel_rfl) (by kernel_rfl) (by kernel_rfl) (HS0.out) ?_; apply Exists.intro; refine ⟨fun w0 => ?_, ?_⟩; focus (simp only [gro.pickA, List.filterMap_cons, List.filterMap_nil, List.getElem?_toArray, List.getElem?_cons_succ, List.getElem?_cons_zero]; change wpQuiet _ _ _ _ (_ :: _ ::  []) _; (repeat (go_big_quiet_step ((fail)))); exact wpQuiet_nil rfl))
      refine gro.anyM_one 5 (by kernel_rfl) rfl ?_
      intro y2 hz2 K' hK'
      go_simp
      refine hK' _ _ ⟨fun _ => lasts_sc _ _ _ _ _ _ _ _ _ HS0.out (hz2.alloc hz2.size _), ?_⟩
      clear hK' K'
      have B2 : Below W6.heap.size W6 y2 := ((Below.refl _ _).drew).trans hz2
      obtain ⟨z2, hy2⟩ : ∃ z, y2.alloc (.cells #[Value.int IntKind.i64 e1, Value.int IntKind.i64 e2, Value.int IntKind.i64 e3] 94) = z := ⟨_, rfl⟩
      have hr2 : Reads z2 z2.heap.size 3 (some ⟨y2.heap.size, 0, none⟩) 1 [Value.int IntKind.i64 e1, Value.int IntKind.i64 e2, Value.int IntKind.i64 e3] := by rw [← hy2]; exact Reads.more (reads_new y2 94 #[Value.int IntKind.i64 e1, Value.int IntKind.i64 e2, Value.int IntKind.i64 e3] rfl) (by simp)
      have hA2 : Below y2.heap.size y2 z2 := by rw [← hy2]; exact (Below.refl _ _).alloc (Nat.le_refl _) _
      have B3 := B2.trans (hA2.mono B2.size)
      rw [hy2]
      refine gro.anyM_one 6 (by kernel_rfl) rfl ?_
      intro y3 hz3 K' hK'
      have B4 := B3.trans (hz3.mono B3.size)
      have HU := own_keep HO.out B4
      refine step_append_any _ (by rfl) (.tmp 68) (.tmp 72) 44 rfl sb 94 i0 (.agg #[.int .i64 0, .int .i64 0, .int .i64 0]) 3 24 Try.underlying44 HI.out HZ0.out HZ1.out HZ2.out rfl (by omega) u (i + j) (tc o) (by rfl) HU z2.heap.size (some ⟨y2.heap.size, 0, none⟩) 1 1 [Value.int IntKind.i64 e1, Value.int IntKind.i64 e2, Value.int IntKind.i64 e3] (by rfl) (Reads.below hr2 hz3) (by simp [Value.oneCell']) (by unfold maxLen; omega) (by omega) (Nat.le_trans szb B4.size) ?_
      intro v4 w4 hown4 hg4 hat4
      have BG := below_own hg4 HU (BB.out.trans (B4.mono BB.out.size)) (by omega) (Nat.le_trans BB.out.size B4.size)
      have KW := Bx.app3 (KK.out.below B4) hg4 (fun q hq h => by have h8 := hub.out _ h.symm; simp at hq; rcases hq with h | h | h | h <;> subst h <;> simp at h8 <;> omega)
      have sz4 := Nat.le_trans szb (Nat.le_trans B4.size hg4.size)
      obtain ⟨A4, c4, rfl, m1, m2, m3⟩ := own_form hown4
      clear m3
      have BGs := below_own hg4 HU (B4.mono szb) (Nat.le_refl _) (Nat.le_trans szb B4.size)
      refine hK' _ _ ⟨fun _ => ⟨KW, HC.out _ BGs⟩, ?_⟩
      clear hK' K' HS0 HU hr2 hA2 B2 B3 B4 hz2 hz3
      refine gro.anyM_one 9 (by kernel_rfl) rfl ?_
      intro y4 hz4 K' hK'
      replace BG := BG.trans (hz4.mono BG.size)
      replace BGs := BGs.trans (hz4.mono sz4)
      replace KW := KW.below hz4
      replace hown4 := own_keep hown4 hz4
      replace sz4 := Nat.le_trans sz4 hz4.size
      go_simp
      refine hK' _ _ ⟨fun _ => ⟨KW, HC.out _ BGs⟩, ?_⟩
      clear hK' K' hz4
      refine gro.anyM_one 10 (by kernel_rfl) rfl ?_
      intro y5 hz5 K' hK'
      have KV := (KW.below hz5).perm (L' := [(g8, 46, #[Value.int IntKind.i64 (a + b), u]), (w.heap.size + 1 + 1, 46, #[Value.int IntKind.i64 0, Value.slice none 0 0]), (w.heap.size + 1, 46, #[Value.int IntKind.i64 b, Value.slice A2 n2 c2]), (w.heap.size, 46, #[Value.int IntKind.i64 a, Value.slice A1 n1 c1])]) (by simp)
      have RV := KV.rules
      simp only [Rules] at RV
      clear R
      go_simp
      refine hK' _ _ ⟨fun h => absurd (show true = false from h) (by decide), ?_⟩
      clear hK' K'
      have KT := Bx.puti KV (by simp <;> omega) 1 (.slice A4 (i + j + 1) c4)
      have HO7 := ownsRow_setCell_below (own_keep hown4 hz5) (a := ⟨g8, 1, none⟩) (by show g8 < sb; omega) (.slice A4 (i + j + 1) c4)
      have BG2 := (BG.trans (hz5.mono BG.size)).setCell (p := ⟨g8, 1, none⟩) (by show w.heap.size ≤ g8; omega) (.slice A4 (i + j + 1) c4)
      have sz5 := Nat.le_trans sz4 hz5.size
      have k_HX := Reads.far (p := ⟨g8, 1, none⟩) ((Reads.below (Reads.below HX.out BGs) (hz5.mono sz4))) (fun h0 ad h => by have := f9.out h0 ad h; show ad.block ≠ g8; omega) (.slice A4 (i + j + 1) c4)
      have k_HY := Reads.far (p := ⟨g8, 1, none⟩) ((Reads.below (Reads.below HY.out BGs) (hz5.mono sz4))) (fun h0 ad h => by have := f10.out h0 ad h; show ad.block ≠ g8; omega) (.slice A4 (i + j + 1) c4)
      refine gro.anyM_one 11 (by kernel_rfl) rfl ?_
      intro y6 hz6 K' hK'
      go_simp
      refine hK' _ _ ⟨fun h => absurd (show true = false from h) (by decide), ?_⟩
      clear hK' K'
      replace KT := KT.below hz6
      replace HO7 := own_keep HO7 hz6
      replace BG2 := BG2.trans (hz6.mono BG2.size)
      replace k_HX := Reads.below k_HX (hz6.mono (by simp [World.setCell]; omega))
      replace k_HY := Reads.below k_HY (hz6.mono (by simp [World.setCell]; omega))
      replace sz5 : sb ≤ y6.heap.size := by have := hz6.size; simp [World.setCell] at this; omega
      refine gro.anyM_done (by kernel_rfl) ?_
      intro y7 hz7
      have sz7 : sb ≤ y7.heap.size := by have := hz7.size; first | omega | (simp [World.setCell] at this; omega)
      replace BB := Lib.hid (BG2.trans (hz7.mono BG2.size))
      replace HO := Lib.hid (own_keep HO7 hz7)
      replace KK := Lib.hid (KT.below hz7)
      replace HX := Lib.hid (Reads.below k_HX (hz7.mono (by first | exact sz5 | (simp [World.setCell]; omega))))
      clear k_HX
      replace HY := Lib.hid (Reads.below k_HY (hz7.mono (by first | exact sz5 | (simp [World.setCell]; omega))))
      clear k_HY
      clear BGs KT KV RV hz5 hz7 HO7 BG BG2 KW hown4 hg4 hat4 sz4 sz5
      have R := KK.out.rules
      simp only [Rules] at R
      go_wp2_with fail
      go_roundg (k9 - 1 + 0)
      case measure => omega
      case rel => exact ⟨i + 1, j, k9 - 1, d9 - 1, 0, d10, some ⟨ad.block, ad.off + 3, none⟩, _, .slice A4 (i + j + 1) c4, o ++ [(e1, e2, e3)], rfl, rfl, by have := hk9.out; rw [Hid]; omega, hk10, by omega, by omega, by omega, r1, r2, fun h0 ad' h => by have := f9.out (by omega) ad rfl; injection h with h; subst h; exact this, f10, Lib.hid (by have := ERead.tail HX.out (by omega) q1; rw [List.drop_drop, if_neg hd9] at this; exact this), HY, Lib.hid (by rw [tc_append, tc_one, show i + 1 + j = i + j + 1 by omega]; exact HO.out), Lib.hid (by simpa using KK.out), BB, sz7, hstep⟩
    by_cases h9 : 0 < k9
    case neg =>
      obtain rfl : k9 = 0 := by omega
      have hstep := Lib.hid (mrgQ_ny (x := X) (n1 := n1) (i := i) hYl.out (show i ≤ n1 by have := hk9.out; omega) (show j < n2 by have := hk10.out; omega) (fun h => by unfold takeX at h; have e1 := hk9.out; have e2 := hk10.out; have e3 := hXl.out; have e4 := hYl.out; omega) HE.out)
      obtain ⟨ad, rfl, hb10, HC⟩ := ERead.cells HY.out h10
      rw [show ad.add (0 * 3) = ad from by simp [Addr.add], show at3 (Y.drop j) 0 = at3 Y j by simp [at3]] at HC
      have hx : Hid (at3 Y j = ((at3 Y j).1, (at3 Y j).2.1, (at3 Y j).2.2)) := rfl
      rw [hx.out] at hstep
      clear hx
      generalize (at3 Y j).1 = e1 at *
      generalize (at3 Y j).2.1 = e2 at *
      generalize (at3 Y j).2.2 = e3 at *
      obtain ⟨f1, f2, f3⟩ := HC.out _ (Below.refl _ _)
      have hd1 : ((k10 : Int) == 0) = false := by simp; omega
      have hd2 : decide ((0 : Int) < ((0 : Nat) : Int)) = false := by simp
      go_wp2_with fail
      (refine gro.wp_region_grown (by kernel_rfl) (by kernel_rfl) ?_; (repeat (go_big_quiet_step ((fail)))); refine wpQuiet_nil ?_; intro _ hw'; obtain ⟨nx, hw''⟩ := hw'; subst hw'')
      replace BB := Lib.hid (BB.out.trans ((below_grown _ nx).mono BB.out.size))
      replace KK := Lib.hid (KK.out.below (below_grown _ nx))
      replace HO := Lib.hid (own_keep HO.out (below_grown _ nx))
      replace HX := Lib.hid (Reads.below HX.out ((below_grown _ nx).mono szb))
      replace HY := Lib.hid (Reads.below HY.out ((below_grown _ nx).mono szb))
      replace HC := Lib.hid (fun W hW => HC.out W (((below_grown _ nx).mono szb).trans hW))
      replace szb := Nat.le_trans szb (below_grown _ nx).size
      clear R
      generalize grown _ nx = W6 at *
      have R := KK.out.rules
      simp only [Rules] at R
      clear f1 f2 f3
      go_wp2_with fail
      by_cases hd9 : d10 = 1
      case pos =>
        subst hd9
        obtain rfl : k10 = 1 := by omega
        have HS0 := Lib.hid (show SC _ _ _ _ _ _ _ W6.drew from ⟨KK.out.drew, HC.out _ (Below.refl _ _).drew⟩)
        (refine gro.wp_region_heldA [0, 1, 2, 3, 4] 7 10 _ (rnk.lasts_sc _ _ _ _ _ _ _) (by kernel_rfl) (by kernel_rfl) (by intro _ _ _ _ _ h; exact h) (by kernel_rfl) (by kernel_rfl) (by kernel_rfl) (by kernel_rfl) (by kernel_rfl) (by decide) (HS0.out) ?_; apply Exists.intro; refine ⟨fun w0 hb0 => ?_, ?_⟩; focus (obtain ⟨kz, f1, f2, f3⟩ := hb0; have RZ := kz.rules; simp only [gro.Rules] at RZ; simp only [gro.pickA, List.filterMap_cons, List.filterMap_nil, List.getElem?_toArray, List.getElem?_cons_succ, List.getElem?_cons_zero]; change wpQuiet _ _ _ _ (_ :: _ :: _ :: _ :: _ ::  []) _; (repeat (go_big_quiet_step ((fail)))); exact wpQuiet_nil rfl))
        (refine gro.anyM_first_all [7, 8] 5 (rnk.lasts_sc _ _ _ _ _ _ _) (by kernel_rfl) (by intro _ _ _ _ _ h; exact h) (by kernel_rfl) (by kernel_rfl) (by kernel_rfl) (by kernel_rfl) (by kernel_rfl) (HS0.out) ?_; apply Exists.intro; refine ⟨fun w0 => ?_, ?_⟩; focus (simp only [gro.pickA, List.filterMap_cons, List.filterMap_nil, List.getElem?_toArray, List.getElem?_cons_succ, List.getElem?_cons_zero]; change wpQuiet _ _ _ _ (_ :: _ ::  []) _; (repeat (go_big_quiet_step ((fail)))); exact wpQuiet_nil rfl))
        refine gro.anyM_one 5 (by kernel_rfl) rfl ?_
        intro y2 hz2 K' hK'
        go_simp
        refine hK' _ _ ⟨fun _ => lasts_sc _ _ _ _ _ _ _ _ _ HS0.out (hz2.alloc hz2.size _), ?_⟩
        clear hK' K'
        have B2 : Below W6.heap.size W6 y2 := ((Below.refl _ _).drew).trans hz2
        obtain ⟨z2, hy2⟩ : ∃ z, y2.alloc (.cells #[Value.int IntKind.i64 e1, Value.int IntKind.i64 e2, Value.int IntKind.i64 e3] 94) = z := ⟨_, rfl⟩
        have hr2 : Reads z2 z2.heap.size 3 (some ⟨y2.heap.size, 0, none⟩) 1 [Value.int IntKind.i64 e1, Value.int IntKind.i64 e2, Value.int IntKind.i64 e3] := by rw [← hy2]; exact Reads.more (reads_new y2 94 #[Value.int IntKind.i64 e1, Value.int IntKind.i64 e2, Value.int IntKind.i64 e3] rfl) (by simp)
        have hA2 : Below y2.heap.size y2 z2 := by rw [← hy2]; exact (Below.refl _ _).alloc (Nat.le_refl _) _
        have B3 := B2.trans (hA2.mono B2.size)
        rw [hy2]
        refine gro.anyM_one 6 (by kernel_rfl) rfl ?_
        intro y3 hz3 K' hK'
        have B4 := B3.trans (hz3.mono B3.size)
        have HU := own_keep HO.out B4
        refine step_append_any _ (by rfl) (.tmp 78) (.tmp 82) 44 rfl sb 94 i0 (.agg #[.int .i64 0, .int .i64 0, .int .i64 0]) 3 24 Try.underlying44 HI.out HZ0.out HZ1.out HZ2.out rfl (by omega) u (i + j) (tc o) (by rfl) HU z2.heap.size (some ⟨y2.heap.size, 0, none⟩) 1 1 [Value.int IntKind.i64 e1, Value.int IntKind.i64 e2, Value.int IntKind.i64 e3] (by rfl) (Reads.below hr2 hz3) (by simp [Value.oneCell']) (by unfold maxLen; omega) (by omega) (Nat.le_trans szb B4.size) ?_
        intro v4 w4 hown4 hg4 hat4
        have BG := below_own hg4 HU (BB.out.trans (B4.mono BB.out.size)) (by omega) (Nat.le_trans BB.out.size B4.size)
        have KW := Bx.app3 (KK.out.below B4) hg4 (fun q hq h => by have h8 := hub.out _ h.symm; simp at hq; rcases hq with h | h | h | h <;> subst h <;> simp at h8 <;> omega)
        have sz4 := Nat.le_trans szb (Nat.le_trans B4.size hg4.size)
        obtain ⟨A4, c4, rfl, m1, m2, m3⟩ := own_form hown4
        clear m3
        have BGs := below_own hg4 HU (B4.mono szb) (Nat.le_refl _) (Nat.le_trans szb B4.size)
        refine hK' _ _ ⟨fun _ => ⟨KW, HC.out _ BGs⟩, ?_⟩
        clear hK' K' HS0 HU hr2 hA2 B2 B3 B4 hz2 hz3
        refine gro.anyM_one 9 (by kernel_rfl) rfl ?_
        intro y4 hz4 K' hK'
        replace BG := BG.trans (hz4.mono BG.size)
        replace BGs := BGs.trans (hz4.mono sz4)
        replace KW := KW.below hz4
        replace hown4 := own_keep hown4 hz4
        replace sz4 := Nat.le_trans sz4 hz4.size
        go_simp
        refine hK' _ _ ⟨fun _ => ⟨KW, HC.out _ BGs⟩, ?_⟩
        clear hK' K' hz4
        refine gro.anyM_one 10 (by kernel_rfl) rfl ?_
        intro y5 hz5 K' hK'
        have KV := (KW.below hz5).perm (L' := [(g8, 46, #[Value.int IntKind.i64 (a + b), u]), (w.heap.size + 1 + 1, 46, #[Value.int IntKind.i64 0, Value.slice none 0 0]), (w.heap.size + 1, 46, #[Value.int IntKind.i64 b, Value.slice A2 n2 c2]), (w.heap.size, 46, #[Value.int IntKind.i64 a, Value.slice A1 n1 c1])]) (by simp)
        have RV := KV.rules
        simp only [Rules] at RV
        clear R
        go_simp
        refine hK' _ _ ⟨fun h => absurd (show true = false from h) (by decide), ?_⟩
        clear hK' K'
        have KT := Bx.puti KV (by simp <;> omega) 1 (.slice A4 (i + j + 1) c4)
        have HO7 := ownsRow_setCell_below (own_keep hown4 hz5) (a := ⟨g8, 1, none⟩) (by show g8 < sb; omega) (.slice A4 (i + j + 1) c4)
        have BG2 := (BG.trans (hz5.mono BG.size)).setCell (p := ⟨g8, 1, none⟩) (by show w.heap.size ≤ g8; omega) (.slice A4 (i + j + 1) c4)
        have sz5 := Nat.le_trans sz4 hz5.size
        have k_HX := Reads.far (p := ⟨g8, 1, none⟩) ((Reads.below (Reads.below HX.out BGs) (hz5.mono sz4))) (fun h0 ad h => by have := f9.out h0 ad h; show ad.block ≠ g8; omega) (.slice A4 (i + j + 1) c4)
        have k_HY := Reads.far (p := ⟨g8, 1, none⟩) ((Reads.below (Reads.below HY.out BGs) (hz5.mono sz4))) (fun h0 ad h => by have := f10.out h0 ad h; show ad.block ≠ g8; omega) (.slice A4 (i + j + 1) c4)
        refine gro.anyM_one 11 (by kernel_rfl) rfl ?_
        intro y6 hz6 K' hK'
        go_simp
        refine hK' _ _ ⟨fun h => absurd (show true = false from h) (by decide), ?_⟩
        clear hK' K'
        replace KT := KT.below hz6
        replace HO7 := own_keep HO7 hz6
        replace BG2 := BG2.trans (hz6.mono BG2.size)
        replace k_HX := Reads.below k_HX (hz6.mono (by simp [World.setCell]; omega))
        replace k_HY := Reads.below k_HY (hz6.mono (by simp [World.setCell]; omega))
        replace sz5 : sb ≤ y6.heap.size := by have := hz6.size; simp [World.setCell] at this; omega
        refine gro.anyM_done (by kernel_rfl) ?_
        intro y7 hz7
        have sz7 : sb ≤ y7.heap.size := by have := hz7.size; first | omega | (simp [World.setCell] at this; omega)
        replace BB := Lib.hid (BG2.trans (hz7.mono BG2.size))
        replace HO := Lib.hid (own_keep HO7 hz7)
        replace KK := Lib.hid (KT.below hz7)
        replace HX := Lib.hid (Reads.below k_HX (hz7.mono (by first | exact sz5 | (simp [World.setCell]; omega))))
        clear k_HX
        replace HY := Lib.hid (Reads.below k_HY (hz7.mono (by first | exact sz5 | (simp [World.setCell]; omega))))
        clear k_HY
        clear BGs KT KV RV hz5 hz7 HO7 BG BG2 KW hown4 hg4 hat4 sz4 sz5
        have R := KK.out.rules
        simp only [Rules] at R
        go_wp2_with fail
        go_roundg (0 + (0))
        case measure => omega
        case rel => exact ⟨i, j + 1, 0, d9, 0, 0, _, some ad, .slice A4 (i + j + 1) c4, o ++ [(e1, e2, e3)], rfl, rfl, hk9, by have := hk10.out; rw [Hid]; omega, by omega, q1, q2, by omega, by omega, f9, fun h0 => absurd h0 (by omega), HX, Lib.hid (by have := ERead.tail HY.out (by omega) r1; rw [List.drop_drop, if_pos rfl] at this; exact this), Lib.hid (by rw [tc_append, tc_one, show i + (j + 1) = i + j + 1 by omega]; exact HO.out), Lib.hid (by simpa using KK.out), BB, sz7, hstep⟩
      have HS0 := Lib.hid (show SC _ _ _ _ _ _ _ W6.drew from ⟨KK.out.drew, HC.out _ (Below.refl _ _).drew⟩)
      (refine gro.wp_region_heldA [0, 1, 2, 3, 4] 7 10 _ (rnk.lasts_sc _ _ _ _ _ _ _) (by kernel_rfl) (by kernel_rfl) (by intro _ _ _ _ _ h; exact h) (by kernel_rfl) (by kernel_rfl) (by kernel_rfl) (by kernel_rfl) (by kernel_rfl) (by decide) (HS0.out) ?_; apply Exists.intro; refine ⟨fun w0 hb0 => ?_, ?_⟩; focus (obtain ⟨kz, f1, f2, f3⟩ := hb0; have RZ := kz.rules; simp only [gro.Rules] at RZ; simp only [gro.pickA, List.filterMap_cons, List.filterMap_nil, List.getElem?_toArray, List.getElem?_cons_succ, List.getElem?_cons_zero]; change wpQuiet _ _ _ _ (_ :: _ :: _ :: _ :: _ ::  []) _; (repeat (go_big_quiet_step ((fail)))); exact wpQuiet_nil rfl))
      (refine gro.anyM_first_all [7, 8] 5 (rnk.lasts_sc _ _ _ _ _ _ _) (by kernel_rfl) (by intro _ _ _ _ _ h; exact h) (by kernel_rfl) (by kernel_rfl) (by kernel_rfl) (by kernel_rfl) (by kernel_rfl) (HS0.out) ?_; apply Exists.intro; refine ⟨fun w0 => ?_, ?_⟩; focus (simp only [gro.pickA, List.filterMap_cons, List.filterMap_nil, List.getElem?_toArray, List.getElem?_cons_succ, List.getElem?_cons_zero]; change wpQuiet _ _ _ _ (_ :: _ ::  []) _; (repeat (go_big_quiet_step ((fail)))); exact wpQuiet_nil rfl))
      refine gro.anyM_one 5 (by kernel_rfl) rfl ?_
      intro y2 hz2 K' hK'
      go_simp
      refine hK' _ _ ⟨fun _ => lasts_sc _ _ _ _ _ _ _ _ _ HS0.out (hz2.alloc hz2.size _), ?_⟩
      clear hK' K'
      have B2 : Below W6.heap.size W6 y2 := ((Below.refl _ _).drew).trans hz2
      obtain ⟨z2, hy2⟩ : ∃ z, y2.alloc (.cells #[Value.int IntKind.i64 e1, Value.int IntKind.i64 e2, Value.int IntKind.i64 e3] 94) = z := ⟨_, rfl⟩
      have hr2 : Reads z2 z2.heap.size 3 (some ⟨y2.heap.size, 0, none⟩) 1 [Value.int IntKind.i64 e1, Value.int IntKind.i64 e2, Value.int IntKind.i64 e3] := by rw [← hy2]; exact Reads.more (reads_new y2 94 #[Value.int IntKind.i64 e1, Value.int IntKind.i64 e2, Value.int IntKind.i64 e3] rfl) (by simp)
      have hA2 : Below y2.heap.size y2 z2 := by rw [← hy2]; exact (Below.refl _ _).alloc (Nat.le_refl _) _
      have B3 := B2.trans (hA2.mono B2.size)
      rw [hy2]
      refine gro.anyM_one 6 (by kernel_rfl) rfl ?_
      intro y3 hz3 K' hK'
      have B4 := B3.trans (hz3.mono B3.size)
      have HU := own_keep HO.out B4
      refine step_append_any _ (by rfl) (.tmp 78) (.tmp 82) 44 rfl sb 94 i0 (.agg #[.int .i64 0, .int .i64 0, .int .i64 0]) 3 24 Try.underlying44 HI.out HZ0.out HZ1.out HZ2.out rfl (by omega) u (i + j) (tc o) (by rfl) HU z2.heap.size (some ⟨y2.heap.size, 0, none⟩) 1 1 [Value.int IntKind.i64 e1, Value.int IntKind.i64 e2, Value.int IntKind.i64 e3] (by rfl) (Reads.below hr2 hz3) (by simp [Value.oneCell']) (by unfold maxLen; omega) (by omega) (Nat.le_trans szb B4.size) ?_
      intro v4 w4 hown4 hg4 hat4
      have BG := below_own hg4 HU (BB.out.trans (B4.mono BB.out.size)) (by omega) (Nat.le_trans BB.out.size B4.size)
      have KW := Bx.app3 (KK.out.below B4) hg4 (fun q hq h => by have h8 := hub.out _ h.symm; simp at hq; rcases hq with h | h | h | h <;> subst h <;> simp at h8 <;> omega)
      have sz4 := Nat.le_trans szb (Nat.le_trans B4.size hg4.size)
      obtain ⟨A4, c4, rfl, m1, m2, m3⟩ := own_form hown4
      clear m3
      have BGs := below_own hg4 HU (B4.mono szb) (Nat.le_refl _) (Nat.le_trans szb B4.size)
      refine hK' _ _ ⟨fun _ => ⟨KW, HC.out _ BGs⟩, ?_⟩
      clear hK' K' HS0 HU hr2 hA2 B2 B3 B4 hz2 hz3
      refine gro.anyM_one 9 (by kernel_rfl) rfl ?_
      intro y4 hz4 K' hK'
      replace BG := BG.trans (hz4.mono BG.size)
      replace BGs := BGs.trans (hz4.mono sz4)
      replace KW := KW.below hz4
      replace hown4 := own_keep hown4 hz4
      replace sz4 := Nat.le_trans sz4 hz4.size
      go_simp
      refine hK' _ _ ⟨fun _ => ⟨KW, HC.out _ BGs⟩, ?_⟩
      clear hK' K' hz4
      refine gro.anyM_one 10 (by kernel_rfl) rfl ?_
      intro y5 hz5 K' hK'
      have KV := (KW.below hz5).perm (L' := [(g8, 46, #[Value.int IntKind.i64 (a + b), u]), (w.heap.size + 1 + 1, 46, #[Value.int IntKind.i64 0, Value.slice none 0 0]), (w.heap.size + 1, 46, #[Value.int IntKind.i64 b, Value.slice A2 n2 c2]), (w.heap.size, 46, #[Value.int IntKind.i64 a, Value.slice A1 n1 c1])]) (by simp)
      have RV := KV.rules
      simp only [Rules] at RV
      clear R
      go_simp
      refine hK' _ _ ⟨fun h => absurd (show true = false from h) (by decide), ?_⟩
      clear hK' K'
      have KT := Bx.puti KV (by simp <;> omega) 1 (.slice A4 (i + j + 1) c4)
      have HO7 := ownsRow_setCell_below (own_keep hown4 hz5) (a := ⟨g8, 1, none⟩) (by show g8 < sb; omega) (.slice A4 (i + j + 1) c4)
      have BG2 := (BG.trans (hz5.mono BG.size)).setCell (p := ⟨g8, 1, none⟩) (by show w.heap.size ≤ g8; omega) (.slice A4 (i + j + 1) c4)
      have sz5 := Nat.le_trans sz4 hz5.size
      have k_HX := Reads.far (p := ⟨g8, 1, none⟩) ((Reads.below (Reads.below HX.out BGs) (hz5.mono sz4))) (fun h0 ad h => by have := f9.out h0 ad h; show ad.block ≠ g8; omega) (.slice A4 (i + j + 1) c4)
      have k_HY := Reads.far (p := ⟨g8, 1, none⟩) ((Reads.below (Reads.below HY.out BGs) (hz5.mono sz4))) (fun h0 ad h => by have := f10.out h0 ad h; show ad.block ≠ g8; omega) (.slice A4 (i + j + 1) c4)
      refine gro.anyM_one 11 (by kernel_rfl) rfl ?_
      intro y6 hz6 K' hK'
      go_simp
      refine hK' _ _ ⟨fun h => absurd (show true = false from h) (by decide), ?_⟩
      clear hK' K'
      replace KT := KT.below hz6
      replace HO7 := own_keep HO7 hz6
      replace BG2 := BG2.trans (hz6.mono BG2.size)
      replace k_HX := Reads.below k_HX (hz6.mono (by simp [World.setCell]; omega))
      replace k_HY := Reads.below k_HY (hz6.mono (by simp [World.setCell]; omega))
      replace sz5 : sb ≤ y6.heap.size := by have := hz6.size; simp [World.setCell] at this; omega
      refine gro.anyM_done (by kernel_rfl) ?_
      intro y7 hz7
      have sz7 : sb ≤ y7.heap.size := by have := hz7.size; first | omega | (simp [World.setCell] at this; omega)
      replace BB := Lib.hid (BG2.trans (hz7.mono BG2.size))
      replace HO := Lib.hid (own_keep HO7 hz7)
      replace KK := Lib.hid (KT.below hz7)
      replace HX := Lib.hid (Reads.below k_HX (hz7.mono (by first | exact sz5 | (simp [World.setCell]; omega))))
      clear k_HX
      replace HY := Lib.hid (Reads.below k_HY (hz7.mono (by first | exact sz5 | (simp [World.setCell]; omega))))
      clear k_HY
      clear BGs KT KV RV hz5 hz7 HO7 BG BG2 KW hown4 hg4 hat4 sz4 sz5
      have R := KK.out.rules
      simp only [Rules] at R
      go_wp2_with fail
      go_roundg (0 + (k10 - 1))
      case measure => omega
      case rel => exact ⟨i, j + 1, 0, d9, k10 - 1, d10 - 1, _, some ⟨ad.block, ad.off + 3, none⟩, .slice A4 (i + j + 1) c4, o ++ [(e1, e2, e3)], rfl, rfl, hk9, by have := hk10.out; rw [Hid]; omega, by omega, q1, q2, by omega, by omega, f9, fun h0 ad' h => by have := f10.out (by omega) ad rfl; injection h with h; subst h; exact this, HX, Lib.hid (by have := ERead.tail HY.out (by omega) r1; rw [List.drop_drop, if_neg hd9] at this; exact this), Lib.hid (by rw [tc_append, tc_one, show i + (j + 1) = i + j + 1 by omega]; exact HO.out), Lib.hid (by simpa using KK.out), BB, sz7, hstep⟩
    have htx := Lib.hid (fun (h : (at3 X i).1 ≤ (at3 Y j).1) => mrgQ_nx hXl.out (show i < n1 by have := hk9.out; omega) (show j ≤ n2 by have := hk10.out; omega) (.inr ⟨by have := hk9.out; rw [hXl.out]; omega, h⟩) HE.out)
    have hty := Lib.hid (fun (h : ¬ (at3 X i).1 ≤ (at3 Y j).1) => mrgQ_ny (x := X) (n1 := n1) (i := i) hYl.out (show i ≤ n1 by have := hk9.out; omega) (show j < n2 by have := hk10.out; omega) (fun h2 => by unfold takeX at h2; have e2 := hk10.out; have e4 := hYl.out; rcases h2 with h2 | h2; omega; exact h h2.2) HE.out)
    obtain ⟨ad, rfl, hb9, HCx⟩ := ERead.cells HX.out h9
    obtain ⟨ae, rfl, hb10, HCy⟩ := ERead.cells HY.out h10
    by_cases hc : (at3 X i).1 ≤ (at3 Y j).1
    case pos =>
      have hstep := Lib.hid (htx.out hc)
      clear htx hty
      have HC := HCx
      rw [show ad.add (0 * 3) = ad from by simp [Addr.add], show at3 (X.drop i) 0 = at3 X i by simp [at3]] at HC
      have hx : Hid (at3 X i = ((at3 X i).1, (at3 X i).2.1, (at3 X i).2.2)) := rfl
      rw [hx.out] at hstep
      clear hx
      have HD := Lib.hid (fun W hW => (HCy.out W hW).1)
      rw [show ae.add (0 * 3) = ae from by simp [Addr.add], show at3 (Y.drop j) 0 = at3 Y j by simp [at3]] at HD
      clear HCx HCy
      generalize (at3 Y j).1 = ov at *
      generalize (at3 X i).1 = e1 at *
      generalize (at3 X i).2.1 = e2 at *
      generalize (at3 X i).2.2 = e3 at *
      obtain ⟨f1, f2, f3⟩ := HC.out _ (Below.refl _ _)
      have f4 := HD.out _ (Below.refl _ _)
      have hd1 : ((k10 : Int) == 0) = false := by simp; omega
      have hd2 : decide ((0 : Int) < (k9 : Int)) = true := by simp; omega
      have hd3 : decide (e1 ≤ ov) = true := by simp; omega
      go_wp2_with fail
      (refine gro.wp_region_grown (by kernel_rfl) (by kernel_rfl) ?_; (repeat (go_big_quiet_step ((fail)))); refine wpQuiet_nil ?_; intro _ hw'; obtain ⟨nx, hw''⟩ := hw'; subst hw'')
      replace BB := Lib.hid (BB.out.trans ((below_grown _ nx).mono BB.out.size))
      replace KK := Lib.hid (KK.out.below (below_grown _ nx))
      replace HO := Lib.hid (own_keep HO.out (below_grown _ nx))
      replace HX := Lib.hid (Reads.below HX.out ((below_grown _ nx).mono szb))
      replace HY := Lib.hid (Reads.below HY.out ((below_grown _ nx).mono szb))
      replace HC := Lib.hid (fun W hW => HC.out W (((below_grown _ nx).mono szb).trans hW))
      replace szb := Nat.le_trans szb (below_grown _ nx).size
      clear R
      generalize grown _ nx = W6 at *
      have R := KK.out.rules
      simp only [Rules] at R
      clear f1 f2 f3 f4 HD
      go_wp2_with fail
      by_cases hd9 : d9 = 1
      case pos =>
        subst hd9
        obtain rfl : k9 = 1 := by omega
        have HS0 := Lib.hid (show SC _ _ _ _ _ _ _ W6.drew from ⟨KK.out.drew, HC.out _ (Below.refl _ _).drew⟩)
        (refine gro.wp_region_heldA [0, 1, 2, 3, 4] 7 10 _ (rnk.lasts_sc _ _ _ _ _ _ _) (by kernel_rfl) (by kernel_rfl) (by intro _ _ _ _ _ h; exact h) (by kernel_rfl) (by kernel_rfl) (by kernel_rfl) (by kernel_rfl) (by kernel_rfl) (by decide) (HS0.out) ?_; apply Exists.intro; refine ⟨fun w0 hb0 => ?_, ?_⟩; focus (obtain ⟨kz, f1, f2, f3⟩ := hb0; have RZ := kz.rules; simp only [gro.Rules] at RZ; simp only [gro.pickA, List.filterMap_cons, List.filterMap_nil, List.getElem?_toArray, List.getElem?_cons_succ, List.getElem?_cons_zero]; change wpQuiet _ _ _ _ (_ :: _ :: _ :: _ :: _ ::  []) _; (repeat (go_big_quiet_step ((fail)))); exact wpQuiet_nil rfl))
        (refine gro.anyM_first_all [7, 8] 5 (rnk.lasts_sc _ _ _ _ _ _ _) (by kernel_rfl) (by intro _ _ _ _ _ h; exact h) (by kernel_rfl) (by kernel_rfl) (by kernel_rfl) (by kernel_rfl) (by kernel_rfl) (HS0.out) ?_; apply Exists.intro; refine ⟨fun w0 => ?_, ?_⟩; focus (simp only [gro.pickA, List.filterMap_cons, List.filterMap_nil, List.getElem?_toArray, List.getElem?_cons_succ, List.getElem?_cons_zero]; change wpQuiet _ _ _ _ (_ :: _ ::  []) _; (repeat (go_big_quiet_step ((fail)))); exact wpQuiet_nil rfl))
        refine gro.anyM_one 5 (by kernel_rfl) rfl ?_
        intro y2 hz2 K' hK'
        go_simp
        refine hK' _ _ ⟨fun _ => lasts_sc _ _ _ _ _ _ _ _ _ HS0.out (hz2.alloc hz2.size _), ?_⟩
        clear hK' K'
        have B2 : Below W6.heap.size W6 y2 := ((Below.refl _ _).drew).trans hz2
        obtain ⟨z2, hy2⟩ : ∃ z, y2.alloc (.cells #[Value.int IntKind.i64 e1, Value.int IntKind.i64 e2, Value.int IntKind.i64 e3] 94) = z := ⟨_, rfl⟩
        have hr2 : Reads z2 z2.heap.size 3 (some ⟨y2.heap.size, 0, none⟩) 1 [Value.int IntKind.i64 e1, Value.int IntKind.i64 e2, Value.int IntKind.i64 e3] := by rw [← hy2]; exact Reads.more (reads_new y2 94 #[Value.int IntKind.i64 e1, Value.int IntKind.i64 e2, Value.int IntKind.i64 e3] rfl) (by simp)
        have hA2 : Below y2.heap.size y2 z2 := by rw [← hy2]; exact (Below.refl _ _).alloc (Nat.le_refl _) _
        have B3 := B2.trans (hA2.mono B2.size)
        rw [hy2]
        refine gro.anyM_one 6 (by kernel_rfl) rfl ?_
        intro y3 hz3 K' hK'
        have B4 := B3.trans (hz3.mono B3.size)
        have HU := own_keep HO.out B4
        refine step_append_any _ (by rfl) (.tmp 68) (.tmp 72) 44 rfl sb 94 i0 (.agg #[.int .i64 0, .int .i64 0, .int .i64 0]) 3 24 Try.underlying44 HI.out HZ0.out HZ1.out HZ2.out rfl (by omega) u (i + j) (tc o) (by rfl) HU z2.heap.size (some ⟨y2.heap.size, 0, none⟩) 1 1 [Value.int IntKind.i64 e1, Value.int IntKind.i64 e2, Value.int IntKind.i64 e3] (by rfl) (Reads.below hr2 hz3) (by simp [Value.oneCell']) (by unfold maxLen; omega) (by omega) (Nat.le_trans szb B4.size) ?_
        intro v4 w4 hown4 hg4 hat4
        have BG := below_own hg4 HU (BB.out.trans (B4.mono BB.out.size)) (by omega) (Nat.le_trans BB.out.size B4.size)
        have KW := Bx.app3 (KK.out.below B4) hg4 (fun q hq h => by have h8 := hub.out _ h.symm; simp at hq; rcases hq with h | h | h | h <;> subst h <;> simp at h8 <;> omega)
        have sz4 := Nat.le_trans szb (Nat.le_trans B4.size hg4.size)
        obtain ⟨A4, c4, rfl, m1, m2, m3⟩ := own_form hown4
        clear m3
        have BGs := below_own hg4 HU (B4.mono szb) (Nat.le_refl _) (Nat.le_trans szb B4.size)
        refine hK' _ _ ⟨fun _ => ⟨KW, HC.out _ BGs⟩, ?_⟩
        clear hK' K' HS0 HU hr2 hA2 B2 B3 B4 hz2 hz3
        refine gro.anyM_one 9 (by kernel_rfl) rfl ?_
        intro y4 hz4 K' hK'
        replace BG := BG.trans (hz4.mono BG.size)
        replace BGs := BGs.trans (hz4.mono sz4)
        replace KW := KW.below hz4
        replace hown4 := own_keep hown4 hz4
        replace sz4 := Nat.le_trans sz4 hz4.size
        go_simp
        refine hK' _ _ ⟨fun _ => ⟨KW, HC.out _ BGs⟩, ?_⟩
        clear hK' K' hz4
        refine gro.anyM_one 10 (by kernel_rfl) rfl ?_
        intro y5 hz5 K' hK'
        have KV := (KW.below hz5).perm (L' := [(g8, 46, #[Value.int IntKind.i64 (a + b), u]), (w.heap.size + 1 + 1, 46, #[Value.int IntKind.i64 0, Value.slice none 0 0]), (w.heap.size + 1, 46, #[Value.int IntKind.i64 b, Value.slice A2 n2 c2]), (w.heap.size, 46, #[Value.int IntKind.i64 a, Value.slice A1 n1 c1])]) (by simp)
        have RV := KV.rules
        simp only [Rules] at RV
        clear R
        go_simp
        refine hK' _ _ ⟨fun h => absurd (show true = false from h) (by decide), ?_⟩
        clear hK' K'
        have KT := Bx.puti KV (by simp <;> omega) 1 (.slice A4 (i + j + 1) c4)
        have HO7 := ownsRow_setCell_below (own_keep hown4 hz5) (a := ⟨g8, 1, none⟩) (by show g8 < sb; omega) (.slice A4 (i + j + 1) c4)
        have BG2 := (BG.trans (hz5.mono BG.size)).setCell (p := ⟨g8, 1, none⟩) (by show w.heap.size ≤ g8; omega) (.slice A4 (i + j + 1) c4)
        have sz5 := Nat.le_trans sz4 hz5.size
        have k_HX := Reads.far (p := ⟨g8, 1, none⟩) ((Reads.below (Reads.below HX.out BGs) (hz5.mono sz4))) (fun h0 ad h => by have := f9.out h0 ad h; show ad.block ≠ g8; omega) (.slice A4 (i + j + 1) c4)
        have k_HY := Reads.far (p := ⟨g8, 1, none⟩) ((Reads.below (Reads.below HY.out BGs) (hz5.mono sz4))) (fun h0 ad h => by have := f10.out h0 ad h; show ad.block ≠ g8; omega) (.slice A4 (i + j + 1) c4)
        refine gro.anyM_one 11 (by kernel_rfl) rfl ?_
        intro y6 hz6 K' hK'
        go_simp
        refine hK' _ _ ⟨fun h => absurd (show true = false from h) (by decide), ?_⟩
        clear hK' K'
        replace KT := KT.below hz6
        replace HO7 := own_keep HO7 hz6
        replace BG2 := BG2.trans (hz6.mono BG2.size)
        replace k_HX := Reads.below k_HX (hz6.mono (by simp [World.setCell]; omega))
        replace k_HY := Reads.below k_HY (hz6.mono (by simp [World.setCell]; omega))
        replace sz5 : sb ≤ y6.heap.size := by have := hz6.size; simp [World.setCell] at this; omega
        refine gro.anyM_done (by kernel_rfl) ?_
        intro y7 hz7
        have sz7 : sb ≤ y7.heap.size := by have := hz7.size; first | omega | (simp [World.setCell] at this; omega)
        replace BB := Lib.hid (BG2.trans (hz7.mono BG2.size))
        replace HO := Lib.hid (own_keep HO7 hz7)
        replace KK := Lib.hid (KT.below hz7)
        replace HX := Lib.hid (Reads.below k_HX (hz7.mono (by first | exact sz5 | (simp [World.setCell]; omega))))
        clear k_HX
        replace HY := Lib.hid (Reads.below k_HY (hz7.mono (by first | exact sz5 | (simp [World.setCell]; omega))))
        clear k_HY
        clear BGs KT KV RV hz5 hz7 HO7 BG BG2 KW hown4 hg4 hat4 sz4 sz5
        have R := KK.out.rules
        simp only [Rules] at R
        go_wp2_with fail
        go_roundg (0 + k10)
        case measure => omega
        case rel => exact ⟨i + 1, j, 0, 0, k10, d10, some ad, _, .slice A4 (i + j + 1) c4, o ++ [(e1, e2, e3)], rfl, rfl, by have := hk9.out; rw [Hid]; omega, hk10, by omega, by omega, by omega, r1, r2, fun h0 => absurd h0 (by omega), f10, Lib.hid (by have := ERead.tail HX.out (by omega) q1; rw [List.drop_drop, if_pos rfl] at this; exact this), HY, Lib.hid (by rw [tc_append, tc_one, show i + 1 + j = i + j + 1 by omega]; exact HO.out), Lib.hid (by simpa using KK.out), BB, sz7, hstep⟩
      have HS0 := Lib.hid (show SC _ _ _ _ _ _ _ W6.drew from ⟨KK.out.drew, HC.out _ (Below.refl _ _).drew⟩)
      (refine gro.wp_region_heldA [0, 1, 2, 3, 4] 7 10 _ (rnk.lasts_sc _ _ _ _ _ _ _) (by kernel_rfl) (by kernel_rfl) (by intro _ _ _ _ _ h; exact h) (by kernel_rfl) (by kernel_rfl) (by kernel_rfl) (by kernel_rfl) (by kernel_rfl) (by decide) (HS0.out) ?_; apply Exists.intro; refine ⟨fun w0 hb0 => ?_, ?_⟩; focus (obtain ⟨kz, f1, f2, f3⟩ := hb0; have RZ := kz.rules; simp only [gro.Rules] at RZ; simp only [gro.pickA, List.filterMap_cons, List.filterMap_nil, List.getElem?_toArray, List.getElem?_cons_succ, List.getElem?_cons_zero]; change wpQuiet _ _ _ _ (_ :: _ :: _ :: _ :: _ ::  []) _; (repeat (go_big_quiet_step ((fail)))); exact wpQuiet_nil rfl))
      (refine gro.anyM_first_all [7, 8] 5 (rnk.lasts_sc _ _ _ _ _ _ _) (by kernel_rfl) (by intro _ _ _ _ _ h; exact h) (by kernel_rfl) (by kernel_rfl) (by kernel_rfl) (by kernel_rfl) (by kernel_rfl) (HS0.out) ?_; apply Exists.intro; refine ⟨fun w0 => ?_, ?_⟩; focus (simp only [gro.pickA, List.filterMap_cons, List.filterMap_nil, List.getElem?_toArray, List.getElem?_cons_succ, List.getElem?_cons_zero]; change wpQuiet _ _ _ _ (_ :: _ ::  []) _; (repeat (go_big_quiet_step ((fail)))); exact wpQuiet_nil rfl))
      refine gro.anyM_one 5 (by kernel_rfl) rfl ?_
      intro y2 hz2 K' hK'
      go_simp
      refine hK' _ _ ⟨fun _ => lasts_sc _ _ _ _ _ _ _ _ _ HS0.out (hz2.alloc hz2.size _), ?_⟩
      clear hK' K'
      have B2 : Below W6.heap.size W6 y2 := ((Below.refl _ _).drew).trans hz2
      obtain ⟨z2, hy2⟩ : ∃ z, y2.alloc (.cells #[Value.int IntKind.i64 e1, Value.int IntKind.i64 e2, Value.int IntKind.i64 e3] 94) = z := ⟨_, rfl⟩
      have hr2 : Reads z2 z2.heap.size 3 (some ⟨y2.heap.size, 0, none⟩) 1 [Value.int IntKind.i64 e1, Value.int IntKind.i64 e2, Value.int IntKind.i64 e3] := by rw [← hy2]; exact Reads.more (reads_new y2 94 #[Value.int IntKind.i64 e1, Value.int IntKind.i64 e2, Value.int IntKind.i64 e3] rfl) (by simp)
      have hA2 : Below y2.heap.size y2 z2 := by rw [← hy2]; exact (Below.refl _ _).alloc (Nat.le_refl _) _
      have B3 := B2.trans (hA2.mono B2.size)
      rw [hy2]
      refine gro.anyM_one 6 (by kernel_rfl) rfl ?_
      intro y3 hz3 K' hK'
      have B4 := B3.trans (hz3.mono B3.size)
      have HU := own_keep HO.out B4
      refine step_append_any _ (by rfl) (.tmp 68) (.tmp 72) 44 rfl sb 94 i0 (.agg #[.int .i64 0, .int .i64 0, .int .i64 0]) 3 24 Try.underlying44 HI.out HZ0.out HZ1.out HZ2.out rfl (by omega) u (i + j) (tc o) (by rfl) HU z2.heap.size (some ⟨y2.heap.size, 0, none⟩) 1 1 [Value.int IntKind.i64 e1, Value.int IntKind.i64 e2, Value.int IntKind.i64 e3] (by rfl) (Reads.below hr2 hz3) (by simp [Value.oneCell']) (by unfold maxLen; omega) (by omega) (Nat.le_trans szb B4.size) ?_
      intro v4 w4 hown4 hg4 hat4
      have BG := below_own hg4 HU (BB.out.trans (B4.mono BB.out.size)) (by omega) (Nat.le_trans BB.out.size B4.size)
      have KW := Bx.app3 (KK.out.below B4) hg4 (fun q hq h => by have h8 := hub.out _ h.symm; simp at hq; rcases hq with h | h | h | h <;> subst h <;> simp at h8 <;> omega)
      have sz4 := Nat.le_trans szb (Nat.le_trans B4.size hg4.size)
      obtain ⟨A4, c4, rfl, m1, m2, m3⟩ := own_form hown4
      clear m3
      have BGs := below_own hg4 HU (B4.mono szb) (Nat.le_refl _) (Nat.le_trans szb B4.size)
      refine hK' _ _ ⟨fun _ => ⟨KW, HC.out _ BGs⟩, ?_⟩
      clear hK' K' HS0 HU hr2 hA2 B2 B3 B4 hz2 hz3
      refine gro.anyM_one 9 (by kernel_rfl) rfl ?_
      intro y4 hz4 K' hK'
      replace BG := BG.trans (hz4.mono BG.size)
      replace BGs := BGs.trans (hz4.mono sz4)
      replace KW := KW.below hz4
      replace hown4 := own_keep hown4 hz4
      replace sz4 := Nat.le_trans sz4 hz4.size
      go_simp
      refine hK' _ _ ⟨fun _ => ⟨KW, HC.out _ BGs⟩, ?_⟩
      clear hK' K' hz4
      refine gro.anyM_one 10 (by kernel_rfl) rfl ?_
      intro y5 hz5 K' hK'
      have KV := (KW.below hz5).perm (L' := [(g8, 46, #[Value.int IntKind.i64 (a + b), u]), (w.heap.size + 1 + 1, 46, #[Value.int IntKind.i64 0, Value.slice none 0 0]), (w.heap.size + 1, 46, #[Value.int IntKind.i64 b, Value.slice A2 n2 c2]), (w.heap.size, 46, #[Value.int IntKind.i64 a, Value.slice A1 n1 c1])]) (by simp)
      have RV := KV.rules
      simp only [Rules] at RV
      clear R
      go_simp
      refine hK' _ _ ⟨fun h => absurd (show true = false from h) (by decide), ?_⟩
      clear hK' K'
      have KT := Bx.puti KV (by simp <;> omega) 1 (.slice A4 (i + j + 1) c4)
      have HO7 := ownsRow_setCell_below (own_keep hown4 hz5) (a := ⟨g8, 1, none⟩) (by show g8 < sb; omega) (.slice A4 (i + j + 1) c4)
      have BG2 := (BG.trans (hz5.mono BG.size)).setCell (p := ⟨g8, 1, none⟩) (by show w.heap.size ≤ g8; omega) (.slice A4 (i + j + 1) c4)
      have sz5 := Nat.le_trans sz4 hz5.size
      have k_HX := Reads.far (p := ⟨g8, 1, none⟩) ((Reads.below (Reads.below HX.out BGs) (hz5.mono sz4))) (fun h0 ad h => by have := f9.out h0 ad h; show ad.block ≠ g8; omega) (.slice A4 (i + j + 1) c4)
      have k_HY := Reads.far (p := ⟨g8, 1, none⟩) ((Reads.below (Reads.below HY.out BGs) (hz5.mono sz4))) (fun h0 ad h => by have := f10.out h0 ad h; show ad.block ≠ g8; omega) (.slice A4 (i + j + 1) c4)
      refine gro.anyM_one 11 (by kernel_rfl) rfl ?_
      intro y6 hz6 K' hK'
      go_simp
      refine hK' _ _ ⟨fun h => absurd (show true = false from h) (by decide), ?_⟩
      clear hK' K'
      replace KT := KT.below hz6
      replace HO7 := own_keep HO7 hz6
      replace BG2 := BG2.trans (hz6.mono BG2.size)
      replace k_HX := Reads.below k_HX (hz6.mono (by simp [World.setCell]; omega))
      replace k_HY := Reads.below k_HY (hz6.mono (by simp [World.setCell]; omega))
      replace sz5 : sb ≤ y6.heap.size := by have := hz6.size; simp [World.setCell] at this; omega
      refine gro.anyM_done (by kernel_rfl) ?_
      intro y7 hz7
      have sz7 : sb ≤ y7.heap.size := by have := hz7.size; first | omega | (simp [World.setCell] at this; omega)
      replace BB := Lib.hid (BG2.trans (hz7.mono BG2.size))
      replace HO := Lib.hid (own_keep HO7 hz7)
      replace KK := Lib.hid (KT.below hz7)
      replace HX := Lib.hid (Reads.below k_HX (hz7.mono (by first | exact sz5 | (simp [World.setCell]; omega))))
      clear k_HX
      replace HY := Lib.hid (Reads.below k_HY (hz7.mono (by first | exact sz5 | (simp [World.setCell]; omega))))
      clear k_HY
      clear BGs KT KV RV hz5 hz7 HO7 BG BG2 KW hown4 hg4 hat4 sz4 sz5
      have R := KK.out.rules
      simp only [Rules] at R
      go_wp2_with fail
      go_roundg (k9 - 1 + k10)
      case measure => omega
      case rel => exact ⟨i + 1, j, k9 - 1, d9 - 1, k10, d10, some ⟨ad.block, ad.off + 3, none⟩, _, .slice A4 (i + j + 1) c4, o ++ [(e1, e2, e3)], rfl, rfl, by have := hk9.out; rw [Hid]; omega, hk10, by omega, by omega, by omega, r1, r2, fun h0 ad' h => by have := f9.out (by omega) ad rfl; injection h with h; subst h; exact this, f10, Lib.hid (by have := ERead.tail HX.out (by omega) q1; rw [List.drop_drop, if_neg hd9] at this; exact this), HY, Lib.hid (by rw [tc_append, tc_one, show i + 1 + j = i + j + 1 by omega]; exact HO.out), Lib.hid (by simpa using KK.out), BB, sz7, hstep⟩
    have hstep := Lib.hid (hty.out hc)
    clear htx hty
    have HC := HCy
    rw [show ae.add (0 * 3) = ae from by simp [Addr.add], show at3 (Y.drop j) 0 = at3 Y j by simp [at3]] at HC
    have hx : Hid (at3 Y j = ((at3 Y j).1, (at3 Y j).2.1, (at3 Y j).2.2)) := rfl
    rw [hx.out] at hstep
    clear hx
    have HD := Lib.hid (fun W hW => (HCx.out W hW).1)
    rw [show ad.add (0 * 3) = ad from by simp [Addr.add], show at3 (X.drop i) 0 = at3 X i by simp [at3]] at HD
    clear HCx HCy
    generalize (at3 X i).1 = ov at *
    generalize (at3 Y j).1 = e1 at *
    generalize (at3 Y j).2.1 = e2 at *
    generalize (at3 Y j).2.2 = e3 at *
    obtain ⟨f1, f2, f3⟩ := HC.out _ (Below.refl _ _)
    have f4 := HD.out _ (Below.refl _ _)
    have hd1 : ((k10 : Int) == 0) = false := by simp; omega
    have hd2 : decide ((0 : Int) < (k9 : Int)) = true := by simp; omega
    have hd3 : decide (ov ≤ e1) = false := by simp; omega
    go_wp2_with fail
    (refine gro.wp_region_grown (by kernel_rfl) (by kernel_rfl) ?_; (repeat (go_big_quiet_step ((fail)))); refine wpQuiet_nil ?_; intro _ hw'; obtain ⟨nx, hw''⟩ := hw'; subst hw'')
    replace BB := Lib.hid (BB.out.trans ((below_grown _ nx).mono BB.out.size))
    replace KK := Lib.hid (KK.out.below (below_grown _ nx))
    replace HO := Lib.hid (own_keep HO.out (below_grown _ nx))
    replace HX := Lib.hid (Reads.below HX.out ((below_grown _ nx).mono szb))
    replace HY := Lib.hid (Reads.below HY.out ((below_grown _ nx).mono szb))
    replace HC := Lib.hid (fun W hW => HC.out W (((below_grown _ nx).mono szb).trans hW))
    replace szb := Nat.le_trans szb (below_grown _ nx).size
    clear R
    generalize grown _ nx = W6 at *
    have R := KK.out.rules
    simp only [Rules] at R
    clear f1 f2 f3 f4 HD
    go_wp2_with fail
    by_cases hd9 : d10 = 1
    case pos =>
      subst hd9
      obtain rfl : k10 = 1 := by omega
      have HS0 := Lib.hid (show SC _ _ _ _ _ _ _ W6.drew from ⟨KK.out.drew, HC.out _ (Below.refl _ _).drew⟩)
      (refine gro.wp_region_heldA [0, 1, 2, 3, 4] 7 10 _ (rnk.lasts_sc _ _ _ _ _ _ _) (by kernel_rfl) (by kernel_rfl) (by intro _ _ _ _ _ h; exact h) (by kernel_rfl) (by kernel_rfl) (by kernel_rfl) (by kernel_rfl) (by kernel_rfl) (by decide) (HS0.out) ?_; apply Exists.intro; refine ⟨fun w0 hb0 => ?_, ?_⟩; focus (obtain ⟨kz, f1, f2, f3⟩ := hb0; have RZ := kz.rules; simp only [gro.Rules] at RZ; simp only [gro.pickA, List.filterMap_cons, List.filterMap_nil, List.getElem?_toArray, List.getElem?_cons_succ, List.getElem?_cons_zero]; change wpQuiet _ _ _ _ (_ :: _ :: _ :: _ :: _ ::  []) _; (repeat (go_big_quiet_step ((fail)))); exact wpQuiet_nil rfl))
      (refine gro.anyM_first_all [7, 8] 5 (rnk.lasts_sc _ _ _ _ _ _ _) (by kernel_rfl) (by intro _ _ _ _ _ h; exact h) (by kernel_rfl) (by kernel_rfl) (by kernel_rfl) (by kernel_rfl) (by kernel_rfl) (HS0.out) ?_; apply Exists.intro; refine ⟨fun w0 => ?_, ?_⟩; focus (simp only [gro.pickA, List.filterMap_cons, List.filterMap_nil, List.getElem?_toArray, List.getElem?_cons_succ, List.getElem?_cons_zero]; change wpQuiet _ _ _ _ (_ :: _ ::  []) _; (repeat (go_big_quiet_step ((fail)))); exact wpQuiet_nil rfl))
      refine gro.anyM_one 5 (by kernel_rfl) rfl ?_
      intro y2 hz2 K' hK'
      go_simp
      refine hK' _ _ ⟨fun _ => lasts_sc _ _ _ _ _ _ _ _ _ HS0.out (hz2.alloc hz2.size _), ?_⟩
      clear hK' K'
      have B2 : Below W6.heap.size W6 y2 := ((Below.refl _ _).drew).trans hz2
      obtain ⟨z2, hy2⟩ : ∃ z, y2.alloc (.cells #[Value.int IntKind.i64 e1, Value.int IntKind.i64 e2, Value.int IntKind.i64 e3] 94) = z := ⟨_, rfl⟩
      have hr2 : Reads z2 z2.heap.size 3 (some ⟨y2.heap.size, 0, none⟩) 1 [Value.int IntKind.i64 e1, Value.int IntKind.i64 e2, Value.int IntKind.i64 e3] := by rw [← hy2]; exact Reads.more (reads_new y2 94 #[Value.int IntKind.i64 e1, Value.int IntKind.i64 e2, Value.int IntKind.i64 e3] rfl) (by simp)
      have hA2 : Below y2.heap.size y2 z2 := by rw [← hy2]; exact (Below.refl _ _).alloc (Nat.le_refl _) _
      have B3 := B2.trans (hA2.mono B2.size)
      rw [hy2]
      refine gro.anyM_one 6 (by kernel_rfl) rfl ?_
      intro y3 hz3 K' hK'
      have B4 := B3.trans (hz3.mono B3.size)
      have HU := own_keep HO.out B4
      refine step_append_any _ (by rfl) (.tmp 78) (.tmp 82) 44 rfl sb 94 i0 (.agg #[.int .i64 0, .int .i64 0, .int .i64 0]) 3 24 Try.underlying44 HI.out HZ0.out HZ1.out HZ2.out rfl (by omega) u (i + j) (tc o) (by rfl) HU z2.heap.size (some ⟨y2.heap.size, 0, none⟩) 1 1 [Value.int IntKind.i64 e1, Value.int IntKind.i64 e2, Value.int IntKind.i64 e3] (by rfl) (Reads.below hr2 hz3) (by simp [Value.oneCell']) (by unfold maxLen; omega) (by omega) (Nat.le_trans szb B4.size) ?_
      intro v4 w4 hown4 hg4 hat4
      have BG := below_own hg4 HU (BB.out.trans (B4.mono BB.out.size)) (by omega) (Nat.le_trans BB.out.size B4.size)
      have KW := Bx.app3 (KK.out.below B4) hg4 (fun q hq h => by have h8 := hub.out _ h.symm; simp at hq; rcases hq with h | h | h | h <;> subst h <;> simp at h8 <;> omega)
      have sz4 := Nat.le_trans szb (Nat.le_trans B4.size hg4.size)
      obtain ⟨A4, c4, rfl, m1, m2, m3⟩ := own_form hown4
      clear m3
      have BGs := below_own hg4 HU (B4.mono szb) (Nat.le_refl _) (Nat.le_trans szb B4.size)
      refine hK' _ _ ⟨fun _ => ⟨KW, HC.out _ BGs⟩, ?_⟩
      clear hK' K' HS0 HU hr2 hA2 B2 B3 B4 hz2 hz3
      refine gro.anyM_one 9 (by kernel_rfl) rfl ?_
      intro y4 hz4 K' hK'
      replace BG := BG.trans (hz4.mono BG.size)
      replace BGs := BGs.trans (hz4.mono sz4)
      replace KW := KW.below hz4
      replace hown4 := own_keep hown4 hz4
      replace sz4 := Nat.le_trans sz4 hz4.size
      go_simp
      refine hK' _ _ ⟨fun _ => ⟨KW, HC.out _ BGs⟩, ?_⟩
      clear hK' K' hz4
      refine gro.anyM_one 10 (by kernel_rfl) rfl ?_
      intro y5 hz5 K' hK'
      have KV := (KW.below hz5).perm (L' := [(g8, 46, #[Value.int IntKind.i64 (a + b), u]), (w.heap.size + 1 + 1, 46, #[Value.int IntKind.i64 0, Value.slice none 0 0]), (w.heap.size + 1, 46, #[Value.int IntKind.i64 b, Value.slice A2 n2 c2]), (w.heap.size, 46, #[Value.int IntKind.i64 a, Value.slice A1 n1 c1])]) (by simp)
      have RV := KV.rules
      simp only [Rules] at RV
      clear R
      go_simp
      refine hK' _ _ ⟨fun h => absurd (show true = false from h) (by decide), ?_⟩
      clear hK' K'
      have KT := Bx.puti KV (by simp <;> omega) 1 (.slice A4 (i + j + 1) c4)
      have HO7 := ownsRow_setCell_below (own_keep hown4 hz5) (a := ⟨g8, 1, none⟩) (by show g8 < sb; omega) (.slice A4 (i + j + 1) c4)
      have BG2 := (BG.trans (hz5.mono BG.size)).setCell (p := ⟨g8, 1, none⟩) (by show w.heap.size ≤ g8; omega) (.slice A4 (i + j + 1) c4)
      have sz5 := Nat.le_trans sz4 hz5.size
      have k_HX := Reads.far (p := ⟨g8, 1, none⟩) ((Reads.below (Reads.below HX.out BGs) (hz5.mono sz4))) (fun h0 ad h => by have := f9.out h0 ad h; show ad.block ≠ g8; omega) (.slice A4 (i + j + 1) c4)
      have k_HY := Reads.far (p := ⟨g8, 1, none⟩) ((Reads.below (Reads.below HY.out BGs) (hz5.mono sz4))) (fun h0 ad h => by have := f10.out h0 ad h; show ad.block ≠ g8; omega) (.slice A4 (i + j + 1) c4)
      refine gro.anyM_one 11 (by kernel_rfl) rfl ?_
      intro y6 hz6 K' hK'
      go_simp
      refine hK' _ _ ⟨fun h => absurd (show true = false from h) (by decide), ?_⟩
      clear hK' K'
      replace KT := KT.below hz6
      replace HO7 := own_keep HO7 hz6
      replace BG2 := BG2.trans (hz6.mono BG2.size)
      replace k_HX := Reads.below k_HX (hz6.mono (by simp [World.setCell]; omega))
      replace k_HY := Reads.below k_HY (hz6.mono (by simp [World.setCell]; omega))
      replace sz5 : sb ≤ y6.heap.size := by have := hz6.size; simp [World.setCell] at this; omega
      refine gro.anyM_done (by kernel_rfl) ?_
      intro y7 hz7
      have sz7 : sb ≤ y7.heap.size := by have := hz7.size; first | omega | (simp [World.setCell] at this; omega)
      replace BB := Lib.hid (BG2.trans (hz7.mono BG2.size))
      replace HO := Lib.hid (own_keep HO7 hz7)
      replace KK := Lib.hid (KT.below hz7)
      replace HX := Lib.hid (Reads.below k_HX (hz7.mono (by first | exact sz5 | (simp [World.setCell]; omega))))
      clear k_HX
      replace HY := Lib.hid (Reads.below k_HY (hz7.mono (by first | exact sz5 | (simp [World.setCell]; omega))))
      clear k_HY
      clear BGs KT KV RV hz5 hz7 HO7 BG BG2 KW hown4 hg4 hat4 sz4 sz5
      have R := KK.out.rules
      simp only [Rules] at R
      go_wp2_with fail
      go_roundg (k9 + (0))
      case measure => omega
      case rel => exact ⟨i, j + 1, k9, d9, 0, 0, _, some ae, .slice A4 (i + j + 1) c4, o ++ [(e1, e2, e3)], rfl, rfl, hk9, by have := hk10.out; rw [Hid]; omega, by omega, q1, q2, by omega, by omega, f9, fun h0 => absurd h0 (by omega), HX, Lib.hid (by have := ERead.tail HY.out (by omega) r1; rw [List.drop_drop, if_pos rfl] at this; exact this), Lib.hid (by rw [tc_append, tc_one, show i + (j + 1) = i + j + 1 by omega]; exact HO.out), Lib.hid (by simpa using KK.out), BB, sz7, hstep⟩
    have HS0 := Lib.hid (show SC _ _ _ _ _ _ _ W6.drew from ⟨KK.out.drew, HC.out _ (Below.refl _ _).drew⟩)
    (refine gro.wp_region_heldA [0, 1, 2, 3, 4] 7 10 _ (rnk.lasts_sc _ _ _ _ _ _ _) (by kernel_rfl) (by kernel_rfl) (by intro _ _ _ _ _ h; exact h) (by kernel_rfl) (by kernel_rfl) (by kernel_rfl) (by kernel_rfl) (by kernel_rfl) (by decide) (HS0.out) ?_; apply Exists.intro; refine ⟨fun w0 hb0 => ?_, ?_⟩; focus (obtain ⟨kz, f1, f2, f3⟩ := hb0; have RZ := kz.rules; simp only [gro.Rules] at RZ; simp only [gro.pickA, List.filterMap_cons, List.filterMap_nil, List.getElem?_toArray, List.getElem?_cons_succ, List.getElem?_cons_zero]; change wpQuiet _ _ _ _ (_ :: _ :: _ :: _ :: _ ::  []) _; (repeat (go_big_quiet_step ((fail)))); exact wpQuiet_nil rfl))
    (refine gro.anyM_first_all [7, 8] 5 (rnk.lasts_sc _ _ _ _ _ _ _) (by kernel_rfl) (by intro _ _ _ _ _ h; exact h) (by kernel_rfl) (by kernel_rfl) (by kernel_rfl) (by kernel_rfl) (by kernel_rfl) (HS0.out) ?_; apply Exists.intro; refine ⟨fun w0 => ?_, ?_⟩; focus (simp only [gro.pickA, List.filterMap_cons, List.filterMap_nil, List.getElem?_toArray, List.getElem?_cons_succ, List.getElem?_cons_zero]; change wpQuiet _ _ _ _ (_ :: _ ::  []) _; (repeat (go_big_quiet_step ((fail)))); exact wpQuiet_nil rfl))
    refine gro.anyM_one 5 (by kernel_rfl) rfl ?_
    intro y2 hz2 K' hK'
    go_simp
    refine hK' _ _ ⟨fun _ => lasts_sc _ _ _ _ _ _ _ _ _ HS0.out (hz2.alloc hz2.size _), ?_⟩
    clear hK' K'
    have B2 : Below W6.heap.size W6 y2 := ((Below.refl _ _).drew).trans hz2
    obtain ⟨z2, hy2⟩ : ∃ z, y2.alloc (.cells #[Value.int IntKind.i64 e1, Value.int IntKind.i64 e2, Value.int IntKind.i64 e3] 94) = z := ⟨_, rfl⟩
    have hr2 : Reads z2 z2.heap.size 3 (some ⟨y2.heap.size, 0, none⟩) 1 [Value.int IntKind.i64 e1, Value.int IntKind.i64 e2, Value.int IntKind.i64 e3] := by rw [← hy2]; exact Reads.more (reads_new y2 94 #[Value.int IntKind.i64 e1, Value.int IntKind.i64 e2, Value.int IntKind.i64 e3] rfl) (by simp)
    have hA2 : Below y2.heap.size y2 z2 := by rw [← hy2]; exact (Below.refl _ _).alloc (Nat.le_refl _) _
    have B3 := B2.trans (hA2.mono B2.size)
    rw [hy2]
    refine gro.anyM_one 6 (by kernel_rfl) rfl ?_
    intro y3 hz3 K' hK'
    have B4 := B3.trans (hz3.mono B3.size)
    have HU := own_keep HO.out B4
    refine step_append_any _ (by rfl) (.tmp 78) (.tmp 82) 44 rfl sb 94 i0 (.agg #[.int .i64 0, .int .i64 0, .int .i64 0]) 3 24 Try.underlying44 HI.out HZ0.out HZ1.out HZ2.out rfl (by omega) u (i + j) (tc o) (by rfl) HU z2.heap.size (some ⟨y2.heap.size, 0, none⟩) 1 1 [Value.int IntKind.i64 e1, Value.int IntKind.i64 e2, Value.int IntKind.i64 e3] (by rfl) (Reads.below hr2 hz3) (by simp [Value.oneCell']) (by unfold maxLen; omega) (by omega) (Nat.le_trans szb B4.size) ?_
    intro v4 w4 hown4 hg4 hat4
    have BG := below_own hg4 HU (BB.out.trans (B4.mono BB.out.size)) (by omega) (Nat.le_trans BB.out.size B4.size)
    have KW := Bx.app3 (KK.out.below B4) hg4 (fun q hq h => by have h8 := hub.out _ h.symm; simp at hq; rcases hq with h | h | h | h <;> subst h <;> simp at h8 <;> omega)
    have sz4 := Nat.le_trans szb (Nat.le_trans B4.size hg4.size)
    obtain ⟨A4, c4, rfl, m1, m2, m3⟩ := own_form hown4
    clear m3
    have BGs := below_own hg4 HU (B4.mono szb) (Nat.le_refl _) (Nat.le_trans szb B4.size)
    refine hK' _ _ ⟨fun _ => ⟨KW, HC.out _ BGs⟩, ?_⟩
    clear hK' K' HS0 HU hr2 hA2 B2 B3 B4 hz2 hz3
    refine gro.anyM_one 9 (by kernel_rfl) rfl ?_
    intro y4 hz4 K' hK'
    replace BG := BG.trans (hz4.mono BG.size)
    replace BGs := BGs.trans (hz4.mono sz4)
    replace KW := KW.below hz4
    replace hown4 := own_keep hown4 hz4
    replace sz4 := Nat.le_trans sz4 hz4.size
    go_simp
    refine hK' _ _ ⟨fun _ => ⟨KW, HC.out _ BGs⟩, ?_⟩
    clear hK' K' hz4
    refine gro.anyM_one 10 (by kernel_rfl) rfl ?_
    intro y5 hz5 K' hK'
    have KV := (KW.below hz5).perm (L' := [(g8, 46, #[Value.int IntKind.i64 (a + b), u]), (w.heap.size + 1 + 1, 46, #[Value.int IntKind.i64 0, Value.slice none 0 0]), (w.heap.size + 1, 46, #[Value.int IntKind.i64 b, Value.slice A2 n2 c2]), (w.heap.size, 46, #[Value.int IntKind.i64 a, Value.slice A1 n1 c1])]) (by simp)
    have RV := KV.rules
    simp only [Rules] at RV
    clear R
    go_simp
    refine hK' _ _ ⟨fun h => absurd (show true = false from h) (by decide), ?_⟩
    clear hK' K'
    have KT := Bx.puti KV (by simp <;> omega) 1 (.slice A4 (i + j + 1) c4)
    have HO7 := ownsRow_setCell_below (own_keep hown4 hz5) (a := ⟨g8, 1, none⟩) (by show g8 < sb; omega) (.slice A4 (i + j + 1) c4)
    have BG2 := (BG.trans (hz5.mono BG.size)).setCell (p := ⟨g8, 1, none⟩) (by show w.heap.size ≤ g8; omega) (.slice A4 (i + j + 1) c4)
    have sz5 := Nat.le_trans sz4 hz5.size
    have k_HX := Reads.far (p := ⟨g8, 1, none⟩) ((Reads.below (Reads.below HX.out BGs) (hz5.mono sz4))) (fun h0 ad h => by have := f9.out h0 ad h; show ad.block ≠ g8; omega) (.slice A4 (i + j + 1) c4)
    have k_HY := Reads.far (p := ⟨g8, 1, none⟩) ((Reads.below (Reads.below HY.out BGs) (hz5.mono sz4))) (fun h0 ad h => by have := f10.out h0 ad h; show ad.block ≠ g8; omega) (.slice A4 (i + j + 1) c4)
    refine gro.anyM_one 11 (by kernel_rfl) rfl ?_
    intro y6 hz6 K' hK'
    go_simp
    refine hK' _ _ ⟨fun h => absurd (show true = false from h) (by decide), ?_⟩
    clear hK' K'
    replace KT := KT.below hz6
    replace HO7 := own_keep HO7 hz6
    replace BG2 := BG2.trans (hz6.mono BG2.size)
    replace k_HX := Reads.below k_HX (hz6.mono (by simp [World.setCell]; omega))
    replace k_HY := Reads.below k_HY (hz6.mono (by simp [World.setCell]; omega))
    replace sz5 : sb ≤ y6.heap.size := by have := hz6.size; simp [World.setCell] at this; omega
    refine gro.anyM_done (by kernel_rfl) ?_
    intro y7 hz7
    have sz7 : sb ≤ y7.heap.size := by have := hz7.size; first | omega | (simp [World.setCell] at this; omega)
    replace BB := Lib.hid (BG2.trans (hz7.mono BG2.size))
    replace HO := Lib.hid (own_keep HO7 hz7)
    replace KK := Lib.hid (KT.below hz7)
    replace HX := Lib.hid (Reads.below k_HX (hz7.mono (by first | exact sz5 | (simp [World.setCell]; omega))))
    clear k_HX
    replace HY := Lib.hid (Reads.below k_HY (hz7.mono (by first | exact sz5 | (simp [World.setCell]; omega))))
    clear k_HY
    clear BGs KT KV RV hz5 hz7 HO7 BG BG2 KW hown4 hg4 hat4 sz4 sz5
    have R := KK.out.rules
    simp only [Rules] at R
    go_wp2_with fail
    go_roundg (k9 + (k10 - 1))
    case measure => omega
    case rel => exact ⟨i, j + 1, k9, d9, k10 - 1, d10 - 1, _, some ⟨ae.block, ae.off + 3, none⟩, .slice A4 (i + j + 1) c4, o ++ [(e1, e2, e3)], rfl, rfl, hk9, by have := hk10.out; rw [Hid]; omega, by omega, q1, q2, by omega, by omega, f9, fun h0 ad' h => by have := f10.out (by omega) ae rfl; injection h with h; subst h; exact this, HX, Lib.hid (by have := ERead.tail HY.out (by omega) r1; rw [List.drop_drop, if_neg hd9] at this; exact this), Lib.hid (by rw [tc_append, tc_one, show i + (j + 1) = i + j + 1 by omega]; exact HO.out), Lib.hid (by simpa using KK.out), BB, sz7, hstep⟩
end Go.Proofs.Ytjapjfcennemeaa.rnk

/- Contract of the reference's Insert for blocks, with where the entries lie. -/
namespace Go.Proofs.Ytjapjfcennemeaa.blk
open Go.RowKit Go.Proofs.Ytjapjfcennemeaa.mem Go.Proofs.Ytjapjfcennemeaa.rnk Go.Proofs.Ytjapjfcennemeaa.gro Go.Proofs.Ytjapjfcennemeaa.buk
set_option linter.unusedVariables false
set_option linter.unusedSimpArgs false
set_option pp.maxSteps 200000
set_option maxHeartbeats 16000000 in
set_option maxRecDepth 100000 in
theorem InsertBR_yesA (P : Nat → Prop) (A : Option Addr) (n c : Nat) (xs : List BlkM) (k : Nat) (b t v : Int) (w : World) (h1 : BRead w w.heap.size A n xs) (hs : n ≤ 64000) (hent : entsK (xs.map bkey) ≤ 4000000) (hm : mayK (xs.map bkey) k b t v = true) (hA : ∀ x ∈ xs, 0 < x.en → ∀ ad, x.adr = some ad → P ad.block) : Calls Try.prog 23 #[.slice A n c, .int .i64 k, .int .i64 b, .int .i64 t, .int .i64 v] w (NewBKA P (putKC (xs.map bkey) k b t v) w) := by
  have HA0 := Lib.hid hA
  clear hA
  have HV := Lib.hid (ValidBR_any A n c xs k b w h1 (by omega))
  have HT := Lib.hid (fun W (hb : Below w.heap.size w W) => TotalBR_any A n c xs W ((h1.below hb).more hb.size) (by omega))
  have HK := Lib.hid (fun W => clk.Tick_any t W)
  have HU := Lib.hid (fun W => Value_any v W)
  obtain ⟨hv, ht, hlast, hvv, htot⟩ := mayK_iff.1 hm
  rw [hv] at HV
  rw [clk.tickB_iff.2 ht] at HK
  rw [valB_t hvv] at HU
  have hk := (validB_iff.1 (validK_iff.1 hv).2.1).1
  have hk1 : 1 ≤ k := by omega
  have hk2 : k ≤ 128 := by omega
  have htot2 : ¬ 1073741824 ≤ (totalK (xs.map bkey) : Int) := by omega
  have H1 := Lib.hid h1
  have HL := Lib.hid h1.len
  have HEn0 := Lib.hid hent
  clear hv hk htot hm hent
  generalize ((totalK (xs.map bkey) : Nat) : Int) = tt at *
  obtain ⟨i0, hi0, hz0, hz1, hz2⟩ := info_parts block_info
  have HI := Lib.hid hi0
  have HZ0 := Lib.hid hz0
  have HZ1 := Lib.hid hz1
  have HZ2 := Lib.hid hz2
  clear hi0 hz0 hz1 hz2
  go_enter Try.func23, Try.ntmps23
  go_upto_region 1 with fail
  go_cut [57] (fun s57 wx => s57 = .bool false ∧ Hid (Below w.heap.size w wx))
  case first =>
    by_cases h0 : 0 < n
    case pos =>
      obtain ⟨ad, x, rfl, hbl, hx, hc, _⟩ := BRead.at_ h1 (show n - 1 < n by omega)
      rw [lastK_last HL.out h0 hx] at hlast
      have HC := Lib.hid (fun W (hb : Below w.heap.size w W) => (hb.cell (p := ad.add ((n - 1) * 5)) (by rw [block_of_add]; exact hbl)).trans hc)
      clear hx hc h1
      generalize x.t = z at *
      have s1 : IntKind.i64.wrap ((n : Int) - 1) = (n : Int) - 1 := IntWalk.i64_in _ (by omega)
      have s2 : ((n : Int) - 1).toNat = n - 1 := by omega
      go_wp2_with fail
      refine HV.out.mono ?_
      rintro e w1 ⟨rfl, hb1⟩
      have HB1 := Lib.hid hb1
      have hc := HC.out _ hb1
      clear hb1 HV
      go_wp2_with (first | (go_at_call 79; refine (HK.out _).mono ?_; rintro e w2 ⟨rfl, rfl⟩) | (go_at_call 72; refine (HU.out _).mono ?_; rintro e w2 ⟨rfl, rfl⟩) | (go_at_call 20; refine (HT.out _ HB1.out).mono ?_; rintro e w3 ⟨rfl, hb3⟩; have HB3 := Lib.hid (HB1.out.trans (hb3.mono HB1.out.size)); clear hb3))
      go_meet
      exact ⟨congrArg Value.bool (by first | rfl | (simp; omega)), HB3⟩
    obtain rfl : n = 0 := by omega
    clear h1
    go_wp2_with fail
    refine HV.out.mono ?_
    rintro e w1 ⟨rfl, hb1⟩
    have HB1 := Lib.hid hb1
    clear hb1 HV
    go_wp2_with (first | (go_at_call 79; refine (HK.out _).mono ?_; rintro e w2 ⟨rfl, rfl⟩) | (go_at_call 72; refine (HU.out _).mono ?_; rintro e w2 ⟨rfl, rfl⟩) | (go_at_call 20; refine (HT.out _ HB1.out).mono ?_; rintro e w3 ⟨rfl, hb3⟩; have HB3 := Lib.hid (HB1.out.trans (hb3.mono HB1.out.size)); clear hb3))
    go_meet
    exact ⟨congrArg Value.bool (by first | rfl | (simp; omega)), HB3⟩
  case rest =>
  obtain ⟨rfl, HB⟩ := hcut
  clear HV HT htot2 hlast h1 ht hvv HK HU
  have hwb := HB.out.size
  go_wp2_with (first | (at_builtin; refine wpList_append_any _ rfl (.tmp 58) (.tmp 59) 22 rfl wc.heap.size 64 i0 (.agg #[.int .i64 0, .int .i64 0, .int .i64 0, .int .i64 0, .slice none 0 0]) 5 56 Try.underlying22 HI.out HZ0.out HZ1.out HZ2.out rfl (by omega) (.slice (some ⟨wc.heap.size, 0, none⟩) 0 0) 0 [] rfl (own_empty wc 64) w.heap.size A n c (bc xs) rfl ((H1.out.1.below HB.out).alloc HB.out.size _) (bc_oneCell xs) (by unfold maxLen; omega) (by omega) (by simp) ?_; intro v4 w4 hown4 hg4 hat4; simp only [Nat.zero_add, List.nil_append] at hown4; obtain ⟨A4, c4, rfl, q1, q2, q3⟩ := own_form hown4; have HB4 : Hid (Below wc.heap.size wc w4) := ((Below.refl _ _).alloc (Nat.le_refl _) _).grown hg4 (by simp) (by simp [Value.ownBlock]); have HO4 := Lib.hid hown4; clear hown4 hg4 hat4 q3) | (go_at_call 80; refine (singleR_any v _).mono ?_; rintro e w5 ⟨A5, m5, c5, rfl, r1, r2, r3, hb5, hfr5⟩; obtain rfl : 1 = m5 := (by have := r3.len; simpa using this); have HB5 := Lib.hid hb5; have HO5 := Lib.hid (own_keep HO4.out hb5); have HE5 := Lib.hid r3; have HF5 := Lib.hid hfr5; clear r3 hb5 hfr5) | (at_builtin; refine wpList_append_any _ rfl (.tmp 60) (.tmp 66) 22 rfl wc.heap.size 64 i0 (.agg #[.int .i64 0, .int .i64 0, .int .i64 0, .int .i64 0, .slice none 0 0]) 5 56 Try.underlying22 HI.out HZ0.out HZ1.out HZ2.out rfl (by omega) (.slice A4 n c4) n (bc xs) rfl (own_alloc HO5.out _) _ _ 1 1 _ rfl (reads_blk (blk_new2 rfl) rfl) (by simp [Value.oneCell']) (by unfold maxLen; omega) (by omega) (by have h4 := HB4.out.size; have h5 := HB5.out.size; simp; omega) ?_; intro v6 w6 hown6 hg6 hat6; obtain ⟨g1, c1, rfl, p1, p2, p3, p4⟩ := own_form2 hown6 (by omega); have HO6 := Lib.hid hown6; have HG6 := Lib.hid hg6; have HA6 := Lib.hid hat6; clear hown6 hg6 hat6))
  have h4 := HB4.out.size
  have h5 := HB5.out.size
  have BB5 := HB.out.trans ((HB4.out.trans (HB5.out.mono HB4.out.size)).mono HB.out.size)
  have HB6 := Lib.hid (below_own HG6.out (own_alloc HO5.out _) (BB5.alloc BB5.size _) HB.out.size (by simp; omega))
  have hown4lt := fun k h => (World.ownsRow.lt HO4.out k h)
  have HEn6 : Hid (EntR w6 (xs ++ [⟨t, v, 0, 1, A5, 1, c5, [(v, 1, 1)]⟩])) := by
    intro y hy
    rcases List.mem_append.1 hy with hy | hy
    · obtain ⟨a1, a2, a3⟩ := H1.out.2 y hy
      exact ⟨(ERead.below a1 HB6.out).more HB6.out.size, a2, a3⟩
    · obtain rfl : y = ⟨t, v, 0, 1, A5, 1, c5, [(v, 1, 1)]⟩ := by simpa using hy
      refine ⟨Reads.appG (W := w5.alloc _) ((Reads.below HE5.out ((Below.refl _ _).alloc (Nat.le_refl _) _)).more (by simp)) HG6.out (fun h0 ad h e => ?_), r1, r2⟩
      have f1 := HF5.out ad h
      have f2 := (hown4lt _ e.symm).2
      omega
  have HK0 : Hid (w6.ownsRow w.heap.size 64 5 (.slice (some ⟨g1, 0, none⟩) (n + 1) c1) (n + 1) (bc (xs ++ [⟨t, v, 0, 1, A5, 1, c5, [(v, 1, 1)]⟩]))) := by
    have := HO6.out; rw [Hid, bc_append]; exact own_mono this hwb
  have HEK : Hid (entsK ((xs ++ [(⟨t, v, 0, 1, A5, 1, c5, [(v, 1, 1)]⟩ : BlkM)]).map bkey) ≤ 4000001) := by
    have := HEn0.out; unfold entsK at this ⊢; rw [Hid]; simp [bkey]; simp at this; omega
  have HAp0 : Hid (Apt P w.heap.size (xs ++ [⟨t, v, 0, 1, A5, 1, c5, [(v, 1, 1)]⟩])) := fun y hy h0 ad h => by
    rcases List.mem_append.1 hy with hy | hy
    · exact .inl (HA0.out y hy h0 ad h)
    · obtain rfl : y = ⟨t, v, 0, 1, A5, 1, c5, [(v, 1, 1)]⟩ := by simpa using hy
      have f1 := HF5.out ad h
      have f2 := HB.out.size
      have f3 := HB4.out.size
      exact .inr (by omega)
  clear HA0
  have HCs : Hid (putRK k b 31 ((xs ++ [(⟨t, v, 0, 1, A5, 1, c5, [(v, 1, 1)]⟩ : BlkM)]).map bkey) 0 = putKC (xs.map bkey) k b t v) := by
    rw [Hid, putKC, List.map_append]; rfl
  have HLn : Hid ((xs ++ [(⟨t, v, 0, 1, A5, 1, c5, [(v, 1, 1)]⟩ : BlkM)]).length = n + 1) := by rw [Hid]; simp; exact HL.out
  generalize xs ++ [(⟨t, v, 0, 1, A5, 1, c5, [(v, 1, 1)]⟩ : BlkM)] = ys0 at *
  have hgb1 : w.heap.size ≤ g1 := by omega
  clear HO6 HG6 HA6 HO4 HO5 HE5 HF5 HB4 HB5 BB5 hown4lt h4 h5 p3 p4
  go_loopg [11, 12] 31 (fun kx s11 s12 wr => ∃ (ys : List BlkM) (m l f g' c' : Nat), s11 = .slice (some ⟨g', 0, none⟩) m c' ∧ s12 = .int .i64 l ∧ 1 ≤ m ∧ m ≤ n + 1 ∧ m ≤ c' ∧ c' ≤ 9223372036854775807 ∧ l + f = 31 ∧ f ≤ kx ∧ w.heap.size ≤ g' ∧ Hid (ys.length = m) ∧ Hid (wr.ownsRow w.heap.size 64 5 (.slice (some ⟨g', 0, none⟩) m c') m (bc ys)) ∧ Hid (EntR wr ys) ∧ Hid (Below w.heap.size w wr) ∧ Hid (entsK (ys.map bkey) ≤ 4000001) ∧ Hid (putRK k b f (ys.map bkey) l = putKC (xs.map bkey) k b t v) ∧ Hid (Apt P w.heap.size ys))
  case atStart => exact ⟨ys0, n + 1, 0, 31, g1, c1, rfl, rfl, by omega, Nat.le_refl _, p1, p2, by omega, Nat.le_refl _, hgb1, HLn, HK0, HEn6, HB6, HEK, HCs, HAp0⟩
  case round =>
    clear HK0 HEn6 HB6 HEK HCs HAp0 HLn HL HEn0 H1 HB p1 p2 r1 r2 q1 q2 hgb1
    obtain ⟨ys, m, l, f, g', c', rfl, rfl, hm1, hmn, hmc, hcm, hlf, hfk, hgb, HLy, HO, HEn, BB, HEK, HE, HAp⟩ := hrel
    have hwsz : w.heap.size ≤ wr.heap.size := BB.out.size
    by_cases hl30 : l ≤ 30
    case neg =>
      obtain rfl : l = 31 := by omega
      obtain rfl : f = 0 := by omega
      go_wp2
      go_ret
      exact ⟨_, m, c', ys, rfl, hmc, hcm, ⟨Reads.of_own HO.out, fun y hy => HEn.out y hy⟩, HE.out, BB.out, (fun ad h => by injection h with h; subst h; show w.heap.size ≤ g'; omega), HAp.out⟩
    obtain ⟨f, rfl⟩ : ∃ f', f = f' + 1 := ⟨f - 1, by omega⟩
    have hb30 : decide ((l : Int) ≤ 30) = true := decide_eq_true (by omega)
    have s0 : IntKind.i64.wrap ((l : Int) + 1) = (l : Int) + 1 := IntWalk.i64_in _ (by omega)
    go_upto_block 2 with fail
    go_cut [13, 14] (fun s13 s14 wx => s13 = .int .i64 (firstTo (plainK (ys.map bkey)) l m) ∧ s14 = .int .i64 (cnt (plainK (ys.map bkey)) l) ∧ Hid (Below wr.heap.size wr wx))
    case first =>
      go_wp2_with fail
      go_loopg [13, 14, 74] m (fun kx s13 s14 s74 wi => ∃ i : Nat, s74 = .int .i64 i ∧ s13 = .int .i64 (firstTo (plainK (ys.map bkey)) l i) ∧ s14 = .int .i64 (cnt ((plainK (ys.map bkey)).take i) l) ∧ i ≤ m ∧ m - i ≤ kx ∧ Hid (Below wr.heap.size wr wi))
      case atStart => exact ⟨0, rfl, rfl, rfl, Nat.zero_le _, by omega, Below.refl _ _⟩
      case round =>
        obtain ⟨i, rfl, rfl, rfl, him, hik, HBi⟩ := hrel
        by_cases hlt : i < m
        case neg =>
          obtain rfl : i = m := by omega
          have hfull : (plainK (ys.map bkey)).take i = plainK (ys.map bkey) := List.take_of_length_le (by rw [plainK_length, List.length_map, HLy.out]; exact Nat.le_refl _)
          rw [hfull]
          go_wp2
          go_meet
          exact ⟨rfl, rfl, HBi⟩
        obtain ⟨x, hx, HX⟩ := own_cells HO.out hlt
        obtain ⟨f1, f2, f3, f4, f5⟩ := HX.out _ HBi.out
        have hat : (atK (ys.map bkey) i).2.2.1 = x.level := by rw [atK_key hx]
        have hcs := cntK_take (ks := ys.map bkey) (i := i) (by rw [List.length_map, HLy.out]; exact hlt) l
        have hfs := firstK (ys.map bkey) l i
        rw [hat] at hcs hfs
        have hcl := cnt_le ((plainK (ys.map bkey)).take i) l
        rw [List.length_take] at hcl
        have HCS := Lib.hid hcs
        have HFS := Lib.hid hfs
        have hws := HBi.out.size
        clear hcs hfs hat hx HX
        generalize x.t = xt at *
        generalize x.last = xl at *
        generalize x.level = lv at *
        generalize x.num = xn at *
        generalize x.adr = xa at *
        generalize x.en = xe at *
        generalize x.ec = xc at *
        generalize firstTo (plainK (ys.map bkey)) l i = fi at *
        generalize cnt ((plainK (ys.map bkey)).take i) l = ci at *
        by_cases e1 : lv = (l : Int)
        case pos =>
          have e1b : (lv == (l : Int)) = true := by simpa using e1
          have HE1 := Lib.hid e1
          clear e1
          by_cases e2 : fi < 0
          · go_wp2
            go_roundg (m - (i + 1))
            case measure => omega
            case rel => exact ⟨i + 1, by go_num, by rw [HFS.out, if_pos ⟨e2, HE1.out⟩], by rw [HCS.out, if_pos HE1.out]; go_num, by omega, by omega, HBi.out.alloc HBi.out.size _⟩
          · go_wp2
            go_roundg (m - (i + 1))
            case measure => omega
            case rel => exact ⟨i + 1, by go_num, by rw [HFS.out, if_neg (fun h => by omega)], by rw [HCS.out, if_pos HE1.out]; go_num, by omega, by omega, HBi.out.alloc HBi.out.size _⟩
        have e1b : (lv == (l : Int)) = false := by simpa using e1
        go_wp2
        go_roundg (m - (i + 1))
        case measure => omega
        case rel => exact ⟨i + 1, by go_num, by rw [HFS.out, if_neg (fun h => e1 h.2)], by rw [HCS.out, if_neg e1]; rfl, by omega, by omega, HBi.out.alloc HBi.out.size _⟩
    case rest =>
    obtain ⟨rfl, rfl, HBi⟩ := hcut
    have hpl : (plainK (ys.map bkey)).length = m := by rw [plainK_length, List.length_map, HLy.out]
    have hcl := cnt_le (plainK (ys.map bkey)) l
    rw [hpl] at hcl
    by_cases hst : cnt (plainK (ys.map bkey)) l ≤ k + 1
    case pos =>
      have HC : Hid (putKC (xs.map bkey) k b t v = ys.map bkey) := by rw [Hid, ← HE.out, putRK_stop hst]
      have hst2 : (cnt (plainK (ys.map bkey)) l : Int) ≤ k + 1 := by omega
      clear hst
      generalize cnt (plainK (ys.map bkey)) l = cc at *
      generalize firstTo (plainK (ys.map bkey)) l m = fi at *
      go_wp2
      go_ret
      exact ⟨_, m, c', ys, rfl, hmc, hcm, ⟨Reads.of_own (own_keep HO.out HBi.out), fun y hy => (EntR.below HEn.out HBi.out) y hy⟩, HC.out.symm, BB.out.trans (HBi.out.mono BB.out.size), (fun ad h => by injection h with h; subst h; show w.heap.size ≤ g'; omega), HAp.out⟩
    have hsp := firstTo_spec (plainK (ys.map bkey)) l m (by rw [hpl]; exact Nat.le_refl _)
    rw [List.take_of_length_le (by rw [hpl]; exact Nat.le_refl _)] at hsp
    obtain ⟨bg, hb1, hb2, hb3⟩ : ∃ bg : Nat, firstTo (plainK (ys.map bkey)) l m = bg ∧ bg < m ∧ cnt (plainK (ys.map bkey)) l ≤ m - bg := by
      rcases hsp with ⟨_, h⟩ | h
      · omega
      · exact h
    have HC : Hid (putRK k b f (joinK b (ys.map bkey) bg l) (l + 1) = putKC (xs.map bkey) k b t v) := by
      have := HE.out
      rw [putRK_go hst, List.length_map, HLy.out, hb1, Int.toNat_natCast] at this
      exact this
    have hst2 : ¬ (cnt (plainK (ys.map bkey)) l : Int) ≤ k + 1 := by omega
    have hb4 : bg + 2 < m := by omega
    rw [hb1]
    clear hsp hst hb1 hb3 HE hpl
    generalize cnt (plainK (ys.map bkey)) l = cc at *
    have HOw := Lib.hid (own_keep HO.out HBi.out)
    have HEw := Lib.hid (EntR.below HEn.out HBi.out)
    have BBw := Lib.hid (BB.out.trans (HBi.out.mono BB.out.size))
    clear HO HEn BB HBi
    obtain ⟨wr, hwr⟩ : ∃ wr, wc = wr := ⟨_, rfl⟩
    rw [hwr] at HOw HEw BBw
    obtain ⟨x, hx, HX⟩ := own_cells HOw.out (show bg < m by omega)
    obtain ⟨y, hy, HY⟩ := own_cells HOw.out (show bg + 1 < m by omega)
    have HLx := Lib.hid (ents_le (List.mem_of_getElem? hx))
    have HLy2 := Lib.hid (ents_le (List.mem_of_getElem? hy))
    have HJ := Lib.hid (fun (nb : BlkM) h => joinM_key (bb := b) (l := (l : Int)) (b := nb) hx hy h)
    have HEx := Lib.hid (HEw.out x (List.mem_of_getElem? hx))
    have HEy := Lib.hid (HEw.out y (List.mem_of_getElem? hy))
    clear hx hy
    rcases x with ⟨xt, xl, xv, xn, xa, xe, xc, xes⟩
    rcases y with ⟨yt, yl, yv, yn, ya, ye, yc, yes⟩
    simp only at HX HY HLx HLy2 HEx HEy
    have hxe : xes.length = xe := HEx.out.1.len
    have hye : yes.length = ye := HEy.out.1.len
    have hxs : xe ≤ 4000001 := by have := HLx.out; have := HEK.out; omega
    have hys : ye ≤ 4000001 := by have := HLy2.out; have := HEK.out; omega
    have t1 : IntKind.i64.wrap ((bg : Int) + 1) = (bg : Int) + 1 := IntWalk.i64_in _ (by omega)
    have t2 : ((bg : Int) + 1).toNat = bg + 1 := by omega
    have t3 : (bg : Int) + 1 < m := by omega
    have t4 : 0 ≤ (bg : Int) + 1 := by omega
    have t5 : (bg : Int) < m := by omega
    rw [hwr]
    clear hwr
    go_upto_region 18 with fail
    go_cut [17, 18] (fun s17 s18 wx => ∃ p q : Nat, s17 = .pointer (some ⟨p, 0, none⟩) ∧ s18 = .pointer (some ⟨q, 0, none⟩) ∧ wr.heap.size ≤ p ∧ wr.heap.size ≤ q ∧ p ≠ q ∧ Hid (Bx wx [(q, 64, #[Value.int IntKind.i64 yt, Value.int IntKind.i64 yl, Value.int IntKind.i64 yv, Value.int IntKind.i64 yn, Value.slice ya ye yc]), (p, 64, #[Value.int IntKind.i64 xt, Value.int IntKind.i64 xl, Value.int IntKind.i64 xv, Value.int IntKind.i64 xn, Value.slice xa xe xc])]) ∧ Hid (Below wr.heap.size wr wx))
    case first =>
      (refine gro.wp_region_heldA [0, 1, 2, 3, 4, 5, 6, 7, 8] 4 12 _ (gro.lasts_below (wr).drew) (by kernel_rfl) (by kernel_rfl) (by intro _ _ _ _ _ h; exact h) (by kernel_rfl) (by kernel_rfl) (by kernel_rfl) (by kernel_rfl) (by kernel_rfl) (by decide) (Below.refl _ _) ?_; apply Exists.intro; refine ⟨fun w0 hb0 => ?_, ?_⟩; focus (replace hb0 := (Below.drew (Below.refl _ (wr))).trans hb0; have KZ := ((gro.Bx.nil_ (W := wr))).below hb0; have RZ := KZ.rules; simp only [gro.Rules] at RZ; (obtain ⟨f1, f2, f3, f4, f5⟩ := HX.out w0 hb0; obtain ⟨k1, k2, k3, k4, k5⟩ := HY.out w0 hb0); simp only [gro.pickA, List.filterMap_cons, List.filterMap_nil, List.getElem?_toArray, List.getElem?_cons_succ, List.getElem?_cons_zero]; change wpQuiet _ _ _ _ (_ :: _ :: _ :: _ :: _ :: _ :: _ :: _ :: _ ::  []) _; (repeat (go_big_quiet_step ((fail)))); exact wpQuiet_nil rfl))
      refine gro.anyM_two 9 10 (by kernel_rfl) rfl rfl ?_ ?_
      · intro y1 hz1 K' hK'
        go_simp
        refine hK' _ _ ⟨fun _ => hz1.alloc hz1.size _, ?_⟩
        clear hK' K'
        obtain ⟨p, hp⟩ : ∃ s, y1.heap.size = s := ⟨_, rfl⟩
        have hs1 := hz1.size
        have SD := hz1.alloc hz1.size (.cells #[Value.int IntKind.i64 0, Value.int IntKind.i64 0, Value.int IntKind.i64 0, Value.int IntKind.i64 0, Value.slice none 0 0] 64)
        have KY := (gro.Bx.nil_ (W := y1)).new (t := 64) (c := #[Value.int IntKind.i64 0, Value.int IntKind.i64 0, Value.int IntKind.i64 0, Value.int IntKind.i64 0, Value.slice none 0 0]) hp
        have sY : (y1.alloc (.cells #[Value.int IntKind.i64 0, Value.int IntKind.i64 0, Value.int IntKind.i64 0, Value.int IntKind.i64 0, Value.slice none 0 0] 64)).heap.size = p + 1 := by simp [hp]
        rw [hp]
        clear hz1
        generalize y1.alloc (.cells #[Value.int IntKind.i64 0, Value.int IntKind.i64 0, Value.int IntKind.i64 0, Value.int IntKind.i64 0, Value.slice none 0 0] 64) = y2 at *
        refine gro.anyM_one 10 (by kernel_rfl) rfl ?_
        intro y3 hz3 K' hK'
        replace SD := SD.trans (hz3.mono SD.size)
        replace KY := KY.below hz3
        have hs3 := hz3.size
        go_simp
        refine hK' _ _ ⟨fun _ => SD.alloc SD.size _, ?_⟩
        clear hK' K'
        obtain ⟨q, hq⟩ : ∃ s, y3.heap.size = s := ⟨_, rfl⟩
        have hab : p < q := by omega
        replace SD := SD.alloc SD.size (.cells #[Value.int IntKind.i64 0, Value.int IntKind.i64 0, Value.int IntKind.i64 0, Value.int IntKind.i64 0, Value.slice none 0 0] 64)
        replace KY := KY.new (t := 64) (c := #[Value.int IntKind.i64 0, Value.int IntKind.i64 0, Value.int IntKind.i64 0, Value.int IntKind.i64 0, Value.slice none 0 0]) hq
        have sY3 : (y3.alloc (.cells #[Value.int IntKind.i64 0, Value.int IntKind.i64 0, Value.int IntKind.i64 0, Value.int IntKind.i64 0, Value.slice none 0 0] 64)).heap.size = q + 1 := by simp [hq]
        have hpw : wr.heap.size ≤ p := by rw [← hp]; exact hs1
        have hqw : wr.heap.size ≤ q := by omega
        rw [hq]
        clear hz3
        generalize y3.alloc (.cells #[Value.int IntKind.i64 0, Value.int IntKind.i64 0, Value.int IntKind.i64 0, Value.int IntKind.i64 0, Value.slice none 0 0] 64) = y4 at *
        refine gro.anyM_one 11 (by kernel_rfl) rfl ?_
        intro y5 hz5 K' hK'
        replace SD := SD.trans (hz5.mono SD.size)
        replace KY := (KY.below hz5).perm (L' := [(p, 64, #[Value.int IntKind.i64 0, Value.int IntKind.i64 0, Value.int IntKind.i64 0, Value.int IntKind.i64 0, Value.slice none 0 0]), (q, 64, #[Value.int IntKind.i64 0, Value.int IntKind.i64 0, Value.int IntKind.i64 0, Value.int IntKind.i64 0, Value.slice none 0 0])]) (by simp)
        have RY := KY.rules
        simp only [Rules] at RY
        have hs5 := hz5.size
        go_simp
        have SD5 := ((((SD.setCell (p := ⟨p, 0, none⟩) (by show wr.heap.size ≤ p; omega) (Value.int IntKind.i64 xt)).setCell (p := ⟨p, 1, none⟩) (by show wr.heap.size ≤ p; omega) (Value.int IntKind.i64 xl)).setCell (p := ⟨p, 2, none⟩) (by show wr.heap.size ≤ p; omega) (Value.int IntKind.i64 xv)).setCell (p := ⟨p, 3, none⟩) (by show wr.heap.size ≤ p; omega) (Value.int IntKind.i64 xn)).setCell (p := ⟨p, 4, none⟩) (by show wr.heap.size ≤ p; omega) (Value.slice xa xe xc)
        refine hK' _ _ ⟨fun _ => SD5, ?_⟩
        clear hK' K' RY
        replace KY := (blk.Bx.put5 (u0 := Value.int IntKind.i64 xt) (u1 := Value.int IntKind.i64 xl) (u2 := Value.int IntKind.i64 xv) (u3 := Value.int IntKind.i64 xn) (u4 := Value.slice xa xe xc) KY (by simp; omega)).perm (L' := [(q, 64, #[Value.int IntKind.i64 0, Value.int IntKind.i64 0, Value.int IntKind.i64 0, Value.int IntKind.i64 0, Value.slice none 0 0]), (p, 64, #[Value.int IntKind.i64 xt, Value.int IntKind.i64 xl, Value.int IntKind.i64 xv, Value.int IntKind.i64 xn, Value.slice xa xe xc])]) (by simp)
        refine gro.anyM_one 12 (by kernel_rfl) rfl ?_
        intro y7 hz7 K' hK'
        replace SD := SD5.trans (hz7.mono SD5.size)
        replace KY := KY.below hz7
        have RY := KY.rules
        simp only [Rules] at RY
        go_simp
        refine hK' _ _ ⟨fun h => absurd (show true = false from h) (by decide), ?_⟩
        clear hK' K' RY SD5
        replace KY := blk.Bx.put5 (u0 := Value.int IntKind.i64 yt) (u1 := Value.int IntKind.i64 yl) (u2 := Value.int IntKind.i64 yv) (u3 := Value.int IntKind.i64 yn) (u4 := Value.slice ya ye yc) KY (by simp; omega)
        have SD7 := ((((SD.setCell (p := ⟨q, 0, none⟩) (by show wr.heap.size ≤ q; omega) (Value.int IntKind.i64 yt)).setCell (p := ⟨q, 1, none⟩) (by show wr.heap.size ≤ q; omega) (Value.int IntKind.i64 yl)).setCell (p := ⟨q, 2, none⟩) (by show wr.heap.size ≤ q; omega) (Value.int IntKind.i64 yv)).setCell (p := ⟨q, 3, none⟩) (by show wr.heap.size ≤ q; omega) (Value.int IntKind.i64 yn)).setCell (p := ⟨q, 4, none⟩) (by show wr.heap.size ≤ q; omega) (Value.slice ya ye yc)
        refine gro.anyM_done (by kernel_rfl) ?_
        intro y9 hz9
        go_wp2_with fail
        go_meet
        exact ⟨p, q, rfl, rfl, by omega, by omega, by omega, Lib.hid (KY.below hz9), Lib.hid (((Below.refl _ _).drew).trans (SD7.trans (hz9.mono SD7.size)))⟩
      · intro y1 hz1 K' hK'
        go_simp
        refine hK' _ _ ⟨fun _ => hz1.alloc hz1.size _, ?_⟩
        clear hK' K'
        obtain ⟨q, hq⟩ : ∃ s, y1.heap.size = s := ⟨_, rfl⟩
        have hs1 := hz1.size
        have SD := hz1.alloc hz1.size (.cells #[Value.int IntKind.i64 0, Value.int IntKind.i64 0, Value.int IntKind.i64 0, Value.int IntKind.i64 0, Value.slice none 0 0] 64)
        have KY := (gro.Bx.nil_ (W := y1)).new (t := 64) (c := #[Value.int IntKind.i64 0, Value.int IntKind.i64 0, Value.int IntKind.i64 0, Value.int IntKind.i64 0, Value.slice none 0 0]) hq
        have sY : (y1.alloc (.cells #[Value.int IntKind.i64 0, Value.int IntKind.i64 0, Value.int IntKind.i64 0, Value.int IntKind.i64 0, Value.slice none 0 0] 64)).heap.size = q + 1 := by simp [hq]
        rw [hq]
        clear hz1
        generalize y1.alloc (.cells #[Value.int IntKind.i64 0, Value.int IntKind.i64 0, Value.int IntKind.i64 0, Value.int IntKind.i64 0, Value.slice none 0 0] 64) = y2 at *
        refine gro.anyM_one 9 (by kernel_rfl) rfl ?_
        intro y3 hz3 K' hK'
        replace SD := SD.trans (hz3.mono SD.size)
        replace KY := KY.below hz3
        have hs3 := hz3.size
        go_simp
        refine hK' _ _ ⟨fun _ => SD.alloc SD.size _, ?_⟩
        clear hK' K'
        obtain ⟨p, hp⟩ : ∃ s, y3.heap.size = s := ⟨_, rfl⟩
        have hab : q < p := by omega
        replace SD := SD.alloc SD.size (.cells #[Value.int IntKind.i64 0, Value.int IntKind.i64 0, Value.int IntKind.i64 0, Value.int IntKind.i64 0, Value.slice none 0 0] 64)
        replace KY := KY.new (t := 64) (c := #[Value.int IntKind.i64 0, Value.int IntKind.i64 0, Value.int IntKind.i64 0, Value.int IntKind.i64 0, Value.slice none 0 0]) hp
        have sY3 : (y3.alloc (.cells #[Value.int IntKind.i64 0, Value.int IntKind.i64 0, Value.int IntKind.i64 0, Value.int IntKind.i64 0, Value.slice none 0 0] 64)).heap.size = p + 1 := by simp [hp]
        have hpw : wr.heap.size ≤ q := by rw [← hq]; exact hs1
        have hqw : wr.heap.size ≤ p := by omega
        rw [hp]
        clear hz3
        generalize y3.alloc (.cells #[Value.int IntKind.i64 0, Value.int IntKind.i64 0, Value.int IntKind.i64 0, Value.int IntKind.i64 0, Value.slice none 0 0] 64) = y4 at *
        refine gro.anyM_one 11 (by kernel_rfl) rfl ?_
        intro y5 hz5 K' hK'
        replace SD := SD.trans (hz5.mono SD.size)
        replace KY := (KY.below hz5).perm (L' := [(p, 64, #[Value.int IntKind.i64 0, Value.int IntKind.i64 0, Value.int IntKind.i64 0, Value.int IntKind.i64 0, Value.slice none 0 0]), (q, 64, #[Value.int IntKind.i64 0, Value.int IntKind.i64 0, Value.int IntKind.i64 0, Value.int IntKind.i64 0, Value.slice none 0 0])]) (by simp)
        have RY := KY.rules
        simp only [Rules] at RY
        have hs5 := hz5.size
        go_simp
        have SD5 := ((((SD.setCell (p := ⟨p, 0, none⟩) (by show wr.heap.size ≤ p; omega) (Value.int IntKind.i64 xt)).setCell (p := ⟨p, 1, none⟩) (by show wr.heap.size ≤ p; omega) (Value.int IntKind.i64 xl)).setCell (p := ⟨p, 2, none⟩) (by show wr.heap.size ≤ p; omega) (Value.int IntKind.i64 xv)).setCell (p := ⟨p, 3, none⟩) (by show wr.heap.size ≤ p; omega) (Value.int IntKind.i64 xn)).setCell (p := ⟨p, 4, none⟩) (by show wr.heap.size ≤ p; omega) (Value.slice xa xe xc)
        refine hK' _ _ ⟨fun _ => SD5, ?_⟩
        clear hK' K' RY
        replace KY := (blk.Bx.put5 (u0 := Value.int IntKind.i64 xt) (u1 := Value.int IntKind.i64 xl) (u2 := Value.int IntKind.i64 xv) (u3 := Value.int IntKind.i64 xn) (u4 := Value.slice xa xe xc) KY (by simp; omega)).perm (L' := [(q, 64, #[Value.int IntKind.i64 0, Value.int IntKind.i64 0, Value.int IntKind.i64 0, Value.int IntKind.i64 0, Value.slice none 0 0]), (p, 64, #[Value.int IntKind.i64 xt, Value.int IntKind.i64 xl, Value.int IntKind.i64 xv, Value.int IntKind.i64 xn, Value.slice xa xe xc])]) (by simp)
        refine gro.anyM_one 12 (by kernel_rfl) rfl ?_
        intro y7 hz7 K' hK'
        replace SD := SD5.trans (hz7.mono SD5.size)
        replace KY := KY.below hz7
        have RY := KY.rules
        simp only [Rules] at RY
        go_simp
        refine hK' _ _ ⟨fun h => absurd (show true = false from h) (by decide), ?_⟩
        clear hK' K' RY SD5
        replace KY := blk.Bx.put5 (u0 := Value.int IntKind.i64 yt) (u1 := Value.int IntKind.i64 yl) (u2 := Value.int IntKind.i64 yv) (u3 := Value.int IntKind.i64 yn) (u4 := Value.slice ya ye yc) KY (by simp; omega)
        have SD7 := ((((SD.setCell (p := ⟨q, 0, none⟩) (by show wr.heap.size ≤ q; omega) (Value.int IntKind.i64 yt)).setCell (p := ⟨q, 1, none⟩) (by show wr.heap.size ≤ q; omega) (Value.int IntKind.i64 yl)).setCell (p := ⟨q, 2, none⟩) (by show wr.heap.size ≤ q; omega) (Value.int IntKind.i64 yv)).setCell (p := ⟨q, 3, none⟩) (by show wr.heap.size ≤ q; omega) (Value.int IntKind.i64 yn)).setCell (p := ⟨q, 4, none⟩) (by show wr.heap.size ≤ q; omega) (Value.slice ya ye yc)
        refine gro.anyM_done (by kernel_rfl) ?_
        intro y9 hz9
        go_wp2_with fail
        go_meet
        exact ⟨p, q, rfl, rfl, by omega, by omega, by omega, Lib.hid (KY.below hz9), Lib.hid (((Below.refl _ _).drew).trans (SD7.trans (hz9.mono SD7.size)))⟩
    case rest =>
    obtain ⟨p, q, rfl, rfl, hpw, hqw, hpq, KK, BQ⟩ := hcut
    have hszc := BQ.out.size
    have HM := Lib.hid (fun W (hb : Below wr.heap.size wr W) => MergeRF_any xn xa xe xc xes yn ya ye yc yes W ((ERead.below HEx.out.1 hb).more hb.size) ((ERead.below HEy.out.1 hb).more hb.size) (by omega) (by omega))
    clear HX HY t1 t2 t3 t4 t5 HEx HEy
    have R := KK.out.rules
    simp only [Rules] at R
    go_wp2_with fail
    (with_reducible refine (HM.out _ BQ.out).mono ?_)
    rintro e w5 ⟨Am, mm, cm, rfl, m1, m2, m3, hb5, hfm5⟩
    have HAf := Lib.hid (fun ad (h : Am = some ad) => show w.heap.size ≤ ad.block by have h1 := hfm5 ad h; have h2 := BQ.out.size; have h3 := BBw.out.size; omega)
    clear hfm5
    have hml := m3.len
    have hmm : mm ≤ 8000002 := by
      rw [← hml]
      unfold mrgP
      split
      · simp only; rw [merge_len]; omega
      · simp
    have HTW : Hid (twoR b (xt, xl, xv, xn, xes) (yt, yl, yv, yn, yes) = pruP (mrgP xn xes yn yes).1 b (mrgP xn xes yn yes).2) := rfl
    generalize (mrgP xn xes yn yes).1 = N1 at *
    generalize (mrgP xn xes yn yes).2 = es1 at *
    have BQ5 := Lib.hid (BQ.out.trans (hb5.mono BQ.out.size))
    have KK5 := Lib.hid (KK.out.below hb5)
    have hs5 := hb5.size
    have HAm := Lib.hid (fun h0 ad (h : Am = some ad) => rnk.Reads.blk m3 h0 ad h)
    obtain ⟨r, hr⟩ : ∃ r, w5.heap.size = r := ⟨_, rfl⟩
    have hqr : q < r := by have := (KK5.out _ (List.mem_cons_self ..)).lt; rw [hr] at this; exact this
    have hpr : p < r := by have := (KK5.out.tail _ (List.mem_cons_self ..)).lt; rw [hr] at this; exact this
    have BZ := Lib.hid (BQ5.out.alloc BQ5.out.size (.cells #[Value.int IntKind.i64 N1, Value.slice Am mm cm] 46))
    have KZ := Lib.hid (KK5.out.new (t := 46) (c := #[Value.int IntKind.i64 N1, Value.slice Am mm cm]) hr)
    have HMZ := Lib.hid ((ERead.below m3 ((Below.refl _ _).alloc (Nat.le_refl _) (.cells #[Value.int IntKind.i64 N1, Value.slice Am mm cm] 46))).more (B' := (w5.alloc (.cells #[Value.int IntKind.i64 N1, Value.slice Am mm cm] 46)).heap.size) (by simp))
    clear R m3 hb5 KK KK5 BQ BQ5 HM
    go_wp2_with fail
    obtain ⟨W6, hW, K6, B6, z6⟩ := name_world KZ.out BZ.out (s := r + 1) (by simp; omega)
    rw [hW]
    rw [hW] at HMZ
    have HAr : Hid (0 < mm → ∀ ad, Am = some ad → ad.block < r) := by have := HAm.out; rw [hr] at this; exact this
    clear hW KZ BZ hr HAm
    have R := K6.rules
    simp only [Rules] at R
    have HP := Lib.hid (PruneR_any N1 Am mm cm es1 b W6 HMZ.out (by omega) m1 m2)
    (with_reducible refine (HP.out).mono ?_)
    rintro e w7 ⟨Ap, mp, cp, rfl, n1, n2, n3, hb7, hfr7⟩
    have HTK : Hid (twoR b (bkey ⟨xt, xl, xv, xn, xa, xe, xc, xes⟩) (bkey ⟨yt, yl, yv, yn, ya, ye, yc, yes⟩) = twoR b (xt, xl, xv, xn, xes) (yt, yl, yv, yn, yes)) := rfl
    rw [show (pruP N1 b es1).1 = (twoR b (xt, xl, xv, xn, xes) (yt, yl, yv, yn, yes)).1 by rw [HTW.out]]
    have n3' : ERead w7 w7.heap.size Ap mp (twoR b (xt, xl, xv, xn, xes) (yt, yl, yv, yn, yes)).2 := by rw [HTW.out]; exact n3
    have hpe : (pruP N1 b es1).2.length ≤ es1.length := by
      unfold pruP
      split
      · rename_i hok
        exact pruL_len (by unfold pruOk at hok; simp at hok; omega)
      · simp
    have hApr : 0 < mp → ∀ ad, Ap = some ad → ad.block ≠ r := fun h0 ad h => by
      rcases hfr7 ad h with h2 | h2
      · omega
      · have hl := n3.len
        have := HAr.out (by omega) ad h2
        omega
    have HAp1 := Lib.hid (show 0 < mp → ∀ ad, Ap = some ad → w.heap.size ≤ ad.block from fun h0 ad h => by
      rcases hfr7 ad h with h2 | h2
      · have h3 := B6.size; have h4 := BBw.out.size; omega
      · exact HAf.out ad h2)
    clear HAf
    generalize twoR b (xt, xl, xv, xn, xes) (yt, yl, yv, yn, yes) = tw at *
    have K7 := K6.below hb7
    have B7 := B6.trans (hb7.mono B6.size)
    have hs7 := hb7.size
    have R7 := K7.rules
    simp only [Rules] at R7
    clear R HMZ HP K6 B6 hb7 n3 hfr7 hpe HAr
    go_upto_region 21 with fail
    have KU := Lib.hid (Bx.put2 (u := Value.int IntKind.i64 tw.1) (v := Value.slice Ap mp cp) K7 (by simp; omega))
    have BU := Lib.hid ((B7.setCell (p := ⟨r, 0, none⟩) (by show wr.heap.size ≤ r; omega) (Value.int IntKind.i64 tw.1)).setCell (p := ⟨r, 1, none⟩) (by show wr.heap.size ≤ r; omega) (Value.slice Ap mp cp))
    have HNU := Lib.hid (Reads.more (B' := ((w7.setCell ⟨r, 0, none⟩ (Value.int IntKind.i64 tw.1)).setCell ⟨r, 1, none⟩ (Value.slice Ap mp cp)).heap.size) (rnk.Reads.far (rnk.Reads.far n3' ⟨r, 0, none⟩ hApr (Value.int IntKind.i64 tw.1)) ⟨r, 1, none⟩ hApr (Value.slice Ap mp cp)) (by simp [World.setCell]))
    have hsu : r + 1 ≤ ((w7.setCell ⟨r, 0, none⟩ (Value.int IntKind.i64 tw.1)).setCell ⟨r, 1, none⟩ (Value.slice Ap mp cp)).heap.size := by simp [World.setCell]; omega
    clear R7 K7 B7 n3' hApr
    generalize (w7.setCell ⟨r, 0, none⟩ (Value.int IntKind.i64 tw.1)).setCell ⟨r, 1, none⟩ (Value.slice Ap mp cp) = W7 at *
    have R := KU.out.rules
    simp only [Rules] at R
    -- the box of both
    obtain ⟨gb, hgbx⟩ : ∃ s, W7.heap.size = s := ⟨_, rfl⟩
    have BZ := Lib.hid (BU.out.alloc BU.out.size (.cells #[Value.int IntKind.i64 yt, Value.int IntKind.i64 yl, Value.int IntKind.i64 ((l : Int) + 1), Value.int IntKind.i64 tw.1, Value.slice Ap mp cp] 64))
    have KZ := Lib.hid (KU.out.new (t := 64) (c := #[Value.int IntKind.i64 yt, Value.int IntKind.i64 yl, Value.int IntKind.i64 ((l : Int) + 1), Value.int IntKind.i64 tw.1, Value.slice Ap mp cp]) hgbx)
    have HNZ := Lib.hid ((ERead.below HNU.out ((Below.refl _ _).alloc (Nat.le_refl _) (.cells #[Value.int IntKind.i64 yt, Value.int IntKind.i64 yl, Value.int IntKind.i64 ((l : Int) + 1), Value.int IntKind.i64 tw.1, Value.slice Ap mp cp] 64))).more (B' := (W7.alloc (.cells #[Value.int IntKind.i64 yt, Value.int IntKind.i64 yl, Value.int IntKind.i64 ((l : Int) + 1), Value.int IntKind.i64 tw.1, Value.slice Ap mp cp] 64)).heap.size) (by simp))
    go_upto_region 22 with fail
    obtain ⟨W8, hW, K8, B8, z8⟩ := name_world KZ.out BZ.out (s := gb + 1) (by simp; omega)
    rw [hW]
    rw [hW] at HNZ
    clear hW KZ BZ hgbx R KU BU HNU
    have KK := Lib.hid (K8.perm (L' := [(gb, 64, #[Value.int IntKind.i64 yt, Value.int IntKind.i64 yl, Value.int IntKind.i64 ((l : Int) + 1), Value.int IntKind.i64 tw.1, Value.slice Ap mp cp])]) (by simp))
    have R := KK.out.rules
    simp only [Rules] at R
    have HO8 := Lib.hid (own_keep HOw.out B8)
    have HE8 := Lib.hid (EntR.below HEw.out B8)
    have BB8 := Lib.hid (BBw.out.trans (B8.mono BBw.out.size))
    have hgl : g' < wr.heap.size := own_lt HOw.out
    have hw8 := B8.size
    have HKy := Lib.hid (HJ.out ⟨yt, yl, (l : Int) + 1, tw.1, Ap, mp, cp, tw.2⟩ (by rw [HTK.out]; rfl))
    have HRa : Hid (Reads W8 W8.heap.size 5 (some ⟨g', 0, none⟩) bg (bc (ys.take bg))) := by
      have := (own_reads HO8.out (Nat.zero_le _)).front (show bg ≤ m - 0 by omega)
      rw [Hid, bc_take]
      exact Reads.more (by simpa using this) (by omega)
    have HRb : Hid (Reads W8 W8.heap.size 5 (some ⟨g', (bg + 2) * 5, none⟩) (m - (bg + 2)) (bc (ys.drop (bg + 2)))) := by
      have := own_cut HO8.out (k := bg + 2) (by omega) hmc
      rw [if_neg (by omega)] at this
      rw [Hid, bc_drop]
      exact Reads.more this (by omega)
    have s1 : IntKind.i64.wrap ((bg : Int) + 2) = (bg : Int) + 2 := IntWalk.i64_in _ (by omega)
    have s2 : ((bg : Int) + 2).toNat = bg + 2 := by omega
    have s3 : (bg : Int) ≤ c' := by omega
    have s4 : (bg : Int) + 2 ≤ m := by omega
    have s5 : 0 ≤ (bg : Int) + 2 := by omega
    have s6 : (m : Int) ≤ c' := by omega
    have s7 : 0 ≤ (bg : Int) := by omega
    clear K8 B8 HOw HEw BBw HO8
    (refine gro.wp_region_heldA [1, 2, 3, 5, 8, 9, 10, 11] 6 13 _ (gro.lasts_bx _) (by kernel_rfl) (by kernel_rfl) (by intro _ _ _ _ _ h; exact h) (by kernel_rfl) (by kernel_rfl) (by kernel_rfl) (by kernel_rfl) (by kernel_rfl) (by decide) (KK.out).drew ?_; apply Exists.intro; refine ⟨fun w0 hb0 => ?_, ?_⟩; focus (have RZ := gro.Bx.rules hb0; simp only [gro.Rules] at RZ; simp only [gro.pickA, List.filterMap_cons, List.filterMap_nil, List.getElem?_toArray, List.getElem?_cons_succ, List.getElem?_cons_zero]; change wpQuiet _ _ _ _ (_ :: _ :: _ :: _ :: _ :: _ :: _ :: _ ::  []) _; (repeat (go_big_quiet_step ((fail)))); exact wpQuiet_nil rfl))
    have B0 : Below W8.heap.size W8 W8.drew := (Below.refl _ _).drew
    refine gro.anyM_two 0 6 (by kernel_rfl) rfl rfl ?_ ?_
    · skip
      intro y1 hz1 K' hK'
      have BZ1 := B0.trans (hz1.mono B0.size)
      go_simp
      refine hK' _ _ ⟨fun _ => (KK.out.below BZ1).alloc _, ?_⟩
      clear hK' K'
      obtain ⟨z1, hy1⟩ : ∃ z, y1.alloc (.cells #[] 64) = z := ⟨_, rfl⟩
      have hA1 : Below y1.heap.size y1 z1 := by rw [← hy1]; exact (Below.refl _ _).alloc (Nat.le_refl _) _
      have BA1 := BZ1.trans (hA1.mono BZ1.size)
      have HV1 : z1.ownsRow W8.heap.size 64 5 (.slice (some ⟨y1.heap.size, 0, none⟩) 0 0) 0 [] := by rw [← hy1]; exact own_empty2 rfl BZ1.size
      rw [hy1]
      clear hz1 hA1 hy1
      refine gro.anyM_two 4 6 (by kernel_rfl) rfl rfl ?_ ?_
      · skip
        intro y2 hz2 K' hK'
        have BZ2 := BA1.trans (hz2.mono BA1.size)
        have HU2 := own_keep HV1 hz2
        refine step_append_any _ (by rfl) (.tmp 125) (.tmp 128) 22 rfl W8.heap.size 64 i0 (.agg #[.int .i64 0, .int .i64 0, .int .i64 0, .int .i64 0, .slice none 0 0]) 5 56 Try.underlying22 HI.out HZ0.out HZ1.out HZ2.out rfl (by omega) ((.slice (some ⟨y1.heap.size, 0, none⟩) 0 0)) (0) ([]) (by rfl) HU2 _ (some ⟨g', 0, none⟩) (bg) (c') (bc (ys.take bg)) (by rfl) (Reads.below (HRa.out) BZ2) (bc_oneCell _) (by unfold maxLen; omega) (by omega) BZ2.size ?_
        intro v2 w2 hown2 hg2 hat2
        have BG2 := below_own hg2 HU2 BZ2 (Nat.le_refl _) BZ2.size
        refine hK' _ _ ⟨fun _ => KK.out.below BG2, ?_⟩
        clear hK' K' hg2 hat2
        refine gro.anyM_one 6 (by kernel_rfl) rfl ?_
        intro y3 hz3 K' hK'
        have BZ3 := BG2.trans (hz3.mono BG2.size)
        have HU3 := own_keep hown2 hz3
        go_simp
        refine hK' _ _ ⟨fun _ => (KK.out.below BZ3).alloc _, ?_⟩
        clear hK' K'
        obtain ⟨z3, hy3⟩ : ∃ z, y3.alloc (.cells #[Value.int IntKind.i64 yt, Value.int IntKind.i64 yl, Value.int IntKind.i64 ((l : Int) + 1), Value.int IntKind.i64 tw.1, Value.slice Ap mp cp] 64) = z := ⟨_, rfl⟩
        have hA3 : Below y3.heap.size y3 z3 := by rw [← hy3]; exact (Below.refl _ _).alloc (Nat.le_refl _) _
        have BA3 := BZ3.trans (hA3.mono BZ3.size)
        have HV3 := own_keep HU3 hA3
        have HF3 : Reads z3 z3.heap.size 5 (some ⟨y3.heap.size, 0, none⟩) 1 [Value.int IntKind.i64 yt, Value.int IntKind.i64 yl, Value.int IntKind.i64 ((l : Int) + 1), Value.int IntKind.i64 tw.1, Value.slice Ap mp cp] := by rw [← hy3]; exact Reads.more (reads_new y3 64 #[Value.int IntKind.i64 yt, Value.int IntKind.i64 yl, Value.int IntKind.i64 ((l : Int) + 1), Value.int IntKind.i64 tw.1, Value.slice Ap mp cp] rfl) (by simp)
        have le3 : y3.heap.size + 1 ≤ z3.heap.size := by rw [← hy3]; simp
        have hd3 : some y3.heap.size ≠ (Value.ownBlock v2) := fun e => by have h1 := (World.ownsRow.lt HU3 _ e.symm).2; omega
        rw [hy3]
        clear hz3 hA3 hy3
        refine gro.anyM_one 7 (by kernel_rfl) rfl ?_
        intro y4 hz4 K' hK'
        have BZ4 := BA3.trans (hz4.mono BA3.size)
        have HU4 := own_keep HV3 hz4
        have HE4 := (Reads.below HF3 hz4).more hz4.size
        refine step_append_any _ (by rfl) (.tmp 129) (.tmp 131) 22 rfl W8.heap.size 64 i0 (.agg #[.int .i64 0, .int .i64 0, .int .i64 0, .int .i64 0, .slice none 0 0]) 5 56 Try.underlying22 HI.out HZ0.out HZ1.out HZ2.out rfl (by omega) (v2) (0 + (bg)) ([] ++ (bc (ys.take bg))) (by rfl) HU4 _ _ (1) (1) _ (by rfl) HE4 (by simp [Value.oneCell']) (by unfold maxLen; omega) (by omega) BZ4.size ?_
        intro v4 w4 hown4 hg4 hat4
        have BG4 := below_own hg4 HU4 BZ4 (Nat.le_refl _) BZ4.size
        refine hK' _ _ ⟨fun _ => KK.out.below BG4, ?_⟩
        clear hK' K' hg4 hat4
        refine gro.anyM_one 12 (by kernel_rfl) rfl ?_
        intro y5 hz5 K' hK'
        have BZ5 := BG4.trans (hz5.mono BG4.size)
        have HU5 := own_keep hown4 hz5
        refine step_append_any _ (by rfl) (.tmp 132) (.tmp 136) 22 rfl W8.heap.size 64 i0 (.agg #[.int .i64 0, .int .i64 0, .int .i64 0, .int .i64 0, .slice none 0 0]) 5 56 Try.underlying22 HI.out HZ0.out HZ1.out HZ2.out rfl (by omega) (v4) (0 + (bg) + (1)) ([] ++ (bc (ys.take bg)) ++ [Value.int IntKind.i64 yt, Value.int IntKind.i64 yl, Value.int IntKind.i64 ((l : Int) + 1), Value.int IntKind.i64 tw.1, Value.slice Ap mp cp]) (by rfl) HU5 _ _ (m - (bg + 2)) (c' - (bg + 2)) (bc (ys.drop (bg + 2))) (by rfl) (Reads.below (HRb.out) BZ5) (bc_oneCell _) (by unfold maxLen; omega) (by omega) BZ5.size ?_
        intro v5 w5 hown5 hg5 hat5
        have BG5 := below_own hg5 HU5 BZ5 (Nat.le_refl _) BZ5.size
        refine hK' _ _ ⟨fun _ => KK.out.below BG5, ?_⟩
        clear hK' K' hg5 hat5
        obtain ⟨g7, c7, rfl, r1, r2, r3, r4⟩ := own_form2 hown5 (by omega)
        refine gro.anyM_one 13 (by kernel_rfl) rfl ?_
        intro y6 hz6 K' hK'
        have BZ6 := BG5.trans (hz6.mono BG5.size)
        have HU6 := own_keep hown5 hz6
        go_simp
        refine hK' _ _ ⟨fun h => absurd (show true = false from h) (by decide), ?_⟩
        clear hK' K'
        refine gro.anyM_done (by kernel_rfl) ?_
        intro y7 hz7
        have B7 := Lib.hid (BZ6.trans (hz7.mono BZ6.size))
        have HO7 := Lib.hid (own_keep HU6 hz7)
        have hlen7 : 0 + bg + 1 + (m - (bg + 2)) = bg + 1 + (m - (bg + 2)) := by omega
        have HO9 : Hid (y7.ownsRow w.heap.size 64 5 (.slice (some ⟨g7, 0, none⟩) (bg + 1 + (m - (bg + 2))) c7) (bg + 1 + (m - (bg + 2))) (bc (joinM ys bg ⟨yt, yl, (l : Int) + 1, tw.1, Ap, mp, cp, tw.2⟩))) := by
          have h := own_mono HO7.out BB8.out.size
          have e : [] ++ bc (ys.take bg) ++ [Value.int IntKind.i64 yt, Value.int IntKind.i64 yl, Value.int IntKind.i64 ((l : Int) + 1), Value.int IntKind.i64 tw.1, Value.slice Ap mp cp] ++ bc (ys.drop (bg + 2)) = bc (joinM ys bg ⟨yt, yl, (l : Int) + 1, tw.1, Ap, mp, cp, tw.2⟩) := by
            rw [joinM, bc_append, bc_cons]; simp
          rw [e, hlen7] at h
          exact h
        have HE9 : Hid (EntR y7 (joinM ys bg ⟨yt, yl, (l : Int) + 1, tw.1, Ap, mp, cp, tw.2⟩)) := fun z hz => by
          have h8 := EntR.below HE8.out B7.out
          unfold joinM at hz
          rcases List.mem_append.1 hz with h | h
          · exact h8 z (List.mem_of_mem_take h)
          · rcases List.mem_cons.1 h with rfl | h
            · exact ⟨(ERead.below HNZ.out B7.out).more B7.out.size, n1, n2⟩
            · exact h8 z (List.mem_of_mem_drop h)
        have HLj : Hid ((joinM ys bg (⟨yt, yl, (l : Int) + 1, tw.1, Ap, mp, cp, tw.2⟩ : BlkM)).length = bg + 1 + (m - (bg + 2))) := by rw [Hid, joinM_len (by rw [HLy.out]; omega), HLy.out]; omega
        have HEK5 : Hid (entsK ((joinM ys bg (⟨yt, yl, (l : Int) + 1, tw.1, Ap, mp, cp, tw.2⟩ : BlkM)).map bkey) ≤ 4000001) := by
          rw [Hid, HKy.out]
          exact Nat.le_trans (joinK_ents (by rw [List.length_map, HLy.out]; omega)) HEK.out
        have HC5 : Hid (putRK k b f ((joinM ys bg (⟨yt, yl, (l : Int) + 1, tw.1, Ap, mp, cp, tw.2⟩ : BlkM)).map bkey) (l + 1) = putKC (xs.map bkey) k b t v) := by
          rw [Hid, HKy.out]; exact HC.out
        rw [hlen7] at r1
        go_wp2
        go_roundg f
        case measure => omega
        case rel => exact ⟨joinM ys bg ⟨yt, yl, (l : Int) + 1, tw.1, Ap, mp, cp, tw.2⟩, bg + 1 + (m - (bg + 2)), l + 1, f, g7, c7, rfl, by go_num, by omega, by omega, r1, r2, by omega, Nat.le_refl _, by have := BB8.out.size; omega, HLj, HO9, HE9, BB8.out.trans (B7.out.mono BB8.out.size), HEK5, HC5, fun z hz h0 ad h => by
            unfold joinM at hz
            rcases List.mem_append.1 hz with h1 | h1
            · exact HAp.out z (List.mem_of_mem_take h1) h0 ad h
            · rcases List.mem_cons.1 h1 with rfl | h1
              · exact .inr (HAp1.out h0 ad h)
              · exact HAp.out z (List.mem_of_mem_drop h1) h0 ad h⟩
      · skip
        intro y8 hz8 K' hK'
        have BZ8 := BA1.trans (hz8.mono BA1.size)
        have HU8 := own_keep HV1 hz8
        go_simp
        refine hK' _ _ ⟨fun _ => (KK.out.below BZ8).alloc _, ?_⟩
        clear hK' K'
        obtain ⟨z8, hy8⟩ : ∃ z, y8.alloc (.cells #[Value.int IntKind.i64 yt, Value.int IntKind.i64 yl, Value.int IntKind.i64 ((l : Int) + 1), Value.int IntKind.i64 tw.1, Value.slice Ap mp cp] 64) = z := ⟨_, rfl⟩
        have hA8 : Below y8.heap.size y8 z8 := by rw [← hy8]; exact (Below.refl _ _).alloc (Nat.le_refl _) _
        have BA8 := BZ8.trans (hA8.mono BZ8.size)
        have HV8 := own_keep HU8 hA8
        have HF8 : Reads z8 z8.heap.size 5 (some ⟨y8.heap.size, 0, none⟩) 1 [Value.int IntKind.i64 yt, Value.int IntKind.i64 yl, Value.int IntKind.i64 ((l : Int) + 1), Value.int IntKind.i64 tw.1, Value.slice Ap mp cp] := by rw [← hy8]; exact Reads.more (reads_new y8 64 #[Value.int IntKind.i64 yt, Value.int IntKind.i64 yl, Value.int IntKind.i64 ((l : Int) + 1), Value.int IntKind.i64 tw.1, Value.slice Ap mp cp] rfl) (by simp)
        have le8 : y8.heap.size + 1 ≤ z8.heap.size := by rw [← hy8]; simp
        have hd8 : some y8.heap.size ≠ (Value.ownBlock (.slice (some ⟨y1.heap.size, 0, none⟩) 0 0)) := fun e => by have h1 := (World.ownsRow.lt HU8 _ e.symm).2; omega
        rw [hy8]
        clear hz8 hA8 hy8
        refine gro.anyM_one 4 (by kernel_rfl) rfl ?_
        intro y9 hz9 K' hK'
        have BZ9 := BA8.trans (hz9.mono BA8.size)
        have HU9 := own_keep HV8 hz9
        have HE9 := (Reads.below HF8 hz9).more hz9.size
        refine step_append_any _ (by rfl) (.tmp 125) (.tmp 128) 22 rfl W8.heap.size 64 i0 (.agg #[.int .i64 0, .int .i64 0, .int .i64 0, .int .i64 0, .slice none 0 0]) 5 56 Try.underlying22 HI.out HZ0.out HZ1.out HZ2.out rfl (by omega) ((.slice (some ⟨y1.heap.size, 0, none⟩) 0 0)) (0) ([]) (by rfl) HU9 _ (some ⟨g', 0, none⟩) (bg) (c') (bc (ys.take bg)) (by rfl) (Reads.below (HRa.out) BZ9) (bc_oneCell _) (by unfold maxLen; omega) (by omega) BZ9.size ?_
        intro v9 w9 hown9 hg9 hat9
        have BG9 := below_own hg9 HU9 BZ9 (Nat.le_refl _) BZ9.size
        have HG9 := Reads.appG HE9 hg9 (fun _ ad e => by injection e with e; subst e; exact hd8)
        refine hK' _ _ ⟨fun _ => KK.out.below BG9, ?_⟩
        clear hK' K' hg9 hat9
        refine gro.anyM_one 7 (by kernel_rfl) rfl ?_
        intro y10 hz10 K' hK'
        have BZ10 := BG9.trans (hz10.mono BG9.size)
        have HU10 := own_keep hown9 hz10
        have HE10 := (Reads.below HG9 hz10).more hz10.size
        refine step_append_any _ (by rfl) (.tmp 129) (.tmp 131) 22 rfl W8.heap.size 64 i0 (.agg #[.int .i64 0, .int .i64 0, .int .i64 0, .int .i64 0, .slice none 0 0]) 5 56 Try.underlying22 HI.out HZ0.out HZ1.out HZ2.out rfl (by omega) (v9) (0 + (bg)) ([] ++ (bc (ys.take bg))) (by rfl) HU10 _ _ (1) (1) _ (by rfl) HE10 (by simp [Value.oneCell']) (by unfold maxLen; omega) (by omega) BZ10.size ?_
        intro v10 w10 hown10 hg10 hat10
        have BG10 := below_own hg10 HU10 BZ10 (Nat.le_refl _) BZ10.size
        refine hK' _ _ ⟨fun _ => KK.out.below BG10, ?_⟩
        clear hK' K' hg10 hat10
        refine gro.anyM_one 12 (by kernel_rfl) rfl ?_
        intro y11 hz11 K' hK'
        have BZ11 := BG10.trans (hz11.mono BG10.size)
        have HU11 := own_keep hown10 hz11
        refine step_append_any _ (by rfl) (.tmp 132) (.tmp 136) 22 rfl W8.heap.size 64 i0 (.agg #[.int .i64 0, .int .i64 0, .int .i64 0, .int .i64 0, .slice none 0 0]) 5 56 Try.underlying22 HI.out HZ0.out HZ1.out HZ2.out rfl (by omega) (v10) (0 + (bg) + (1)) ([] ++ (bc (ys.take bg)) ++ [Value.int IntKind.i64 yt, Value.int IntKind.i64 yl, Value.int IntKind.i64 ((l : Int) + 1), Value.int IntKind.i64 tw.1, Value.slice Ap mp cp]) (by rfl) HU11 _ _ (m - (bg + 2)) (c' - (bg + 2)) (bc (ys.drop (bg + 2))) (by rfl) (Reads.below (HRb.out) BZ11) (bc_oneCell _) (by unfold maxLen; omega) (by omega) BZ11.size ?_
        intro v11 w11 hown11 hg11 hat11
        have BG11 := below_own hg11 HU11 BZ11 (Nat.le_refl _) BZ11.size
        refine hK' _ _ ⟨fun _ => KK.out.below BG11, ?_⟩
        clear hK' K' hg11 hat11
        obtain ⟨g7, c7, rfl, r1, r2, r3, r4⟩ := own_form2 hown11 (by omega)
        refine gro.anyM_one 13 (by kernel_rfl) rfl ?_
        intro y12 hz12 K' hK'
        have BZ12 := BG11.trans (hz12.mono BG11.size)
        have HU12 := own_keep hown11 hz12
        go_simp
        refine hK' _ _ ⟨fun h => absurd (show true = false from h) (by decide), ?_⟩
        clear hK' K'
        refine gro.anyM_done (by kernel_rfl) ?_
        intro y13 hz13
        have B7 := Lib.hid (BZ12.trans (hz13.mono BZ12.size))
        have HO7 := Lib.hid (own_keep HU12 hz13)
        have hlen7 : 0 + bg + 1 + (m - (bg + 2)) = bg + 1 + (m - (bg + 2)) := by omega
        have HO9 : Hid (y13.ownsRow w.heap.size 64 5 (.slice (some ⟨g7, 0, none⟩) (bg + 1 + (m - (bg + 2))) c7) (bg + 1 + (m - (bg + 2))) (bc (joinM ys bg ⟨yt, yl, (l : Int) + 1, tw.1, Ap, mp, cp, tw.2⟩))) := by
          have h := own_mono HO7.out BB8.out.size
          have e : [] ++ bc (ys.take bg) ++ [Value.int IntKind.i64 yt, Value.int IntKind.i64 yl, Value.int IntKind.i64 ((l : Int) + 1), Value.int IntKind.i64 tw.1, Value.slice Ap mp cp] ++ bc (ys.drop (bg + 2)) = bc (joinM ys bg ⟨yt, yl, (l : Int) + 1, tw.1, Ap, mp, cp, tw.2⟩) := by
            rw [joinM, bc_append, bc_cons]; simp
          rw [e, hlen7] at h
          exact h
        have HE9 : Hid (EntR y13 (joinM ys bg ⟨yt, yl, (l : Int) + 1, tw.1, Ap, mp, cp, tw.2⟩)) := fun z hz => by
          have h8 := EntR.below HE8.out B7.out
          unfold joinM at hz
          rcases List.mem_append.1 hz with h | h
          · exact h8 z (List.mem_of_mem_take h)
          · rcases List.mem_cons.1 h with rfl | h
            · exact ⟨(ERead.below HNZ.out B7.out).more B7.out.size, n1, n2⟩
            · exact h8 z (List.mem_of_mem_drop h)
        have HLj : Hid ((joinM ys bg (⟨yt, yl, (l : Int) + 1, tw.1, Ap, mp, cp, tw.2⟩ : BlkM)).length = bg + 1 + (m - (bg + 2))) := by rw [Hid, joinM_len (by rw [HLy.out]; omega), HLy.out]; omega
        have HEK5 : Hid (entsK ((joinM ys bg (⟨yt, yl, (l : Int) + 1, tw.1, Ap, mp, cp, tw.2⟩ : BlkM)).map bkey) ≤ 4000001) := by
          rw [Hid, HKy.out]
          exact Nat.le_trans (joinK_ents (by rw [List.length_map, HLy.out]; omega)) HEK.out
        have HC5 : Hid (putRK k b f ((joinM ys bg (⟨yt, yl, (l : Int) + 1, tw.1, Ap, mp, cp, tw.2⟩ : BlkM)).map bkey) (l + 1) = putKC (xs.map bkey) k b t v) := by
          rw [Hid, HKy.out]; exact HC.out
        rw [hlen7] at r1
        go_wp2
        go_roundg f
        case measure => omega
        case rel => exact ⟨joinM ys bg ⟨yt, yl, (l : Int) + 1, tw.1, Ap, mp, cp, tw.2⟩, bg + 1 + (m - (bg + 2)), l + 1, f, g7, c7, rfl, by go_num, by omega, by omega, r1, r2, by omega, Nat.le_refl _, by have := BB8.out.size; omega, HLj, HO9, HE9, BB8.out.trans (B7.out.mono BB8.out.size), HEK5, HC5, fun z hz h0 ad h => by
            unfold joinM at hz
            rcases List.mem_append.1 hz with h1 | h1
            · exact HAp.out z (List.mem_of_mem_take h1) h0 ad h
            · rcases List.mem_cons.1 h1 with rfl | h1
              · exact .inr (HAp1.out h0 ad h)
              · exact HAp.out z (List.mem_of_mem_drop h1) h0 ad h⟩
    · skip
      intro y14 hz14 K' hK'
      have BZ14 := B0.trans (hz14.mono B0.size)
      go_simp
      refine hK' _ _ ⟨fun _ => (KK.out.below BZ14).alloc _, ?_⟩
      clear hK' K'
      obtain ⟨z14, hy14⟩ : ∃ z, y14.alloc (.cells #[Value.int IntKind.i64 yt, Value.int IntKind.i64 yl, Value.int IntKind.i64 ((l : Int) + 1), Value.int IntKind.i64 tw.1, Value.slice Ap mp cp] 64) = z := ⟨_, rfl⟩
      have hA14 : Below y14.heap.size y14 z14 := by rw [← hy14]; exact (Below.refl _ _).alloc (Nat.le_refl _) _
      have BA14 := BZ14.trans (hA14.mono BZ14.size)
      have HF14 : Reads z14 z14.heap.size 5 (some ⟨y14.heap.size, 0, none⟩) 1 [Value.int IntKind.i64 yt, Value.int IntKind.i64 yl, Value.int IntKind.i64 ((l : Int) + 1), Value.int IntKind.i64 tw.1, Value.slice Ap mp cp] := by rw [← hy14]; exact Reads.more (reads_new y14 64 #[Value.int IntKind.i64 yt, Value.int IntKind.i64 yl, Value.int IntKind.i64 ((l : Int) + 1), Value.int IntKind.i64 tw.1, Value.slice Ap mp cp] rfl) (by simp)
      have le14 : y14.heap.size + 1 ≤ z14.heap.size := by rw [← hy14]; simp
      rw [hy14]
      clear hz14 hA14 hy14
      refine gro.anyM_one 0 (by kernel_rfl) rfl ?_
      intro y15 hz15 K' hK'
      have BZ15 := BA14.trans (hz15.mono BA14.size)
      have HE15 := (Reads.below HF14 hz15).more hz15.size
      go_simp
      refine hK' _ _ ⟨fun _ => (KK.out.below BZ15).alloc _, ?_⟩
      clear hK' K'
      obtain ⟨z15, hy15⟩ : ∃ z, y15.alloc (.cells #[] 64) = z := ⟨_, rfl⟩
      have hA15 : Below y15.heap.size y15 z15 := by rw [← hy15]; exact (Below.refl _ _).alloc (Nat.le_refl _) _
      have BA15 := BZ15.trans (hA15.mono BZ15.size)
      have HF15 := (Reads.below HE15 hA15).more hA15.size
      have HV15 : z15.ownsRow W8.heap.size 64 5 (.slice (some ⟨y15.heap.size, 0, none⟩) 0 0) 0 [] := by rw [← hy15]; exact own_empty2 rfl BZ15.size
      have hd15 : some y14.heap.size ≠ (Value.slice (some ⟨y15.heap.size, 0, none⟩) 0 0).ownBlock := fun e => by have h1 : y14.heap.size = y15.heap.size := Option.some.inj e; have h2 := le14; have h3 := hz15.size; omega
      rw [hy15]
      clear hA15 hy15
      refine gro.anyM_one 4 (by kernel_rfl) rfl ?_
      intro y16 hz16 K' hK'
      have BZ16 := BA15.trans (hz16.mono BA15.size)
      have HU16 := own_keep HV15 hz16
      have HE16 := (Reads.below HF15 hz16).more hz16.size
      refine step_append_any _ (by rfl) (.tmp 125) (.tmp 128) 22 rfl W8.heap.size 64 i0 (.agg #[.int .i64 0, .int .i64 0, .int .i64 0, .int .i64 0, .slice none 0 0]) 5 56 Try.underlying22 HI.out HZ0.out HZ1.out HZ2.out rfl (by omega) ((.slice (some ⟨y15.heap.size, 0, none⟩) 0 0)) (0) ([]) (by rfl) HU16 _ (some ⟨g', 0, none⟩) (bg) (c') (bc (ys.take bg)) (by rfl) (Reads.below (HRa.out) BZ16) (bc_oneCell _) (by unfold maxLen; omega) (by omega) BZ16.size ?_
      intro v16 w16 hown16 hg16 hat16
      have BG16 := below_own hg16 HU16 BZ16 (Nat.le_refl _) BZ16.size
      have HG16 := Reads.appG HE16 hg16 (fun _ ad e => by injection e with e; subst e; exact hd15)
      refine hK' _ _ ⟨fun _ => KK.out.below BG16, ?_⟩
      clear hK' K' hg16 hat16
      refine gro.anyM_one 7 (by kernel_rfl) rfl ?_
      intro y17 hz17 K' hK'
      have BZ17 := BG16.trans (hz17.mono BG16.size)
      have HU17 := own_keep hown16 hz17
      have HE17 := (Reads.below HG16 hz17).more hz17.size
      refine step_append_any _ (by rfl) (.tmp 129) (.tmp 131) 22 rfl W8.heap.size 64 i0 (.agg #[.int .i64 0, .int .i64 0, .int .i64 0, .int .i64 0, .slice none 0 0]) 5 56 Try.underlying22 HI.out HZ0.out HZ1.out HZ2.out rfl (by omega) (v16) (0 + (bg)) ([] ++ (bc (ys.take bg))) (by rfl) HU17 _ _ (1) (1) _ (by rfl) HE17 (by simp [Value.oneCell']) (by unfold maxLen; omega) (by omega) BZ17.size ?_
      intro v17 w17 hown17 hg17 hat17
      have BG17 := below_own hg17 HU17 BZ17 (Nat.le_refl _) BZ17.size
      refine hK' _ _ ⟨fun _ => KK.out.below BG17, ?_⟩
      clear hK' K' hg17 hat17
      refine gro.anyM_one 12 (by kernel_rfl) rfl ?_
      intro y18 hz18 K' hK'
      have BZ18 := BG17.trans (hz18.mono BG17.size)
      have HU18 := own_keep hown17 hz18
      refine step_append_any _ (by rfl) (.tmp 132) (.tmp 136) 22 rfl W8.heap.size 64 i0 (.agg #[.int .i64 0, .int .i64 0, .int .i64 0, .int .i64 0, .slice none 0 0]) 5 56 Try.underlying22 HI.out HZ0.out HZ1.out HZ2.out rfl (by omega) (v17) (0 + (bg) + (1)) ([] ++ (bc (ys.take bg)) ++ [Value.int IntKind.i64 yt, Value.int IntKind.i64 yl, Value.int IntKind.i64 ((l : Int) + 1), Value.int IntKind.i64 tw.1, Value.slice Ap mp cp]) (by rfl) HU18 _ _ (m - (bg + 2)) (c' - (bg + 2)) (bc (ys.drop (bg + 2))) (by rfl) (Reads.below (HRb.out) BZ18) (bc_oneCell _) (by unfold maxLen; omega) (by omega) BZ18.size ?_
      intro v18 w18 hown18 hg18 hat18
      have BG18 := below_own hg18 HU18 BZ18 (Nat.le_refl _) BZ18.size
      refine hK' _ _ ⟨fun _ => KK.out.below BG18, ?_⟩
      clear hK' K' hg18 hat18
      obtain ⟨g7, c7, rfl, r1, r2, r3, r4⟩ := own_form2 hown18 (by omega)
      refine gro.anyM_one 13 (by kernel_rfl) rfl ?_
      intro y19 hz19 K' hK'
      have BZ19 := BG18.trans (hz19.mono BG18.size)
      have HU19 := own_keep hown18 hz19
      go_simp
      refine hK' _ _ ⟨fun h => absurd (show true = false from h) (by decide), ?_⟩
      clear hK' K'
      refine gro.anyM_done (by kernel_rfl) ?_
      intro y20 hz20
      have B7 := Lib.hid (BZ19.trans (hz20.mono BZ19.size))
      have HO7 := Lib.hid (own_keep HU19 hz20)
      have hlen7 : 0 + bg + 1 + (m - (bg + 2)) = bg + 1 + (m - (bg + 2)) := by omega
      have HO9 : Hid (y20.ownsRow w.heap.size 64 5 (.slice (some ⟨g7, 0, none⟩) (bg + 1 + (m - (bg + 2))) c7) (bg + 1 + (m - (bg + 2))) (bc (joinM ys bg ⟨yt, yl, (l : Int) + 1, tw.1, Ap, mp, cp, tw.2⟩))) := by
        have h := own_mono HO7.out BB8.out.size
        have e : [] ++ bc (ys.take bg) ++ [Value.int IntKind.i64 yt, Value.int IntKind.i64 yl, Value.int IntKind.i64 ((l : Int) + 1), Value.int IntKind.i64 tw.1, Value.slice Ap mp cp] ++ bc (ys.drop (bg + 2)) = bc (joinM ys bg ⟨yt, yl, (l : Int) + 1, tw.1, Ap, mp, cp, tw.2⟩) := by
          rw [joinM, bc_append, bc_cons]; simp
        rw [e, hlen7] at h
        exact h
      have HE9 : Hid (EntR y20 (joinM ys bg ⟨yt, yl, (l : Int) + 1, tw.1, Ap, mp, cp, tw.2⟩)) := fun z hz => by
        have h8 := EntR.below HE8.out B7.out
        unfold joinM at hz
        rcases List.mem_append.1 hz with h | h
        · exact h8 z (List.mem_of_mem_take h)
        · rcases List.mem_cons.1 h with rfl | h
          · exact ⟨(ERead.below HNZ.out B7.out).more B7.out.size, n1, n2⟩
          · exact h8 z (List.mem_of_mem_drop h)
      have HLj : Hid ((joinM ys bg (⟨yt, yl, (l : Int) + 1, tw.1, Ap, mp, cp, tw.2⟩ : BlkM)).length = bg + 1 + (m - (bg + 2))) := by rw [Hid, joinM_len (by rw [HLy.out]; omega), HLy.out]; omega
      have HEK5 : Hid (entsK ((joinM ys bg (⟨yt, yl, (l : Int) + 1, tw.1, Ap, mp, cp, tw.2⟩ : BlkM)).map bkey) ≤ 4000001) := by
        rw [Hid, HKy.out]
        exact Nat.le_trans (joinK_ents (by rw [List.length_map, HLy.out]; omega)) HEK.out
      have HC5 : Hid (putRK k b f ((joinM ys bg (⟨yt, yl, (l : Int) + 1, tw.1, Ap, mp, cp, tw.2⟩ : BlkM)).map bkey) (l + 1) = putKC (xs.map bkey) k b t v) := by
        rw [Hid, HKy.out]; exact HC.out
      rw [hlen7] at r1
      go_wp2
      go_roundg f
      case measure => omega
      case rel => exact ⟨joinM ys bg ⟨yt, yl, (l : Int) + 1, tw.1, Ap, mp, cp, tw.2⟩, bg + 1 + (m - (bg + 2)), l + 1, f, g7, c7, rfl, by go_num, by omega, by omega, r1, r2, by omega, Nat.le_refl _, by have := BB8.out.size; omega, HLj, HO9, HE9, BB8.out.trans (B7.out.mono BB8.out.size), HEK5, HC5, fun z hz h0 ad h => by
            unfold joinM at hz
            rcases List.mem_append.1 hz with h1 | h1
            · exact HAp.out z (List.mem_of_mem_take h1) h0 ad h
            · rcases List.mem_cons.1 h1 with rfl | h1
              · exact .inr (HAp1.out h0 ad h)
              · exact HAp.out z (List.mem_of_mem_drop h1) h0 ad h⟩
theorem InsertBR_anyA (P : Nat → Prop) (A : Option Addr) (n c : Nat) (xs : List BlkM) (k b t v : Int) (w : World) (h1 : BRead w w.heap.size A n xs) (hs : n ≤ 64000) (hent : validK (xs.map bkey) k b = true → entsK (xs.map bkey) ≤ 4000000) (hA : ∀ x ∈ xs, 0 < x.en → ∀ ad, x.adr = some ad → P ad.block) : Calls Try.prog 23 #[.slice A n c, .int .i64 k, .int .i64 b, .int .i64 t, .int .i64 v] w (NewBKA P (insK (xs.map bkey) k b t v) w) := by
  by_cases hm : mayK (xs.map bkey) k b t v = true
  · have hp := putKC_ins hm
    rw [insK_t hm, ← hp]
    have hv := (mayK_iff.1 hm).1
    have hk := (validB_iff.1 (validK_iff.1 hv).2.1).1
    obtain ⟨kk, rfl⟩ := Int.eq_ofNat_of_zero_le (show 0 ≤ k by omega)
    rw [Int.toNat_natCast]
    exact InsertBR_yesA P A n c xs kk b t v w h1 hs (hent hv) hm hA
  · rw [insK_f hm]
    exact (InsertBR_no A n c xs k b t v w h1 hs hm).mono fun e w' ⟨he, hb⟩ => by
      rw [he]
      exact ⟨none, 0, 0, [], rfl, Nat.le_refl _, Nat.zero_le _, ⟨Reads.none_, fun b hb => by cases hb⟩, rfl, hb, fun _ h => (by cases h), fun y hy => by cases hy⟩
end Go.Proofs.Ytjapjfcennemeaa.blk

/- Contracts of the reference's Add of quantiles, of Advance. -/
namespace Go.Proofs.Ytjapjfcennemeaa.qtl
open Go.RowKit Go.Proofs.Ytjapjfcennemeaa.mem Go.Proofs.Ytjapjfcennemeaa.gro Go.Proofs.Ytjapjfcennemeaa.rnk Go.Proofs.Ytjapjfcennemeaa.blk
set_option linter.unusedVariables false
set_option linter.unusedSimpArgs false
set_option pp.maxSteps 200000
set_option maxHeartbeats 2000000 in
set_option maxRecDepth 100000 in
theorem wid9 (x : Int) (w : World) : Calls Try.prog 72 #[.int .i64 x] w fun e w' => e = .returned (.bool (inV x)) ∧ w = w' := by
  go_enter Try.func72, Try.ntmps72
  go_wp2
  all_goals (go_ret; refine ⟨clk.ret_bool ?_, rfl⟩; first | (symm; rw [inV_iff]; omega) | (symm; rw [inV_iff0]; omega) | (rw [Bool.eq_iff_iff, inV_iff]; simp; omega) | (rw [Bool.eq_iff_iff, inV_iff]; simp))
set_option maxHeartbeats 8000000 in
set_option maxRecDepth 100000 in
theorem AddQR_any (P : Nat → Prop) (v k p o x : Int) (A : Option Addr) (n c : Nat) (xs : List BlkM) (w : World) (h1 : BRead w w.heap.size A n xs) (hs : n ≤ 64000) (hp : p ≤ 9223372036854775807) (hent : validK (xs.map bkey) (2 * k) (sizeQ k p) = true → entsK (xs.map bkey) ≤ 4000000) (hA : ∀ y ∈ xs, 0 < y.en → ∀ ad, y.adr = some ad → P ad.block) :
    Calls Try.prog 56 #[(Value.agg #[.int .i64 v, .int .i64 k, .int .i64 p, .int .i64 o, .slice A n c]), .int .i64 x] w (NewQ P (addQ (xs.map bkey) v k p o x) w) := by
  have HV := Lib.hid (fun W (hb : Below w.heap.size w W) => ValidateQR_any v k p o A n c xs W ((h1.below hb).more hb.size) (by omega) hp)
  have HT := Lib.hid (fun W (hb : Below w.heap.size w W) => blk.TotalBR_any A n c xs W ((h1.below hb).more hb.size) (by omega))
  have HZ := Lib.hid (fun W => SizeQR_any k p hp W)
  have HI := Lib.hid (fun W (hb : Below w.heap.size w W) => InsertBR_anyA (fun b => P b ∧ b < w.heap.size) A n c xs (2 * k) (sizeQ k p) o x W ((h1.below hb).more hb.size) hs hent (fun y hy h0 ad e => ⟨hA y hy h0 ad e, rnk.Reads.blk (h1.2 y hy).1 h0 ad e⟩))
  clear h1 hA
  unfold addQ
  cases hf : fitQ (xs.map bkey) v k p o
  case false =>
    rw [if_neg Bool.false_ne_true]
    rw [hf, okE_f] at HV
    clear hf HT HI HZ hent
    go_enter Try.func56, Try.ntmps56
    go_wp2_with fail
    obtain ⟨W0, hW, hs0, K0, B0⟩ := start2 w 70 70 #[Value.int IntKind.i64 v, Value.int IntKind.i64 k, Value.int IntKind.i64 p, Value.int IntKind.i64 o, Value.slice A n c] #[Value.int IntKind.i64 0, Value.int IntKind.i64 0, Value.int IntKind.i64 0, Value.int IntKind.i64 0, Value.slice none 0 0]
    rw [hW]
    clear hW
    have KK := Lib.hid K0
    have BB := Lib.hid B0
    have R := K0.rules
    simp only [Rules] at R
    clear K0 B0
    have sz : w.heap.size + 1 + 1 ≤ W0.heap.size := by omega
    clear hs0
    (with_reducible refine (HV.out _ BB.out).mono ?_)
    rintro e wv ⟨rfl, hbv⟩
    replace BB := Lib.hid (BB.out.trans (hbv.mono BB.out.size))
    replace KK := Lib.hid (KK.out.below hbv)
    replace sz := Nat.le_trans sz hbv.size
    replace R := KK.out.rules
    simp only [Rules] at R
    clear hbv
    go_wp2
    refine bodyPost_ret (v := Value.tuple #[.agg #[Value.int IntKind.i64 0, Value.int IntKind.i64 0, Value.int IntKind.i64 0, Value.int IntKind.i64 0, Value.slice none 0 0], .int .i64 2]) (by simp [results, Try.results56, go_sem, R]) rfl (newQ_nil 2 ?_)
    exact (((((BB.out.setCell (by first | (simp; done) | (simp; omega)) _).setCell (by first | (simp; done) | (simp; omega)) _).setCell (by first | (simp; done) | (simp; omega)) _).setCell (by first | (simp; done) | (simp; omega)) _).setCell (by first | (simp; done) | (simp; omega)) _)
  have hk := (goodC_iff.1 (fitQ_iff.1 hf).1).2.1
  rw [if_pos rfl]
  rw [hf, okE_t] at HV
  clear hf hent
  have s1 : IntKind.i64.wrap (2 * k) = 2 * k := IntWalk.i64_in _ (by omega)
  cases hr : inV x
  case false =>
    rw [if_neg Bool.false_ne_true]
    have HU := Lib.hid (fun W => wid9 x W)
    rw [hr] at HU
    clear HT HI HZ hr
    go_enter Try.func56, Try.ntmps56
    go_wp2_with fail
    obtain ⟨W0, hW, hs0, K0, B0⟩ := start2 w 70 70 #[Value.int IntKind.i64 v, Value.int IntKind.i64 k, Value.int IntKind.i64 p, Value.int IntKind.i64 o, Value.slice A n c] #[Value.int IntKind.i64 0, Value.int IntKind.i64 0, Value.int IntKind.i64 0, Value.int IntKind.i64 0, Value.slice none 0 0]
    rw [hW]
    clear hW
    have KK := Lib.hid K0
    have BB := Lib.hid B0
    have R := K0.rules
    simp only [Rules] at R
    clear K0 B0
    have sz : w.heap.size + 1 + 1 ≤ W0.heap.size := by omega
    clear hs0
    (with_reducible refine (HV.out _ BB.out).mono ?_)
    rintro e wv ⟨rfl, hbv⟩
    replace BB := Lib.hid (BB.out.trans (hbv.mono BB.out.size))
    replace KK := Lib.hid (KK.out.below hbv)
    replace sz := Nat.le_trans sz hbv.size
    replace R := KK.out.rules
    simp only [Rules] at R
    clear hbv
    go_wp2_with fail
    (with_reducible refine (HU.out _).mono ?_)
    rintro e wq ⟨rfl, rfl⟩
    go_wp2
    refine bodyPost_ret (v := Value.tuple #[.agg #[Value.int IntKind.i64 0, Value.int IntKind.i64 0, Value.int IntKind.i64 0, Value.int IntKind.i64 0, Value.slice none 0 0], .int .i64 4]) (by simp [results, Try.results56, go_sem, R]) rfl (newQ_nil 4 ?_)
    exact (((((BB.out.setCell (by first | (simp; done) | (simp; omega)) _).setCell (by first | (simp; done) | (simp; omega)) _).setCell (by first | (simp; done) | (simp; omega)) _).setCell (by first | (simp; done) | (simp; omega)) _).setCell (by first | (simp; done) | (simp; omega)) _)
  rw [if_pos rfl]
  have HU := Lib.hid (fun W => wid9 x W)
  rw [hr] at HU
  clear hr
  generalize ((totalK (xs.map bkey) : Nat) : Int) = tn at *
  by_cases hf : tn = p
  case pos =>
    rw [if_pos hf]
    have q1 : (tn == p) = true := by simpa using hf
    clear HI HZ hf
    go_enter Try.func56, Try.ntmps56
    go_wp2_with fail
    obtain ⟨W0, hW, hs0, K0, B0⟩ := start2 w 70 70 #[Value.int IntKind.i64 v, Value.int IntKind.i64 k, Value.int IntKind.i64 p, Value.int IntKind.i64 o, Value.slice A n c] #[Value.int IntKind.i64 0, Value.int IntKind.i64 0, Value.int IntKind.i64 0, Value.int IntKind.i64 0, Value.slice none 0 0]
    rw [hW]
    clear hW
    have KK := Lib.hid K0
    have BB := Lib.hid B0
    have R := K0.rules
    simp only [Rules] at R
    clear K0 B0
    have sz : w.heap.size + 1 + 1 ≤ W0.heap.size := by omega
    clear hs0
    (with_reducible refine (HV.out _ BB.out).mono ?_)
    rintro e wv ⟨rfl, hbv⟩
    replace BB := Lib.hid (BB.out.trans (hbv.mono BB.out.size))
    replace KK := Lib.hid (KK.out.below hbv)
    replace sz := Nat.le_trans sz hbv.size
    replace R := KK.out.rules
    simp only [Rules] at R
    clear hbv
    go_wp2_with fail
    (with_reducible refine (HU.out _).mono ?_)
    rintro e wq ⟨rfl, rfl⟩
    go_wp2_with fail
    (refine gro.wp_region_grown (by kernel_rfl) (by kernel_rfl) ?_; (repeat (go_big_quiet_step (((go_at_call 20; exact call_grown (HT.out _ (BB.out.trans ((below_grown _ _).mono BB.out.size)))))))); refine wpQuiet_nil ?_; intro _ hw'; obtain ⟨nx, hw''⟩ := hw'; subst hw'')
    replace BB := Lib.hid (BB.out.trans ((below_grown _ nx).mono BB.out.size))
    replace KK := Lib.hid (KK.out.below (below_grown _ nx))
    replace sz := Nat.le_trans sz (below_grown _ nx).size
    clear R
    generalize grown _ nx = W7 at *
    have R := KK.out.rules
    simp only [Rules] at R
    go_wp2
    refine bodyPost_ret (v := Value.tuple #[.agg #[Value.int IntKind.i64 0, Value.int IntKind.i64 0, Value.int IntKind.i64 0, Value.int IntKind.i64 0, Value.slice none 0 0], .int .i64 5]) (by simp [results, Try.results56, go_sem, R]) rfl (newQ_nil 5 ?_)
    exact (((((BB.out.setCell (by first | (simp; done) | (simp; omega)) _).setCell (by first | (simp; done) | (simp; omega)) _).setCell (by first | (simp; done) | (simp; omega)) _).setCell (by first | (simp; done) | (simp; omega)) _).setCell (by first | (simp; done) | (simp; omega)) _)
  rw [if_neg hf]
  have q1 : (tn == p) = false := by simpa using hf
  clear hf
  generalize insK (xs.map bkey) (2 * k) (sizeQ k p) o x = ks at *
  generalize sizeQ k p = z at *
  go_enter Try.func56, Try.ntmps56
  go_wp2_with fail
  obtain ⟨W0, hW, hs0, K0, B0⟩ := start2 w 70 70 #[Value.int IntKind.i64 v, Value.int IntKind.i64 k, Value.int IntKind.i64 p, Value.int IntKind.i64 o, Value.slice A n c] #[Value.int IntKind.i64 0, Value.int IntKind.i64 0, Value.int IntKind.i64 0, Value.int IntKind.i64 0, Value.slice none 0 0]
  rw [hW]
  clear hW
  have KK := Lib.hid K0
  have BB := Lib.hid B0
  have R := K0.rules
  simp only [Rules] at R
  clear K0 B0
  have sz : w.heap.size + 1 + 1 ≤ W0.heap.size := by omega
  clear hs0
  (with_reducible refine (HV.out _ BB.out).mono ?_)
  rintro e wv ⟨rfl, hbv⟩
  replace BB := Lib.hid (BB.out.trans (hbv.mono BB.out.size))
  replace KK := Lib.hid (KK.out.below hbv)
  replace sz := Nat.le_trans sz hbv.size
  replace R := KK.out.rules
  simp only [Rules] at R
  clear hbv
  go_wp2_with fail
  (with_reducible refine (HU.out _).mono ?_)
  rintro e wq ⟨rfl, rfl⟩
  go_wp2_with fail
  (refine gro.wp_region_grown (by kernel_rfl) (by kernel_rfl) ?_; (repeat (go_big_quiet_step (((go_at_call 20; exact call_grown (HT.out _ (BB.out.trans ((below_grown _ _).mono BB.out.size)))))))); refine wpQuiet_nil ?_; intro _ hw'; obtain ⟨nx, hw''⟩ := hw'; subst hw'')
  replace BB := Lib.hid (BB.out.trans ((below_grown _ nx).mono BB.out.size))
  replace KK := Lib.hid (KK.out.below (below_grown _ nx))
  replace sz := Nat.le_trans sz (below_grown _ nx).size
  clear R
  generalize grown _ nx = W7 at *
  have R := KK.out.rules
  simp only [Rules] at R
  go_upto_region 8 with fail
  (refine gro.wp_region_heldA [0, 1, 2, 3, 4, 5, 6, 7, 8, 9, 10, 11, 12] 3 15 _ (gro.lasts_bx _) (by kernel_rfl) (by kernel_rfl) (by intro _ _ _ _ _ h; exact h) (by kernel_rfl) (by kernel_rfl) (by kernel_rfl) (by kernel_rfl) (by kernel_rfl) (by decide) (KK.out).drew ?_; apply Exists.intro; refine ⟨fun w0 hb0 => ?_, ?_⟩; focus (have RZ := gro.Bx.rules hb0; simp only [gro.Rules] at RZ; simp only [gro.pickA, List.filterMap_cons, List.filterMap_nil, List.getElem?_toArray, List.getElem?_cons_succ, List.getElem?_cons_zero]; change wpQuiet _ _ _ _ (_ :: _ :: _ :: _ :: _ :: _ :: _ :: _ :: _ :: _ :: _ :: _ :: _ ::  []) _; (repeat (go_big_quiet_step (((go_at_call 48; exact call_same (HZ.out _)))))); exact wpQuiet_nil rfl))
  replace BB := Lib.hid BB.out.drew
  replace KK := Lib.hid KK.out.drew
  replace sz := (show _ ≤ (W7.drew).heap.size from sz)
  generalize W7.drew = v1 at *
  refine gro.anyM_one 13 (by kernel_rfl) rfl ?_
  intro v2 hz K' hK'
  clear R
  replace BB := Lib.hid (BB.out.trans (hz.mono BB.out.size))
  replace KK := Lib.hid (KK.out.below hz)
  replace sz := Nat.le_trans sz hz.size
  clear hz
  go_simp
  refine (HI.out _ BB.out).mono ?_
  rintro e v3 ⟨A6, m6, c6, ys, rfl, p1, p2, p3, k1, hb, fr, hap⟩
  have HY := Lib.hid p3
  have hr : 0 < m6 → ∀ ad, A6 = some ad → w.heap.size + 1 + 1 ≤ ad.block := fun _ ad h => Nat.le_trans sz (fr ad h)
  have he : ∀ y ∈ ys, 0 < y.en → ∀ ad, y.adr = some ad → (P ad.block ∧ ad.block < w.heap.size) ∨ w.heap.size + 1 + 1 ≤ ad.block := fun y hy h0 ad e => by
    rcases hap y hy h0 ad e with h | h
    · exact .inl h
    · exact .inr (Nat.le_trans sz h)
  have fr2 : ∀ ad, A6 = some ad → w.heap.size + 1 + 1 ≤ ad.block := fun ad h => Nat.le_trans sz (fr ad h)
  have HHr := Lib.hid hr
  have HHe := Lib.hid he
  have HHf := Lib.hid fr2
  have HK1 := Lib.hid k1
  replace BB := Lib.hid (BB.out.trans (hb.mono BB.out.size))
  replace KK := Lib.hid (KK.out.below hb)
  replace sz := Nat.le_trans sz hb.size
  clear hb p3 HI fr hap hr he fr2 k1
  refine hK' _ _ ⟨fun _ => KK.out, ?_⟩
  clear hK' K'
  refine gro.anyM_one 14 (by kernel_rfl) rfl ?_
  intro v3b hz K' hK'
  replace BB := Lib.hid (BB.out.trans (hz.mono BB.out.size))
  replace KK := Lib.hid (KK.out.below hz)
  replace HY := Lib.hid ((HY.out.below hz).more hz.size)
  replace sz := Nat.le_trans sz hz.size
  clear hz
  go_simp
  refine hK' _ _ ⟨fun _ => KK.out, ?_⟩
  clear hK' K'
  refine gro.anyM_one 15 (by kernel_rfl) rfl ?_
  intro v4 hz K' hK'
  replace BB := Lib.hid (BB.out.trans (hz.mono BB.out.size))
  replace KK := Lib.hid (KK.out.below hz)
  replace HY := Lib.hid ((HY.out.below hz).more hz.size)
  replace sz := Nat.le_trans sz hz.size
  clear hz
  have R := KK.out.rules
  simp only [Rules] at R
  go_simp
  refine hK' _ _ ⟨fun h => absurd (show true = false from h) (by decide), ?_⟩
  clear hK' K' R
  have K5 := KK.out.swap.puti (by simp) 4 (.slice A6 m6 c6)
  have K6 : Bx (v4.setCell ⟨w.heap.size, 4, none⟩ (.slice A6 m6 c6)) [(w.heap.size, 70, #[Value.int IntKind.i64 v, Value.int IntKind.i64 k, Value.int IntKind.i64 p, Value.int IntKind.i64 o, Value.slice A6 m6 c6]), (w.heap.size + 1, 70, #[Value.int IntKind.i64 0, Value.int IntKind.i64 0, Value.int IntKind.i64 0, Value.int IntKind.i64 0, Value.slice none 0 0])] := by simpa using K5
  have B6 := BB.out.setCell (p := ⟨w.heap.size, 4, none⟩) (Nat.le_refl _) (.slice A6 m6 c6)
  have Y6 : BRead (v4.setCell ⟨w.heap.size, 4, none⟩ (.slice A6 m6 c6)) (v4.setCell ⟨w.heap.size, 4, none⟩ (.slice A6 m6 c6)).heap.size A6 m6 ys := (BRead.far HY.out ⟨w.heap.size, 4, none⟩ (fun h0 ad h => by have := HHr.out h0 ad h; show ad.block ≠ w.heap.size; omega) (fun y hy h0 ad h => by have := HHe.out y hy h0 ad h; show ad.block ≠ w.heap.size; omega) _).more (by simp [World.setCell])
  replace KK := Lib.hid K6
  replace BB := Lib.hid B6
  replace HY := Lib.hid Y6
  clear K5 K6 B6 Y6 sz
  generalize v4.setCell ⟨w.heap.size, 4, none⟩ (.slice A6 m6 c6) = v5 at *
  refine gro.anyM_done (by kernel_rfl) ?_
  intro v6 hz
  replace BB := Lib.hid (BB.out.trans (hz.mono BB.out.size))
  replace KK := Lib.hid (KK.out.below hz)
  replace HY := Lib.hid ((HY.out.below hz).more hz.size)
  clear hz
  have R := KK.out.rules
  simp only [Rules] at R
  have Y7 := Lib.hid (fun u1 u2 u3 u4 u5 u6 => BRead.far6 (g1 := w.heap.size + 1) (g2 := w.heap.size + 1) (a1 := 0) (a2 := 0) (a3 := 1) (a4 := 2) (a5 := 3) (a6 := 4) HY.out (fun h0 ad h => by have := HHr.out h0 ad h; omega) (fun y hy h0 ad h => by have := HHe.out y hy h0 ad h; omega) u1 u2 u3 u4 u5 u6)
  have Y8 : Hid (BRead (((((v6.setCell ⟨w.heap.size + 1, 0, none⟩ (.int .i64 v)).setCell ⟨w.heap.size + 1, 1, none⟩ (.int .i64 k)).setCell ⟨w.heap.size + 1, 2, none⟩ (.int .i64 p)).setCell ⟨w.heap.size + 1, 3, none⟩ (.int .i64 o)).setCell ⟨w.heap.size + 1, 4, none⟩ (.slice A6 m6 c6)) v6.heap.size A6 m6 ys) := by
    have hq : 0 < m6 → ∀ ad, A6 = some ad → ad.block ≠ w.heap.size + 1 := fun h0 ad h => by have := HHr.out h0 ad h; omega
    have hq2 : ∀ y ∈ ys, 0 < y.en → ∀ ad, y.adr = some ad → ad.block ≠ w.heap.size + 1 := fun y hy h0 ad h => by have := HHe.out y hy h0 ad h; omega
    exact BRead.far (BRead.far (BRead.far (BRead.far (BRead.far HY.out ⟨w.heap.size + 1, 0, none⟩ hq hq2 _) ⟨w.heap.size + 1, 1, none⟩ hq hq2 _) ⟨w.heap.size + 1, 2, none⟩ hq hq2 _) ⟨w.heap.size + 1, 3, none⟩ hq hq2 _) ⟨w.heap.size + 1, 4, none⟩ hq hq2 _
  clear Y7
  go_wp2
  refine bodyPost_ret (v := Value.tuple #[.agg #[Value.int IntKind.i64 v, Value.int IntKind.i64 k, Value.int IntKind.i64 p, Value.int IntKind.i64 o, Value.slice A6 m6 c6], .int .i64 0]) (by simp [results, Try.results56, go_sem, R]) rfl ⟨A6, m6, c6, ys, rfl, p1, p2, Y8.out.more (by simp [World.setCell]), HK1.out, ?_, fun ad h => .inr (by have := HHf.out ad h; omega), fun y hy h0 ad h => by
    rcases HHe.out y hy h0 ad h with h | h
    · exact .inl h.1
    · exact .inr (by omega)⟩
  exact (((((BB.out.setCell (by first | (simp; done) | (simp; omega)) _).setCell (by first | (simp; done) | (simp; omega)) _).setCell (by first | (simp; done) | (simp; omega)) _).setCell (by first | (simp; done) | (simp; omega)) _).setCell (by first | (simp; done) | (simp; omega)) _)
def expQ (f : Int) (xs : List K5) : List K5 := xs.dropWhile (fun x => decide (x.1 < f))
theorem expQ_key (f : Int) : ∀ xs : List BlkM, (expireB f xs).map bkey = expQ f (xs.map bkey)
  | [] => rfl
  | x :: r => by
    have h1 : (bkey x).1 = x.t := rfl
    by_cases h : x.t < f
    · rw [expB_yes h, expQ_key f r]
      unfold expQ
      rw [List.map_cons, List.dropWhile_cons, if_pos (by rw [h1]; simpa using h)]
    · rw [expB_no h]
      unfold expQ
      rw [List.map_cons, List.dropWhile_cons, if_neg (by rw [h1]; simpa using h)]
noncomputable def advQ (xs : List K5) (v k p o t : Int) : Q5 × Int :=
  if fitQ xs v k p o = true then (if timeE o t = 0 then ((v, k, p, t, expQ (clk.firstI t v) xs), 0) else ((0, 0, 0, 0, []), timeE o t)) else ((0, 0, 0, 0, []), 2)
set_option maxHeartbeats 8000000 in
set_option maxRecDepth 100000 in
theorem AdvanceQ_any (P : Nat → Prop) (v k p o t : Int) (A : Option Addr) (n c : Nat) (xs : List BlkM) (w : World) (h1 : BRead w w.heap.size A n xs) (hnc : n ≤ c) (hcm : c ≤ maxLen) (hs : n ≤ 64000) (hp : p ≤ 9223372036854775807) (hA : ∀ y ∈ xs, 0 < y.en → ∀ ad, y.adr = some ad → P ad.block) :
    Calls Try.prog 53 #[(Value.agg #[.int .i64 v, .int .i64 k, .int .i64 p, .int .i64 o, .slice A n c]), .int .i64 t] w (NewQ P (advQ (xs.map bkey) v k p o t) w) := by
  have HV := Lib.hid (fun W (hb : Below w.heap.size w W) => ValidateQ_any v k p o A n c xs W ((h1.below hb).more hb.size) (by omega) hp)
  have HF := Lib.hid (fun W => clk.first_any t v W)
  have HE := Lib.hid (fun W (hb : Below w.heap.size w W) => Expire_b A n c xs (clk.firstI t v) W ((h1.below hb).more hb.size) hnc hcm (by omega))
  have HEn := Lib.hid (fun y (hy : y ∈ expireB (clk.firstI t v) xs) (h0 : 0 < y.en) ad (e : y.adr = some ad) => And.intro (hA y ((List.dropWhile_sublist _).mem hy) h0 ad e) (rnk.Reads.blk (h1.2 y ((List.dropWhile_sublist _).mem hy)).1 h0 ad e))
  have HK1 := Lib.hid (expQ_key (clk.firstI t v) xs)
  clear h1 hA
  unfold advQ
  cases hf : fitQ (xs.map bkey) v k p o
  case false =>
    rw [if_neg Bool.false_ne_true]
    rw [hf, okE_f] at HV
    clear hf HF HE HEn HK1
    go_enter Try.func53, Try.ntmps53
    go_wp2_with fail
    obtain ⟨W0, hW, hs0, K0, B0⟩ := start2 w 70 70 #[Value.int IntKind.i64 v, Value.int IntKind.i64 k, Value.int IntKind.i64 p, Value.int IntKind.i64 o, Value.slice A n c] #[Value.int IntKind.i64 0, Value.int IntKind.i64 0, Value.int IntKind.i64 0, Value.int IntKind.i64 0, Value.slice none 0 0]
    rw [hW]
    clear hW
    have KK := Lib.hid K0
    have BB := Lib.hid B0
    have R := K0.rules
    simp only [Rules] at R
    clear K0 B0
    have sz : w.heap.size + 1 + 1 ≤ W0.heap.size := by omega
    clear hs0
    (with_reducible refine (HV.out _ BB.out).mono ?_)
    rintro e wv ⟨rfl, hbv⟩
    replace BB := Lib.hid (BB.out.trans (hbv.mono BB.out.size))
    replace KK := Lib.hid (KK.out.below hbv)
    replace sz := Nat.le_trans sz hbv.size
    replace R := KK.out.rules
    simp only [Rules] at R
    clear hbv
    go_wp2
    refine bodyPost_ret (v := Value.tuple #[.agg #[Value.int IntKind.i64 0, Value.int IntKind.i64 0, Value.int IntKind.i64 0, Value.int IntKind.i64 0, Value.slice none 0 0], .int .i64 2]) (by simp [results, Try.results53, go_sem, R]) rfl (newQ_nil 2 ?_)
    exact (((((BB.out.setCell (by first | (simp; done) | (simp; omega)) _).setCell (by first | (simp; done) | (simp; omega)) _).setCell (by first | (simp; done) | (simp; omega)) _).setCell (by first | (simp; done) | (simp; omega)) _).setCell (by first | (simp; done) | (simp; omega)) _)
  have ho := (goodC_iff.1 (fitQ_iff.1 hf).1).2.2.2
  rw [if_pos rfl]
  rw [hf, okE_t] at HV
  clear hf
  have HB := Lib.hid (fun W => ClkAdv_any o t ho W)
  generalize timeE o t = er at *
  by_cases he : er = 0
  case neg =>
    rw [if_neg he]
    clear HF HE HEn HK1
    go_enter Try.func53, Try.ntmps53
    go_wp2_with fail
    obtain ⟨W0, hW, hs0, K0, B0⟩ := start2 w 70 70 #[Value.int IntKind.i64 v, Value.int IntKind.i64 k, Value.int IntKind.i64 p, Value.int IntKind.i64 o, Value.slice A n c] #[Value.int IntKind.i64 0, Value.int IntKind.i64 0, Value.int IntKind.i64 0, Value.int IntKind.i64 0, Value.slice none 0 0]
    rw [hW]
    clear hW
    have KK := Lib.hid K0
    have BB := Lib.hid B0
    have R := K0.rules
    simp only [Rules] at R
    clear K0 B0
    have sz : w.heap.size + 1 + 1 ≤ W0.heap.size := by omega
    clear hs0
    (with_reducible refine (HV.out _ BB.out).mono ?_)
    rintro e wv ⟨rfl, hbv⟩
    replace BB := Lib.hid (BB.out.trans (hbv.mono BB.out.size))
    replace KK := Lib.hid (KK.out.below hbv)
    replace sz := Nat.le_trans sz hbv.size
    replace R := KK.out.rules
    simp only [Rules] at R
    clear hbv
    go_wp2_with fail
    (with_reducible refine (HB.out _).mono ?_)
    rintro e wq ⟨⟨rr, rfl⟩, rfl⟩
    go_wp2
    refine bodyPost_ret (v := Value.tuple #[.agg #[Value.int IntKind.i64 0, Value.int IntKind.i64 0, Value.int IntKind.i64 0, Value.int IntKind.i64 0, Value.slice none 0 0], .int .i64 er]) (by simp [results, Try.results53, go_sem, R]) rfl (newQ_nil er ?_)
    exact (((((BB.out.setCell (by first | (simp; done) | (simp; omega)) _).setCell (by first | (simp; done) | (simp; omega)) _).setCell (by first | (simp; done) | (simp; omega)) _).setCell (by first | (simp; done) | (simp; omega)) _).setCell (by first | (simp; done) | (simp; omega)) _)
  rw [if_pos he]
  subst he
  rw [← HK1.out]
  clear HK1
  generalize expireB (clk.firstI t v) xs = ys at *
  generalize clk.firstI t v = fi at *
  go_enter Try.func53, Try.ntmps53
  go_wp2_with fail
  obtain ⟨W0, hW, hs0, K0, B0⟩ := start2 w 70 70 #[Value.int IntKind.i64 v, Value.int IntKind.i64 k, Value.int IntKind.i64 p, Value.int IntKind.i64 o, Value.slice A n c] #[Value.int IntKind.i64 0, Value.int IntKind.i64 0, Value.int IntKind.i64 0, Value.int IntKind.i64 0, Value.slice none 0 0]
  rw [hW]
  clear hW
  have KK := Lib.hid K0
  have BB := Lib.hid B0
  have R := K0.rules
  simp only [Rules] at R
  clear K0 B0
  have sz : w.heap.size + 1 + 1 ≤ W0.heap.size := by omega
  clear hs0
  (with_reducible refine (HV.out _ BB.out).mono ?_)
  rintro e wv ⟨rfl, hbv⟩
  replace BB := Lib.hid (BB.out.trans (hbv.mono BB.out.size))
  replace KK := Lib.hid (KK.out.below hbv)
  replace sz := Nat.le_trans sz hbv.size
  replace R := KK.out.rules
  simp only [Rules] at R
  clear hbv
  go_wp2_with fail
  (with_reducible refine (HB.out _).mono ?_)
  rintro e wq ⟨⟨rr, rfl⟩, rfl⟩
  go_upto_region 8 with fail
  have K5 := KK.out.swap.puti (by simp) 3 (.int .i64 t)
  have K6 : Bx (wv.setCell ⟨w.heap.size, 3, none⟩ (.int .i64 t)) [(w.heap.size, 70, #[Value.int IntKind.i64 v, Value.int IntKind.i64 k, Value.int IntKind.i64 p, Value.int IntKind.i64 t, Value.slice A n c]), (w.heap.size + 1, 70, #[Value.int IntKind.i64 0, Value.int IntKind.i64 0, Value.int IntKind.i64 0, Value.int IntKind.i64 0, Value.slice none 0 0])] := by simpa using K5
  have B6 := BB.out.setCell (p := ⟨w.heap.size, 3, none⟩) (Nat.le_refl _) (.int .i64 t)
  replace KK := Lib.hid K6
  replace BB := Lib.hid B6
  replace sz : w.heap.size + 1 + 1 ≤ (wv.setCell ⟨w.heap.size, 3, none⟩ (.int .i64 t)).heap.size := by simpa [World.setCell] using sz
  clear K5 K6 B6 R
  generalize wv.setCell ⟨w.heap.size, 3, none⟩ (.int .i64 t) = W7 at *
  (refine gro.wp_region_heldA [0, 1, 2, 3, 4, 5] 3 8 _ (gro.lasts_bx _) (by kernel_rfl) (by kernel_rfl) (by intro _ _ _ _ _ h; exact h) (by kernel_rfl) (by kernel_rfl) (by kernel_rfl) (by kernel_rfl) (by kernel_rfl) (by decide) (KK.out).drew ?_; apply Exists.intro; refine ⟨fun w0 hb0 => ?_, ?_⟩; focus (have RZ := gro.Bx.rules hb0; simp only [gro.Rules] at RZ; simp only [gro.pickA, List.filterMap_cons, List.filterMap_nil, List.getElem?_toArray, List.getElem?_cons_succ, List.getElem?_cons_zero]; change wpQuiet _ _ _ _ (_ :: _ :: _ :: _ :: _ :: _ ::  []) _; (repeat (go_big_quiet_step (((go_at_call 105; exact call_same (HF.out _)))))); exact wpQuiet_nil rfl))
  replace BB := Lib.hid BB.out.drew
  replace KK := Lib.hid KK.out.drew
  replace sz := (show _ ≤ (W7.drew).heap.size from sz)
  generalize W7.drew = v1 at *
  refine gro.anyM_one 6 (by kernel_rfl) rfl ?_
  intro v2 hz K' hK'
  replace BB := Lib.hid (BB.out.trans (hz.mono BB.out.size))
  replace KK := Lib.hid (KK.out.below hz)
  replace sz := Nat.le_trans sz hz.size
  clear hz
  go_simp
  refine (HE.out _ BB.out).mono ?_
  rintro e v3 ⟨A6, m6, c6, rfl, p1, ⟨p2, fr⟩, p3, hb⟩
  have HY := Lib.hid p3
  have HHr : Hid (∀ ad, A6 = some ad → w.heap.size + 1 + 1 ≤ ad.block) := fun ad h => Nat.le_trans sz (fr ad h)
  replace BB := Lib.hid (BB.out.trans (hb.mono BB.out.size))
  replace KK := Lib.hid (KK.out.below hb)
  replace sz := Nat.le_trans sz hb.size
  clear hb p3 HE fr
  refine hK' _ _ ⟨fun _ => KK.out, ?_⟩
  clear hK' K'
  refine gro.anyM_one 7 (by kernel_rfl) rfl ?_
  intro v3b hz K' hK'
  replace BB := Lib.hid (BB.out.trans (hz.mono BB.out.size))
  replace KK := Lib.hid (KK.out.below hz)
  replace sz := Nat.le_trans sz hz.size
  replace HY := Lib.hid ((HY.out.below hz).more hz.size)
  clear hz
  go_simp
  refine hK' _ _ ⟨fun _ => KK.out, ?_⟩
  clear hK' K'
  refine gro.anyM_one 8 (by kernel_rfl) rfl ?_
  intro v4 hz K' hK'
  replace BB := Lib.hid (BB.out.trans (hz.mono BB.out.size))
  replace KK := Lib.hid (KK.out.below hz)
  replace sz := Nat.le_trans sz hz.size
  replace HY := Lib.hid ((HY.out.below hz).more hz.size)
  clear hz
  have R := KK.out.rules
  simp only [Rules] at R
  go_simp
  refine hK' _ _ ⟨fun h => absurd (show true = false from h) (by decide), ?_⟩
  clear hK' K' R
  have K5 := KK.out.puti (by simp) 4 (.slice A6 m6 c6)
  have K6 : Bx (v4.setCell ⟨w.heap.size, 4, none⟩ (.slice A6 m6 c6)) [(w.heap.size, 70, #[Value.int IntKind.i64 v, Value.int IntKind.i64 k, Value.int IntKind.i64 p, Value.int IntKind.i64 t, Value.slice A6 m6 c6]), (w.heap.size + 1, 70, #[Value.int IntKind.i64 0, Value.int IntKind.i64 0, Value.int IntKind.i64 0, Value.int IntKind.i64 0, Value.slice none 0 0])] := by simpa using K5
  have B6 := BB.out.setCell (p := ⟨w.heap.size, 4, none⟩) (Nat.le_refl _) (.slice A6 m6 c6)
  have Y6 : BRead (v4.setCell ⟨w.heap.size, 4, none⟩ (.slice A6 m6 c6)) (v4.setCell ⟨w.heap.size, 4, none⟩ (.slice A6 m6 c6)).heap.size A6 m6 ys := (BRead.far HY.out ⟨w.heap.size, 4, none⟩ (fun _ ad h => by have := HHr.out ad h; show ad.block ≠ w.heap.size; omega) (fun y hy h0 ad h => by have := (HEn.out y hy h0 ad h).2; show ad.block ≠ w.heap.size; omega) _).more (by simp [World.setCell])
  replace KK := Lib.hid K6
  replace BB := Lib.hid B6
  replace HY := Lib.hid Y6
  clear K5 K6 B6 Y6 sz
  generalize v4.setCell ⟨w.heap.size, 4, none⟩ (.slice A6 m6 c6) = v5 at *
  refine gro.anyM_done (by kernel_rfl) ?_
  intro v6 hz
  replace BB := Lib.hid (BB.out.trans (hz.mono BB.out.size))
  replace KK := Lib.hid (KK.out.below hz)
  replace HY := Lib.hid ((HY.out.below hz).more hz.size)
  clear hz
  have R := KK.out.rules
  simp only [Rules] at R
  have hq : 0 < m6 → ∀ ad, A6 = some ad → ad.block ≠ w.heap.size + 1 := fun _ ad h => by have := HHr.out ad h; omega
  have hq2 : ∀ y ∈ ys, 0 < y.en → ∀ ad, y.adr = some ad → ad.block ≠ w.heap.size + 1 := fun y hy h0 ad h => by have := (HEn.out y hy h0 ad h).2; omega
  have Y8 := Lib.hid (BRead.far (BRead.far (BRead.far (BRead.far (BRead.far HY.out ⟨w.heap.size + 1, 0, none⟩ hq hq2 (.int .i64 v)) ⟨w.heap.size + 1, 1, none⟩ hq hq2 (.int .i64 k)) ⟨w.heap.size + 1, 2, none⟩ hq hq2 (.int .i64 p)) ⟨w.heap.size + 1, 3, none⟩ hq hq2 (.int .i64 t)) ⟨w.heap.size + 1, 4, none⟩ hq hq2 (.slice A6 m6 c6))
  clear hq hq2
  go_wp2
  refine bodyPost_ret (v := Value.tuple #[.agg #[Value.int IntKind.i64 v, Value.int IntKind.i64 k, Value.int IntKind.i64 p, Value.int IntKind.i64 t, Value.slice A6 m6 c6], .int .i64 0]) (by simp [results, Try.results53, go_sem, R]) rfl ⟨A6, m6, c6, ys, rfl, p1, p2, Y8.out.more (by simp [World.setCell]), rfl, ?_, fun ad h => .inr (by have := HHr.out ad h; omega), fun y hy h0 ad h => .inl (HEn.out y hy h0 ad h).1⟩
  exact (((((BB.out.setCell (by first | (simp; done) | (simp; omega)) _).setCell (by first | (simp; done) | (simp; omega)) _).setCell (by first | (simp; done) | (simp; omega)) _).setCell (by first | (simp; done) | (simp; omega)) _).setCell (by first | (simp; done) | (simp; omega)) _)
set_option maxHeartbeats 8000000 in
set_option maxRecDepth 100000 in
theorem AdvanceQR_any (P : Nat → Prop) (v k p o t : Int) (A : Option Addr) (n c : Nat) (xs : List BlkM) (w : World) (h1 : BRead w w.heap.size A n xs) (hnc : n ≤ c) (hcm : c ≤ maxLen) (hs : n ≤ 64000) (hp : p ≤ 9223372036854775807) (hA : ∀ y ∈ xs, 0 < y.en → ∀ ad, y.adr = some ad → P ad.block) (hrow : ∀ b, P b) :
    Calls Try.prog 54 #[(Value.agg #[.int .i64 v, .int .i64 k, .int .i64 p, .int .i64 o, .slice A n c]), .int .i64 t] w (NewQ P (advQ (xs.map bkey) v k p o t) w) := by
  have HV := Lib.hid (fun W (hb : Below w.heap.size w W) => ValidateQR_any v k p o A n c xs W ((h1.below hb).more hb.size) (by omega) hp)
  have HF := Lib.hid (fun W => clk.First_any t v W)
  have HE := Lib.hid (fun W (hb : Below w.heap.size w W) => ExpireRef_any A n c xs (clk.firstI t v) W w.heap.size (h1.below hb) hnc hcm)
  have HEn := Lib.hid (fun y (hy : y ∈ expireB (clk.firstI t v) xs) (h0 : 0 < y.en) ad (e : y.adr = some ad) => And.intro (hA y ((List.dropWhile_sublist _).mem hy) h0 ad e) (rnk.Reads.blk (h1.2 y ((List.dropWhile_sublist _).mem hy)).1 h0 ad e))
  have HK1 := Lib.hid (expQ_key (clk.firstI t v) xs)
  clear h1 hA
  unfold advQ
  cases hf : fitQ (xs.map bkey) v k p o
  case false =>
    rw [if_neg Bool.false_ne_true]
    rw [hf, okE_f] at HV
    clear hf HF HE HEn HK1
    go_enter Try.func54, Try.ntmps54
    go_wp2_with fail
    obtain ⟨W0, hW, hs0, K0, B0⟩ := start2 w 70 70 #[Value.int IntKind.i64 v, Value.int IntKind.i64 k, Value.int IntKind.i64 p, Value.int IntKind.i64 o, Value.slice A n c] #[Value.int IntKind.i64 0, Value.int IntKind.i64 0, Value.int IntKind.i64 0, Value.int IntKind.i64 0, Value.slice none 0 0]
    rw [hW]
    clear hW
    have KK := Lib.hid K0
    have BB := Lib.hid B0
    have R := K0.rules
    simp only [Rules] at R
    clear K0 B0
    have sz : w.heap.size + 1 + 1 ≤ W0.heap.size := by omega
    clear hs0
    (with_reducible refine (HV.out _ BB.out).mono ?_)
    rintro e wv ⟨rfl, hbv⟩
    replace BB := Lib.hid (BB.out.trans (hbv.mono BB.out.size))
    replace KK := Lib.hid (KK.out.below hbv)
    replace sz := Nat.le_trans sz hbv.size
    replace R := KK.out.rules
    simp only [Rules] at R
    clear hbv
    go_wp2
    refine bodyPost_ret (v := Value.tuple #[.agg #[Value.int IntKind.i64 0, Value.int IntKind.i64 0, Value.int IntKind.i64 0, Value.int IntKind.i64 0, Value.slice none 0 0], .int .i64 2]) (by simp [results, Try.results54, go_sem, R]) rfl (newQ_nil 2 ?_)
    exact (((((BB.out.setCell (by first | (simp; done) | (simp; omega)) _).setCell (by first | (simp; done) | (simp; omega)) _).setCell (by first | (simp; done) | (simp; omega)) _).setCell (by first | (simp; done) | (simp; omega)) _).setCell (by first | (simp; done) | (simp; omega)) _)
  have ho := (goodC_iff.1 (fitQ_iff.1 hf).1).2.2.2
  rw [if_pos rfl]
  rw [hf, okE_t] at HV
  clear hf
  have HB := Lib.hid (fun W => Back_any o t W)
  generalize timeE o t = er at *
  by_cases he : er = 0
  case neg =>
    rw [if_neg he]
    clear HF HE HEn HK1
    go_enter Try.func54, Try.ntmps54
    go_wp2_with fail
    obtain ⟨W0, hW, hs0, K0, B0⟩ := start2 w 70 70 #[Value.int IntKind.i64 v, Value.int IntKind.i64 k, Value.int IntKind.i64 p, Value.int IntKind.i64 o, Value.slice A n c] #[Value.int IntKind.i64 0, Value.int IntKind.i64 0, Value.int IntKind.i64 0, Value.int IntKind.i64 0, Value.slice none 0 0]
    rw [hW]
    clear hW
    have KK := Lib.hid K0
    have BB := Lib.hid B0
    have R := K0.rules
    simp only [Rules] at R
    clear K0 B0
    have sz : w.heap.size + 1 + 1 ≤ W0.heap.size := by omega
    clear hs0
    (with_reducible refine (HV.out _ BB.out).mono ?_)
    rintro e wv ⟨rfl, hbv⟩
    replace BB := Lib.hid (BB.out.trans (hbv.mono BB.out.size))
    replace KK := Lib.hid (KK.out.below hbv)
    replace sz := Nat.le_trans sz hbv.size
    replace R := KK.out.rules
    simp only [Rules] at R
    clear hbv
    go_wp2_with fail
    (with_reducible refine (HB.out _).mono ?_)
    rintro e wq ⟨rfl, rfl⟩
    go_wp2
    refine bodyPost_ret (v := Value.tuple #[.agg #[Value.int IntKind.i64 0, Value.int IntKind.i64 0, Value.int IntKind.i64 0, Value.int IntKind.i64 0, Value.slice none 0 0], .int .i64 er]) (by simp [results, Try.results54, go_sem, R]) rfl (newQ_nil er ?_)
    exact (((((BB.out.setCell (by first | (simp; done) | (simp; omega)) _).setCell (by first | (simp; done) | (simp; omega)) _).setCell (by first | (simp; done) | (simp; omega)) _).setCell (by first | (simp; done) | (simp; omega)) _).setCell (by first | (simp; done) | (simp; omega)) _)
  rw [if_pos he]
  subst he
  rw [← HK1.out]
  clear HK1
  generalize expireB (clk.firstI t v) xs = ys at *
  generalize clk.firstI t v = fi at *
  go_enter Try.func54, Try.ntmps54
  go_wp2_with fail
  obtain ⟨W0, hW, hs0, K0, B0⟩ := start2 w 70 70 #[Value.int IntKind.i64 v, Value.int IntKind.i64 k, Value.int IntKind.i64 p, Value.int IntKind.i64 o, Value.slice A n c] #[Value.int IntKind.i64 0, Value.int IntKind.i64 0, Value.int IntKind.i64 0, Value.int IntKind.i64 0, Value.slice none 0 0]
  rw [hW]
  clear hW
  have KK := Lib.hid K0
  have BB := Lib.hid B0
  have R := K0.rules
  simp only [Rules] at R
  clear K0 B0
  have sz : w.heap.size + 1 + 1 ≤ W0.heap.size := by omega
  clear hs0
  (with_reducible refine (HV.out _ BB.out).mono ?_)
  rintro e wv ⟨rfl, hbv⟩
  replace BB := Lib.hid (BB.out.trans (hbv.mono BB.out.size))
  replace KK := Lib.hid (KK.out.below hbv)
  replace sz := Nat.le_trans sz hbv.size
  replace R := KK.out.rules
  simp only [Rules] at R
  clear hbv
  go_wp2_with fail
  (with_reducible refine (HB.out _).mono ?_)
  rintro e wq ⟨rfl, rfl⟩
  go_upto_region 7 with fail
  (refine gro.wp_region_heldA [0, 1, 2, 4, 5, 8] 6 9 _ (gro.lasts_bx _) (by kernel_rfl) (by kernel_rfl) (by intro _ _ _ _ _ h; exact h) (by kernel_rfl) (by kernel_rfl) (by kernel_rfl) (by kernel_rfl) (by kernel_rfl) (by decide) (KK.out).drew ?_; apply Exists.intro; refine ⟨fun w0 hb0 => ?_, ?_⟩; focus (have RZ := gro.Bx.rules hb0; simp only [gro.Rules] at RZ; simp only [gro.pickA, List.filterMap_cons, List.filterMap_nil, List.getElem?_toArray, List.getElem?_cons_succ, List.getElem?_cons_zero]; change wpQuiet _ _ _ _ (_ :: _ :: _ :: _ :: _ :: _ ::  []) _; (repeat (go_big_quiet_step ((fail)))); exact wpQuiet_nil rfl))
  replace BB := Lib.hid BB.out.drew
  replace KK := Lib.hid KK.out.drew
  replace sz := (show _ ≤ (wv.drew).heap.size from sz)
  generalize wv.drew = v1 at *
  clear R
  refine gro.anyM_one 3 (by kernel_rfl) rfl ?_
  intro u1 hz K' hK'
  replace BB := Lib.hid (BB.out.trans (hz.mono BB.out.size))
  replace KK := Lib.hid (KK.out.below hz)
  replace sz := Nat.le_trans sz hz.size
  clear hz
  go_simp
  refine hK' _ _ ⟨fun _ => KK.out, ?_⟩
  clear hK' K'
  refine gro.anyM_one 6 (by kernel_rfl) rfl ?_
  intro u2 hz K' hK'
  replace BB := Lib.hid (BB.out.trans (hz.mono BB.out.size))
  replace KK := Lib.hid (KK.out.below hz)
  replace sz := Nat.le_trans sz hz.size
  clear hz
  go_simp
  refine (HF.out _).mono ?_
  rintro e u3 ⟨rfl, rfl⟩
  refine hK' _ _ ⟨fun _ => KK.out, ?_⟩
  clear hK' K' HF
  refine gro.anyM_one 7 (by kernel_rfl) rfl ?_
  intro u4 hz K' hK'
  replace BB := Lib.hid (BB.out.trans (hz.mono BB.out.size))
  replace KK := Lib.hid (KK.out.below hz)
  replace sz := Nat.le_trans sz hz.size
  clear hz
  go_simp
  refine (HE.out _ BB.out).mono ?_
  rintro e u5 ⟨A6, m6, c6, rfl, p1, p2, p3, rfl⟩
  have HHr : Hid (0 < m6 → ∀ ad, A6 = some ad → ad.block < w.heap.size) := fun h0 ad h => rnk.Reads.blk p3.1 h0 ad h
  have HY : Hid (BRead u4 u4.heap.size A6 m6 ys) := p3.more BB.out.size
  clear p3 HE
  refine hK' _ _ ⟨fun _ => KK.out, ?_⟩
  clear hK' K'
  refine gro.anyM_one 9 (by kernel_rfl) rfl ?_
  intro u6 hz K' hK'
  replace BB := Lib.hid (BB.out.trans (hz.mono BB.out.size))
  replace KK := Lib.hid (KK.out.below hz)
  replace sz := Nat.le_trans sz hz.size
  replace HY := Lib.hid ((HY.out.below hz).more hz.size)
  clear hz
  have R := KK.out.rules
  simp only [Rules] at R
  go_simp
  refine hK' _ _ ⟨fun h => absurd (show true = false from h) (by decide), ?_⟩
  clear hK' K' R
  have K5 := KK.out.swap.puti (by simp) 3 (.int .i64 t)
  have K6 : Bx (u6.setCell ⟨w.heap.size, 3, none⟩ (.int .i64 t)) [(w.heap.size, 70, #[Value.int IntKind.i64 v, Value.int IntKind.i64 k, Value.int IntKind.i64 p, Value.int IntKind.i64 t, Value.slice A n c]), (w.heap.size + 1, 70, #[Value.int IntKind.i64 0, Value.int IntKind.i64 0, Value.int IntKind.i64 0, Value.int IntKind.i64 0, Value.slice none 0 0])] := by simpa using K5
  have B6 := BB.out.setCell (p := ⟨w.heap.size, 3, none⟩) (Nat.le_refl _) (.int .i64 t)
  have Y6 : BRead (u6.setCell ⟨w.heap.size, 3, none⟩ (.int .i64 t)) (u6.setCell ⟨w.heap.size, 3, none⟩ (.int .i64 t)).heap.size A6 m6 ys := (BRead.far HY.out ⟨w.heap.size, 3, none⟩ (fun h0 ad h => by have := HHr.out h0 ad h; show ad.block ≠ w.heap.size; omega) (fun y hy h0 ad h => by have := (HEn.out y hy h0 ad h).2; show ad.block ≠ w.heap.size; omega) _).more (by simp [World.setCell])
  replace KK := Lib.hid K6
  replace BB := Lib.hid B6
  replace HY := Lib.hid Y6
  replace sz : w.heap.size + 1 + 1 ≤ (u6.setCell ⟨w.heap.size, 3, none⟩ (.int .i64 t)).heap.size := by simpa [World.setCell] using sz
  clear K5 K6 B6 Y6
  generalize u6.setCell ⟨w.heap.size, 3, none⟩ (.int .i64 t) = u7 at *
  refine gro.anyM_one 10 (by kernel_rfl) rfl ?_
  intro u8 hz K' hK'
  replace BB := Lib.hid (BB.out.trans (hz.mono BB.out.size))
  replace KK := Lib.hid (KK.out.below hz)
  replace sz := Nat.le_trans sz hz.size
  replace HY := Lib.hid ((HY.out.below hz).more hz.size)
  clear hz
  go_simp
  refine hK' _ _ ⟨fun h => absurd (show true = false from h) (by decide), ?_⟩
  clear hK' K'
  refine gro.anyM_one 11 (by kernel_rfl) rfl ?_
  intro v4 hz K' hK'
  replace BB := Lib.hid (BB.out.trans (hz.mono BB.out.size))
  replace KK := Lib.hid (KK.out.below hz)
  replace sz := Nat.le_trans sz hz.size
  replace HY := Lib.hid ((HY.out.below hz).more hz.size)
  clear hz
  have R := KK.out.rules
  simp only [Rules] at R
  go_simp
  refine hK' _ _ ⟨fun h => absurd (show true = false from h) (by decide), ?_⟩
  clear hK' K' R
  have K5 := KK.out.puti (by simp) 4 (.slice A6 m6 c6)
  have K6 : Bx (v4.setCell ⟨w.heap.size, 4, none⟩ (.slice A6 m6 c6)) [(w.heap.size, 70, #[Value.int IntKind.i64 v, Value.int IntKind.i64 k, Value.int IntKind.i64 p, Value.int IntKind.i64 t, Value.slice A6 m6 c6]), (w.heap.size + 1, 70, #[Value.int IntKind.i64 0, Value.int IntKind.i64 0, Value.int IntKind.i64 0, Value.int IntKind.i64 0, Value.slice none 0 0])] := by simpa using K5
  have B6 := BB.out.setCell (p := ⟨w.heap.size, 4, none⟩) (Nat.le_refl _) (.slice A6 m6 c6)
  have Y6 : BRead (v4.setCell ⟨w.heap.size, 4, none⟩ (.slice A6 m6 c6)) (v4.setCell ⟨w.heap.size, 4, none⟩ (.slice A6 m6 c6)).heap.size A6 m6 ys := (BRead.far HY.out ⟨w.heap.size, 4, none⟩ (fun h0 ad h => by have := HHr.out h0 ad h; show ad.block ≠ w.heap.size; omega) (fun y hy h0 ad h => by have := (HEn.out y hy h0 ad h).2; show ad.block ≠ w.heap.size; omega) _).more (by simp [World.setCell])
  replace KK := Lib.hid K6
  replace BB := Lib.hid B6
  replace HY := Lib.hid Y6
  clear K5 K6 B6 Y6 sz
  generalize v4.setCell ⟨w.heap.size, 4, none⟩ (.slice A6 m6 c6) = v5 at *
  refine gro.anyM_done (by kernel_rfl) ?_
  intro v6 hz
  replace BB := Lib.hid (BB.out.trans (hz.mono BB.out.size))
  replace KK := Lib.hid (KK.out.below hz)
  replace HY := Lib.hid ((HY.out.below hz).more hz.size)
  clear hz
  have R := KK.out.rules
  simp only [Rules] at R
  have hq : 0 < m6 → ∀ ad, A6 = some ad → ad.block ≠ w.heap.size + 1 := fun h0 ad h => by have := HHr.out h0 ad h; omega
  have hq2 : ∀ y ∈ ys, 0 < y.en → ∀ ad, y.adr = some ad → ad.block ≠ w.heap.size + 1 := fun y hy h0 ad h => by have := (HEn.out y hy h0 ad h).2; omega
  have Y8 := Lib.hid (BRead.far (BRead.far (BRead.far (BRead.far (BRead.far HY.out ⟨w.heap.size + 1, 0, none⟩ hq hq2 (.int .i64 v)) ⟨w.heap.size + 1, 1, none⟩ hq hq2 (.int .i64 k)) ⟨w.heap.size + 1, 2, none⟩ hq hq2 (.int .i64 p)) ⟨w.heap.size + 1, 3, none⟩ hq hq2 (.int .i64 t)) ⟨w.heap.size + 1, 4, none⟩ hq hq2 (.slice A6 m6 c6))
  clear hq hq2
  go_wp2
  refine bodyPost_ret (v := Value.tuple #[.agg #[Value.int IntKind.i64 v, Value.int IntKind.i64 k, Value.int IntKind.i64 p, Value.int IntKind.i64 t, Value.slice A6 m6 c6], .int .i64 0]) (by simp [results, Try.results54, go_sem, R]) rfl ⟨A6, m6, c6, ys, rfl, p1, p2, Y8.out.more (by simp [World.setCell]), rfl, ?_, fun ad h => .inl (hrow _), fun y hy h0 ad h => .inl (HEn.out y hy h0 ad h).1⟩
  exact (((((BB.out.setCell (by first | (simp; done) | (simp; omega)) _).setCell (by first | (simp; done) | (simp; omega)) _).setCell (by first | (simp; done) | (simp; omega)) _).setCell (by first | (simp; done) | (simp; omega)) _).setCell (by first | (simp; done) | (simp; omega)) _)
end Go.Proofs.Ytjapjfcennemeaa.qtl
