/- RMrg: proved here in one text, no conditions beyond those that each theorem states. -/
import Derived.LoopN
import Derived.Test.YtjapjfcennemeaaGreatZ27
set_option linter.unusedVariables false
set_option linter.unusedSimpArgs false
namespace Go.Proofs.YtjapjfcennemeaaGreat.rnk
open Go.RowKit Go.Proofs.YtjapjfcennemeaaGreat.mem Go.Proofs.YtjapjfcennemeaaGreat.gro
set_option linter.unusedVariables false
set_option linter.unusedSimpArgs false
set_option pp.maxSteps 200000
set_option maxHeartbeats 16000000 in
set_option maxRecDepth 100000 in
theorem Merge_any (a : Int) (A1 : Option Addr) (n1 c1 : Nat) (x : L3) (b : Int) (A2 : Option Addr) (n2 c2 : Nat) (y : L3) (w : World) (h1 : ERead w w.heap.size A1 n1 x) (h2 : ERead w w.heap.size A2 n2 y) (hs1 : n1 ≤ 8388608) (hs2 : n2 ≤ 8388608) : Calls Tryz.prog 45 #[.agg #[.int .i64 a, .slice A1 n1 c1], .agg #[.int .i64 b, .slice A2 n2 c2]] w (NewREF (mrgP a x b y) (mrgE a x b y) w) := by
  have H1 := Lib.hid h1
  have H2 := Lib.hid h2
  have HL1 := Lib.hid h1.len
  have HL2 := Lib.hid h2.len
  have HV1 := Lib.hid (fun W (hb : Below w.heap.size w W) => Validate_any a A1 n1 c1 x W ((h1.below hb).more hb.size) (by omega))
  have HV2 := Lib.hid (fun W (hb : Below w.heap.size w W) => Validate_any b A2 n2 c2 y W ((h2.below hb).more hb.size) (by omega))
  clear h1 h2
  rcases Bool.eq_false_or_eq_true (valR a x) with hv1 | hv1
  case inr =>
    rw [mrgP_f (by unfold mrgOk; rw [hv1]; rfl), mrgE_f (fun h => by rw [hv1] at h; cases h.1)]
    rw [hv1, erS_f] at HV1
    go_enter Tryz.func45, Tryz.ntmps45
    go_wp2_with fail
    obtain ⟨W0, hW, hs0, K0, B0⟩ := start3 w 39 39 39 #[Value.int IntKind.i64 a, Value.slice A1 n1 c1] #[Value.int IntKind.i64 b, Value.slice A2 n2 c2] #[Value.int IntKind.i64 0, Value.slice none 0 0]
    rw [hW]
    clear hW
    have KK := Lib.hid K0
    have BB := Lib.hid B0
    have R := K0.rules
    simp only [Rules] at R
    clear K0 B0 hs0
    go_wp2_with fail
    (with_reducible refine (HV1.out _ BB.out).mono ?_)
    rintro e wv ⟨rfl, hbv⟩; replace BB := Lib.hid (BB.out.trans (hbv.mono BB.out.size)); replace KK := Lib.hid (KK.out.below hbv); replace R := KK.out.rules; simp only [gro.Rules] at R; clear hbv
    go_wp2
    refine bodyPost_ret (v := Value.tuple #[.agg #[.int .i64 0, .slice none 0 0], .int .i64 2]) (by simp [results, Tryz.results45, go_sem, R]) rfl ?_
    exact newREF_nil 2 BB.out (by omega) _ _
  rcases Bool.eq_false_or_eq_true (valR b y) with hv2 | hv2
  case inr =>
    rw [mrgP_f (by unfold mrgOk; rw [hv2, Bool.and_false]; rfl), mrgE_f (fun h => by rw [hv2] at h; cases h.2)]
    rw [hv2, erS_f] at HV2
    rw [hv1, erS_t] at HV1
    go_enter Tryz.func45, Tryz.ntmps45
    go_wp2_with fail
    obtain ⟨W0, hW, hs0, K0, B0⟩ := start3 w 39 39 39 #[Value.int IntKind.i64 a, Value.slice A1 n1 c1] #[Value.int IntKind.i64 b, Value.slice A2 n2 c2] #[Value.int IntKind.i64 0, Value.slice none 0 0]
    rw [hW]
    clear hW
    have KK := Lib.hid K0
    have BB := Lib.hid B0
    have R := K0.rules
    simp only [Rules] at R
    clear K0 B0 hs0
    go_wp2_with fail
    (with_reducible refine (HV1.out _ BB.out).mono ?_)
    rintro e wv ⟨rfl, hbv⟩; replace BB := Lib.hid (BB.out.trans (hbv.mono BB.out.size)); replace KK := Lib.hid (KK.out.below hbv); replace R := KK.out.rules; simp only [gro.Rules] at R; clear hbv
    go_wp2_with fail
    (with_reducible refine (HV2.out _ BB.out).mono ?_)
    rintro e wv ⟨rfl, hbv⟩; replace BB := Lib.hid (BB.out.trans (hbv.mono BB.out.size)); replace KK := Lib.hid (KK.out.below hbv); replace R := KK.out.rules; simp only [gro.Rules] at R; clear hbv
    go_wp2
    refine bodyPost_ret (v := Value.tuple #[.agg #[.int .i64 0, .slice none 0 0], .int .i64 2]) (by simp [results, Tryz.results45, go_sem, R]) rfl ?_
    exact newREF_nil 2 BB.out (by omega) _ _
  rw [mrgE_t hv1 hv2]
  rw [hv1, erS_t] at HV1
  rw [hv2, erS_t] at HV2
  obtain ⟨⟨a1, a2, a3⟩, _⟩ := valR_iff.1 hv1
  obtain ⟨⟨b1, b2, b3⟩, _⟩ := valR_iff.1 hv2
  rw [HL1.out] at a3
  rw [HL2.out] at b3
  have s1 : IntKind.i64.wrap (1099511627776 - b) = 1099511627776 - b := IntWalk.i64_in _ (by omega)
  by_cases hab : a + b ≤ 1099511627776
  case neg =>
    rw [if_neg hab, mrgP_f (by unfold mrgOk; rw [hv1, hv2]; simpa using hab)]
    clear hv1 hv2
    go_enter Tryz.func45, Tryz.ntmps45
    go_wp2_with fail
    obtain ⟨W0, hW, hs0, K0, B0⟩ := start3 w 39 39 39 #[Value.int IntKind.i64 a, Value.slice A1 n1 c1] #[Value.int IntKind.i64 b, Value.slice A2 n2 c2] #[Value.int IntKind.i64 0, Value.slice none 0 0]
    rw [hW]
    clear hW
    have KK := Lib.hid K0
    have BB := Lib.hid B0
    have R := K0.rules
    simp only [Rules] at R
    clear K0 B0 hs0
    go_wp2_with fail
    (with_reducible refine (HV1.out _ BB.out).mono ?_)
    rintro e wv ⟨rfl, hbv⟩; replace BB := Lib.hid (BB.out.trans (hbv.mono BB.out.size)); replace KK := Lib.hid (KK.out.below hbv); replace R := KK.out.rules; simp only [gro.Rules] at R; clear hbv
    go_wp2_with fail
    (with_reducible refine (HV2.out _ BB.out).mono ?_)
    rintro e wv ⟨rfl, hbv⟩; replace BB := Lib.hid (BB.out.trans (hbv.mono BB.out.size)); replace KK := Lib.hid (KK.out.below hbv); replace R := KK.out.rules; simp only [gro.Rules] at R; clear hbv
    go_wp2
    refine bodyPost_ret (v := Value.tuple #[.agg #[.int .i64 0, .slice none 0 0], .int .i64 5]) (by simp [results, Tryz.results45, go_sem, R]) rfl ?_
    exact newREF_nil 5 BB.out (by omega) _ _
  rw [if_pos hab, mrgP_t hv1 hv2 hab]
  have HC := Lib.hid (fun W (hb : Below w.heap.size w W) => copied_any a A1 n1 c1 x W ((H1.out.below hb).more hb.size) (by omega))
  by_cases ha : a = 0
  case pos =>
    subst ha
    have hx := nil_of_val hv1
    rw [hx, mergeL_nil_left, Int.zero_add]
    replace HC := Lib.hid (fun W (hb : Below w.heap.size w W) => copied_any b A2 n2 c2 y W ((H2.out.below hb).more hb.size) (by omega))
    clear hv1 hv2 hx
    go_enter Tryz.func45, Tryz.ntmps45
    go_wp2_with fail
    obtain ⟨W0, hW, hs0, K0, B0⟩ := start3 w 39 39 39 #[Value.int IntKind.i64 0, Value.slice A1 n1 c1] #[Value.int IntKind.i64 b, Value.slice A2 n2 c2] #[Value.int IntKind.i64 0, Value.slice none 0 0]
    rw [hW]
    clear hW
    have KK := Lib.hid K0
    have BB := Lib.hid B0
    have R := K0.rules
    simp only [Rules] at R
    clear K0 B0 hs0
    go_wp2_with fail
    (with_reducible refine (HV1.out _ BB.out).mono ?_)
    rintro e wv ⟨rfl, hbv⟩; replace BB := Lib.hid (BB.out.trans (hbv.mono BB.out.size)); replace KK := Lib.hid (KK.out.below hbv); replace R := KK.out.rules; simp only [gro.Rules] at R; clear hbv
    go_wp2_with fail
    (with_reducible refine (HV2.out _ BB.out).mono ?_)
    rintro e wv ⟨rfl, hbv⟩; replace BB := Lib.hid (BB.out.trans (hbv.mono BB.out.size)); replace KK := Lib.hid (KK.out.below hbv); replace R := KK.out.rules; simp only [gro.Rules] at R; clear hbv
    go_wp2_with fail
    have hlt : w.heap.size + 1 + 1 < wv.heap.size := (KK.out _ (List.mem_cons_self ..)).lt
    refine (HC.out _ BB.out).mono ?_
    rintro e w1 ⟨A9, m9, c9, rfl, q1, q2, q3, hb, hfr⟩
    have BB1 := BB.out.trans (hb.mono BB.out.size)
    have KK1 := KK.out.below hb
    have R1 := KK1.rules
    simp only [Rules] at R1
    clear R
    go_wp2
    obtain ⟨p1, p2⟩ := put_out (g := w.heap.size + 1 + 1) BB1 (by omega) q3 (fun _ ad e => by have := hfr ad e; omega) (Value.int IntKind.i64 b) (.slice A9 m9 c9)
    refine bodyPost_ret (v := Value.tuple #[.agg #[.int .i64 b, .slice A9 m9 c9], .int .i64 0]) (by simp [results, Tryz.results45, go_sem, R1]) rfl ⟨A9, m9, c9, rfl, q1, q2, p1, p2, fun ad e => by have := hfr ad e; have := BB.out.size; omega⟩
  have ha0 : (a == 0) = false := by simpa using ha
  by_cases hb0 : b = 0
  case pos =>
    subst hb0
    have hy := nil_of_val hv2
    rw [hy, mergeL_nil_right, Int.add_zero]
    clear hv1 hv2 hy
    go_enter Tryz.func45, Tryz.ntmps45
    go_wp2_with fail
    obtain ⟨W0, hW, hs0, K0, B0⟩ := start3 w 39 39 39 #[Value.int IntKind.i64 a, Value.slice A1 n1 c1] #[Value.int IntKind.i64 0, Value.slice A2 n2 c2] #[Value.int IntKind.i64 0, Value.slice none 0 0]
    rw [hW]
    clear hW
    have KK := Lib.hid K0
    have BB := Lib.hid B0
    have R := K0.rules
    simp only [Rules] at R
    clear K0 B0 hs0
    go_wp2_with fail
    (with_reducible refine (HV1.out _ BB.out).mono ?_)
    rintro e wv ⟨rfl, hbv⟩; replace BB := Lib.hid (BB.out.trans (hbv.mono BB.out.size)); replace KK := Lib.hid (KK.out.below hbv); replace R := KK.out.rules; simp only [gro.Rules] at R; clear hbv
    go_wp2_with fail
    (with_reducible refine (HV2.out _ BB.out).mono ?_)
    rintro e wv ⟨rfl, hbv⟩; replace BB := Lib.hid (BB.out.trans (hbv.mono BB.out.size)); replace KK := Lib.hid (KK.out.below hbv); replace R := KK.out.rules; simp only [gro.Rules] at R; clear hbv
    go_wp2_with fail
    have hlt : w.heap.size + 1 + 1 < wv.heap.size := (KK.out _ (List.mem_cons_self ..)).lt
    refine (HC.out _ BB.out).mono ?_
    rintro e w1 ⟨A9, m9, c9, rfl, q1, q2, q3, hb, hfr⟩
    have BB1 := BB.out.trans (hb.mono BB.out.size)
    have KK1 := KK.out.below hb
    have R1 := KK1.rules
    simp only [Rules] at R1
    clear R
    go_wp2
    obtain ⟨p1, p2⟩ := put_out (g := w.heap.size + 1 + 1) BB1 (by omega) q3 (fun _ ad e => by have := hfr ad e; omega) (Value.int IntKind.i64 a) (.slice A9 m9 c9)
    refine bodyPost_ret (v := Value.tuple #[.agg #[.int .i64 a, .slice A9 m9 c9], .int .i64 0]) (by simp [results, Tryz.results45, go_sem, R1]) rfl ⟨A9, m9, c9, rfl, q1, q2, p1, p2, fun ad e => by have := hfr ad e; have := BB.out.size; omega⟩
  have hb1 : (b == 0) = false := by simpa using hb0
  have HB1 := Lib.hid (bnds_of_val HL1.out hv1)
  have HB2 := Lib.hid (bnds_of_val HL2.out hv2)
  have bN1 : 0 ≤ a ∧ a ≤ 1099511627776 := ⟨a1, a2⟩
  have bN2 : 0 ≤ b ∧ b ≤ 1099511627776 := ⟨b1, b2⟩
  have s2 : IntKind.i64.wrap (a + b) = a + b := IntWalk.i64_in _ (by omega)
  clear HC hv1 hv2 a3 b3
  obtain ⟨i0, hi0, hz0, hz1, hz2⟩ := info_parts entry_info
  have HI := Lib.hid hi0
  have HZ0 := Lib.hid hz0
  have HZ1 := Lib.hid hz1
  have HZ2 := Lib.hid hz2
  clear hi0 hz0 hz1 hz2
  go_enter Tryz.func45, Tryz.ntmps45
  go_wp2_with fail
  obtain ⟨W0, hW, hs0, K0, B0⟩ := start3 w 39 39 39 #[Value.int IntKind.i64 a, Value.slice A1 n1 c1] #[Value.int IntKind.i64 b, Value.slice A2 n2 c2] #[Value.int IntKind.i64 0, Value.slice none 0 0]
  rw [hW]
  clear hW
  have KK := Lib.hid K0
  have BB := Lib.hid B0
  have R := K0.rules
  simp only [Rules] at R
  clear K0 B0 hs0
  go_wp2_with fail
  (with_reducible refine (HV1.out _ BB.out).mono ?_)
  rintro e wv ⟨rfl, hbv⟩; replace BB := Lib.hid (BB.out.trans (hbv.mono BB.out.size)); replace KK := Lib.hid (KK.out.below hbv); replace R := KK.out.rules; simp only [gro.Rules] at R; clear hbv
  go_wp2_with fail
  (with_reducible refine (HV2.out _ BB.out).mono ?_)
  rintro e wv ⟨rfl, hbv⟩; replace BB := Lib.hid (BB.out.trans (hbv.mono BB.out.size)); replace KK := Lib.hid (KK.out.below hbv); replace R := KK.out.rules; simp only [gro.Rules] at R; clear hbv
  obtain ⟨g8, hg8⟩ : ∃ s, wv.heap.size = s := ⟨_, rfl⟩
  have hw8 : w.heap.size + 1 + 1 < g8 := by have := (KK.out _ (List.mem_cons_self ..)).lt; omega
  have BZ := Lib.hid (BB.out.alloc BB.out.size (.cells #[Value.int IntKind.i64 (a + b), Value.slice none 0 0] 39))
  have KZ := Lib.hid (KK.out.new (t := 39) (c := #[Value.int IntKind.i64 (a + b), Value.slice none 0 0]) hg8)
  go_wp2_with fail
  obtain ⟨W3, hW, K3, B3, z3⟩ := name_world KZ.out BZ.out (s := g8 + 1) (by simp; omega)
  rw [hW]
  clear hW KK BB KZ BZ R
  have KK := Lib.hid K3
  have BB := Lib.hid B3
  have R := K3.rules
  simp only [Rules] at R
  clear K3 B3
  (refine gro.wp_region_grown (by kernel_rfl) (by kernel_rfl) ?_; (repeat (go_big_quiet_step ((fail)))); refine wpQuiet_nil ?_; intro _ hw'; obtain ⟨nx, hw''⟩ := hw'; subst hw'')
  replace BB := Lib.hid (BB.out.trans ((below_grown _ nx).mono BB.out.size))
  replace KK := Lib.hid (KK.out.below (below_grown _ nx))
  replace z3 := Nat.le_trans z3 (below_grown _ nx).size
  clear R
  generalize grown _ nx = W4 at *
  have R := KK.out.rules
  simp only [Rules] at R
  obtain ⟨sb, hsb⟩ : ∃ s, W4.heap.size = s := ⟨_, rfl⟩
  have hsb8 : g8 < sb := by omega
  go_wp2_with fail
  clear R s1 s2 ha0 hb1
  go_loopg [11, 12] (n1 + n2) (fun kx s11 s12 wr => ∃ (i j : Nat) (u : Value) (o : L3), s11 = .int .i64 i ∧ s12 = .int .i64 j ∧ i ≤ n1 ∧ j ≤ n2 ∧ n1 - i + (n2 - j) ≤ kx ∧ Hid (wr.ownsRow sb 79 3 u (i + j) (tc o)) ∧ Hid (Bx wr [(g8, 39, #[Value.int IntKind.i64 (a + b), u]), (w.heap.size + 1 + 1, 39, #[Value.int IntKind.i64 0, Value.slice none 0 0]), (w.heap.size + 1, 39, #[Value.int IntKind.i64 b, Value.slice A2 n2 c2]), (w.heap.size, 39, #[Value.int IntKind.i64 a, Value.slice A1 n1 c1])]) ∧ Hid (Below w.heap.size w wr) ∧ sb ≤ wr.heap.size ∧ Hid (o ++ mrg x y a b (n1 - i + (n2 - j)) i j = mergeL x y a b))
  case atStart => exact ⟨0, 0, .slice none 0 0, [], rfl, rfl, Nat.zero_le _, Nat.zero_le _, by omega, own_nil _ _ _ _, KK, BB, by omega, by rw [← HL1.out, ← HL2.out]; rfl⟩
  case round =>
    clear KK BB HV1 HV2
    obtain ⟨i, j, u, o, rfl, rfl, hi1, hj1, hik, HO, KK, BB, szb, HE⟩ := hrel
    have R := KK.out.rules
    simp only [Rules] at R
    by_cases hend : i < n1 ∨ j < n2
    case neg =>
      obtain rfl : n1 = i := by omega
      obtain rfl : n2 = j := by omega
      have HEE := Lib.hid (show o = mergeL x y a b by have := HE.out; rw [show n1 - n1 + (n2 - n2) = 0 by omega] at this; simpa [mrg] using this)
      obtain ⟨A9, c9, rfl, q1, q2, q3⟩ := own_form HO.out
      have hge := fun ad (h : A9 = some ad) => own_block_ge HO.out ad.block (by rw [h]; rfl)
      obtain ⟨p1, p2⟩ := put_out (g := w.heap.size + 1 + 1) BB.out (by omega) q3 (fun _ ad h => by have := hge ad h; omega) (Value.int IntKind.i64 (a + b)) (.slice A9 (n1 + n2) c9)
      replace p1 := Lib.hid p1
      replace p2 := Lib.hid p2
      have HG9 := Lib.hid hge
      clear q3 hge
      go_wp2
      refine bodyPost_ret (v := Value.tuple #[.agg #[.int .i64 (a + b), .slice A9 (n1 + n2) c9], .int .i64 0]) (by simp [results, Tryz.results45, go_sem, R]) rfl ⟨A9, n1 + n2, c9, rfl, q1, q2, by rw [← HEE.out]; exact p1.out, p2.out, fun ad h => by have := HG9.out ad h; omega⟩
    obtain ⟨gi, hgi⟩ : ∃ s, wr.heap.size = s := ⟨_, rfl⟩
    have BZ := Lib.hid (BB.out.alloc BB.out.size (.cells #[Value.int IntKind.i64 0, Value.int IntKind.i64 0, Value.int IntKind.i64 0] 79))
    have HOZ := Lib.hid (own_alloc HO.out (.cells #[Value.int IntKind.i64 0, Value.int IntKind.i64 0, Value.int IntKind.i64 0] 79))
    have KZ := Lib.hid (KK.out.new (t := 79) (c := #[Value.int IntKind.i64 0, Value.int IntKind.i64 0, Value.int IntKind.i64 0]) hgi)
    have hub := Lib.hid (fun k (h : u.ownBlock = some k) => show sb ≤ k ∧ k < gi by have := World.ownsRow.lt HO.out k h; omega)
    by_cases hj : j < n2
    case neg =>
      obtain rfl : n2 = j := by omega
      have hi : i < n1 := by omega
      have hstep := Lib.hid (step_x HL1.out hi (Nat.le_refl _) (.inl HL2.out.symm) HE.out)
      obtain ⟨ad1, rfl, hbx, HCx⟩ := ERead.cells H1.out hi
      have bx := HB1.out i hi
      have bxm := bx.1
      have bxx := bx.2
      clear bx
      have hax : Hid (at3 x i = ((at3 x i).1, (at3 x i).2.1, (at3 x i).2.2)) := rfl
      generalize (at3 x i).1 = xv at *
      generalize (at3 x i).2.1 = xm at *
      generalize (at3 x i).2.2 = xx at *
      rw [hax.out] at hstep
      clear hax HE
      have hd1 : ((n2 : Int) == n2) = true := by simp
      go_wp2_with fail
      obtain ⟨W5, hW, K5, B5, z5⟩ := name_world KZ.out BZ.out (s := gi + 1) (by simp; omega)
      rw [hW]
      rw [hW] at HOZ
      clear hW KK BB HO KZ BZ R
      have KK := Lib.hid K5
      have BB := Lib.hid B5
      have HO := Lib.hid HOZ.out
      have R := K5.rules
      simp only [Rules] at R
      clear K5 B5 HOZ
      (refine gro.wp_region_grown (by kernel_rfl) (by kernel_rfl) ?_; (repeat (go_big_quiet_step ((fail)))); refine wpQuiet_nil ?_; intro _ hw'; obtain ⟨nx, hw''⟩ := hw'; subst hw'')
      replace BB := Lib.hid (BB.out.trans ((below_grown _ nx).mono BB.out.size))
      replace KK := Lib.hid (KK.out.below (below_grown _ nx))
      replace HO := Lib.hid (own_keep HO.out (below_grown _ nx))
      replace z5 := Nat.le_trans z5 (below_grown _ nx).size
      clear R
      generalize grown _ nx = W6 at *
      have R := KK.out.rules
      simp only [Rules] at R
      have BZ5 := BB.out
      have HBt := Lib.hid (fun W (hb : Below w.heap.size w W) => between_any xv xm xx A2 n2 c2 y n2 b W ((H2.out.below hb).more hb.size) (by omega) (by omega) bxm bxx bN2 HB2.out)
      have HST := Lib.hid hstep.out
      clear hstep BZ5
      have hbt : Hid (btw (xv, xm, xx) y n2 b = ((btw (xv, xm, xx) y n2 b).1, (btw (xv, xm, xx) y n2 b).2.1, (btw (xv, xm, xx) y n2 b).2.2)) := rfl
      rw [hbt.out] at HST
      clear hbt
      generalize (btw (xv, xm, xx) y n2 b).1 = e1 at *
      generalize (btw (xv, xm, xx) y n2 b).2.1 = e2 at *
      generalize (btw (xv, xm, xx) y n2 b).2.2 = e3 at *
      go_wp2_with fail
      (refine gro.wp_region_heldA [0, 1, 2, 3, 4, 5, 6, 7, 8] 1 9 _ (gro.lasts_below (W6).drew) (by kernel_rfl) (by kernel_rfl) (by intro _ _ _ _ _ h; exact h) (by kernel_rfl) (by kernel_rfl) (by kernel_rfl) (by kernel_rfl) (by kernel_rfl) (by decide) (Below.refl _ _) ?_; apply Exists.intro; refine ⟨fun w0 hb0 => ?_, ?_⟩; focus (replace hb0 := (Below.drew (Below.refl _ (W6))).trans hb0; have KZ := (KK.out).below hb0; have RZ := KZ.rules; simp only [gro.Rules] at RZ; (have BB0 := BB.out.trans (hb0.mono BB.out.size); obtain ⟨f1, f2, f3⟩ := HCx.out w0 BB0); simp only [gro.pickA, List.filterMap_cons, List.filterMap_nil, List.getElem?_toArray, List.getElem?_cons_succ, List.getElem?_cons_zero]; change wpQuiet _ _ _ _ (_ :: _ :: _ :: _ :: _ :: _ :: _ :: _ :: _ ::  []) _; (repeat (go_big_quiet_step (((go_at_call 79; exact call_grown (HBt.out _ (BB0.trans ((below_grown _ _).mono BB0.size)))))))); exact wpQuiet_nil rfl))
      clear HBt
      refine gro.anyM_one 9 (by kernel_rfl) rfl ?_
      intro y1 hz1 K' hK'
      have hz : Below W6.heap.size W6 y1 := ((Below.refl _ _).drew).trans hz1
      have KV := KK.out.below hz
      have RV := KV.rules
      simp only [Rules] at RV
      clear R
      go_simp
      refine hK' _ _ ⟨fun h => absurd (show true = false from h) (by decide), ?_⟩
      clear hK' K'
      have KT := Bx.put3 (u0 := Value.int IntKind.i64 e1) (u1 := Value.int IntKind.i64 e2) (u2 := Value.int IntKind.i64 e3) KV (by simp <;> omega)
      have HO7 := own_put3 (own_keep HO.out hz) (fun h => by have := hub.out gi h; omega) (Value.int IntKind.i64 e1) (Value.int IntKind.i64 e2) (Value.int IntKind.i64 e3)
      replace BB := Lib.hid ((((BB.out.trans (hz.mono BB.out.size)).setCell (p := ⟨gi, 0, none⟩) (by show w.heap.size ≤ gi; omega) (Value.int IntKind.i64 e1)).setCell (p := ⟨gi, 1, none⟩) (by show w.heap.size ≤ gi; omega) (Value.int IntKind.i64 e2)).setCell (p := ⟨gi, 2, none⟩) (by show w.heap.size ≤ gi; omega) (Value.int IntKind.i64 e3))
      have hz0 := hz.size
      refine gro.anyM_done (by kernel_rfl) ?_
      intro y7 hz7
      have sz7 : gi + 1 ≤ y7.heap.size := by have := hz7.size; simp [World.setCell] at this; omega
      replace BB := Lib.hid (BB.out.trans (hz7.mono BB.out.size))
      replace HO := Lib.hid (own_keep HO7 hz7)
      replace KK := Lib.hid (KT.below hz7)
      clear KT KV RV hz hz1 hz7 HO7 hz0
      have R := KK.out.rules
      simp only [Rules] at R
      go_wp2_with (at_builtin; (refine wpList_append_any _ rfl (.tmp 109) (.tmp 111) 37 rfl sb 79 i0 (.agg #[.int .i64 0, .int .i64 0, .int .i64 0]) 3 24 Tryz.underlying37 HI.out HZ0.out HZ1.out HZ2.out rfl (by omega) u (i + n2) (tc o) rfl (own_alloc HO.out _) _ _ 1 1 _ rfl (reads_blk (blk_new2 rfl) rfl) (by simp [Value.oneCell']) (by unfold maxLen; omega) (by omega) (by simp; omega) ?_); intro v2 w2 hown2 hg2 hat2; obtain ⟨A9, c9, rfl, m9, m8, m7⟩ := own_form hown2; clear m7 m8 m9; have HB2 := Lib.hid (below_own hg2 (own_alloc HO.out _) (BB.out.alloc BB.out.size _) (by omega) (by simp; omega)); have HO2 := Lib.hid hown2; have KW := Bx.app3 (KK.out.alloc _) hg2 (fun q hq h => by have h8 := hub.out _ h.symm; simp at hq; rcases hq with h | h | h | h | h <;> subst h <;> simp at h8 <;> omega); have KX := Lib.hid KW; have hsz2 := hg2.size; clear KW hown2 hg2 hat2; have RX := KX.out.rules; simp only [Rules] at RX)
      have KY := Bx.puti (KX.out.perm (L' := [(g8, 39, #[Value.int IntKind.i64 (a + b), u]), (w.heap.size + 1 + 1, 39, #[Value.int IntKind.i64 0, Value.slice none 0 0]), (w.heap.size + 1, 39, #[Value.int IntKind.i64 b, Value.slice A2 n2 c2]), (w.heap.size, 39, #[Value.int IntKind.i64 a, Value.slice (some ad1) n1 c1])]) (by simp)) (by simp <;> omega) 1 (.slice A9 (i + n2 + 1) c9)
      have HOY := ownsRow_setCell_below HO2.out (a := ⟨g8, 1, none⟩) (by show g8 < sb; omega) (.slice A9 (i + n2 + 1) c9)
      have BBY := HB2.out.setCell (p := ⟨g8, 1, none⟩) (by show w.heap.size ≤ g8; omega) (.slice A9 (i + n2 + 1) c9)
      go_roundg (n1 - (i + 1) + (n2 - (n2)))
      case measure => omega
      case rel => exact ⟨i + 1, n2, (.slice A9 (i + n2 + 1) c9), o ++ [(e1, e2, e3)], by go_num, by go_num, by omega, by omega, by omega, Lib.hid (by rw [tc_append, tc_one, show i + 1 + n2 = i + n2 + 1 by omega]; exact HOY), Lib.hid (by simpa using KY), BBY, by simp [World.setCell] at hsz2 ⊢; omega, HST⟩
    by_cases hi : i < n1
    case neg =>
      obtain rfl : n1 = i := by omega
      have hstep := Lib.hid (step_y HL2.out (Nat.le_refl _) hj (not_take2 HL2.out hj HL1.out) HE.out)
      obtain ⟨ad2, rfl, hby, HCy⟩ := ERead.cells H2.out hj
      have bby := HB2.out j hj
      have bym := bby.1
      have byx := bby.2
      clear bby
      have hay : Hid (at3 y j = ((at3 y j).1, (at3 y j).2.1, (at3 y j).2.2)) := rfl
      generalize (at3 y j).1 = yv at *
      generalize (at3 y j).2.1 = ym at *
      generalize (at3 y j).2.2 = yx at *
      rw [hay.out] at hstep
      clear hay HE
      have hd1 : ((j : Int) == n2) = false := by simp; omega
      have hd2 : decide ((n1 : Int) < n1) = false := by simp
      go_wp2_with fail
      obtain ⟨W5, hW, K5, B5, z5⟩ := name_world KZ.out BZ.out (s := gi + 1) (by simp; omega)
      rw [hW]
      rw [hW] at HOZ
      clear hW KK BB HO KZ BZ R
      have KK := Lib.hid K5
      have BB := Lib.hid B5
      have HO := Lib.hid HOZ.out
      have R := K5.rules
      simp only [Rules] at R
      clear K5 B5 HOZ
      (refine gro.wp_region_grown (by kernel_rfl) (by kernel_rfl) ?_; (repeat (go_big_quiet_step ((fail)))); refine wpQuiet_nil ?_; intro _ hw'; obtain ⟨nx, hw''⟩ := hw'; subst hw'')
      replace BB := Lib.hid (BB.out.trans ((below_grown _ nx).mono BB.out.size))
      replace KK := Lib.hid (KK.out.below (below_grown _ nx))
      replace HO := Lib.hid (own_keep HO.out (below_grown _ nx))
      replace z5 := Nat.le_trans z5 (below_grown _ nx).size
      clear R
      generalize grown _ nx = W6 at *
      have R := KK.out.rules
      simp only [Rules] at R
      have BZ5 := BB.out
      have HBt := Lib.hid (fun W (hb : Below w.heap.size w W) => between_any yv ym yx A1 n1 c1 x n1 a W ((H1.out.below hb).more hb.size) (by omega) (by omega) bym byx bN1 HB1.out)
      have HST := Lib.hid hstep.out
      clear hstep BZ5
      have hbt : Hid (btw (yv, ym, yx) x n1 a = ((btw (yv, ym, yx) x n1 a).1, (btw (yv, ym, yx) x n1 a).2.1, (btw (yv, ym, yx) x n1 a).2.2)) := rfl
      rw [hbt.out] at HST
      clear hbt
      generalize (btw (yv, ym, yx) x n1 a).1 = e1 at *
      generalize (btw (yv, ym, yx) x n1 a).2.1 = e2 at *
      generalize (btw (yv, ym, yx) x n1 a).2.2 = e3 at *
      go_wp2_with fail
      (refine gro.wp_region_heldA [0, 1, 2, 3, 4, 5, 6, 7, 8] 1 9 _ (gro.lasts_below (W6).drew) (by kernel_rfl) (by kernel_rfl) (by intro _ _ _ _ _ h; exact h) (by kernel_rfl) (by kernel_rfl) (by kernel_rfl) (by kernel_rfl) (by kernel_rfl) (by decide) (Below.refl _ _) ?_; apply Exists.intro; refine ⟨fun w0 hb0 => ?_, ?_⟩; focus (replace hb0 := (Below.drew (Below.refl _ (W6))).trans hb0; have KZ := (KK.out).below hb0; have RZ := KZ.rules; simp only [gro.Rules] at RZ; (have BB0 := BB.out.trans (hb0.mono BB.out.size); obtain ⟨f1, f2, f3⟩ := HCy.out w0 BB0); simp only [gro.pickA, List.filterMap_cons, List.filterMap_nil, List.getElem?_toArray, List.getElem?_cons_succ, List.getElem?_cons_zero]; change wpQuiet _ _ _ _ (_ :: _ :: _ :: _ :: _ :: _ :: _ :: _ :: _ ::  []) _; (repeat (go_big_quiet_step (((go_at_call 79; exact call_grown (HBt.out _ (BB0.trans ((below_grown _ _).mono BB0.size)))))))); exact wpQuiet_nil rfl))
      clear HBt
      refine gro.anyM_one 9 (by kernel_rfl) rfl ?_
      intro y1 hz1 K' hK'
      have hz : Below W6.heap.size W6 y1 := ((Below.refl _ _).drew).trans hz1
      have KV := KK.out.below hz
      have RV := KV.rules
      simp only [Rules] at RV
      clear R
      go_simp
      refine hK' _ _ ⟨fun h => absurd (show true = false from h) (by decide), ?_⟩
      clear hK' K'
      have KT := Bx.put3 (u0 := Value.int IntKind.i64 e1) (u1 := Value.int IntKind.i64 e2) (u2 := Value.int IntKind.i64 e3) KV (by simp <;> omega)
      have HO7 := own_put3 (own_keep HO.out hz) (fun h => by have := hub.out gi h; omega) (Value.int IntKind.i64 e1) (Value.int IntKind.i64 e2) (Value.int IntKind.i64 e3)
      replace BB := Lib.hid ((((BB.out.trans (hz.mono BB.out.size)).setCell (p := ⟨gi, 0, none⟩) (by show w.heap.size ≤ gi; omega) (Value.int IntKind.i64 e1)).setCell (p := ⟨gi, 1, none⟩) (by show w.heap.size ≤ gi; omega) (Value.int IntKind.i64 e2)).setCell (p := ⟨gi, 2, none⟩) (by show w.heap.size ≤ gi; omega) (Value.int IntKind.i64 e3))
      have hz0 := hz.size
      refine gro.anyM_done (by kernel_rfl) ?_
      intro y7 hz7
      have sz7 : gi + 1 ≤ y7.heap.size := by have := hz7.size; simp [World.setCell] at this; omega
      replace BB := Lib.hid (BB.out.trans (hz7.mono BB.out.size))
      replace HO := Lib.hid (own_keep HO7 hz7)
      replace KK := Lib.hid (KT.below hz7)
      clear KT KV RV hz hz1 hz7 HO7 hz0
      have R := KK.out.rules
      simp only [Rules] at R
      go_wp2_with (at_builtin; (refine wpList_append_any _ rfl (.tmp 109) (.tmp 111) 37 rfl sb 79 i0 (.agg #[.int .i64 0, .int .i64 0, .int .i64 0]) 3 24 Tryz.underlying37 HI.out HZ0.out HZ1.out HZ2.out rfl (by omega) u (n1 + j) (tc o) rfl (own_alloc HO.out _) _ _ 1 1 _ rfl (reads_blk (blk_new2 rfl) rfl) (by simp [Value.oneCell']) (by unfold maxLen; omega) (by omega) (by simp; omega) ?_); intro v2 w2 hown2 hg2 hat2; obtain ⟨A9, c9, rfl, m9, m8, m7⟩ := own_form hown2; clear m7 m8 m9; have HB2 := Lib.hid (below_own hg2 (own_alloc HO.out _) (BB.out.alloc BB.out.size _) (by omega) (by simp; omega)); have HO2 := Lib.hid hown2; have KW := Bx.app3 (KK.out.alloc _) hg2 (fun q hq h => by have h8 := hub.out _ h.symm; simp at hq; rcases hq with h | h | h | h | h <;> subst h <;> simp at h8 <;> omega); have KX := Lib.hid KW; have hsz2 := hg2.size; clear KW hown2 hg2 hat2; have RX := KX.out.rules; simp only [Rules] at RX)
      have KY := Bx.puti (KX.out.perm (L' := [(g8, 39, #[Value.int IntKind.i64 (a + b), u]), (w.heap.size + 1 + 1, 39, #[Value.int IntKind.i64 0, Value.slice none 0 0]), (w.heap.size + 1, 39, #[Value.int IntKind.i64 b, Value.slice (some ad2) n2 c2]), (w.heap.size, 39, #[Value.int IntKind.i64 a, Value.slice A1 n1 c1])]) (by simp)) (by simp <;> omega) 1 (.slice A9 (n1 + j + 1) c9)
      have HOY := ownsRow_setCell_below HO2.out (a := ⟨g8, 1, none⟩) (by show g8 < sb; omega) (.slice A9 (n1 + j + 1) c9)
      have BBY := HB2.out.setCell (p := ⟨g8, 1, none⟩) (by show w.heap.size ≤ g8; omega) (.slice A9 (n1 + j + 1) c9)
      go_roundg (n1 - (n1) + (n2 - (j + 1)))
      case measure => omega
      case rel => exact ⟨n1, j + 1, (.slice A9 (n1 + j + 1) c9), o ++ [(e1, e2, e3)], by go_num, by go_num, by omega, by omega, by omega, Lib.hid (by rw [tc_append, tc_one, show n1 + (j + 1) = n1 + j + 1 by omega]; exact HOY), Lib.hid (by simpa using KY), BBY, by simp [World.setCell] at hsz2 ⊢; omega, HST⟩
    obtain ⟨ad1, rfl, hbx, HCx⟩ := ERead.cells H1.out hi
    have bx := HB1.out i hi
    have bxm := bx.1
    have bxx := bx.2
    clear bx
    have hax : Hid (at3 x i = ((at3 x i).1, (at3 x i).2.1, (at3 x i).2.2)) := rfl
    obtain ⟨ad2, rfl, hby, HCy⟩ := ERead.cells H2.out hj
    have bby := HB2.out j hj
    have bym := bby.1
    have byx := bby.2
    clear bby
    have hay : Hid (at3 y j = ((at3 y j).1, (at3 y j).2.1, (at3 y j).2.2)) := rfl
    have htx := Lib.hid (fun (h : (at3 x i).1 ≤ (at3 y j).1) => step_x HL1.out hi (Nat.le_of_lt hj) (.inr ⟨by rw [HL1.out]; exact hi, h⟩) HE.out)
    have hty := Lib.hid (fun (h : ¬ (at3 x i).1 ≤ (at3 y j).1) => step_y HL2.out (Nat.le_of_lt hi) hj (not_take HL2.out hj h) HE.out)
    generalize (at3 x i).1 = xv at *
    generalize (at3 x i).2.1 = xm at *
    generalize (at3 x i).2.2 = xx at *
    generalize (at3 y j).1 = yv at *
    generalize (at3 y j).2.1 = ym at *
    generalize (at3 y j).2.2 = yx at *
    rw [hax.out] at htx
    rw [hay.out] at hty
    clear hax hay HE
    have hd1 : ((j : Int) == n2) = false := by simp; omega
    have hd2 : decide ((i : Int) < n1) = true := by simp; omega
    by_cases hc : xv ≤ yv
    case pos =>
      have hstep := Lib.hid (htx.out hc)
      clear htx hty
      have hd3 : decide (xv ≤ yv) = true := by simp; omega
      go_wp2_with fail
      obtain ⟨W5, hW, K5, B5, z5⟩ := name_world KZ.out BZ.out (s := gi + 1) (by simp; omega)
      rw [hW]
      rw [hW] at HOZ
      clear hW KK BB HO KZ BZ R
      have KK := Lib.hid K5
      have BB := Lib.hid B5
      have HO := Lib.hid HOZ.out
      have R := K5.rules
      simp only [Rules] at R
      clear K5 B5 HOZ
      obtain ⟨f1, f2, f3⟩ := HCx.out W5 BB.out
      obtain ⟨k1, k2, k3⟩ := HCy.out W5 BB.out
      (refine gro.wp_region_grown (by kernel_rfl) (by kernel_rfl) ?_; (repeat (go_big_quiet_step ((fail)))); refine wpQuiet_nil ?_; intro _ hw'; obtain ⟨nx, hw''⟩ := hw'; subst hw'')
      replace BB := Lib.hid (BB.out.trans ((below_grown _ nx).mono BB.out.size))
      replace KK := Lib.hid (KK.out.below (below_grown _ nx))
      replace HO := Lib.hid (own_keep HO.out (below_grown _ nx))
      replace z5 := Nat.le_trans z5 (below_grown _ nx).size
      clear R f1 f2 f3 k1 k2 k3
      generalize grown _ nx = W6 at *
      have R := KK.out.rules
      simp only [Rules] at R
      have BZ5 := BB.out
      have HBt := Lib.hid (fun W (hb : Below w.heap.size w W) => between_any xv xm xx (some ad2) n2 c2 y j b W ((H2.out.below hb).more hb.size) (by omega) (by omega) bxm bxx bN2 HB2.out)
      have HST := Lib.hid hstep.out
      clear hstep BZ5
      have hbt : Hid (btw (xv, xm, xx) y j b = ((btw (xv, xm, xx) y j b).1, (btw (xv, xm, xx) y j b).2.1, (btw (xv, xm, xx) y j b).2.2)) := rfl
      rw [hbt.out] at HST
      clear hbt
      generalize (btw (xv, xm, xx) y j b).1 = e1 at *
      generalize (btw (xv, xm, xx) y j b).2.1 = e2 at *
      generalize (btw (xv, xm, xx) y j b).2.2 = e3 at *
      go_wp2_with fail
      (refine gro.wp_region_heldA [0, 1, 2, 3, 4, 5, 6, 7, 8] 1 9 _ (gro.lasts_below (W6).drew) (by kernel_rfl) (by kernel_rfl) (by intro _ _ _ _ _ h; exact h) (by kernel_rfl) (by kernel_rfl) (by kernel_rfl) (by kernel_rfl) (by kernel_rfl) (by decide) (Below.refl _ _) ?_; apply Exists.intro; refine ⟨fun w0 hb0 => ?_, ?_⟩; focus (replace hb0 := (Below.drew (Below.refl _ (W6))).trans hb0; have KZ := (KK.out).below hb0; have RZ := KZ.rules; simp only [gro.Rules] at RZ; (have BB0 := BB.out.trans (hb0.mono BB.out.size); obtain ⟨f1, f2, f3⟩ := HCx.out w0 BB0); simp only [gro.pickA, List.filterMap_cons, List.filterMap_nil, List.getElem?_toArray, List.getElem?_cons_succ, List.getElem?_cons_zero]; change wpQuiet _ _ _ _ (_ :: _ :: _ :: _ :: _ :: _ :: _ :: _ :: _ ::  []) _; (repeat (go_big_quiet_step (((go_at_call 79; exact call_grown (HBt.out _ (BB0.trans ((below_grown _ _).mono BB0.size)))))))); exact wpQuiet_nil rfl))
      clear HBt
      refine gro.anyM_one 9 (by kernel_rfl) rfl ?_
      intro y1 hz1 K' hK'
      have hz : Below W6.heap.size W6 y1 := ((Below.refl _ _).drew).trans hz1
      have KV := KK.out.below hz
      have RV := KV.rules
      simp only [Rules] at RV
      clear R
      go_simp
      refine hK' _ _ ⟨fun h => absurd (show true = false from h) (by decide), ?_⟩
      clear hK' K'
      have KT := Bx.put3 (u0 := Value.int IntKind.i64 e1) (u1 := Value.int IntKind.i64 e2) (u2 := Value.int IntKind.i64 e3) KV (by simp <;> omega)
      have HO7 := own_put3 (own_keep HO.out hz) (fun h => by have := hub.out gi h; omega) (Value.int IntKind.i64 e1) (Value.int IntKind.i64 e2) (Value.int IntKind.i64 e3)
      replace BB := Lib.hid ((((BB.out.trans (hz.mono BB.out.size)).setCell (p := ⟨gi, 0, none⟩) (by show w.heap.size ≤ gi; omega) (Value.int IntKind.i64 e1)).setCell (p := ⟨gi, 1, none⟩) (by show w.heap.size ≤ gi; omega) (Value.int IntKind.i64 e2)).setCell (p := ⟨gi, 2, none⟩) (by show w.heap.size ≤ gi; omega) (Value.int IntKind.i64 e3))
      have hz0 := hz.size
      refine gro.anyM_done (by kernel_rfl) ?_
      intro y7 hz7
      have sz7 : gi + 1 ≤ y7.heap.size := by have := hz7.size; simp [World.setCell] at this; omega
      replace BB := Lib.hid (BB.out.trans (hz7.mono BB.out.size))
      replace HO := Lib.hid (own_keep HO7 hz7)
      replace KK := Lib.hid (KT.below hz7)
      clear KT KV RV hz hz1 hz7 HO7 hz0
      have R := KK.out.rules
      simp only [Rules] at R
      go_wp2_with (at_builtin; (refine wpList_append_any _ rfl (.tmp 109) (.tmp 111) 37 rfl sb 79 i0 (.agg #[.int .i64 0, .int .i64 0, .int .i64 0]) 3 24 Tryz.underlying37 HI.out HZ0.out HZ1.out HZ2.out rfl (by omega) u (i + j) (tc o) rfl (own_alloc HO.out _) _ _ 1 1 _ rfl (reads_blk (blk_new2 rfl) rfl) (by simp [Value.oneCell']) (by unfold maxLen; omega) (by omega) (by simp; omega) ?_); intro v2 w2 hown2 hg2 hat2; obtain ⟨A9, c9, rfl, m9, m8, m7⟩ := own_form hown2; clear m7 m8 m9; have HB2 := Lib.hid (below_own hg2 (own_alloc HO.out _) (BB.out.alloc BB.out.size _) (by omega) (by simp; omega)); have HO2 := Lib.hid hown2; have KW := Bx.app3 (KK.out.alloc _) hg2 (fun q hq h => by have h8 := hub.out _ h.symm; simp at hq; rcases hq with h | h | h | h | h <;> subst h <;> simp at h8 <;> omega); have KX := Lib.hid KW; have hsz2 := hg2.size; clear KW hown2 hg2 hat2; have RX := KX.out.rules; simp only [Rules] at RX)
      have KY := Bx.puti (KX.out.perm (L' := [(g8, 39, #[Value.int IntKind.i64 (a + b), u]), (w.heap.size + 1 + 1, 39, #[Value.int IntKind.i64 0, Value.slice none 0 0]), (w.heap.size + 1, 39, #[Value.int IntKind.i64 b, Value.slice (some ad2) n2 c2]), (w.heap.size, 39, #[Value.int IntKind.i64 a, Value.slice (some ad1) n1 c1])]) (by simp)) (by simp <;> omega) 1 (.slice A9 (i + j + 1) c9)
      have HOY := ownsRow_setCell_below HO2.out (a := ⟨g8, 1, none⟩) (by show g8 < sb; omega) (.slice A9 (i + j + 1) c9)
      have BBY := HB2.out.setCell (p := ⟨g8, 1, none⟩) (by show w.heap.size ≤ g8; omega) (.slice A9 (i + j + 1) c9)
      go_roundg (n1 - (i + 1) + (n2 - (j)))
      case measure => omega
      case rel => exact ⟨i + 1, j, (.slice A9 (i + j + 1) c9), o ++ [(e1, e2, e3)], by go_num, by go_num, by omega, by omega, by omega, Lib.hid (by rw [tc_append, tc_one, show i + 1 + j = i + j + 1 by omega]; exact HOY), Lib.hid (by simpa using KY), BBY, by simp [World.setCell] at hsz2 ⊢; omega, HST⟩
    have hstep := Lib.hid (hty.out hc)
    clear htx hty
    have hd3 : decide (xv ≤ yv) = false := by simp; omega
    go_wp2_with fail
    obtain ⟨W5, hW, K5, B5, z5⟩ := name_world KZ.out BZ.out (s := gi + 1) (by simp; omega)
    rw [hW]
    rw [hW] at HOZ
    clear hW KK BB HO KZ BZ R
    have KK := Lib.hid K5
    have BB := Lib.hid B5
    have HO := Lib.hid HOZ.out
    have R := K5.rules
    simp only [Rules] at R
    clear K5 B5 HOZ
    obtain ⟨f1, f2, f3⟩ := HCx.out W5 BB.out
    obtain ⟨k1, k2, k3⟩ := HCy.out W5 BB.out
    (refine gro.wp_region_grown (by kernel_rfl) (by kernel_rfl) ?_; (repeat (go_big_quiet_step ((fail)))); refine wpQuiet_nil ?_; intro _ hw'; obtain ⟨nx, hw''⟩ := hw'; subst hw'')
    replace BB := Lib.hid (BB.out.trans ((below_grown _ nx).mono BB.out.size))
    replace KK := Lib.hid (KK.out.below (below_grown _ nx))
    replace HO := Lib.hid (own_keep HO.out (below_grown _ nx))
    replace z5 := Nat.le_trans z5 (below_grown _ nx).size
    clear R f1 f2 f3 k1 k2 k3
    generalize grown _ nx = W6 at *
    have R := KK.out.rules
    simp only [Rules] at R
    have BZ5 := BB.out
    have HBt := Lib.hid (fun W (hb : Below w.heap.size w W) => between_any yv ym yx (some ad1) n1 c1 x i a W ((H1.out.below hb).more hb.size) (by omega) (by omega) bym byx bN1 HB1.out)
    have HST := Lib.hid hstep.out
    clear hstep BZ5
    have hbt : Hid (btw (yv, ym, yx) x i a = ((btw (yv, ym, yx) x i a).1, (btw (yv, ym, yx) x i a).2.1, (btw (yv, ym, yx) x i a).2.2)) := rfl
    rw [hbt.out] at HST
    clear hbt
    generalize (btw (yv, ym, yx) x i a).1 = e1 at *
    generalize (btw (yv, ym, yx) x i a).2.1 = e2 at *
    generalize (btw (yv, ym, yx) x i a).2.2 = e3 at *
    go_wp2_with fail
    (refine gro.wp_region_heldA [0, 1, 2, 3, 4, 5, 6, 7, 8] 1 9 _ (gro.lasts_below (W6).drew) (by kernel_rfl) (by kernel_rfl) (by intro _ _ _ _ _ h; exact h) (by kernel_rfl) (by kernel_rfl) (by kernel_rfl) (by kernel_rfl) (by kernel_rfl) (by decide) (Below.refl _ _) ?_; apply Exists.intro; refine ⟨fun w0 hb0 => ?_, ?_⟩; focus (replace hb0 := (Below.drew (Below.refl _ (W6))).trans hb0; have KZ := (KK.out).below hb0; have RZ := KZ.rules; simp only [gro.Rules] at RZ; (have BB0 := BB.out.trans (hb0.mono BB.out.size); obtain ⟨f1, f2, f3⟩ := HCy.out w0 BB0); simp only [gro.pickA, List.filterMap_cons, List.filterMap_nil, List.getElem?_toArray, List.getElem?_cons_succ, List.getElem?_cons_zero]; change wpQuiet _ _ _ _ (_ :: _ :: _ :: _ :: _ :: _ :: _ :: _ :: _ ::  []) _; (repeat (go_big_quiet_step (((go_at_call 79; exact call_grown (HBt.out _ (BB0.trans ((below_grown _ _).mono BB0.size)))))))); exact wpQuiet_nil rfl))
    clear HBt
    refine gro.anyM_one 9 (by kernel_rfl) rfl ?_
    intro y1 hz1 K' hK'
    have hz : Below W6.heap.size W6 y1 := ((Below.refl _ _).drew).trans hz1
    have KV := KK.out.below hz
    have RV := KV.rules
    simp only [Rules] at RV
    clear R
    go_simp
    refine hK' _ _ ⟨fun h => absurd (show true = false from h) (by decide), ?_⟩
    clear hK' K'
    have KT := Bx.put3 (u0 := Value.int IntKind.i64 e1) (u1 := Value.int IntKind.i64 e2) (u2 := Value.int IntKind.i64 e3) KV (by simp <;> omega)
    have HO7 := own_put3 (own_keep HO.out hz) (fun h => by have := hub.out gi h; omega) (Value.int IntKind.i64 e1) (Value.int IntKind.i64 e2) (Value.int IntKind.i64 e3)
    replace BB := Lib.hid ((((BB.out.trans (hz.mono BB.out.size)).setCell (p := ⟨gi, 0, none⟩) (by show w.heap.size ≤ gi; omega) (Value.int IntKind.i64 e1)).setCell (p := ⟨gi, 1, none⟩) (by show w.heap.size ≤ gi; omega) (Value.int IntKind.i64 e2)).setCell (p := ⟨gi, 2, none⟩) (by show w.heap.size ≤ gi; omega) (Value.int IntKind.i64 e3))
    have hz0 := hz.size
    refine gro.anyM_done (by kernel_rfl) ?_
    intro y7 hz7
    have sz7 : gi + 1 ≤ y7.heap.size := by have := hz7.size; simp [World.setCell] at this; omega
    replace BB := Lib.hid (BB.out.trans (hz7.mono BB.out.size))
    replace HO := Lib.hid (own_keep HO7 hz7)
    replace KK := Lib.hid (KT.below hz7)
    clear KT KV RV hz hz1 hz7 HO7 hz0
    have R := KK.out.rules
    simp only [Rules] at R
    go_wp2_with (at_builtin; (refine wpList_append_any _ rfl (.tmp 109) (.tmp 111) 37 rfl sb 79 i0 (.agg #[.int .i64 0, .int .i64 0, .int .i64 0]) 3 24 Tryz.underlying37 HI.out HZ0.out HZ1.out HZ2.out rfl (by omega) u (i + j) (tc o) rfl (own_alloc HO.out _) _ _ 1 1 _ rfl (reads_blk (blk_new2 rfl) rfl) (by simp [Value.oneCell']) (by unfold maxLen; omega) (by omega) (by simp; omega) ?_); intro v2 w2 hown2 hg2 hat2; obtain ⟨A9, c9, rfl, m9, m8, m7⟩ := own_form hown2; clear m7 m8 m9; have HB2 := Lib.hid (below_own hg2 (own_alloc HO.out _) (BB.out.alloc BB.out.size _) (by omega) (by simp; omega)); have HO2 := Lib.hid hown2; have KW := Bx.app3 (KK.out.alloc _) hg2 (fun q hq h => by have h8 := hub.out _ h.symm; simp at hq; rcases hq with h | h | h | h | h <;> subst h <;> simp at h8 <;> omega); have KX := Lib.hid KW; have hsz2 := hg2.size; clear KW hown2 hg2 hat2; have RX := KX.out.rules; simp only [Rules] at RX)
    have KY := Bx.puti (KX.out.perm (L' := [(g8, 39, #[Value.int IntKind.i64 (a + b), u]), (w.heap.size + 1 + 1, 39, #[Value.int IntKind.i64 0, Value.slice none 0 0]), (w.heap.size + 1, 39, #[Value.int IntKind.i64 b, Value.slice (some ad2) n2 c2]), (w.heap.size, 39, #[Value.int IntKind.i64 a, Value.slice (some ad1) n1 c1])]) (by simp)) (by simp <;> omega) 1 (.slice A9 (i + j + 1) c9)
    have HOY := ownsRow_setCell_below HO2.out (a := ⟨g8, 1, none⟩) (by show g8 < sb; omega) (.slice A9 (i + j + 1) c9)
    have BBY := HB2.out.setCell (p := ⟨g8, 1, none⟩) (by show w.heap.size ≤ g8; omega) (.slice A9 (i + j + 1) c9)
    go_roundg (n1 - (i) + (n2 - (j + 1)))
    case measure => omega
    case rel => exact ⟨i, j + 1, (.slice A9 (i + j + 1) c9), o ++ [(e1, e2, e3)], by go_num, by go_num, by omega, by omega, by omega, Lib.hid (by rw [tc_append, tc_one, show i + (j + 1) = i + j + 1 by omega]; exact HOY), Lib.hid (by simpa using KY), BBY, by simp [World.setCell] at hsz2 ⊢; omega, HST⟩
end Go.Proofs.YtjapjfcennemeaaGreat.rnk
