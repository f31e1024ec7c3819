/- RPru: proved here in one text, no conditions beyond those that each theorem states. -/
import Derived.LoopN
import Derived.Test.YtjapjfcennemeaaGreatZ23
import Derived.Test.YtjapjfcennemeaaGreatZ27
set_option linter.unusedVariables false
set_option linter.unusedSimpArgs false
namespace Go.Proofs.YtjapjfcennemeaaGreat.rnk
open Go.RowKit Go.Proofs.YtjapjfcennemeaaGreat.mem Go.Proofs.YtjapjfcennemeaaGreat.gro
set_option linter.unusedVariables false
set_option linter.unusedSimpArgs false
set_option pp.maxSteps 200000
theorem pruP_f {N b : Int} {es : L3} (h : pruOk N b es = false) : pruP N b es = (0, []) := by unfold pruP; rw [if_neg (by rw [h]; exact Bool.false_ne_true)]
theorem pruP_t {N b : Int} {es : L3} (h1 : valR N es = true) (h2 : 1 ≤ b) (h3 : b ≤ 65536) : pruP N b es = (N, pruL N b es) := by unfold pruP; rw [if_pos (by unfold pruOk; rw [h1]; simp; exact ⟨h2, h3⟩)]
theorem pruE_2 {N b : Int} {es : L3} (h : valR N es = false) : pruE N b es = 2 := by unfold pruE; rw [if_neg (by rw [h]; exact Bool.false_ne_true)]
theorem pruE_1 {N b : Int} {es : L3} (h : valR N es = true) (h2 : ¬ (1 ≤ b ∧ b ≤ 65536)) : pruE N b es = 1 := by unfold pruE; rw [if_pos h, if_neg h2]
theorem pruE_0 {N b : Int} {es : L3} (h : valR N es = true) (h2 : 1 ≤ b) (h3 : b ≤ 65536) : pruE N b es = 0 := by unfold pruE; rw [if_pos h, if_pos ⟨h2, h3⟩]
set_option maxHeartbeats 16000000 in
set_option maxRecDepth 100000 in
theorem Prune_any (N : Int) (A : Option Addr) (n c : Nat) (es : L3) (b : Int) (w : World) (h1 : ERead w w.heap.size A n es) (hs : n ≤ 16777216) : Calls Tryz.prog 46 #[.agg #[.int .i64 N, .slice A n c], .int .i64 b] w (NewREF (pruP N b es) (pruE N b es) w) := by
  have H1 := Lib.hid h1
  have HL := Lib.hid h1.len
  have HV := Lib.hid (fun W (hb : Below w.heap.size w W) => Validate_any N A n c es W ((h1.below hb).more hb.size) (by omega))
  clear h1
  rcases Bool.eq_false_or_eq_true (valR N es) with hv | hv
  case inr =>
    rw [pruP_f (by unfold pruOk; rw [hv]; rfl), pruE_2 hv]
    rw [hv, erS_f] at HV
    go_enter Tryz.func46, Tryz.ntmps46
    go_wp2_with fail
    obtain ⟨W0, hW, hs0, K0, B0⟩ := start2 w 39 39 #[Value.int IntKind.i64 N, Value.slice A n c] #[Value.int IntKind.i64 0, Value.slice none 0 0]
    rw [hW]
    clear hW
    have KK := Lib.hid K0
    have BB := Lib.hid B0
    have R := K0.rules
    simp only [Rules] at R
    clear K0 B0 hs0
    go_wp2_with fail
    (with_reducible refine (HV.out _ BB.out).mono ?_)
    rintro e wv ⟨rfl, hbv⟩; replace BB := Lib.hid (BB.out.trans (hbv.mono BB.out.size)); replace KK := Lib.hid (KK.out.below hbv); replace R := KK.out.rules; simp only [gro.Rules] at R; clear hbv
    go_wp2
    refine bodyPost_ret (v := Value.tuple #[.agg #[.int .i64 0, .slice none 0 0], .int .i64 2]) (by simp [results, Tryz.results46, go_sem, R]) rfl ?_
    exact newREF_nil 2 BB.out (by omega) _ _
  by_cases hb0 : 1 ≤ b ∧ b ≤ 65536
  case neg =>
    rw [pruP_f (by unfold pruOk; rw [hv]; simp; omega), pruE_1 hv hb0]
    rw [hv, erS_t] at HV
    by_cases hb1 : b < 1
    case pos =>
      go_enter Tryz.func46, Tryz.ntmps46
      go_wp2_with fail
      obtain ⟨W0, hW, hs0, K0, B0⟩ := start2 w 39 39 #[Value.int IntKind.i64 N, Value.slice A n c] #[Value.int IntKind.i64 0, Value.slice none 0 0]
      rw [hW]
      clear hW
      have KK := Lib.hid K0
      have BB := Lib.hid B0
      have R := K0.rules
      simp only [Rules] at R
      clear K0 B0 hs0
      go_wp2_with fail
      (with_reducible refine (HV.out _ BB.out).mono ?_)
      rintro e wv ⟨rfl, hbv⟩; replace BB := Lib.hid (BB.out.trans (hbv.mono BB.out.size)); replace KK := Lib.hid (KK.out.below hbv); replace R := KK.out.rules; simp only [gro.Rules] at R; clear hbv
      go_wp2
      refine bodyPost_ret (v := Value.tuple #[.agg #[.int .i64 0, .slice none 0 0], .int .i64 1]) (by simp [results, Tryz.results46, go_sem, R]) rfl ?_
      exact newREF_nil 1 BB.out (by omega) _ _
    have hb2 : 65536 < b := by omega
    go_enter Tryz.func46, Tryz.ntmps46
    go_wp2_with fail
    obtain ⟨W0, hW, hs0, K0, B0⟩ := start2 w 39 39 #[Value.int IntKind.i64 N, Value.slice A n c] #[Value.int IntKind.i64 0, Value.slice none 0 0]
    rw [hW]
    clear hW
    have KK := Lib.hid K0
    have BB := Lib.hid B0
    have R := K0.rules
    simp only [Rules] at R
    clear K0 B0 hs0
    go_wp2_with fail
    (with_reducible refine (HV.out _ BB.out).mono ?_)
    rintro e wv ⟨rfl, hbv⟩; replace BB := Lib.hid (BB.out.trans (hbv.mono BB.out.size)); replace KK := Lib.hid (KK.out.below hbv); replace R := KK.out.rules; simp only [gro.Rules] at R; clear hbv
    go_wp2
    refine bodyPost_ret (v := Value.tuple #[.agg #[.int .i64 0, .slice none 0 0], .int .i64 1]) (by simp [results, Tryz.results46, go_sem, R]) rfl ?_
    exact newREF_nil 1 BB.out (by omega) _ _
  obtain ⟨hb1, hb2⟩ := hb0
  rw [pruP_t hv hb1 hb2, pruE_0 hv hb1 hb2]
  have hb3 : ¬ b < 1 := by omega
  have hb4 : ¬ 65536 < b := by omega
  have s0 : IntKind.i64.wrap (b + 1) = b + 1 := IntWalk.i64_in _ (by omega)
  by_cases hn : (n : Int) ≤ b + 1
  case pos =>
    rw [show pruL N b es = es by unfold pruL; rw [if_pos (by rw [HL.out]; exact hn)]]
    rw [hv, erS_t] at HV
    have HC := Lib.hid (fun W (hb : Below w.heap.size w W) => copied_any N A n c es W ((H1.out.below hb).more hb.size) (by omega))
    go_enter Tryz.func46, Tryz.ntmps46
    go_wp2_with fail
    obtain ⟨W0, hW, hs0, K0, B0⟩ := start2 w 39 39 #[Value.int IntKind.i64 N, Value.slice A n c] #[Value.int IntKind.i64 0, Value.slice none 0 0]
    rw [hW]
    clear hW
    have KK := Lib.hid K0
    have BB := Lib.hid B0
    have R := K0.rules
    simp only [Rules] at R
    clear K0 B0 hs0
    go_wp2_with fail
    (with_reducible refine (HV.out _ BB.out).mono ?_)
    rintro e wv ⟨rfl, hbv⟩; replace BB := Lib.hid (BB.out.trans (hbv.mono BB.out.size)); replace KK := Lib.hid (KK.out.below hbv); replace R := KK.out.rules; simp only [gro.Rules] at R; clear hbv
    go_wp2_with fail
    have hlt : w.heap.size + 1 < wv.heap.size := (KK.out _ (List.mem_cons_self ..)).lt
    refine (HC.out _ BB.out).mono ?_
    rintro e w1 ⟨A9, m9, c9, rfl, q1, q2, q3, hb, hfr⟩
    have BB1 := BB.out.trans (hb.mono BB.out.size)
    have KK1 := KK.out.below hb
    have R1 := KK1.rules
    simp only [Rules] at R1
    clear R
    go_wp2
    obtain ⟨p1, p2⟩ := put_out (g := w.heap.size + 1) BB1 (by omega) q3 (fun _ ad e => by have := hfr ad e; omega) (Value.int IntKind.i64 N) (.slice A9 m9 c9)
    refine bodyPost_ret (v := Value.tuple #[.agg #[.int .i64 N, .slice A9 m9 c9], .int .i64 0]) (by simp [results, Tryz.results46, go_sem, R1]) rfl ⟨A9, m9, c9, rfl, q1, q2, p1, p2, fun ad e => by have := hfr ad e; have := BB.out.size; omega⟩
  have hn0 : 0 < n := by omega
  have HE := Lib.hid (show pruL N b es = (pruTo N b es (b.toNat + 1)).2.2 by unfold pruL; rw [if_neg (by rw [HL.out]; exact hn)])
  have HBd := Lib.hid (bnds_of_val HL.out hv)
  obtain ⟨⟨a1, a2, a3⟩, _⟩ := valR_iff.1 hv
  rw [HL.out] at a3
  have hN1 : 1 ≤ N := by omega
  have HLt := Lib.hid (fun i => pruTo_lt (N := N) (b := b) (es := es) (by rw [HL.out]; exact hn0) i)
  rw [hv, erS_t] at HV
  clear hv a1 a3
  obtain ⟨bb, rfl⟩ := Int.eq_ofNat_of_zero_le (show 0 ≤ b by omega)
  rw [Int.toNat_natCast] at HE
  obtain ⟨i0, hi0, hz0, hz1, hz2⟩ := info_parts entry_info
  have HI := Lib.hid hi0
  have HZ0 := Lib.hid hz0
  have HZ1 := Lib.hid hz1
  have HZ2 := Lib.hid hz2
  clear hi0 hz0 hz1 hz2
  go_enter Tryz.func46, Tryz.ntmps46
  go_wp2_with fail
  obtain ⟨W0, hW, hs0, K0, B0⟩ := start2 w 39 39 #[Value.int IntKind.i64 N, Value.slice A n c] #[Value.int IntKind.i64 0, Value.slice none 0 0]
  rw [hW]
  clear hW
  have KK := Lib.hid K0
  have BB := Lib.hid B0
  have R := K0.rules
  simp only [Rules] at R
  clear K0 B0 hs0
  go_wp2_with fail
  (with_reducible refine (HV.out _ BB.out).mono ?_)
  rintro e wv ⟨rfl, hbv⟩; replace BB := Lib.hid (BB.out.trans (hbv.mono BB.out.size)); replace KK := Lib.hid (KK.out.below hbv); replace R := KK.out.rules; simp only [gro.Rules] at R; clear hbv
  have hw8 : w.heap.size + 1 < wv.heap.size := (KK.out _ (List.mem_cons_self ..)).lt
  obtain ⟨g7, hg7⟩ : ∃ s, wv.heap.size = s := ⟨_, rfl⟩
  have BZ := Lib.hid (BB.out.alloc BB.out.size (.cells #[Value.int IntKind.i64 N, Value.slice none 0 0] 39))
  have KZ := Lib.hid (KK.out.new (t := 39) (c := #[Value.int IntKind.i64 N, Value.slice none 0 0]) hg7)
  go_wp2_with fail
  obtain ⟨W3, hW, K3, B3, z3⟩ := name_world KZ.out BZ.out (s := g7 + 1) (by simp; omega)
  rw [hW]
  clear hW KK BB KZ BZ R
  have KK := Lib.hid K3
  have BB := Lib.hid B3
  have R := K3.rules
  simp only [Rules] at R
  clear K3 B3
  obtain ⟨sb, hsb⟩ : ∃ s, W3.heap.size = s := ⟨_, rfl⟩
  have hsb8 : g7 < sb := by omega
  go_wp2_with fail
  clear R s0
  go_loopg [8, 9, 10] (bb + 1) (fun kx s8 s9 s10 wr => ∃ (i : Nat) (l : Int) (s : Nat) (u : Value) (o : L3), s8 = .int .i64 l ∧ s9 = .int .i64 s ∧ s10 = .int .i64 i ∧ i ≤ bb + 1 ∧ bb + 1 - i ≤ kx ∧ s < n ∧ o.length ≤ i ∧ Hid (pruTo N bb es i = (l, s, o)) ∧ Hid (wr.ownsRow sb 79 3 u o.length (tc o)) ∧ Hid (Bx wr [(g7, 39, #[Value.int IntKind.i64 N, u]), (w.heap.size + 1, 39, #[Value.int IntKind.i64 0, Value.slice none 0 0]), (w.heap.size, 39, #[Value.int IntKind.i64 N, Value.slice A n c])]) ∧ Hid (Below w.heap.size w wr) ∧ sb ≤ wr.heap.size)
  case atStart => exact ⟨0, -1, 0, .slice none 0 0, [], rfl, rfl, rfl, Nat.zero_le _, by omega, hn0, Nat.zero_le _, rfl, own_nil _ _ _ _, KK, BB, by omega⟩
  case round =>
    clear KK BB HV z3
    obtain ⟨i, l, s, u, o, rfl, rfl, rfl, hi1, hik, hsn, hol, HP, HO, KK, BB, szb⟩ := hrel
    have R := KK.out.rules
    simp only [Rules] at R
    by_cases hend : i ≤ bb
    case neg =>
      obtain rfl : bb + 1 = i := by omega
      obtain ⟨m, hm⟩ : ∃ m, o.length = m := ⟨_, rfl⟩
      rw [hm] at HO
      obtain ⟨A9, c9, rfl, q1, q2, q3⟩ := own_form HO.out
      have hge := fun ad (h : A9 = some ad) => own_block_ge HO.out ad.block (by rw [h]; rfl)
      obtain ⟨p1, p2⟩ := put_out (g := w.heap.size + 1) BB.out (by omega) q3 (fun _ ad h => by have := hge ad h; omega) (Value.int IntKind.i64 N) (.slice A9 m c9)
      replace p1 := Lib.hid p1
      replace p2 := Lib.hid p2
      have HG9 := Lib.hid hge
      clear q3 hge
      have hle : ¬ ((bb : Int) + 1 ≤ (bb : Int)) := by omega
      go_wp2
      refine bodyPost_ret (v := Value.tuple #[.agg #[.int .i64 N, .slice A9 m c9], .int .i64 0]) (by simp [results, Tryz.results46, go_sem, R]) rfl ⟨A9, m, c9, rfl, q1, q2, by rw [HE.out, HP.out]; exact p1.out, p2.out, fun ad h => by have := HG9.out ad h; omega⟩
    obtain ⟨ht1, ht2⟩ := tgt_bd (N := N) (b := bb) (i := i) hN1 a2 hb1 (by omega)
    have HT := Lib.hid (show tgt N bb i = 1 + (i : Int) * (N - 1) / bb from rfl)
    have hin : (i : Int) * (N - 1) ≤ 65536 * 1099511627776 := by
      refine Int.le_trans (Int.mul_le_mul_of_nonneg_right (show (i : Int) ≤ 65536 by omega) (by omega)) ?_
      omega
    have hin0 : 0 ≤ (i : Int) * (N - 1) := Int.mul_nonneg (by omega) (by omega)
    have hq0 : 0 ≤ (i : Int) * (N - 1) / bb := Int.ediv_nonneg hin0 (by omega)
    have hq1 : 1 + (i : Int) * (N - 1) / bb ≤ N := by have := HT.out; omega
    have s1 : IntKind.i64.wrap (N - 1) = N - 1 := IntWalk.i64_in _ (by omega)
    have s2 : IntKind.i64.wrap ((i : Int) * (N - 1)) = (i : Int) * (N - 1) := IntWalk.i64_in _ (by omega)
    have s3 : Int.tdiv ((i : Int) * (N - 1)) bb = (i : Int) * (N - 1) / bb := Int.tdiv_eq_ediv_of_nonneg hin0
    have s4 : IntKind.i64.wrap ((i : Int) * (N - 1) / bb) = (i : Int) * (N - 1) / bb := IntWalk.i64_in _ (by omega)
    have s5 : IntKind.i64.wrap (1 + (i : Int) * (N - 1) / bb) = tgt N bb i := by rw [HT.out]; exact IntWalk.i64_in _ (by omega)
    have s6 : (((bb : Int)) == 0) = false := by simp; omega
    have s7 : ¬ ((bb : Int)) = 0 := by omega
    have HPN := Lib.hid (fun o2 => @pruTo_new N bb es i l s o2)
    have HPS := Lib.hid (fun o2 => @pruTo_same N bb es i l s o2)
    have HCl := Lib.hid (fun W (hb : Below w.heap.size w W) => place_any A n c es (tgt N bb i) s W ((H1.out.below hb).more hb.size) (by omega) hsn (by omega) HBd.out)
    have hp := (place_lt (es := es) (n := tgt N bb i) (s := s) (by rw [HL.out]; exact hsn)).2
    rw [HL.out] at hp
    generalize place es (tgt N bb i) s = p at *
    generalize tgt N bb i = r at *
    have hub := Lib.hid (fun k (h : u.ownBlock = some k) => show sb ≤ k by have := World.ownsRow.lt HO.out k h; omega)
    have hile : (i : Int) ≤ bb := by omega
    clear HT hq0 hq1 hin hin0 ht1 ht2
    go_wp2_with fail
    (refine gro.wp_region_grown (by kernel_rfl) (by kernel_rfl) ?_; (repeat (go_big_quiet_step (((go_at_call 57; exact call_grown (HCl.out _ (BB.out.trans ((below_grown _ _).mono BB.out.size)))))))); refine wpQuiet_nil ?_; intro _ hw'; obtain ⟨nx, hw''⟩ := hw'; subst hw'')
    replace BB := Lib.hid (BB.out.trans ((below_grown _ nx).mono BB.out.size))
    replace KK := Lib.hid (KK.out.below (below_grown _ nx))
    replace HO := Lib.hid (own_keep HO.out (below_grown _ nx))
    replace szb := Nat.le_trans szb (below_grown _ nx).size
    clear R
    generalize grown _ nx = W5 at *
    have R := KK.out.rules
    simp only [Rules] at R
    clear HCl s1 s2 s3 s4 s5 s6 s7
    by_cases hpl : (p : Int) = l
    case pos =>
      have HN := Lib.hid (HPS.out o HP.out hpl)
      have hd : (((p : Int)) == l) = true := by simpa using hpl
      go_wp2_with fail
      go_roundg (bb + 1 - (i + 1))
      case measure => omega
      case rel => exact ⟨i + 1, l, p, u, o, rfl, rfl, by go_num, by omega, by omega, hp, by omega, HN.out, HO, KK, BB, szb⟩
    have HN := Lib.hid (HPN.out o HP.out hpl)
    have hd : (((p : Int)) == l) = false := by simpa using hpl
    obtain ⟨ad, rfl, hbl, HC⟩ := ERead.cells H1.out hp
    have hx : Hid (at3 es p = ((at3 es p).1, (at3 es p).2.1, (at3 es p).2.2)) := rfl
    rw [hx.out] at HN
    clear hx
    generalize (at3 es p).1 = e1 at *
    generalize (at3 es p).2.1 = e2 at *
    generalize (at3 es p).2.2 = e3 at *
    go_wp2_with fail
    have HS0 := Lib.hid (show SC _ _ _ _ _ _ _ W5.drew from ⟨KK.out.drew, HC.out _ BB.out.drew⟩)
    (refine gro.wp_region_heldA [0, 1, 2, 3, 4, 5, 6] 4 10 _ (rnk.lasts_sc _ _ _ _ _ _ _) (by kernel_rfl) (by kernel_rfl) (by intro _ _ _ _ _ h; exact h) (by kernel_rfl) (by kernel_rfl) (by kernel_rfl) (by kernel_rfl) (by kernel_rfl) (by decide) (HS0.out) ?_; apply Exists.intro; refine ⟨fun w0 hb0 => ?_, ?_⟩; focus (obtain ⟨kz, f1, f2, f3⟩ := hb0; have RZ := kz.rules; simp only [gro.Rules] at RZ; simp only [gro.pickA, List.filterMap_cons, List.filterMap_nil, List.getElem?_toArray, List.getElem?_cons_succ, List.getElem?_cons_zero]; change wpQuiet _ _ _ _ (_ :: _ :: _ :: _ :: _ :: _ :: _ ::  []) _; (repeat (go_big_quiet_step ((fail)))); exact wpQuiet_nil rfl))
    refine gro.anyM_one 7 (by kernel_rfl) rfl ?_
    intro y2 hz2 K' hK'
    go_simp
    refine hK' _ _ ⟨fun _ => lasts_sc _ _ _ _ _ _ _ _ _ HS0.out (hz2.alloc hz2.size _), ?_⟩
    clear hK' K'
    have B2 : Below W5.heap.size W5 y2 := ((Below.refl _ _).drew).trans hz2
    obtain ⟨z2, hy2⟩ : ∃ z, y2.alloc (.cells #[Value.int IntKind.i64 e1, Value.int IntKind.i64 e2, Value.int IntKind.i64 e3] 79) = z := ⟨_, rfl⟩
    have hr2 : Reads z2 z2.heap.size 3 (some ⟨y2.heap.size, 0, none⟩) 1 [Value.int IntKind.i64 e1, Value.int IntKind.i64 e2, Value.int IntKind.i64 e3] := by rw [← hy2]; exact Reads.more (reads_new y2 79 #[Value.int IntKind.i64 e1, Value.int IntKind.i64 e2, Value.int IntKind.i64 e3] rfl) (by simp)
    have hA2 : Below y2.heap.size y2 z2 := by rw [← hy2]; exact (Below.refl _ _).alloc (Nat.le_refl _) _
    have B3 := B2.trans (hA2.mono B2.size)
    rw [hy2]
    refine gro.anyM_one 8 (by kernel_rfl) rfl ?_
    intro y3 hz3 K' hK'
    have B4 := B3.trans (hz3.mono B3.size)
    have HU := own_keep HO.out B4
    refine step_append_any _ (by rfl) (.tmp 56) (.tmp 62) 37 rfl sb 79 i0 (.agg #[.int .i64 0, .int .i64 0, .int .i64 0]) 3 24 Tryz.underlying37 HI.out HZ0.out HZ1.out HZ2.out rfl (by omega) u (o.length) (tc o) (by rfl) HU z2.heap.size (some ⟨y2.heap.size, 0, none⟩) 1 1 [Value.int IntKind.i64 e1, Value.int IntKind.i64 e2, Value.int IntKind.i64 e3] (by rfl) (Reads.below hr2 hz3) (by simp [Value.oneCell']) (by unfold maxLen; omega) (by omega) (Nat.le_trans szb B4.size) ?_
    intro v4 w4 hown4 hg4 hat4
    have BG := below_own hg4 HU (BB.out.trans (B4.mono BB.out.size)) (by omega) (Nat.le_trans BB.out.size B4.size)
    have KW := Bx.app3 (KK.out.below B4) hg4 (fun q hq h => by have h8 := hub.out _ h.symm; simp at hq; rcases hq with h | h | h <;> subst h <;> simp at h8 <;> omega)
    have sz4 := Nat.le_trans szb (Nat.le_trans B4.size hg4.size)
    obtain ⟨A4, c4, rfl, m1, m2, m3⟩ := own_form hown4
    clear m3
    have BGs := below_own hg4 HU (B4.mono szb) (Nat.le_refl _) (Nat.le_trans szb B4.size)
    refine hK' _ _ ⟨fun _ => ⟨KW, HC.out _ BG⟩, ?_⟩
    clear hK' K' HS0 HU hr2 hA2 B2 B3 B4 hz2 hz3
    refine gro.anyM_one 9 (by kernel_rfl) rfl ?_
    intro y4 hz4 K' hK'
    replace BG := BG.trans (hz4.mono BG.size)
    replace BGs := BGs.trans (hz4.mono sz4)
    replace KW := KW.below hz4
    replace hown4 := own_keep hown4 hz4
    replace sz4 := Nat.le_trans sz4 hz4.size
    go_simp
    refine hK' _ _ ⟨fun _ => ⟨KW, HC.out _ BG⟩, ?_⟩
    clear hK' K' hz4
    refine gro.anyM_one 10 (by kernel_rfl) rfl ?_
    intro y5 hz5 K' hK'
    have KV := (KW.below hz5).perm (L' := [(g7, 39, #[Value.int IntKind.i64 N, u]), (w.heap.size + 1, 39, #[Value.int IntKind.i64 0, Value.slice none 0 0]), (w.heap.size, 39, #[Value.int IntKind.i64 N, Value.slice (some ad) n c])]) (by simp)
    have RV := KV.rules
    simp only [Rules] at RV
    clear R
    go_simp
    refine hK' _ _ ⟨fun h => absurd (show true = false from h) (by decide), ?_⟩
    clear hK' K'
    have KT := Bx.puti KV (by simp <;> omega) 1 (.slice A4 (o.length + 1) c4)
    have HO7 := ownsRow_setCell_below (own_keep hown4 hz5) (a := ⟨g7, 1, none⟩) (by show g7 < sb; omega) (.slice A4 (o.length + 1) c4)
    have BG2 := (BG.trans (hz5.mono BG.size)).setCell (p := ⟨g7, 1, none⟩) (by show w.heap.size ≤ g7; omega) (.slice A4 (o.length + 1) c4)
    have sz5 := Nat.le_trans sz4 hz5.size
    refine gro.anyM_done (by kernel_rfl) ?_
    intro y7 hz7
    have sz7 : sb ≤ y7.heap.size := by have := hz7.size; first | omega | (simp [World.setCell] at this; omega)
    replace BB := Lib.hid (BG2.trans (hz7.mono BG2.size))
    replace HO := Lib.hid (own_keep HO7 hz7)
    replace KK := Lib.hid (KT.below hz7)
    clear BGs KT KV RV hz5 hz7 HO7 BG BG2 KW hown4 hg4 hat4 sz4 sz5
    have R := KK.out.rules
    simp only [Rules] at R
    go_wp2_with fail
    go_roundg (bb + 1 - (i + 1))
    case measure => omega
    case rel => exact ⟨i + 1, p, p, .slice A4 (o.length + 1) c4, o ++ [(e1, e2, e3)], rfl, rfl, by go_num, by omega, by omega, hp, by simp; omega, HN.out, Lib.hid (by rw [tc_append, show (o ++ [(e1, e2, e3)]).length = o.length + 1 by simp]; exact HO.out), Lib.hid (by simpa using KK.out), BB, sz7⟩
end Go.Proofs.YtjapjfcennemeaaGreat.rnk
