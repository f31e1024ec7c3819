/- BPlain, RVal: proved here in one text, no conditions beyond those that each theorem states. -/
import Derived.LoopN
import Derived.Test.YtjapjfcennemeaaGreatZ8
import Derived.Test.YtjapjfcennemeaaGreatZ13
import Derived.Test.YtjapjfcennemeaaGreatZ18
import Derived.Test.YtjapjfcennemeaaGreatZ6
import Derived.Test.YtjapjfcennemeaaGreatZ15
import Derived.Test.YtjapjfcennemeaaGreatZ17
set_option linter.unusedVariables false
set_option linter.unusedSimpArgs false
section
namespace Go.Proofs.YtjapjfcennemeaaGreat.blk
open Go.RowKit Go.Proofs.YtjapjfcennemeaaGreat.mem Go.Proofs.YtjapjfcennemeaaGreat.rnk
set_option linter.unusedVariables false
set_option linter.unusedSimpArgs false
set_option pp.maxSteps 200000
def plainB (xs : List BlkM) : List (Int × Int) := xs.map fun b => (b.t, b.level)
theorem plainB_key (xs : List BlkM) : plainB xs = plainK (xs.map bkey) := by unfold plainB plainK; rw [List.map_map]; rfl
theorem plainB_len (xs : List BlkM) : (plainB xs).length = xs.length := by simp [plainB]
theorem plainB_take {xs : List BlkM} {i : Nat} {b : BlkM} (h : xs[i]? = some b) : (plainB xs).take (i + 1) = (plainB xs).take i ++ [(b.t, b.level)] := by
  have hi : i < xs.length := by rw [List.getElem?_eq_some_iff] at h; exact h.1
  rw [List.take_add_one]
  congr 1
  unfold plainB
  rw [List.getElem?_map, h]
  rfl
theorem BRead.key_len {w : World} {B n : Nat} {A : Option Addr} {xs : List BlkM} (h : BRead w B A n xs) : (xs.map bkey).length = n := by rw [List.length_map]; exact h.len
set_option maxHeartbeats 4000000 in
set_option maxRecDepth 100000 in
theorem Plain_any (A : Option Addr) (n c : Nat) (xs : List BlkM) (w : World) (h1 : BRead w w.heap.size A n xs) (hs : n ≤ 65000) : Calls Tryz.prog 43 #[.slice A n c] w (NewP (plainB xs) w) := by
  have H1 := Lib.hid h1
  have HL := Lib.hid h1.len
  clear h1
  obtain ⟨i0, hi0, hz0, hz1, hz2⟩ := info_parts lst.bucket_info
  have HI := Lib.hid hi0
  have HZ0 := Lib.hid hz0
  have HZ1 := Lib.hid hz1
  have HZ2 := Lib.hid hz2
  clear hi0 hz0 hz1 hz2
  go_enter Tryz.func43, Tryz.ntmps43
  go_wp2
  go_loopg [3, 8] n (fun kx s3 s8 wr => ∃ (u : Value) (i : Nat), s8 = .int .i64 i ∧ u = s3 ∧ i ≤ n ∧ n - i ≤ kx ∧ Hid (wr.ownsRow w.heap.size 96 2 u i (pc ((plainB xs).take i))) ∧ Hid (Below w.heap.size w wr))
  case atStart => exact ⟨_, 0, rfl, rfl, by omega, by omega, own_nil _ _ _ _, Below.refl _ _⟩
  case round =>
    obtain ⟨u, i, rfl, rfl, hin, hik, HO, HB⟩ := hrel
    by_cases hlt : i < n
    case neg =>
      obtain rfl : i = n := by omega
      go_wp2
      go_ret
      exact newP_own HB.out HO.out (by rw [List.take_of_length_le (by rw [plainB_len, HL.out]; exact Nat.le_refl _)])
    obtain ⟨ad, b, rfl, hbl, hb, hc1, hc2, hc3, hc4, hc5, _⟩ := BRead.at_ (H1.out.below HB.out) hlt
    have HT := Lib.hid (plainB_take hb)
    have hsz := HB.out.size
    have hbl2 : ad.block < wr.heap.size := by omega
    clear hb
    generalize b.t = bt at *
    generalize b.last = bl at *
    generalize b.level = bv at *
    generalize b.num = bn at *
    generalize b.adr = ba at *
    generalize b.en = be at *
    generalize b.ec = bq at *
    obtain ⟨W1, hW1⟩ : ∃ W1, wr.alloc (.cells #[Value.int IntKind.i64 bt, Value.int IntKind.i64 bl, Value.int IntKind.i64 bv, Value.int IntKind.i64 bn, Value.slice ba be bq] 41) = W1 := ⟨_, rfl⟩
    have HO1 := Lib.hid (own_alloc HO.out (.cells #[Value.int IntKind.i64 bt, Value.int IntKind.i64 bl, Value.int IntKind.i64 bv, Value.int IntKind.i64 bn, Value.slice ba be bq] 41))
    have HB1 := Lib.hid (HB.out.alloc HB.out.size (.cells #[Value.int IntKind.i64 bt, Value.int IntKind.i64 bl, Value.int IntKind.i64 bv, Value.int IntKind.i64 bn, Value.slice ba be bq] 41))
    clear hW1 W1
    go_wp2_with (at_builtin; go_loud (refine wpList_append_any _ rfl (.tmp 12) (.tmp 18) 68 rfl w.heap.size 96 i0 (.agg #[.int .i64 0, .int .i64 0]) 2 16 Tryz.underlying68 HI.out HZ0.out HZ1.out HZ2.out rfl (by omega) u i _ rfl (own_alloc HO1.out _) _ _ 1 1 _ rfl (reads_blk (blk_new2 (by simp)) rfl) (by simp [Value.oneCell']) (by unfold maxLen; omega) (by omega) (by simp; omega) ?_); intro v2 w2 hown2 hg2 hat2; have HB2 := Lib.hid (below_own hg2 (own_alloc HO1.out _) (HB1.out.alloc HB1.out.size _) (Nat.le_refl _) (by simp; omega)); have HO2 := Lib.hid hown2; clear hown2 hg2 hat2)
    go_roundg (n - (i + 1))
    case measure => omega
    case rel => exact ⟨v2, i + 1, by go_num, rfl, by omega, by omega, (by rw [HT.out, pc_append]; exact HO2.out), HB2.out⟩
set_option maxHeartbeats 4000000 in
set_option maxRecDepth 100000 in
theorem PlainR_any (A : Option Addr) (n c : Nat) (xs : List BlkM) (w : World) (h1 : BRead w w.heap.size A n xs) (hs : n ≤ 65000) : Calls Tryz.prog 61 #[.slice A n c] w (NewP (plainB xs) w) := by
  have H1 := Lib.hid h1
  have HL := Lib.hid h1.len
  clear h1
  obtain ⟨i0, hi0, hz0, hz1, hz2⟩ := info_parts lst.bucket_info
  have HI := Lib.hid hi0
  have HZ0 := Lib.hid hz0
  have HZ1 := Lib.hid hz1
  have HZ2 := Lib.hid hz2
  clear hi0 hz0 hz1 hz2
  go_enter Tryz.func61, Tryz.ntmps61
  go_wp2
  go_loopg [3, 8] n (fun kx s3 s8 wr => ∃ (u : Value) (i : Nat), s8 = .int .i64 i ∧ u = s3 ∧ i ≤ n ∧ n - i ≤ kx ∧ Hid (wr.ownsRow w.heap.size 96 2 u i (pc ((plainB xs).take i))) ∧ Hid (Below w.heap.size w wr))
  case atStart => exact ⟨_, 0, rfl, rfl, by omega, by omega, own_nil _ _ _ _, Below.refl _ _⟩
  case round =>
    obtain ⟨u, i, rfl, rfl, hin, hik, HO, HB⟩ := hrel
    by_cases hlt : i < n
    case neg =>
      obtain rfl : i = n := by omega
      go_wp2
      go_ret
      exact newP_own HB.out HO.out (by rw [List.take_of_length_le (by rw [plainB_len, HL.out]; exact Nat.le_refl _)])
    obtain ⟨ad, b, rfl, hbl, hb, hc1, hc2, hc3, hc4, hc5, _⟩ := BRead.at_ (H1.out.below HB.out) hlt
    have HT := Lib.hid (plainB_take hb)
    have hsz := HB.out.size
    have hbl2 : ad.block < wr.heap.size := by omega
    clear hb
    generalize b.t = bt at *
    generalize b.last = bl at *
    generalize b.level = bv at *
    generalize b.num = bn at *
    generalize b.adr = ba at *
    generalize b.en = be at *
    generalize b.ec = bq at *
    obtain ⟨W1, hW1⟩ : ∃ W1, wr.alloc (.cells #[Value.int IntKind.i64 bt, Value.int IntKind.i64 bl, Value.int IntKind.i64 bv, Value.int IntKind.i64 bn, Value.slice ba be bq] 41) = W1 := ⟨_, rfl⟩
    have HO1 := Lib.hid (own_alloc HO.out (.cells #[Value.int IntKind.i64 bt, Value.int IntKind.i64 bl, Value.int IntKind.i64 bv, Value.int IntKind.i64 bn, Value.slice ba be bq] 41))
    have HB1 := Lib.hid (HB.out.alloc HB.out.size (.cells #[Value.int IntKind.i64 bt, Value.int IntKind.i64 bl, Value.int IntKind.i64 bv, Value.int IntKind.i64 bn, Value.slice ba be bq] 41))
    clear hW1 W1
    go_wp2_with (at_builtin; go_loud (refine wpList_append_any _ rfl (.tmp 12) (.tmp 18) 68 rfl w.heap.size 96 i0 (.agg #[.int .i64 0, .int .i64 0]) 2 16 Tryz.underlying68 HI.out HZ0.out HZ1.out HZ2.out rfl (by omega) u i _ rfl (own_alloc HO1.out _) _ _ 1 1 _ rfl (reads_blk (blk_new2 (by simp)) rfl) (by simp [Value.oneCell']) (by unfold maxLen; omega) (by omega) (by simp; omega) ?_); intro v2 w2 hown2 hg2 hat2; have HB2 := Lib.hid (below_own hg2 (own_alloc HO1.out _) (HB1.out.alloc HB1.out.size _) (Nat.le_refl _) (by simp; omega)); have HO2 := Lib.hid hown2; clear hown2 hg2 hat2)
    go_roundg (n - (i + 1))
    case measure => omega
    case rel => exact ⟨v2, i + 1, by go_num, rfl, by omega, by omega, (by rw [HT.out, pc_append]; exact HO2.out), HB2.out⟩
set_option maxHeartbeats 4000000 in
set_option maxRecDepth 100000 in
theorem TotalB_any (A : Option Addr) (n c : Nat) (xs : List BlkM) (w : World) (h1 : BRead w w.heap.size A n xs) (hs : n ≤ 65000) : Calls Tryz.prog 20 #[.slice A n c] w fun e w' => e = .returned (.int .i64 (totalK (xs.map bkey))) ∧ Below w.heap.size w w' := by
  have HK := Lib.hid (show totalK (xs.map bkey) = lst.totalN (plainB xs) by unfold totalK; rw [plainB_key])
  have HP := Lib.hid (Plain_any A n c xs w h1 hs)
  have HL := Lib.hid h1.len
  clear h1
  go_enter Tryz.func20, Tryz.ntmps20
  go_wp2_with fail
  refine HP.out.mono ?_
  rintro e w1 ⟨A1, m1, c1, rfl, q1, q2, q3, hb1⟩
  have hm1 : m1 = n := by have := PRead.len q3; rw [plainB_len, HL.out] at this; omega
  have HT := Lib.hid (lst.Total_any A1 m1 c1 (plainB xs) w1 q3 (by omega))
  have HB := Lib.hid hb1
  clear q3 hb1 hm1
  go_wp2_with (go_at_call 42; refine HT.out.mono ?_; rintro e w2 ⟨rfl, hb2⟩; have HB2 := Lib.hid (HB.out.trans (hb2.mono HB.out.size)); clear hb2)
  go_ret
  exact ⟨ret_int (by rw [HK.out]), HB2.out⟩
set_option maxHeartbeats 4000000 in
set_option maxRecDepth 100000 in
theorem TotalBR_any (A : Option Addr) (n c : Nat) (xs : List BlkM) (w : World) (h1 : BRead w w.heap.size A n xs) (hs : n ≤ 65000) : Calls Tryz.prog 31 #[.slice A n c] w fun e w' => e = .returned (.int .i64 (totalK (xs.map bkey))) ∧ Below w.heap.size w w' := by
  have HK := Lib.hid (show totalK (xs.map bkey) = lst.totalN (plainB xs) by unfold totalK; rw [plainB_key])
  have HP := Lib.hid (PlainR_any A n c xs w h1 hs)
  have HL := Lib.hid h1.len
  clear h1
  go_enter Tryz.func31, Tryz.ntmps31
  go_wp2_with fail
  refine HP.out.mono ?_
  rintro e w1 ⟨A1, m1, c1, rfl, q1, q2, q3, hb1⟩
  have hm1 : m1 = n := by have := PRead.len q3; rw [plainB_len, HL.out] at this; omega
  have HT := Lib.hid (lst.TotalRef_any A1 m1 c1 (plainB xs) w1 q3 (by omega))
  have HB := Lib.hid hb1
  clear q3 hb1 hm1
  go_wp2_with (go_at_call 67; refine HT.out.mono ?_; rintro e w2 ⟨rfl, hb2⟩; have HB2 := Lib.hid (HB.out.trans (hb2.mono HB.out.size)); clear hb2)
  go_ret
  exact ⟨ret_int (by rw [HK.out]), HB2.out⟩
end Go.Proofs.YtjapjfcennemeaaGreat.blk
end
section
namespace Go.Proofs.YtjapjfcennemeaaGreat.rnk
open Go.RowKit Go.Proofs.YtjapjfcennemeaaGreat.mem Go.Proofs.YtjapjfcennemeaaGreat.gro
set_option linter.unusedVariables false
set_option linter.unusedSimpArgs false
set_option pp.maxSteps 200000
theorem Bx.tl {W : World} {a : Nat × TypeId × Array Value} {L : List (Nat × TypeId × Array Value)} (h : Bx W (a :: L)) : Bx W L := fun q hq => h q (List.mem_cons_of_mem _ hq)
set_option maxHeartbeats 8000000 in
set_option maxRecDepth 100000 in
theorem Validate_any (N : Int) (A : Option Addr) (n c : Nat) (es : L3) (w : World) (h1 : ERead w w.heap.size A n es) (hs : n ≤ 9223372036854775807) : Calls Tryz.prog 49 #[.agg #[.int .i64 N, .slice A n c]] w fun e w' => e = .returned (.int .i64 (erS (valR N es))) ∧ Below w.heap.size w w' := by
  have H1 := Lib.hid h1
  have HL := Lib.hid h1.len
  clear h1
  rcases Bool.eq_false_or_eq_true (headR N n) with hg | hg
  case inr =>
    rw [valR_head HL.out hg]
    have hg' := fun h => Bool.eq_false_iff.1 hg (headR_iff.2 h)
    clear hg
    by_cases g1 : N < 0
    case pos =>
      go_enter Tryz.func49, Tryz.ntmps49
      go_wp2
      go_ret
      exact ⟨rfl, (Below.refl _ _).alloc (Nat.le_refl _) _⟩
    by_cases g2 : 1099511627776 < N
    case pos =>
      go_enter Tryz.func49, Tryz.ntmps49
      go_wp2
      go_ret
      exact ⟨rfl, (Below.refl _ _).alloc (Nat.le_refl _) _⟩
    by_cases g3 : n = 0
    · have g4 : ¬ N = 0 := fun h => hg' ⟨by omega, by omega, by omega⟩
      subst g3
      have g5 : (N == 0) = false := by simpa using g4
      clear hg'
      go_enter Tryz.func49, Tryz.ntmps49
      go_wp2
      go_ret
      exact ⟨rfl, (Below.refl _ _).alloc (Nat.le_refl _) _⟩
    · have g4 : N = 0 := by
        by_cases h : N = 0
        · exact h
        · exact absurd ⟨by omega, by omega, by omega⟩ hg'
      subst g4
      have g5 : ((n : Int) == 0) = false := by simpa using g3
      clear hg'
      go_enter Tryz.func49, Tryz.ntmps49
      go_wp2
      go_ret
      exact ⟨rfl, (Below.refl _ _).alloc (Nat.le_refl _) _⟩
  obtain ⟨g1, g2, g3⟩ := headR_iff.1 hg
  have hYes := Lib.hid (fun h h2 => valR_yes (N := N) (es := es) HL.out hg h h2)
  have hNo := Lib.hid (fun i hi h => valR_not (N := N) (i := i) HL.out hi h)
  have hEn := Lib.hid (fun h => valR_ends (N := N) HL.out h)
  clear hg
  have hz : ((n : Int) == 0) = (N == 0) := by
    rw [Bool.eq_iff_iff]; simp; exact g3
  go_enter Tryz.func49, Tryz.ntmps49
  go_wp2_with fail
  obtain ⟨W0, hW, hs0, K0, B0⟩ := start1 w 39 #[Value.int IntKind.i64 N, Value.slice A n c]
  rw [hW]
  clear hW
  have KK := Lib.hid K0
  have BB := Lib.hid B0
  have R := K0.rules
  simp only [Rules] at R
  clear K0 B0 hs0
  go_wp2_with fail
  clear R
  have sz0 := BB.out.size
  go_loopg [29] n (fun kx s29 wr => ∃ i : Nat, i ≤ n ∧ s29 = .int .i64 i ∧ n - i ≤ kx ∧ Hid (Bx wr [(w.heap.size, 39, #[Value.int IntKind.i64 N, Value.slice A n c])]) ∧ Hid (Below w.heap.size w wr) ∧ Hid (enTo N es i = true))
  case atStart => exact ⟨0, Nat.zero_le _, rfl, by omega, KK, BB, (rfl : enTo N es 0 = true)⟩
  case round =>
    clear KK BB sz0
    obtain ⟨i, hi, rfl, hik, KK, BB, HO⟩ := hrel
    have R := KK.out.rules
    simp only [Rules] at R
    by_cases hlt : i < n
    case neg =>
      obtain rfl : i = n := by omega
      by_cases h0 : 0 < i
      case neg =>
        have HE := Lib.hid (hYes.out HO.out (endsR_iff.2 (fun h => absurd h h0)))
        have hd0 : decide ((0 : Int) < i) = false := by simp; omega
        have hd1 : decide (0 < i) = false := by simp; omega
        clear hNo hYes hEn
        go_wp2_with fail
        (refine gro.wp_region_grown (by kernel_rfl) (by kernel_rfl) ?_; (repeat (go_big_quiet_step ((fail)))); refine wpQuiet_nil ?_; intro _ hw'; obtain ⟨nx, hw''⟩ := hw'; subst hw'')
        replace BB := Lib.hid (BB.out.trans ((below_grown _ nx).mono BB.out.size))
        clear R
        generalize grown _ nx = W7 at *
        go_wp2
        go_ret
        exact ⟨ret_int (by rw [HE.out, erS_t]), BB.out⟩
      obtain ⟨ad, rfl, hbl, hc1, hc2, hc3⟩ := ERead.at_ (H1.out.below BB.out) h0
      obtain ⟨ad', e, _, hd1, hd2, hd3⟩ := ERead.at_ (H1.out.below BB.out) (show i - 1 < i by omega)
      injection e with e
      subst e
      rw [show ad.add (0 * 3) = ad from by simp [Addr.add]] at hc1 hc2 hc3
      have hE := Lib.hid (@endsR_iff N es i)
      have hE0 := Lib.hid (@endsR_iff0 N es i)
      have hYY := Lib.hid (fun h => hYes.out HO.out (hE.out.2 (fun _ => h)))
      have hNN := Lib.hid (fun (h : ¬ ((at3 es 0).2.2 = 1 ∧ (at3 es (i - 1)).2.1 = N)) => hEn.out (hE0.out.2 (fun h2 => h (h2 h0))))
      clear hNo hYes hEn hc1 hc2 hd1 hd3 hE hE0 HO
      generalize (at3 es 0).2.2 = x0 at *
      generalize (at3 es (i - 1)).2.1 = m0 at *
      have s2 : 0 ≤ (i : Int) - 1 := by omega
      have s3 : ((i : Int) - 1).toNat = i - 1 := by omega
      have s4 : (i : Int) - 1 < i := by omega
      have s6 : IntKind.i64.wrap ((i : Int) - 1) = (i : Int) - 1 := IntWalk.i64_in _ (by omega)
      have s7 : (0 : Int) < i := by omega
      by_cases e1 : x0 = 1
      case neg =>
        have e2 : (x0 == 1) = false := by simpa using e1
        have e6 : (x0 != 1) = true := by simpa using e1
        go_wp2_with fail
        (refine gro.wp_region_grown (by kernel_rfl) (by kernel_rfl) ?_; (repeat (go_big_quiet_step ((fail)))); refine wpQuiet_nil ?_; intro _ hw'; obtain ⟨nx, hw''⟩ := hw'; subst hw'')
        replace BB := Lib.hid (BB.out.trans ((below_grown _ nx).mono BB.out.size))
        clear R s2 s3 s4 s6
        generalize grown _ nx = W7 at *
        go_wp2
        go_ret
        exact ⟨ret_int (by rw [hNN.out (fun h => e1 h.1), erS_f]), BB.out⟩
      by_cases e3 : m0 = N
      case neg =>
        have e4 : (m0 == N) = false := by simpa using e3
        have e6 : (m0 != N) = true := by simpa using e3
        have e5 := Lib.hid (hNN.out (fun h => e3 h.2))
        clear hNN hYY
        subst e1
        go_wp2_with fail
        (refine gro.wp_region_grown (by kernel_rfl) (by kernel_rfl) ?_; (repeat (go_big_quiet_step ((fail)))); refine wpQuiet_nil ?_; intro _ hw'; obtain ⟨nx, hw''⟩ := hw'; subst hw'')
        replace BB := Lib.hid (BB.out.trans ((below_grown _ nx).mono BB.out.size))
        clear R s2 s3 s4 s6
        generalize grown _ nx = W7 at *
        go_wp2
        go_ret
        exact ⟨ret_int (by rw [e5.out, erS_f]), BB.out⟩
      have e5 := Lib.hid (hYY.out ⟨e1, e3⟩)
      clear hNN hYY
      subst e1
      subst e3
      go_wp2_with fail
      (refine gro.wp_region_grown (by kernel_rfl) (by kernel_rfl) ?_; (repeat (go_big_quiet_step ((fail)))); refine wpQuiet_nil ?_; intro _ hw'; obtain ⟨nx, hw''⟩ := hw'; subst hw'')
      replace BB := Lib.hid (BB.out.trans ((below_grown _ nx).mono BB.out.size))
      clear R s2 s3 s4 s6
      generalize grown _ nx = W7 at *
      go_wp2
      go_ret
      exact ⟨ret_int (by rw [e5.out, erS_t]), BB.out⟩
    have H2 := H1.out.below BB.out
    obtain ⟨ad, rfl, hbl, hc1, hc2, hc3⟩ := ERead.at_ H2 hlt
    have hsz := BB.out.size
    have hbs : ad.block < wr.heap.size := by omega
    have hp0 : 0 < i → wr.cell? (ad.add ((i - 1) * 3)) = some (.int .i64 (at3 es (i - 1)).1) ∧ wr.cell? ⟨(ad.add ((i - 1) * 3)).block, (ad.add ((i - 1) * 3)).off + 1, none⟩ = some (.int .i64 (at3 es (i - 1)).2.1) ∧ wr.cell? ⟨(ad.add ((i - 1) * 3)).block, (ad.add ((i - 1) * 3)).off + 2, none⟩ = some (.int .i64 (at3 es (i - 1)).2.2) := fun h => by
      obtain ⟨ad', e, _, hd1, hd2, hd3⟩ := ERead.at_ H2 (show i - 1 < n by omega)
      injection e with e; subst e; exact ⟨hd1, hd2, hd3⟩
    clear H2
    have hN := Lib.hid (fun h => hNo.out i hlt (enAt_iff0.2 h))
    have hY := Lib.hid (fun h => enTo_succ HO.out (enAt_iff.2 h))
    clear HO hNo hYes
    generalize (at3 es i).1 = v1 at *
    generalize (at3 es i).2.1 = m1 at *
    generalize (at3 es i).2.2 = x1 at *
    obtain ⟨sB, hsB⟩ : ∃ s, wr.heap.size = s := ⟨_, rfl⟩
    have KZ := Lib.hid (KK.out.new (t := 79) (c := #[Value.int IntKind.i64 v1, Value.int IntKind.i64 m1, Value.int IntKind.i64 x1]) hsB)
    have BZ := Lib.hid (BB.out.alloc BB.out.size (.cells #[Value.int IntKind.i64 v1, Value.int IntKind.i64 m1, Value.int IntKind.i64 x1] 79))
    have RZ := KZ.out.rules
    simp only [Rules] at RZ
    have hp5 := fun h => And.intro (cell_box (hp0 h).1 (.cells #[Value.int IntKind.i64 v1, Value.int IntKind.i64 m1, Value.int IntKind.i64 x1] 79)) (And.intro (cell_box (hp0 h).2.1 (.cells #[Value.int IntKind.i64 v1, Value.int IntKind.i64 m1, Value.int IntKind.i64 x1] 79)) (cell_box (hp0 h).2.2 (.cells #[Value.int IntKind.i64 v1, Value.int IntKind.i64 m1, Value.int IntKind.i64 x1] 79)))
    have hZ := Lib.hid (show ∃ W5, wr.alloc (.cells #[Value.int IntKind.i64 v1, Value.int IntKind.i64 m1, Value.int IntKind.i64 x1] 79) = W5 from ⟨_, rfl⟩)
    clear hp0
    by_cases h0 : 0 < i
    case neg =>
      clear hp5 hsB
      obtain rfl : i = 0 := by omega
      have hp6 : ¬ (0 : Int) < 0 := by omega
      rw [show ad.add (0 * 3) = ad from by simp [Addr.add]] at hc1 hc2 hc3
      go_wp2
      all_goals first
        | (go_ret; exact ⟨ret_int (by rw [hN.out (by omega), erS_f]), BZ.out⟩)
        | (go_roundg (n - (0 + 1)); (case measure => omega); (case rel => exact ⟨0 + 1, by omega, by go_num, by omega, Lib.hid (Bx.tl KZ.out), BZ.out, hY.out (by omega)⟩))
    obtain ⟨hd1, hd2, hd3⟩ := hp5 h0
    clear hp5 hsB
    generalize (at3 es (i - 1)).1 = v0 at *
    generalize (at3 es (i - 1)).2.1 = m0 at *
    generalize (at3 es (i - 1)).2.2 = x0 at *
    have s2 : 0 ≤ (i : Int) - 1 := by omega
    have s3 : ((i : Int) - 1).toNat = i - 1 := by omega
    have s4 : (i : Int) - 1 < n := by omega
    have s5 : 1 ≤ (i : Int) := by omega
    have BY := Lib.hid (BZ.out.alloc BZ.out.size (.cells #[Value.int IntKind.i64 v0, Value.int IntKind.i64 m0, Value.int IntKind.i64 x0] 79))
    go_wp2
    all_goals first
      | (go_ret; exact ⟨ret_int (by rw [hN.out (by omega), erS_f]), BZ.out⟩)
      | (go_ret; exact ⟨ret_int (by rw [hN.out (by omega), erS_f]), BY.out⟩)
      | (go_roundg (n - (i + 1)); (case measure => omega); (case rel => exact ⟨i + 1, by omega, by go_num, by omega, Lib.hid ((Bx.tl KZ.out).alloc _), BY.out, hY.out (by omega)⟩))
end Go.Proofs.YtjapjfcennemeaaGreat.rnk
end
