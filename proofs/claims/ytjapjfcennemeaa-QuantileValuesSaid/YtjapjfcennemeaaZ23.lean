/- BSame, BPlain, RGap, RSm, RHlp, RMrR, ItemsP: proved here in one text, no conditions beyond those that each theorem states. -/
import Derived.LoopN
import Derived.Test.YtjapjfcennemeaaZ1
import Derived.Test.YtjapjfcennemeaaZ13
import Derived.Test.YtjapjfcennemeaaZ18
import Derived.Test.YtjapjfcennemeaaZ6
import Derived.Test.YtjapjfcennemeaaZ7
import Derived.Test.YtjapjfcennemeaaZ3
import Derived.Test.YtjapjfcennemeaaZ11
import Derived.Test.YtjapjfcennemeaaZ19
import Derived.Test.YtjapjfcennemeaaZ22
import Derived.Test.YtjapjfcennemeaaZ4
import Derived.Test.YtjapjfcennemeaaZ21
set_option linter.unusedVariables false
set_option linter.unusedSimpArgs false
section
namespace Go.Proofs.Ytjapjfcennemeaa.blk
open Go.RowKit Go.Proofs.Ytjapjfcennemeaa.mem Go.Proofs.Ytjapjfcennemeaa.gro
set_option linter.unusedVariables false
def bkey (b : BlkM) : Int × Int × Int × Int × L3 := (b.t, b.last, b.level, b.num, b.es)
end Go.Proofs.Ytjapjfcennemeaa.blk
end
section
namespace Go.Proofs.Ytjapjfcennemeaa.blk
open Go.RowKit Go.Proofs.Ytjapjfcennemeaa.mem Go.Proofs.Ytjapjfcennemeaa.rnk
set_option linter.unusedVariables false
set_option linter.unusedSimpArgs false
set_option pp.maxSteps 200000
def plainB (xs : List BlkM) : List (Int × Int) := xs.map fun b => (b.t, b.level)
theorem plainB_key (xs : List BlkM) : plainB xs = plainK (xs.map bkey) := by unfold plainB plainK; rw [List.map_map]; rfl
theorem plainB_len (xs : List BlkM) : (plainB xs).length = xs.length := by simp [plainB]
theorem plainB_take {xs : List BlkM} {i : Nat} {b : BlkM} (h : xs[i]? = some b) : (plainB xs).take (i + 1) = (plainB xs).take i ++ [(b.t, b.level)] := by
  have hi : i < xs.length := by rw [List.getElem?_eq_some_iff] at h; exact h.1
  rw [List.take_add_one]
  congr 1
  unfold plainB
  rw [List.getElem?_map, h]
  rfl
theorem BRead.key_len {w : World} {B n : Nat} {A : Option Addr} {xs : List BlkM} (h : BRead w B A n xs) : (xs.map bkey).length = n := by rw [List.length_map]; exact h.len
set_option maxHeartbeats 4000000 in
set_option maxRecDepth 100000 in
theorem Plain_any (A : Option Addr) (n c : Nat) (xs : List BlkM) (w : World) (h1 : BRead w w.heap.size A n xs) (hs : n ≤ 65000) : Calls Try.prog 68 #[.slice A n c] w (NewP (plainB xs) w) := by
  have H1 := Lib.hid h1
  have HL := Lib.hid h1.len
  clear h1
  obtain ⟨i0, hi0, hz0, hz1, hz2⟩ := info_parts lst.bucket_info
  have HI := Lib.hid hi0
  have HZ0 := Lib.hid hz0
  have HZ1 := Lib.hid hz1
  have HZ2 := Lib.hid hz2
  clear hi0 hz0 hz1 hz2
  go_enter Try.func68, Try.ntmps68
  go_wp2
  go_loopg [3, 8] n (fun kx s3 s8 wr => ∃ (u : Value) (i : Nat), s8 = .int .i64 i ∧ u = s3 ∧ i ≤ n ∧ n - i ≤ kx ∧ Hid (wr.ownsRow w.heap.size 102 2 u i (pc ((plainB xs).take i))) ∧ Hid (Below w.heap.size w wr))
  case atStart => exact ⟨_, 0, rfl, rfl, by omega, by omega, own_nil _ _ _ _, Below.refl _ _⟩
  case round =>
    obtain ⟨u, i, rfl, rfl, hin, hik, HO, HB⟩ := hrel
    by_cases hlt : i < n
    case neg =>
      obtain rfl : i = n := by omega
      go_wp2
      go_ret
      exact newP_own HB.out HO.out (by rw [List.take_of_length_le (by rw [plainB_len, HL.out]; exact Nat.le_refl _)])
    obtain ⟨ad, b, rfl, hbl, hb, hc1, hc2, hc3, hc4, hc5, _⟩ := BRead.at_ (H1.out.below HB.out) hlt
    have HT := Lib.hid (plainB_take hb)
    have hsz := HB.out.size
    have hbl2 : ad.block < wr.heap.size := by omega
    clear hb
    generalize b.t = bt at *
    generalize b.last = bl at *
    generalize b.level = bv at *
    generalize b.num = bn at *
    generalize b.adr = ba at *
    generalize b.en = be at *
    generalize b.ec = bq at *
    obtain ⟨W1, hW1⟩ : ∃ W1, wr.alloc (.cells #[Value.int IntKind.i64 bt, Value.int IntKind.i64 bl, Value.int IntKind.i64 bv, Value.int IntKind.i64 bn, Value.slice ba be bq] 64) = W1 := ⟨_, rfl⟩
    have HO1 := Lib.hid (own_alloc HO.out (.cells #[Value.int IntKind.i64 bt, Value.int IntKind.i64 bl, Value.int IntKind.i64 bv, Value.int IntKind.i64 bn, Value.slice ba be bq] 64))
    have HB1 := Lib.hid (HB.out.alloc HB.out.size (.cells #[Value.int IntKind.i64 bt, Value.int IntKind.i64 bl, Value.int IntKind.i64 bv, Value.int IntKind.i64 bn, Value.slice ba be bq] 64))
    clear hW1 W1
    go_wp2_with (at_builtin; go_loud (refine wpList_append_any _ rfl (.tmp 12) (.tmp 18) 34 rfl w.heap.size 102 i0 (.agg #[.int .i64 0, .int .i64 0]) 2 16 Try.underlying34 HI.out HZ0.out HZ1.out HZ2.out rfl (by omega) u i _ rfl (own_alloc HO1.out _) _ _ 1 1 _ rfl (reads_blk (blk_new2 (by simp)) rfl) (by simp [Value.oneCell']) (by unfold maxLen; omega) (by omega) (by simp; omega) ?_); intro v2 w2 hown2 hg2 hat2; have HB2 := Lib.hid (below_own hg2 (own_alloc HO1.out _) (HB1.out.alloc HB1.out.size _) (Nat.le_refl _) (by simp; omega)); have HO2 := Lib.hid hown2; clear hown2 hg2 hat2)
    go_roundg (n - (i + 1))
    case measure => omega
    case rel => exact ⟨v2, i + 1, by go_num, rfl, by omega, by omega, (by rw [HT.out, pc_append]; exact HO2.out), HB2.out⟩
set_option maxHeartbeats 4000000 in
set_option maxRecDepth 100000 in
theorem TotalB_any (A : Option Addr) (n c : Nat) (xs : List BlkM) (w : World) (h1 : BRead w w.heap.size A n xs) (hs : n ≤ 65000) : Calls Try.prog 19 #[.slice A n c] w fun e w' => e = .returned (.int .i64 (totalK (xs.map bkey))) ∧ Below w.heap.size w w' := by
  have HK := Lib.hid (show totalK (xs.map bkey) = lst.totalN (plainB xs) by unfold totalK; rw [plainB_key])
  have HP := Lib.hid (Plain_any A n c xs w h1 hs)
  have HL := Lib.hid h1.len
  clear h1
  go_enter Try.func19, Try.ntmps19
  go_wp2_with fail
  refine HP.out.mono ?_
  rintro e w1 ⟨A1, m1, c1, rfl, q1, q2, q3, hb1⟩
  have hm1 : m1 = n := by have := PRead.len q3; rw [plainB_len, HL.out] at this; omega
  have HT := Lib.hid (lst.Total_any A1 m1 c1 (plainB xs) w1 q3 (by omega))
  have HB := Lib.hid hb1
  clear q3 hb1 hm1
  go_wp2_with (go_at_call 74; refine HT.out.mono ?_; rintro e w2 ⟨rfl, hb2⟩; have HB2 := Lib.hid (HB.out.trans (hb2.mono HB.out.size)); clear hb2)
  go_ret
  exact ⟨ret_int (by rw [HK.out]), HB2.out⟩
end Go.Proofs.Ytjapjfcennemeaa.blk
end
section
namespace Go.Proofs.Ytjapjfcennemeaa.rnk
open Go.RowKit Go.Proofs.Ytjapjfcennemeaa.mem Go.Proofs.Ytjapjfcennemeaa.gro
set_option linter.unusedVariables false
set_option linter.unusedSimpArgs false
set_option pp.maxSteps 200000
theorem gapR_f {N : Int} {es : L3} (h : valR N es = false) : gapR N es = 0 := by unfold gapR; rw [if_neg (fun h2 => by rw [h] at h2; cases h2.1)]
theorem gapR_0 {N : Int} {es : L3} (h : es.length = 0) : gapR N es = 0 := by unfold gapR; rw [if_neg (fun h2 => by omega)]
theorem gapR_t {N : Int} {es : L3} {n : Nat} (hl : es.length = n) (h : valR N es = true) (h0 : 0 < n) : gapR N es = gapTo es (n - 1) := by unfold gapR; rw [hl, if_pos ⟨h, h0⟩]
theorem gapTo_max {es : L3} {i : Nat} (h0 : 1 ≤ i) : gapTo es (i + 1 - 1) = max (gapTo es (i - 1)) ((at3 es i).2.2 - (at3 es (i - 1)).2.1) := by
  obtain ⟨j, rfl⟩ : ∃ j, i = j + 1 := ⟨i - 1, by omega⟩
  simp only [Nat.add_sub_cancel]
  rfl
set_option maxHeartbeats 8000000 in
set_option maxRecDepth 100000 in
theorem Gap_any (N : Int) (A : Option Addr) (n c : Nat) (es : L3) (w : World) (h1 : ERead w w.heap.size A n es) (hs : n ≤ 16777216) : Calls Try.prog 41 #[.agg #[.int .i64 N, .slice A n c]] w fun e w' => e = .returned (.int .i64 (gapR N es)) ∧ Below w.heap.size w w' := by
  have H1 := Lib.hid h1
  have HL := Lib.hid h1.len
  have HV := Lib.hid (fun W (hb : Below w.heap.size w W) => Validate_any N A n c es W ((h1.below hb).more hb.size) (by omega))
  clear h1
  rcases Bool.eq_false_or_eq_true (valR N es) with hv | hv
  case inr =>
    rw [hv, erS_f] at HV
    have HG := Lib.hid (gapR_f hv)
    clear hv
    go_enter Try.func41, Try.ntmps41
    go_wp2_with fail
    obtain ⟨W0, hW, hs0, K0, B0⟩ := start1 w 46 #[Value.int IntKind.i64 N, Value.slice A n c]
    rw [hW]
    clear hW
    have KK := Lib.hid K0
    have BB := Lib.hid B0
    have R := K0.rules
    simp only [Rules] at R
    clear K0 B0 hs0
    go_wp2_with fail
    (with_reducible refine (HV.out _ BB.out).mono ?_)
    rintro e wv ⟨rfl, hbv⟩; replace BB := Lib.hid (BB.out.trans (hbv.mono BB.out.size)); replace KK := Lib.hid (KK.out.below hbv); replace R := KK.out.rules; simp only [gro.Rules] at R; clear hbv
    go_wp2
    go_ret
    exact ⟨ret_int (by rw [HG.out]), BB.out⟩
  rw [hv, erS_t] at HV
  obtain ⟨⟨hN0, hN1, hN2⟩, hen, _⟩ := valR_iff.1 hv
  rw [HL.out] at hN2 hen
  by_cases h0 : 0 < n
  case neg =>
    obtain rfl : n = 0 := by omega
    obtain rfl : N = 0 := hN2.1 rfl
    have HG := Lib.hid (gapR_0 (N := 0) HL.out)
    clear hv hen hN2
    go_enter Try.func41, Try.ntmps41
    go_wp2_with fail
    obtain ⟨W0, hW, hs0, K0, B0⟩ := start1 w 46 #[Value.int IntKind.i64 0, Value.slice A (0 : Nat) c]
    rw [hW]
    clear hW
    have KK := Lib.hid K0
    have BB := Lib.hid B0
    have R := K0.rules
    simp only [Rules] at R
    clear K0 B0 hs0
    go_wp2_with fail
    (with_reducible refine (HV.out _ BB.out).mono ?_)
    rintro e wv ⟨rfl, hbv⟩; replace BB := Lib.hid (BB.out.trans (hbv.mono BB.out.size)); replace KK := Lib.hid (KK.out.below hbv); replace R := KK.out.rules; simp only [gro.Rules] at R; clear hbv
    go_wp2
    go_ret
    exact ⟨ret_int (by rw [HG.out]), BB.out⟩
  have hN3 : 1 ≤ N := by have : N ≠ 0 := fun e => by have := hN2.2 e; omega
                         omega
  have HG := Lib.hid (gapR_t HL.out hv h0)
  have HB := Lib.hid (fun i (hi : i < n) => gapTo_bd hv hN3 i (by rw [HL.out]; exact hi))
  have HE := Lib.hid (fun i (hi : i < n) => (hen i hi).1)
  have hn0 : ((n : Int) == 0) = false := by simp; omega
  have hN4 : (N == 0) = false := by simp; omega
  clear hv hen hN2
  go_enter Try.func41, Try.ntmps41
  go_wp2_with fail
  obtain ⟨W0, hW, hs0, K0, B0⟩ := start1 w 46 #[Value.int IntKind.i64 N, Value.slice A n c]
  rw [hW]
  clear hW
  have KK := Lib.hid K0
  have BB := Lib.hid B0
  have R := K0.rules
  simp only [Rules] at R
  clear K0 B0 hs0
  go_wp2_with fail
  (with_reducible refine (HV.out _ BB.out).mono ?_)
  rintro e wv ⟨rfl, hbv⟩; replace BB := Lib.hid (BB.out.trans (hbv.mono BB.out.size)); replace KK := Lib.hid (KK.out.below hbv); replace R := KK.out.rules; simp only [gro.Rules] at R; clear hbv
  go_wp2_with fail
  clear R
  go_loopg [3, 4] n (fun kx s3 s4 wr => ∃ i : Nat, 1 ≤ i ∧ i ≤ n ∧ s4 = .int .i64 i ∧ s3 = .int .i64 (gapTo es (i - 1)) ∧ n - i ≤ kx ∧ Hid (Bx wr [(w.heap.size, 46, #[Value.int IntKind.i64 N, Value.slice A n c])]) ∧ Hid (Below w.heap.size w wr))
  case atStart => exact ⟨1, Nat.le_refl _, h0, rfl, rfl, by omega, KK, BB⟩
  case round =>
    clear KK BB
    obtain ⟨i, hi1, hi, rfl, rfl, hik, KK, BB⟩ := hrel
    have R := KK.out.rules
    simp only [Rules] at R
    by_cases hlt : i < n
    case neg =>
      obtain rfl : i = n := by omega
      go_wp2
      go_ret
      exact ⟨ret_int (by rw [HG.out]), BB.out⟩
    have H2 := H1.out.below BB.out
    obtain ⟨ad, rfl, hbl, hc1, hc2, hc3⟩ := ERead.at_ H2 hlt
    obtain ⟨ad', e, _, hd1, hd2, hd3⟩ := ERead.at_ H2 (show i - 1 < n by omega)
    injection e with e
    subst e
    have hg := HB.out (i - 1) (by omega)
    have he := HE.out i hlt
    have hf := HE.out (i - 1) (by omega)
    have hM := Lib.hid (gapTo_max (es := es) hi1)
    clear H2 hc1 hc2 hd1 hd3 HB HE
    generalize (at3 es i).2.2 = x1 at *
    generalize (at3 es (i - 1)).2.1 = m0 at *
    generalize gapTo es (i - 1) = g at *
    have s2 : 0 ≤ (i : Int) - 1 := by omega
    have s3 : ((i : Int) - 1).toNat = i - 1 := by omega
    have s4 : (i : Int) - 1 < n := by omega
    have s6 : IntKind.i64.wrap ((i : Int) - 1) = (i : Int) - 1 := IntWalk.i64_in _ (by omega)
    have s7 : IntKind.i64.wrap (x1 - m0) = x1 - m0 := IntWalk.i64_in _ (by omega)
    go_wp2_with fail
    (refine gro.wp_region_grown (by kernel_rfl) (by kernel_rfl) ?_; (repeat (go_big_quiet_step ((fail)))); refine wpQuiet_nil ?_; intro _ hw'; obtain ⟨nx, hw''⟩ := hw'; subst hw'')
    replace BB := Lib.hid (BB.out.trans ((below_grown _ nx).mono BB.out.size))
    replace KK := Lib.hid (KK.out.below (below_grown _ nx))
    clear R
    generalize grown _ nx = W7 at *
    go_wp2
    all_goals (go_roundg (n - (i + 1)); (case measure => omega); (case rel => exact ⟨i + 1, by omega, by omega, by go_num, by rw [hM.out]; exact congrArg (Value.int IntKind.i64) (by omega), by omega, KK, BB⟩))
end Go.Proofs.Ytjapjfcennemeaa.rnk
end
section
namespace Go.Proofs.Ytjapjfcennemeaa.rnk
open Go.RowKit Go.Proofs.Ytjapjfcennemeaa.mem Go.Proofs.Ytjapjfcennemeaa.gro
set_option linter.unusedVariables false
set_option linter.unusedSimpArgs false
set_option pp.maxSteps 200000
set_option maxHeartbeats 4000000 in
set_option maxRecDepth 100000 in
theorem single_any (v : Int) (w : World) : Calls Try.prog 76 #[.int .i64 v] w (NewRF 1 [(v, 1, 1)] w) := by
  go_enter Try.func76, Try.ntmps76
  go_wp2
  obtain ⟨W0, hW, hs0, K0, B0⟩ := start2 w 46 94 #[Value.int IntKind.i64 1, Value.slice (some ⟨w.heap.size + 1, 0, none⟩) 1 1] #[Value.int IntKind.i64 v, Value.int IntKind.i64 1, Value.int IntKind.i64 1]
  rw [hW]
  have R := K0.rules
  simp only [Rules] at R
  have HE : ERead W0 W0.heap.size (some ⟨w.heap.size + 1, 0, none⟩) 1 [(v, 1, 1)] := Reads.more (reads_blk (K0 _ (List.mem_cons_self ..)) rfl) (by omega)
  refine bodyPost_ret (v := Value.agg #[.int .i64 1, .slice (some ⟨w.heap.size + 1, 0, none⟩) 1 1]) (by simp [results, Try.results76, go_sem, R]) rfl ⟨_, 1, 1, rfl, Nat.le_refl _, by decide, HE, B0, fun ad h => by injection h with h; subst h; exact Nat.le_succ _⟩
set_option maxHeartbeats 4000000 in
set_option maxRecDepth 100000 in
theorem copied_any (N : Int) (A : Option Addr) (n c : Nat) (es : L3) (w : World) (h1 : ERead w w.heap.size A n es) (hs : n ≤ 16777216) : Calls Try.prog 119 #[.agg #[.int .i64 N, .slice A n c]] w (NewRF N es w) := by
  have H1 := Lib.hid h1
  clear h1
  obtain ⟨i0, hi0, hz0, hz1, hz2⟩ := info_parts entry_info
  have HI := Lib.hid hi0
  have HZ0 := Lib.hid hz0
  have HZ1 := Lib.hid hz1
  have HZ2 := Lib.hid hz2
  clear hi0 hz0 hz1 hz2
  go_enter Try.func119, Try.ntmps119
  go_wp2_with fail
  obtain ⟨W0, hW, hs0, K0, B0⟩ := start2 w 46 46 #[Value.int IntKind.i64 N, Value.slice A n c] #[Value.int IntKind.i64 0, Value.slice none 0 0]
  rw [hW]
  clear hW
  have KK := Lib.hid K0
  have BB := Lib.hid B0
  have R := K0.rules
  simp only [Rules] at R
  clear K0 B0
  (refine gro.wp_region_heldA [0, 1, 3, 4] 4 7 _ (gro.lasts_bx _) (by kernel_rfl) (by kernel_rfl) (by intro _ _ _ _ _ h; exact h) (by kernel_rfl) (by kernel_rfl) (by kernel_rfl) (by kernel_rfl) (by kernel_rfl) (by decide) (KK.out).drew ?_; apply Exists.intro; refine ⟨fun w0 hb0 => ?_, ?_⟩; focus (have RZ := gro.Bx.rules hb0; simp only [gro.Rules] at RZ; simp only [gro.pickA, List.filterMap_cons, List.filterMap_nil, List.getElem?_toArray, List.getElem?_cons_succ, List.getElem?_cons_zero]; change wpQuiet _ _ _ _ (_ :: _ :: _ :: _ ::  []) _; (repeat (go_big_quiet_step ((fail)))); exact wpQuiet_nil rfl))
  have B0 : Below W0.heap.size W0 W0.drew := (Below.refl _ _).drew
  refine gro.anyM_one 2 (by kernel_rfl) rfl ?_
  intro y2 hz2 K' hK'
  have B2 := B0.trans (hz2.mono B0.size)
  go_simp
  refine hK' _ _ ⟨fun _ => (KK.out.below B2).alloc _, ?_⟩
  clear hK' K'
  obtain ⟨z2, hy2⟩ : ∃ z, y2.alloc (.cells #[] 94) = z := ⟨_, rfl⟩
  have hA2 : Below y2.heap.size y2 z2 := by rw [← hy2]; exact (Below.refl _ _).alloc (Nat.le_refl _) _
  have B3 := B2.trans (hA2.mono B2.size)
  have HV : z2.ownsRow W0.heap.size 94 3 (.slice (some ⟨y2.heap.size, 0, none⟩) 0 0) 0 [] := by rw [← hy2]; exact own_empty2 rfl B2.size
  rw [hy2]
  refine gro.anyM_one 5 (by kernel_rfl) rfl ?_
  intro y3 hz3 K' hK'
  have B4 := B3.trans (hz3.mono B3.size)
  have HU := own_keep HV hz3
  have HR := (H1.out.below BB.out).below (B4.mono BB.out.size)
  refine step_append_any _ (by rfl) (.tmp 5) (.tmp 7) 44 rfl W0.heap.size 94 i0 (.agg #[.int .i64 0, .int .i64 0, .int .i64 0]) 3 24 Try.underlying44 HI.out HZ0.out HZ1.out HZ2.out rfl (by omega) (.slice (some ⟨y2.heap.size, 0, none⟩) 0 0) 0 [] (by rfl) HU w.heap.size A n c (tc es) (by rfl) HR (tc_oneCell _) (by unfold maxLen; omega) (by omega) B4.size ?_
  intro v4 w4 hown4 hg4 hat4
  have B5 := below_own hg4 HU B4 (Nat.le_refl _) B4.size
  have KW := KK.out.below B5
  refine hK' _ _ ⟨fun _ => KW, ?_⟩
  clear hK' K'
  obtain ⟨A4, c4, rfl, m1, m2, m3⟩ := own_form hown4
  have hge := fun ad (h : A4 = some ad) => own_block_ge hown4 ad.block (by rw [h]; rfl)
  simp only [Nat.zero_add, List.nil_append] at m1 m2 m3 hown4
  refine gro.anyM_one 6 (by kernel_rfl) rfl ?_
  intro y5 hz5 K' hK'
  go_simp
  refine hK' _ _ ⟨fun _ => KW.below hz5, ?_⟩
  clear hK' K'
  refine gro.anyM_one 7 (by kernel_rfl) rfl ?_
  intro y6 hz6 K' hK'
  have hz56 := hz5.trans (hz6.mono hz5.size)
  have KV := KW.below hz56
  have RV := KV.rules
  simp only [Rules] at RV
  go_simp
  refine hK' _ _ ⟨fun h => absurd (show true = false from h) (by decide), ?_⟩
  clear hK' K'
  have HF : ERead y6 y6.heap.size A4 n es := Reads.more (Reads.below m3 hz56) hz56.size
  obtain ⟨p1, p2⟩ := put_out (g := w.heap.size + 1) ((BB.out.trans (B5.mono BB.out.size)).trans (hz56.mono (BB.out.trans (B5.mono BB.out.size)).size)) (by omega) HF (fun _ ad h => by have := hge ad h; omega) (Value.int IntKind.i64 N) (.slice A4 n c4)
  have KT := Bx.put2 (u := Value.int IntKind.i64 N) (v := Value.slice A4 n c4) KV (by simp)
  refine gro.anyM_done (by kernel_rfl) ?_
  intro y7 hz7
  have KS := KT.below hz7
  have RS := KS.rules
  simp only [Rules] at RS
  clear R RV
  go_wp2
  refine bodyPost_ret (v := Value.agg #[.int .i64 N, .slice A4 n c4]) (by simp [results, Try.results119, go_sem, RS]) rfl ⟨A4, n, c4, rfl, by omega, m2, (ERead.below p1 hz7).more hz7.size, p2.trans (hz7.mono p2.size), fun ad h => by have := hge ad h; omega⟩
theorem far_form (v mn mx n : Int) : far (v, mn, mx) n = max (n - mn) (mx - n) := rfl
set_option maxHeartbeats 4000000 in
theorem far_any (v mn mx n : Int) (w : World) (h1 : -4398046511104 ≤ mn ∧ mn ≤ 4398046511104) (h2 : -4398046511104 ≤ mx ∧ mx ≤ 4398046511104) (h3 : -4398046511104 ≤ n ∧ n ≤ 4398046511104) : Calls Try.prog 146 #[.agg #[.int .i64 v, .int .i64 mn, .int .i64 mx], .int .i64 n] w fun e w' => e = .returned (.int .i64 (far (v, mn, mx) n)) ∧ Below w.heap.size w w' := by
  have HF := Lib.hid (far_form v mn mx n)
  have s1 : IntKind.i64.wrap (n - mn) = n - mn := IntWalk.i64_in _ (by omega)
  have s2 : IntKind.i64.wrap (mx - n) = mx - n := IntWalk.i64_in _ (by omega)
  by_cases h : n - mn < mx - n
  all_goals
    go_enter Try.func146, Try.ntmps146
    go_wp2
    all_goals (go_ret; exact ⟨ret_int (by rw [HF.out]; omega), (Below.refl _ _).alloc (Nat.le_refl _) _⟩)
end Go.Proofs.Ytjapjfcennemeaa.rnk
end
section
namespace Go.Proofs.Ytjapjfcennemeaa.rnk
open Go.RowKit Go.Proofs.Ytjapjfcennemeaa.mem Go.Proofs.Ytjapjfcennemeaa.gro
set_option linter.unusedVariables false
set_option linter.unusedSimpArgs false
set_option pp.maxSteps 200000
theorem mrgP_f {a b : Int} {x y : L3} (h : mrgOk a x b y = false) : mrgP a x b y = (0, []) := by unfold mrgP; rw [if_neg (by rw [h]; exact Bool.false_ne_true)]
theorem mrgP_t {a b : Int} {x y : L3} (h1 : valR a x = true) (h2 : valR b y = true) (h3 : a + b ≤ 1099511627776) : mrgP a x b y = (a + b, mergeL x y a b) := by unfold mrgP; rw [if_pos (by unfold mrgOk; rw [h1, h2]; simpa using h3)]
theorem mrgE_f {a b : Int} {x y : L3} (h : ¬ (valR a x = true ∧ valR b y = true)) : mrgE a x b y = 2 := by unfold mrgE; rw [if_neg h]
theorem mrgE_t {a b : Int} {x y : L3} (h1 : valR a x = true) (h2 : valR b y = true) : mrgE a x b y = if a + b ≤ 1099511627776 then 0 else 5 := by unfold mrgE; rw [if_pos ⟨h1, h2⟩]
theorem newRE_nil {w W : World} {g : Nat} (er : Int) (BB : Below w.heap.size w W) (hg : w.heap.size ≤ g) (x y : Value) : NewRE (0, []) er w (.returned (.tuple #[.agg #[.int .i64 0, .slice none 0 0], .int .i64 er])) ((W.setCell ⟨g, 0, none⟩ x).setCell ⟨g, 1, none⟩ y) :=
  ⟨none, 0, 0, rfl, Nat.le_refl _, Nat.zero_le _, ERead.nil_, (BB.setCell (p := ⟨g, 0, none⟩) hg _).setCell (p := ⟨g, 1, none⟩) hg _⟩
def NewREF (p : Int × L3) (er : Int) (w : World) (e : Ending) (w' : World) : Prop :=
  ∃ A m c, e = .returned (.tuple #[.agg #[.int .i64 p.1, .slice A m c], .int .i64 er]) ∧ m ≤ c ∧ c ≤ maxLen ∧ ERead w' w'.heap.size A m p.2 ∧ Below w.heap.size w w' ∧ ∀ ad, A = some ad → w.heap.size ≤ ad.block
theorem newREF_nil {w W : World} {g : Nat} (er : Int) (BB : Below w.heap.size w W) (hg : w.heap.size ≤ g) (x y : Value) : NewREF (0, []) er w (.returned (.tuple #[.agg #[.int .i64 0, .slice none 0 0], .int .i64 er])) ((W.setCell ⟨g, 0, none⟩ x).setCell ⟨g, 1, none⟩ y) :=
  ⟨none, 0, 0, rfl, Nat.le_refl _, Nat.zero_le _, ERead.nil_, (BB.setCell (p := ⟨g, 0, none⟩) hg _).setCell (p := ⟨g, 1, none⟩) hg _, fun _ h => by cases h⟩
theorem bnds_of_val {N : Int} {es : L3} {n : Nat} (hl : es.length = n) (h : valR N es = true) : ∀ i < n, (0 ≤ (at3 es i).2.1 ∧ (at3 es i).2.1 ≤ 1099511627776) ∧ 0 ≤ (at3 es i).2.2 ∧ (at3 es i).2.2 ≤ 1099511627776 := fun i hi => by
  obtain ⟨⟨_, h1, _⟩, h2, _⟩ := valR_iff.1 h
  have := (h2 i (by omega)).1
  omega
theorem step_x {x y : L3} {a b : Int} {i j n1 n2 : Nat} {o R : L3} (hl : x.length = n1) (hi : i < n1) (hj : j ≤ n2) (h : takeX x y i j) (HE : o ++ mrg x y a b (n1 - i + (n2 - j)) i j = R) : (o ++ [btw (at3 x i) y j b]) ++ mrg x y a b (n1 - (i + 1) + (n2 - j)) (i + 1) j = R := by
  rw [show n1 - i + (n2 - j) = (n1 - (i + 1) + (n2 - j)) + 1 by omega, mrg_x h] at HE
  rw [← HE]; simp
theorem step_y {x y : L3} {a b : Int} {i j n1 n2 : Nat} {o R : L3} (hl : y.length = n2) (hi : i ≤ n1) (hj : j < n2) (h : ¬ takeX x y i j) (HE : o ++ mrg x y a b (n1 - i + (n2 - j)) i j = R) : (o ++ [btw (at3 y j) x i a]) ++ mrg x y a b (n1 - i + (n2 - (j + 1))) i (j + 1) = R := by
  rw [show n1 - i + (n2 - j) = (n1 - i + (n2 - (j + 1))) + 1 by omega, mrg_y h] at HE
  rw [← HE]; simp
theorem not_take {x y : L3} {i j n2 : Nat} (hl : y.length = n2) (hj : j < n2) (h : ¬ (at3 x i).1 ≤ (at3 y j).1) : ¬ takeX x y i j := fun h2 => by
  unfold takeX at h2
  rcases h2 with h2 | h2
  · omega
  · exact h h2.2
theorem not_take2 {x y : L3} {i j n2 : Nat} (hl : y.length = n2) (hj : j < n2) (h : x.length = i) : ¬ takeX x y i j := fun h2 => by
  unfold takeX at h2
  omega
theorem tc_one (e : Int × Int × Int) : tc [e] = [.int .i64 e.1, .int .i64 e.2.1, .int .i64 e.2.2] := rfl
def SC (L : List (Nat × TypeId × Array Value)) (p1 p2 p3 : Addr) (v1 v2 v3 : Value) : World → Prop := fun w' => Bx w' L ∧ w'.cell? p1 = some v1 ∧ w'.cell? p2 = some v2 ∧ w'.cell? p3 = some v3
theorem lasts_sc (L : List (Nat × TypeId × Array Value)) (p1 p2 p3 : Addr) (v1 v2 v3 : Value) : Lasts (SC L p1 p2 p3 v1 v2 v3) := fun w w' h hb => ⟨h.1.below hb, (hb.cell (World.block_lt_of_cell? w p1 h.2.1)).trans h.2.1, (hb.cell (World.block_lt_of_cell? w p2 h.2.2.1)).trans h.2.2.1, (hb.cell (World.block_lt_of_cell? w p3 h.2.2.2)).trans h.2.2.2⟩
end Go.Proofs.Ytjapjfcennemeaa.rnk
end
section
namespace Go.Proofs.Ytjapjfcennemeaa.rnk
open Go.RowKit Go.Proofs.Ytjapjfcennemeaa.mem Go.Proofs.Ytjapjfcennemeaa.gro
set_option linter.unusedVariables false
set_option linter.unusedSimpArgs false
set_option pp.maxSteps 200000
theorem ERead.tail {w : World} {B n : Nat} {xs : L3} {ad : Addr} (h : ERead w B (some ad) n xs) (hn : 0 < n) {c : Nat} (hc : n ≤ c) :
    ERead w B (if c = 1 then some ad else some ⟨ad.block, ad.off + 3, none⟩) (n - 1) (xs.drop 1) := by
  have := Reads.cut (cap := c) (k := 1) h hn hc
  have e : (some ad : Option Addr).map (fun x => Addr.add x (1 * 3)) = some ⟨ad.block, ad.off + 3, none⟩ := by simp [Addr.add]
  rw [e] at this
  have e2 : tc (xs.drop 1) = (tc xs).drop (1 * 3) := by
    cases xs with
    | nil => rfl
    | cons p xs => rw [tc_cons]; rfl
  show Reads w B 3 _ _ (tc (xs.drop 1))
  rw [e2]
  exact this
end Go.Proofs.Ytjapjfcennemeaa.rnk
end
section
namespace Go.Proofs.Ytjapjfcennemeaa.made
open Go.RowKit Go.Proofs.Ytjapjfcennemeaa.mem
set_option linter.unusedVariables false
set_option linter.unusedSimpArgs false
theorem at_set {ys : List (Int × Int)} {b i : Nat} {p : Int × Int} (hb : b < ys.length) : buk.at_ (ys.set b p) i = if b = i then p else buk.at_ ys i := by
  unfold buk.at_
  rw [List.getElem?_set]
  by_cases h : b = i
  · subst h; rw [if_pos rfl, if_pos rfl, if_pos hb]; rfl
  · rw [if_neg h, if_neg h]
def MidOk (its : List (Int × Int)) (v m : Int) (k : Nat) : Prop := ∀ i, i < its.length → (0 ≤ (buk.at_ its i).1 ∧ (buk.at_ its i).1 ≤ (i + 1) * (2 * v + 1)) ∧ (-4096 ≤ (buk.at_ its i).2 ∧ (buk.at_ its i).2 ≤ 4096) ∧ (0 < i → (buk.at_ its (i - 1)).1 ≤ (buk.at_ its i).1) ∧ (i < k → 0 ≤ (buk.at_ its i).2 ∧ (buk.at_ its i).2 ≤ m)
theorem MidOk.step {its : List (Int × Int)} {v m : Int} {k : Nat} (h : MidOk its v m k) (hk : k < its.length) {y : Int} (hy : 0 ≤ y ∧ y ≤ m) (hm : m ≤ 4096) : MidOk (its.set k ((buk.at_ its k).1, y)) v m (k + 1) := by
  intro i hi
  rw [List.length_set] at hi
  have e : ∀ j, (buk.at_ (its.set k ((buk.at_ its k).1, y)) j).1 = (buk.at_ its j).1 := fun j => by
    rw [at_set hk]; split
    · rename_i h; subst h; rfl
    · rfl
  obtain ⟨a, b, c, d⟩ := h i hi
  rw [e, e]
  refine ⟨a, ?_, c, fun hik => ?_⟩
  · rw [at_set hk]; split
    · exact ⟨by simp; omega, by simp; omega⟩
    · exact b
  · rw [at_set hk]; split
    · exact hy
    · rename_i hne; exact d (by omega)
def Asc (its : List (Int × Int)) (lo hi : Int) : Prop := ∀ i, i < its.length → (0 ≤ (buk.at_ its i).1 ∧ (buk.at_ its i).1 ≤ 100000) ∧ (lo ≤ (buk.at_ its i).2 ∧ (buk.at_ its i).2 ≤ hi) ∧ (i + 1 < its.length → (buk.at_ its i).1 ≤ (buk.at_ its (i + 1)).1)
theorem tick_bd {its : List (Int × Int)} {v : Int} {i : Nat} (hi : i < its.length) (hl : its.length ≤ 1000) (hv : 1 ≤ v ∧ v ≤ 40) {t : Int} (h : t ≤ (i + 1) * (2 * v + 1)) : t ≤ 100000 := by
  have : ((i : Int) + 1) * (2 * v + 1) ≤ 1000 * 81 := Int.mul_le_mul (by omega) (by omega) (by omega) (by omega)
  omega
theorem ItOk.asc {its : List (Int × Int)} {v : Int} (h : ItOk its v) (hl : its.length ≤ 1000) (hv : 1 ≤ v ∧ v ≤ 40) : Asc its (-4096) 4096 := fun i hi => by
  obtain ⟨⟨a, b⟩, c, d⟩ := h i hi
  exact ⟨⟨a, tick_bd hi hl hv b⟩, c, fun h2 => (h (i + 1) h2).2.2 (by omega)⟩
theorem MidOk.asc {its : List (Int × Int)} {v m : Int} (h : MidOk its v m its.length) (hl : its.length ≤ 1000) (hv : 1 ≤ v ∧ v ≤ 40) : Asc its 0 m := fun i hi => by
  obtain ⟨⟨a, b⟩, _, c, d⟩ := h i hi
  exact ⟨⟨a, tick_bd hi hl hv b⟩, d hi, fun h2 => (h (i + 1) h2).2.2.1 (by omega)⟩
end Go.Proofs.Ytjapjfcennemeaa.made
end
