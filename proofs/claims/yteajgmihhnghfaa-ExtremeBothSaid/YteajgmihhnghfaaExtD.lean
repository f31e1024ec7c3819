/- Contracts of the reference's Valid and Live of items, and of its Advance. -/
import Derived.Test.YteajgmihhnghfaaExtA
namespace Go.Proofs.Yteajgmihhnghfaa.ext
open Go.RowKit Go.Proofs.Yteajgmihhnghfaa.mem Go.Proofs.Yteajgmihhnghfaa.gro
open Go.Proofs.Yteajgmihhnghfaa.buk (at_)
open Go.Proofs.Yteajgmihhnghfaa.lst (expireL own_new NewF newF_own)
set_option linter.unusedVariables false
set_option linter.unusedSimpArgs false
set_option maxHeartbeats 2000000 in
theorem Back_any (o tt : Int) (w : World) : Calls Try.prog 35 #[.int .i64 o, .int .i64 tt] w fun e w' => e = .returned (.int .i64 (timeE o tt)) ∧ w = w' := by
  rcases timeE_iff (o := o) (tt := tt) with ⟨h, e⟩ | ⟨h, e⟩ <;> rw [e] <;> clear e
  · by_cases h2 : tt < o
    · go_enter Try.func35, Try.ntmps35
      go_wp2
      go_ret
      exact ⟨rfl, rfl⟩
    · have h3 : 16777216 < tt := by omega
      go_enter Try.func35, Try.ntmps35
      go_wp2
      go_ret
      exact ⟨rfl, rfl⟩
  · have h1 : ¬ tt < o := fun h2 => h (.inl h2)
    have h2 : ¬ 16777216 < tt := fun h2 => h (.inr h2)
    clear h
    go_enter Try.func35, Try.ntmps35
    go_wp2
    go_ret
    exact ⟨rfl, rfl⟩
def liveL (now v : Int) (xs : L2) : L2 := xs.filter (fun q => clk.liveB now v q.1)
theorem liveL_take {now v : Int} {xs : L2} {i : Nat} (h : i < xs.length) : liveL now v (xs.take (i + 1)) = liveL now v (xs.take i) ++ if clk.liveB now v (at_ xs i).1 = true then [((at_ xs i).1, (at_ xs i).2)] else [] := by
  unfold liveL
  rw [at_eq h, List.take_succ_eq_append_getElem h, List.filter_append]
  congr 1
  by_cases h1 : clk.liveB now v xs[i].1 = true
  · rw [if_pos h1]; simp [h1]
  · rw [if_neg h1]; simp [h1]
theorem liveL_len (now v : Int) (xs : L2) (i : Nat) : (liveL now v (xs.take i)).length ≤ i := by
  have := List.length_filter_le (fun q : Int × Int => clk.liveB now v q.1) (xs.take i)
  rw [List.length_take] at this
  unfold liveL; omega
theorem expire_filter {f : Int} : ∀ {xs : L2}, xs.Pairwise (fun a b => a.1 < b.1) → expireL f xs = xs.filter (fun q => !decide (q.1 < f))
  | [], _ => rfl
  | q :: r, h => by
    rw [List.pairwise_cons] at h
    by_cases hc : q.1 < f
    · rw [List.filter_cons, if_neg (by simp [hc]), ← expire_filter h.2]
      unfold expireL
      rw [List.dropWhile_cons, if_pos (by simpa using hc)]
    · have e : (q :: r).filter (fun q => !decide (q.1 < f)) = q :: r := List.filter_eq_self.2 (fun x hx => by
        rcases List.mem_cons.1 hx with e | e
        · subst e; simp [hc]
        · have := h.1 x e; simp; omega)
      rw [e]
      unfold expireL
      rw [List.dropWhile_cons, if_neg (by simpa using hc)]
theorem liveL_expire {o v tt : Int} {xs : L2} (ha : xs.Pairwise (fun a b => a.1 < b.1)) (h : ∀ q ∈ xs, clk.liveB tt v q.1 = !decide (q.1 < tt - v + 1)) : liveL tt v xs = expireL (tt - v + 1) xs := by
  rw [expire_filter ha]
  unfold liveL
  exact List.filter_congr (fun q hq => h q hq)
set_option maxHeartbeats 8000000 in
set_option maxRecDepth 100000 in
theorem Valid8_ok (A : Option Addr) (n c : Nat) (xs : L2) (now : Int) (w : World) (h1 : PRead w w.heap.size A n xs) (hs : n ≤ 2000) (hnow : 0 ≤ now ∧ now ≤ 16777216) (hall : ∀ q ∈ xs, 0 ≤ q.1 ∧ q.1 ≤ now) (hasc : xs.Pairwise (fun a b => a.1 < b.1)) :
    Calls Try.prog 47 #[.slice A n c, .int .i64 now] w fun e w' => e = .returned (.bool true) ∧ Below w.heap.size w w' := by
  have H1 := Lib.hid h1
  have HL := Lib.hid h1.len
  have HT := Lib.hid (fun W => clk.Tick_any now W)
  rw [clk.tickB_iff.2 hnow] at HT
  have HA := Lib.hid hall
  have HO : Hid (∀ i, 0 < i → i < n → (at_ xs (i - 1)).1 < (at_ xs i).1) := fun i h0 hi => by
    rw [at_eq (show i - 1 < xs.length by rw [HL.out]; omega), at_eq (show i < xs.length by rw [HL.out]; exact hi)]
    exact List.pairwise_iff_getElem.1 hasc (i - 1) i (by rw [HL.out]; omega) (by rw [HL.out]; exact hi) (by omega)
  clear h1 hall hasc
  go_enter Try.func47, Try.ntmps47
  go_wp2_with fail
  (with_reducible refine (HT.out _).mono ?_)
  rintro e w1 ⟨rfl, rfl⟩
  go_wp2_with fail
  go_loopg [12] n (fun kx s12 wr => ∃ i : Nat, i ≤ n ∧ s12 = .int .i64 i ∧ n - i ≤ kx ∧ Hid (Below w.heap.size w wr))
  case atStart => exact ⟨0, Nat.zero_le _, rfl, by omega, Below.refl _ _⟩
  case round =>
    obtain ⟨i, hi, rfl, hik, HB⟩ := hrel
    by_cases hlt : i < n
    case neg =>
      obtain rfl : i = n := by omega
      go_wp2
      go_ret
      exact ⟨rfl, HB.out⟩
    have H2 := H1.out.below HB.out
    obtain ⟨ad, rfl, hbl, hc1, hc2⟩ := PRead.at_ H2 hlt
    have hs2 := HB.out.size
    have hbl2 : ad.block < wr.heap.size := by omega
    have hp0 : 0 < i → wr.cell? (ad.add ((i - 1) * 2)) = some (.int .i64 (at_ xs (i - 1)).1) := fun h => by
      obtain ⟨ad', e, _, hd1, hd2⟩ := PRead.at_ H2 (show i - 1 < n by omega)
      injection e with e; subst e; exact hd1
    clear H2
    have hq := HA.out (at_ xs i) (at_mem (by rw [HL.out]; exact hlt))
    have hq2 := fun h => HO.out i h hlt
    change wr.cell? (ad.add (i * 2)) = some (.int .i64 (at_ xs i).1) at hc1
    change wr.cell? ⟨(ad.add (i * 2)).block, (ad.add (i * 2)).off + 1, none⟩ = some (.int .i64 (at_ xs i).2) at hc2
    generalize (at_ xs i).1 = t1 at *
    generalize (at_ xs i).2 = v1 at *
    obtain ⟨hq0, hq1⟩ := hq
    have g1 : decide (t1 < 0) = false := decide_eq_false (by omega)
    have g2 : decide (now < t1) = false := decide_eq_false (by omega)
    obtain ⟨sB, hsB⟩ : ∃ s, wr.heap.size = s := ⟨_, rfl⟩
    have KZ := Lib.hid (Bx.nil_.new (W := wr) (t := 40) (c := #[Value.int IntKind.i64 t1, Value.int IntKind.i64 v1]) hsB)
    have BZ := Lib.hid (HB.out.alloc HB.out.size (.cells #[Value.int IntKind.i64 t1, Value.int IntKind.i64 v1] 40))
    have RZ := KZ.out.rules
    simp only [Rules] at RZ
    go_wp2_with fail
    have hp5 := fun h => cell_box (hp0 h) (.cells #[Value.int IntKind.i64 t1, Value.int IntKind.i64 v1] 40)
    obtain ⟨W5, hW, K5, B5, z5⟩ := name_world KZ.out BZ.out (s := 0) (by omega)
    rw [hW]
    rw [hW] at hp5
    clear hW RZ KZ BZ HB hp0 hc1 hc2 z5
    have KK := Lib.hid K5
    have BB := Lib.hid B5
    have R := K5.rules
    simp only [Rules] at R
    clear K5 B5
    by_cases h0 : 0 < i
    case neg =>
      clear hp5 hq2
      (refine gro.wp_region_grown (by kernel_rfl) (by kernel_rfl) ?_; (repeat (go_big_quiet_step ((fail)))); refine wpQuiet_nil ?_; intro _ hw'; obtain ⟨nx, hw''⟩ := hw'; subst hw'')
      replace BB := Lib.hid (BB.out.trans ((below_grown _ nx).mono BB.out.size))
      clear R KK
      generalize grown _ nx = W7 at *
      go_wp2
      go_roundg (n - (i + 1))
      case measure => omega
      case rel => exact ⟨i + 1, by omega, by go_num, by omega, BB⟩
    have hd1 := hp5 h0
    have hq3 := hq2 h0
    clear hp5 hq2 hsB
    generalize (at_ xs (i - 1)).1 = t0 at *
    have g3 : decide (t1 < t0) = false := decide_eq_false (by omega)
    have s1 : IntKind.i64.wrap ((i : Int) - 1) = (i : Int) - 1 := IntWalk.i64_in _ (by omega)
    have s2 : 0 ≤ (i : Int) - 1 := by omega
    have s3 : ((i : Int) - 1).toNat = i - 1 := by omega
    have s4 : (i : Int) - 1 < n := by omega
    have s5 : 1 ≤ (i : Int) := by omega
    (refine gro.wp_region_grown (by kernel_rfl) (by kernel_rfl) ?_; (repeat (go_big_quiet_step ((fail)))); refine wpQuiet_nil ?_; intro _ hw'; obtain ⟨nx, hw''⟩ := hw'; subst hw'')
    replace BB := Lib.hid (BB.out.trans ((below_grown _ nx).mono BB.out.size))
    clear R KK s1 s2 s3 s4 s5
    generalize grown _ nx = W7 at *
    go_wp2
    go_roundg (n - (i + 1))
    case measure => omega
    case rel => exact ⟨i + 1, by omega, by go_num, by omega, BB⟩
set_option maxHeartbeats 8000000 in
set_option maxRecDepth 100000 in
theorem Live8_f (A : Option Addr) (n c : Nat) (xs : L2) (now v : Int) (w : World) (h1 : PRead w w.heap.size A n xs) (hs : n ≤ 2000) (hnow : 0 ≤ now ∧ now ≤ 16777216) (hv : 1 ≤ v ∧ v ≤ 1048576) (hall : ∀ q ∈ xs, 0 ≤ q.1 ∧ q.1 ≤ now) (hasc : xs.Pairwise (fun a b => a.1 < b.1)) :
    Calls Try.prog 36 #[.slice A n c, .int .i64 now, .int .i64 v] w (NewF (liveL now v xs) w) := by
  have HV := Lib.hid (fun W (hb : Below w.heap.size w W) => Valid8_ok A n c xs now W ((h1.below hb).more hb.size) hs hnow hall hasc)
  have HW := Lib.hid (fun W => clk.Window_any v W)
  rw [clk.winB_iff.2 hv] at HW
  have HLv := Lib.hid (fun t W => clk.Live_any now v t W)
  have H1 := Lib.hid h1
  have HL := Lib.hid h1.len
  clear h1 hall hasc hnow hv
  obtain ⟨i0, hi0, hz0, hz1, hz2⟩ := info_parts item_info
  have HI := Lib.hid hi0
  have HZ0 := Lib.hid hz0
  have HZ1 := Lib.hid hz1
  have HZ2 := Lib.hid hz2
  clear hi0 hz0 hz1 hz2
  go_enter Try.func36, Try.ntmps36
  go_wp2_with fail
  (with_reducible refine (HV.out _ (Below.refl _ _)).mono ?_)
  rintro e w1 ⟨rfl, hb1⟩
  have HB0 := Lib.hid hb1
  clear hb1
  go_wp2_with fail
  (with_reducible refine (HW.out _).mono ?_)
  rintro e w2 ⟨rfl, rfl⟩
  clear HV HW
  go_wp2_with fail
  go_loopg [7, 21] n (fun kx s7 s21 wr => ∃ (u : Value) (ys : L2) (i : Nat), s21 = .int .i64 i ∧ u = s7 ∧ i ≤ n ∧ n - i ≤ kx ∧ Hid (liveL now v (xs.take i) = ys) ∧ Hid (wr.ownsRow w.heap.size 40 2 u ys.length (pc ys)) ∧ Hid (Below w.heap.size w wr))
  case atStart => exact ⟨_, [], 0, rfl, rfl, by omega, by omega, rfl, own_nil _ _ _ _, HB0⟩
  case round =>
    clear HB0
    obtain ⟨u, ys, i, rfl, rfl, hin, hik, HY, HO, HB⟩ := hrel
    by_cases hlt : i < n
    case neg =>
      obtain rfl : i = n := by omega
      have e : xs.take i = xs := List.take_of_length_le (by rw [HL.out]; exact Nat.le_refl _)
      rw [e] at HY
      go_wp2
      go_ret
      exact newF_own HB.out HO.out (by rw [HY.out])
    have H2 := H1.out.below HB.out
    obtain ⟨ad, rfl, hbl, hc1, hc2⟩ := PRead.at_ H2 hlt
    have hs2 := HB.out.size
    have hbl2 : ad.block < wr.heap.size := by omega
    have HY2 := Lib.hid (liveL_take (now := now) (v := v) (xs := xs) (i := i) (by rw [HL.out]; exact hlt))
    have hyl := liveL_len now v xs i
    rw [HY.out] at hyl HY2
    clear H2
    change wr.cell? (ad.add (i * 2)) = some (.int .i64 (at_ xs i).1) at hc1
    change wr.cell? ⟨(ad.add (i * 2)).block, (ad.add (i * 2)).off + 1, none⟩ = some (.int .i64 (at_ xs i).2) at hc2
    generalize (at_ xs i).1 = x at *
    generalize (at_ xs i).2 = y at *
    obtain ⟨s, hs3⟩ : ∃ s, wr.heap.size = s := ⟨_, rfl⟩
    have RA := (Bx.nil_.new (W := wr) (t := 40) (c := #[Value.int IntKind.i64 x, Value.int IntKind.i64 y]) hs3).rules
    simp only [Rules] at RA
    have HL2 := Lib.hid (HLv.out x)
    generalize clk.liveB now v x = lv at *
    cases lv
    case false =>
      rw [if_neg (by decide), List.append_nil] at HY2
      go_wp2_with fail
      (with_reducible refine (HL2.out _).mono ?_)
      rintro e w3 ⟨rfl, rfl⟩
      go_wp2
      go_roundg (n - (i + 1))
      case measure => omega
      case rel => exact ⟨u, ys, i + 1, by go_num, rfl, by omega, by omega, HY2.out, own_alloc HO.out _, HB.out.alloc HB.out.size _⟩
    rw [if_pos rfl] at HY2
    have HPC : Hid (pc (ys ++ [(x, y)]) = pc ys ++ [Value.int .i64 x, Value.int .i64 y]) := by rw [Hid, pc_append]; rfl
    obtain ⟨W1, hW1⟩ : ∃ W, wr.alloc (.cells #[Value.int IntKind.i64 x, Value.int IntKind.i64 y] 40) = W := ⟨_, rfl⟩
    have HO1 : Hid (W1.ownsRow w.heap.size 40 2 u ys.length (pc ys)) := by rw [← hW1]; exact own_alloc HO.out _
    have HB1 : Hid (Below w.heap.size w W1) := by rw [← hW1]; exact HB.out.alloc HB.out.size _
    rw [hW1] at RA
    go_wp2_with fail
    (with_reducible refine (HL2.out _).mono ?_)
    rintro e w3 ⟨rfl, rfl⟩
    go_wp2_with (at_builtin; go_loud (refine wpList_append_any _ rfl (.tmp 30) (.tmp 32) 22 rfl w.heap.size 40 i0 (.agg #[.int .i64 0, .int .i64 0]) 2 16 Try.underlying22 HI.out HZ0.out HZ1.out HZ2.out rfl (by omega) u ys.length _ rfl (own_alloc HO1.out _) _ _ 1 1 _ rfl (reads_new _ _ _ rfl) (by simp [Value.oneCell']) (by unfold maxLen; omega) (by omega) (by have := HB1.out.size; simp; omega) ?_); intro v1 w1 hown1 hg1 hat1)
    go_roundg (n - (i + 1))
    case measure => omega
    case rel => exact ⟨v1, ys ++ [(x, y)], i + 1, by go_num, rfl, by omega, by omega, HY2.out, by rw [Hid, HPC.out, List.length_append]; exact hown1, below_box HB1.out HO1.out hg1⟩
set_option maxHeartbeats 8000000 in
set_option maxRecDepth 100000 in
theorem AdvanceR_f (m : Bool) (v p o tt : Int) (A : Option Addr) (n c : Nat) (xs : L2) (w : World) (h1 : PRead w w.heap.size A n xs) (hnc : n ≤ c) (hcm : c ≤ maxLen) (hsmall : n ≤ 2000) :
    Calls Try.prog 15 #[.agg #[Value.bool m, Value.int IntKind.i64 v, Value.int IntKind.i64 p, Value.int IntKind.i64 o, Value.slice A n c], .int .i64 tt] w (NewE (kb (valE m v p o xs && okT (timeE o tt)) m) (kp (valE m v p o xs && okT (timeE o tt)) v) (kp (valE m v p o xs && okT (timeE o tt)) p) (kp (valE m v p o xs && okT (timeE o tt)) tt) (lsK (valE m v p o xs && okT (timeE o tt)) (expireL (tt - v + 1) xs)) (advE (valE m v p o xs) (timeE o tt)) w) := by
  have HV := Lib.hid (fun W (hb : Below w.heap.size w W) => ValidateR_any m v p o A n c xs W ((h1.below hb).more hb.size) (by omega))
  have hft := Lib.hid (fun h : valE m v p o xs = true => And.intro (valE_facts h) (valE_good h))
  have HB := Lib.hid (fun W => Back_any o tt W)
  have hsz := h1.len
  have H8 := Lib.hid (fun (h2 : 0 ≤ tt ∧ tt ≤ 16777216) (h3 : 1 ≤ v ∧ v ≤ 1048576) (h4 : ∀ q ∈ xs, 0 ≤ q.1 ∧ q.1 ≤ tt) (h5 : xs.Pairwise (fun a b => a.1 < b.1)) W (hb : Below w.heap.size w W) => Live8_f A n c xs tt v W ((h1.below hb).more hb.size) hsmall h2 h3 h4 h5)
  clear h1 hcm
  generalize valE m v p o xs = ft at *
  cases ft
  case false =>
    clear hft HB H8
    simp only [erV_t, erV_f, kp_t, kp_f, kb_t, kb_f, lsK_t, lsK_f, advE_t, advE_f, okT_3, okT_0, Bool.false_and, Bool.true_and, Bool.and_false, Bool.and_true] at *
    go_enter Try.func15, Try.ntmps15
    go_wp2_with fail
    obtain ⟨W0, hW, hs0, K0, B0⟩ := start2 w 24 24 #[Value.bool m, Value.int IntKind.i64 v, Value.int IntKind.i64 p, Value.int IntKind.i64 o, Value.slice A n c] #[Value.bool false, Value.int IntKind.i64 0, Value.int IntKind.i64 0, Value.int IntKind.i64 0, Value.slice none 0 0]
    rw [hW]
    clear hW
    have KK := Lib.hid K0
    have BB := Lib.hid B0
    have sz : w.heap.size + 1 + 1 ≤ W0.heap.size := by omega
    have R := K0.rules
    simp only [Rules] at R
    clear K0 B0 hs0
    (with_reducible refine (HV.out _ BB.out).mono ?_)
    rintro e wv ⟨rfl, hbv⟩
    replace BB := Lib.hid (BB.out.trans (hbv.mono BB.out.size))
    replace KK := Lib.hid (KK.out.below hbv)
    replace sz := Nat.le_trans sz hbv.size
    replace R := KK.out.rules
    simp only [Rules] at R
    clear hbv
    go_wp2
    refine bodyPost_ret (v := Value.tuple #[.agg #[Value.bool false, Value.int IntKind.i64 0, Value.int IntKind.i64 0, Value.int IntKind.i64 0, Value.slice none 0 0], .int .i64 2]) (by simp [results, Try.results15, go_sem, R]) rfl ⟨none, 0, 0, rfl, Nat.le_refl _, ⟨Nat.zero_le _, fun ad h => by cases h⟩, PRead.nil_, ?_⟩
    exact (((((BB.out.setCell (by first | (simp; done) | (simp; omega)) _).setCell (by first | (simp; done) | (simp; omega)) _).setCell (by first | (simp; done) | (simp; omega)) _).setCell (by first | (simp; done) | (simp; omega)) _).setCell (by first | (simp; done) | (simp; omega)) _)
  obtain ⟨⟨ho, hv, hall⟩, hgd⟩ := hft.out rfl
  clear hft
  rcases timeE_iff (o := o) (tt := tt) with ⟨ht, e⟩ | ⟨ht, e⟩ <;> rw [e] at HB ⊢ <;> clear e
  · clear H8 hall hgd
    simp only [erV_t, erV_f, kp_t, kp_f, kb_t, kb_f, lsK_t, lsK_f, advE_t, advE_f, okT_3, okT_0, Bool.false_and, Bool.true_and, Bool.and_false, Bool.and_true] at *
    go_enter Try.func15, Try.ntmps15
    go_wp2_with fail
    obtain ⟨W0, hW, hs0, K0, B0⟩ := start2 w 24 24 #[Value.bool m, Value.int IntKind.i64 v, Value.int IntKind.i64 p, Value.int IntKind.i64 o, Value.slice A n c] #[Value.bool false, Value.int IntKind.i64 0, Value.int IntKind.i64 0, Value.int IntKind.i64 0, Value.slice none 0 0]
    rw [hW]
    clear hW
    have KK := Lib.hid K0
    have BB := Lib.hid B0
    have sz : w.heap.size + 1 + 1 ≤ W0.heap.size := by omega
    have R := K0.rules
    simp only [Rules] at R
    clear K0 B0 hs0
    (with_reducible refine (HV.out _ BB.out).mono ?_)
    rintro e wv ⟨rfl, hbv⟩
    replace BB := Lib.hid (BB.out.trans (hbv.mono BB.out.size))
    replace KK := Lib.hid (KK.out.below hbv)
    replace sz := Nat.le_trans sz hbv.size
    replace R := KK.out.rules
    simp only [Rules] at R
    clear hbv
    go_wp2_with fail
    (with_reducible refine (HB.out _).mono ?_)
    rintro e w1 ⟨rfl, rfl⟩
    go_wp2
    refine bodyPost_ret (v := Value.tuple #[.agg #[Value.bool false, Value.int IntKind.i64 0, Value.int IntKind.i64 0, Value.int IntKind.i64 0, Value.slice none 0 0], .int .i64 3]) (by simp [results, Try.results15, go_sem, R]) rfl ⟨none, 0, 0, rfl, Nat.le_refl _, ⟨Nat.zero_le _, fun ad h => by cases h⟩, PRead.nil_, ?_⟩
    exact (((((BB.out.setCell (by first | (simp; done) | (simp; omega)) _).setCell (by first | (simp; done) | (simp; omega)) _).setCell (by first | (simp; done) | (simp; omega)) _).setCell (by first | (simp; done) | (simp; omega)) _).setCell (by first | (simp; done) | (simp; omega)) _)
  · have hgp := hgd.imp (fun h => h.1)
    have HE := liveL_expire (o := o) (v := v) (tt := tt) hgp (fun q hq => live_late (hall q hq) ho hv (by omega) (by omega))
    replace H8 := Lib.hid (H8.out ⟨by omega, by omega⟩ hv (fun q hq => by have := hall q hq; omega) hgp)
    rw [HE] at H8
    clear hall hgd HE hgp
    simp only [erV_t, erV_f, kp_t, kp_f, kb_t, kb_f, lsK_t, lsK_f, advE_t, advE_f, okT_3, okT_0, Bool.false_and, Bool.true_and, Bool.and_false, Bool.and_true] at *
    go_enter Try.func15, Try.ntmps15
    go_wp2_with fail
    obtain ⟨W0, hW, hs0, K0, B0⟩ := start2 w 24 24 #[Value.bool m, Value.int IntKind.i64 v, Value.int IntKind.i64 p, Value.int IntKind.i64 o, Value.slice A n c] #[Value.bool false, Value.int IntKind.i64 0, Value.int IntKind.i64 0, Value.int IntKind.i64 0, Value.slice none 0 0]
    rw [hW]
    clear hW
    have KK := Lib.hid K0
    have BB := Lib.hid B0
    have sz : w.heap.size + 1 + 1 ≤ W0.heap.size := by omega
    have R := K0.rules
    simp only [Rules] at R
    clear K0 B0 hs0
    (with_reducible refine (HV.out _ BB.out).mono ?_)
    rintro e wv ⟨rfl, hbv⟩
    replace BB := Lib.hid (BB.out.trans (hbv.mono BB.out.size))
    replace KK := Lib.hid (KK.out.below hbv)
    replace sz := Nat.le_trans sz hbv.size
    replace R := KK.out.rules
    simp only [Rules] at R
    clear hbv
    go_wp2_with fail
    (with_reducible refine (HB.out _).mono ?_)
    rintro e w1 ⟨rfl, rfl⟩
    go_wp2_with fail
    (refine (H8.out _ BB.out).mono ?_)
    rintro e y2 ⟨A6, l6, c6, rfl, r1, ⟨r2, fr⟩, hr, hb⟩
    have fr6 : ∀ ad, A6 = some ad → w.heap.size + 1 + 1 ≤ ad.block := fun ad h => Nat.le_trans sz (fr ad h)
    replace BB := Lib.hid (BB.out.trans (hb.mono BB.out.size))
    replace KK := Lib.hid (KK.out.below hb).swap
    have HR6 := Lib.hid hr
    have R := KK.out.rules
    simp only [Rules] at R
    have K3 := Bx.one (d := #[Value.bool m, Value.int IntKind.i64 v, Value.int IntKind.i64 p, Value.int IntKind.i64 o, Value.slice A6 l6 c6]) 4 (.slice A6 l6 c6) KK.out (by simp) (by simp)
    have R3 := K3.rules
    simp only [Rules] at R3
    have K4 := Bx.one (d := #[Value.bool m, Value.int IntKind.i64 v, Value.int IntKind.i64 p, Value.int IntKind.i64 tt, Value.slice A6 l6 c6]) 3 (.int .i64 tt) K3 (by simp) (by simp)
    have R4 := K4.rules
    simp only [Rules] at R4
    clear hb hr fr sz
    go_wp2
    refine bodyPost_ret (v := Value.tuple #[.agg #[Value.bool m, Value.int IntKind.i64 v, Value.int IntKind.i64 p, Value.int IntKind.i64 tt, Value.slice A6 l6 c6], .int .i64 0]) (by simp [results, Try.results15, go_sem, R, R3, R4]) rfl ⟨A6, l6, c6, rfl, r1, ⟨r2, fun ad h => by have := fr6 ad h; omega⟩, ?_, ?_⟩
    · exact PRead.sz ((PRead.far (PRead.far (PRead.far (PRead.far (PRead.far (PRead.far (PRead.far HR6.out ⟨w.heap.size, 4, none⟩ (fun h0 ad h => by have := fr6 ad h; simp; omega) _) ⟨w.heap.size, 3, none⟩ (fun h0 ad h => by have := fr6 ad h; simp; omega) _) ⟨w.heap.size + 1, 0, none⟩ (fun h0 ad h => by have := fr6 ad h; simp; omega) _) ⟨w.heap.size + 1, 1, none⟩ (fun h0 ad h => by have := fr6 ad h; simp; omega) _) ⟨w.heap.size + 1, 2, none⟩ (fun h0 ad h => by have := fr6 ad h; simp; omega) _) ⟨w.heap.size + 1, 3, none⟩ (fun h0 ad h => by have := fr6 ad h; simp; omega) _) ⟨w.heap.size + 1, 4, none⟩ (fun h0 ad h => by have := fr6 ad h; simp; omega) _)) (by simp [World.setCell])
    · exact (((((((BB.out.setCell (by first | (simp; done) | (simp; omega)) _).setCell (by first | (simp; done) | (simp; omega)) _).setCell (by first | (simp; done) | (simp; omega)) _).setCell (by first | (simp; done) | (simp; omega)) _).setCell (by first | (simp; done) | (simp; omega)) _).setCell (by first | (simp; done) | (simp; omega)) _).setCell (by first | (simp; done) | (simp; omega)) _)
end Go.Proofs.Yteajgmihhnghfaa.ext
