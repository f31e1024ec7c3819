/- Contracts of beats, better, Value, Validate and its reference, at any state. -/
import Derived.Test.YteajgmihhnghfaaExt1
import Derived.Test.YteajgmihhnghfaaExtK
namespace Go.Proofs.Yteajgmihhnghfaa.ext
open Go.RowKit Go.Proofs.Yteajgmihhnghfaa.mem Go.Proofs.Yteajgmihhnghfaa.gro
open Go.Proofs.Yteajgmihhnghfaa.buk (at_)
set_option linter.unusedVariables false
set_option linter.unusedSimpArgs false
set_option maxHeartbeats 1000000 in
theorem beats_any (m : Bool) (a b : Int) (w : World) : Calls Try.prog 37 #[.bool m, .int .i64 a, .int .i64 b] w fun e w' => e = .returned (.bool (decide (key m b ≤ key m a))) ∧ w = w' := by
  cases m
  · go_enter Try.func37, Try.ntmps37
    go_wp2
    go_ret
    exact ⟨ret_bool (by simp [key]), rfl⟩
  · go_enter Try.func37, Try.ntmps37
    go_wp2
    go_ret
    exact ⟨ret_bool (by simp [key]), rfl⟩
set_option maxHeartbeats 1000000 in
theorem better_any (m : Bool) (a b : Int) (w : World) : Calls Try.prog 40 #[.bool m, .int .i64 a, .int .i64 b] w fun e w' => e = .returned (.bool (decide (key m b < key m a))) ∧ w = w' := by
  cases m
  · by_cases h : a < b
    · go_enter Try.func40, Try.ntmps40
      go_wp2
      go_ret
      exact ⟨ret_bool (by simp [key]; omega), rfl⟩
    · go_enter Try.func40, Try.ntmps40
      go_wp2
      go_ret
      exact ⟨ret_bool (by simp [key]; omega), rfl⟩
  · by_cases h : a > b
    · go_enter Try.func40, Try.ntmps40
      go_wp2
      go_ret
      exact ⟨ret_bool (by simp [key]; omega), rfl⟩
    · go_enter Try.func40, Try.ntmps40
      go_wp2
      go_ret
      exact ⟨ret_bool (by simp [key]; omega), rfl⟩
theorem Bx.tl {W : World} {a : Nat × TypeId × Array Value} {L : List (Nat × TypeId × Array Value)} (h : Bx W (a :: L)) : Bx W L := fun q hq => h q (List.mem_cons_of_mem _ hq)
def valB (v : Int) : Bool := decide (-4096 ≤ v) && decide (v ≤ 4096)
theorem valB_iff {t : Int} : valB t = true ↔ -4096 ≤ t ∧ t ≤ 4096 := by simp [valB]
theorem valB_iff0 {t : Int} : valB t = false ↔ ¬ (-4096 ≤ t ∧ t ≤ 4096) := by rw [← valB_iff]; simp
set_option maxHeartbeats 1000000 in
theorem Value_any (v : Int) (w : World) : Calls Try.prog 38 #[.int .i64 v] w fun e w' => e = .returned (.bool (valB v)) ∧ w = w' := by
  go_enter Try.func38, Try.ntmps38
  go_wp2
  all_goals (go_ret; refine ⟨ret_bool ?_, rfl⟩; first | (symm; rw [valB_iff]; omega) | (symm; rw [valB_iff0]; omega) | (rw [Bool.eq_iff_iff, valB_iff]; simp; omega))
def okAt (m : Bool) (v o : Int) (xs : L2) (i : Nat) : Bool := clk.liveB o v (at_ xs i).1 && valB (at_ xs i).2 && (decide (i = 0) || (decide ((at_ xs (i - 1)).1 < (at_ xs i).1) && decide (key m (at_ xs i).2 < key m (at_ xs (i - 1)).2)))
def okTo (m : Bool) (v o : Int) (xs : L2) : Nat → Bool
  | 0 => true
  | i + 1 => okTo m v o xs i && okAt m v o xs i
theorem okTo_succ {m : Bool} {v o : Int} {xs : L2} {i : Nat} (h : okTo m v o xs i = true) (h2 : okAt m v o xs i = true) : okTo m v o xs (i + 1) = true := by unfold okTo; rw [h, h2]; rfl
theorem okTo_not {m : Bool} {v o : Int} {xs : L2} {i : Nat} (h : okAt m v o xs i = false) : ∀ n, i < n → okTo m v o xs n = false
  | 0, h2 => absurd h2 (by omega)
  | n + 1, h2 => by
    unfold okTo
    by_cases e : i = n
    · subst e; rw [h, Bool.and_false]
    · rw [okTo_not h n (by omega), Bool.false_and]
def valE (m : Bool) (v p o : Int) (xs : L2) : Bool := mayB v p o && decide ((xs.length : Int) ≤ p) && okTo m v o xs xs.length
def erV (b : Bool) : Int := if b = true then 0 else 2
theorem erV_t : erV true = 0 := rfl
theorem erV_f : erV false = 2 := rfl
theorem valE_may {m : Bool} {v p o : Int} {xs : L2} (h : mayB v p o = false) : valE m v p o xs = false := by unfold valE; rw [h]; rfl
theorem valE_cap {m : Bool} {v p o : Int} {xs : L2} {n : Nat} (hl : xs.length = n) (h : ¬ (n : Int) ≤ p) : valE m v p o xs = false := by unfold valE; rw [hl, decide_eq_false h, Bool.and_false, Bool.false_and]
theorem valE_not {m : Bool} {v p o : Int} {xs : L2} {n i : Nat} (hl : xs.length = n) (hi : i < n) (h : okAt m v o xs i = false) : valE m v p o xs = false := by unfold valE; rw [hl, okTo_not h n hi, Bool.and_false]
theorem valE_yes {m : Bool} {v p o : Int} {xs : L2} {n : Nat} (hl : xs.length = n) (h : mayB v p o = true) (hp : (n : Int) ≤ p) (ho : okTo m v o xs n = true) : valE m v p o xs = true := by unfold valE; rw [hl, h, ho, decide_eq_true hp]; rfl
theorem valE_iff {m : Bool} {v p o : Int} {xs : L2} : valE m v p o xs = true ↔ mayB v p o = true ∧ (xs.length : Int) ≤ p ∧ ∀ i < xs.length, okAt m v o xs i = true := by
  unfold valE
  rw [Bool.and_eq_true, Bool.and_eq_true, decide_eq_true_iff, and_assoc]
  have key : ∀ n, okTo m v o xs n = true ↔ ∀ i < n, okAt m v o xs i = true := by
    intro n
    induction n with
    | zero => exact ⟨fun _ i h => absurd h (by omega), fun _ => rfl⟩
    | succ n ih =>
      unfold okTo
      rw [Bool.and_eq_true, ih]
      constructor
      · rintro ⟨h1, h2⟩ i hi
        by_cases e : i = n
        · rw [e]; exact h2
        · exact h1 i (by omega)
      · intro h; exact ⟨fun i hi => h i (by omega), h n (by omega)⟩
  rw [key]
set_option maxHeartbeats 8000000 in
set_option maxRecDepth 100000 in
theorem Validate_any (m : Bool) (v p o : Int) (A : Option Addr) (n c : Nat) (xs : L2) (w : World) (h1 : PRead w w.heap.size A n xs) (hs : n ≤ 65536) : Calls Try.prog 20 #[.agg #[Value.bool m, Value.int IntKind.i64 v, Value.int IntKind.i64 p, Value.int IntKind.i64 o, Value.slice A n c]] w fun e w' => e = .returned (.int .i64 (erV (valE m v p o xs))) ∧ Below w.heap.size w w' := by
  have HG := Lib.hid (fun W => good_any v p o W)
  have H1 := Lib.hid h1
  have HL := Lib.hid h1.len
  clear h1
  rcases Bool.eq_false_or_eq_true (mayB v p o) with hg | hg
  case inr =>
    rw [hg] at HG
    rw [valE_may hg]
    go_enter Try.func20, Try.ntmps20
    go_wp2_with fail
    obtain ⟨W0, hW, hs0, K0, B0⟩ := start1 w 24 #[Value.bool m, Value.int IntKind.i64 v, Value.int IntKind.i64 p, Value.int IntKind.i64 o, Value.slice A n c]
    rw [hW]
    clear hW
    have KK := Lib.hid K0
    have BB := Lib.hid B0
    have R := K0.rules
    simp only [Rules] at R
    clear K0 B0 hs0
    (with_reducible refine (HG.out _).mono ?_)
    rintro e w1 ⟨rfl, rfl⟩
    go_wp2
    go_ret
    exact ⟨rfl, BB.out⟩
  rw [hg] at HG
  by_cases hp : (n : Int) ≤ p
  case neg =>
    rw [valE_cap HL.out hp]
    have hp' : p < n := by omega
    clear hg
    go_enter Try.func20, Try.ntmps20
    go_wp2_with fail
    obtain ⟨W0, hW, hs0, K0, B0⟩ := start1 w 24 #[Value.bool m, Value.int IntKind.i64 v, Value.int IntKind.i64 p, Value.int IntKind.i64 o, Value.slice A n c]
    rw [hW]
    clear hW
    have KK := Lib.hid K0
    have BB := Lib.hid B0
    have R := K0.rules
    simp only [Rules] at R
    clear K0 B0 hs0
    (with_reducible refine (HG.out _).mono ?_)
    rintro e w1 ⟨rfl, rfl⟩
    go_wp2
    go_ret
    exact ⟨rfl, BB.out⟩
  have hYes := Lib.hid (fun h => valE_yes (m := m) (xs := xs) HL.out hg hp h)
  have hNo := Lib.hid (fun i hi h => valE_not (m := m) (v := v) (p := p) (o := o) (i := i) HL.out hi h)
  clear hg
  go_enter Try.func20, Try.ntmps20
  go_wp2_with fail
  obtain ⟨W0, hW, hs0, K0, B0⟩ := start1 w 24 #[Value.bool m, Value.int IntKind.i64 v, Value.int IntKind.i64 p, Value.int IntKind.i64 o, Value.slice A n c]
  rw [hW]
  clear hW
  have KK := Lib.hid K0
  have BB := Lib.hid B0
  have R := K0.rules
  simp only [Rules] at R
  clear K0 B0 hs0
  (with_reducible refine (HG.out _).mono ?_)
  rintro e w1 ⟨rfl, rfl⟩
  go_wp2_with fail
  have sz0 := BB.out.size
  clear R
  go_loopg [24] n (fun kx s24 wr => ∃ i : Nat, i ≤ n ∧ s24 = .int .i64 i ∧ n - i ≤ kx ∧ Hid (Bx wr [(w.heap.size, 24, #[Value.bool m, Value.int IntKind.i64 v, Value.int IntKind.i64 p, Value.int IntKind.i64 o, Value.slice A n c])]) ∧ Hid (Below w.heap.size w wr) ∧ Hid (okTo m v o xs i = true))
  case atStart => exact ⟨0, Nat.zero_le _, rfl, by omega, KK, BB, (rfl : okTo m v o xs 0 = true)⟩
  case round =>
    clear KK BB sz0
    obtain ⟨i, hi, rfl, hik, KK, BB, HO⟩ := hrel
    have R := KK.out.rules
    simp only [Rules] at R
    by_cases hlt : i < n
    case neg =>
      obtain rfl : i = n := by omega
      go_wp2
      go_ret
      exact ⟨ret_int (by rw [hYes.out HO.out, erV_t]), BB.out⟩
    have H2 := H1.out.below BB.out
    obtain ⟨ad, rfl, hbl, hc1, hc2⟩ := PRead.at_ H2 hlt
    have hsz := BB.out.size
    have hbs : ad.block < wr.heap.size := by omega
    have hp0 : 0 < i → wr.cell? (ad.add ((i - 1) * 2)) = some (.int .i64 (at_ xs (i - 1)).1) ∧ wr.cell? ⟨(ad.add ((i - 1) * 2)).block, (ad.add ((i - 1) * 2)).off + 1, none⟩ = some (.int .i64 (at_ xs (i - 1)).2) := fun h => by
      obtain ⟨ad', e, _, hd1, hd2⟩ := PRead.at_ H2 (show i - 1 < n by omega)
      injection e with e; subst e; exact ⟨hd1, hd2⟩
    clear H2
    have hN := Lib.hid (fun h => hNo.out i hlt h)
    have hY := Lib.hid (fun h => okTo_succ HO.out h)
    have hO : Hid (okAt m v o xs i = (clk.liveB o v (at_ xs i).1 && valB (at_ xs i).2 && (decide (i = 0) || (decide ((at_ xs (i - 1)).1 < (at_ xs i).1) && decide (key m (at_ xs i).2 < key m (at_ xs (i - 1)).2))))) := rfl
    clear HO hNo hYes
    change wr.cell? (ad.add (i * 2)) = some (.int .i64 (at_ xs i).1) at hc1
    change wr.cell? ⟨(ad.add (i * 2)).block, (ad.add (i * 2)).off + 1, none⟩ = some (.int .i64 (at_ xs i).2) at hc2
    generalize (at_ xs i).1 = t1 at *
    generalize (at_ xs i).2 = v1 at *
    have HLv := Lib.hid (fun W => clk.live_any o v t1 W)
    obtain ⟨sB, hsB⟩ : ∃ s, wr.heap.size = s := ⟨_, rfl⟩
    have KZ := Lib.hid (KK.out.new (t := 40) (c := #[Value.int IntKind.i64 t1, Value.int IntKind.i64 v1]) hsB)
    have BZ := Lib.hid (BB.out.alloc BB.out.size (.cells #[Value.int IntKind.i64 t1, Value.int IntKind.i64 v1] 40))
    have RZ := KZ.out.rules
    simp only [Rules] at RZ
    go_wp2_with fail
    (with_reducible refine (HLv.out _).mono ?_)
    rintro e w1 ⟨rfl, rfl⟩
    have hp5 := fun h => And.intro (cell_box (hp0 h).1 (.cells #[Value.int IntKind.i64 t1, Value.int IntKind.i64 v1] 40)) (cell_box (hp0 h).2 (.cells #[Value.int IntKind.i64 t1, Value.int IntKind.i64 v1] 40))
    obtain ⟨W5, hW, K5, B5, z5⟩ := name_world KZ.out BZ.out (s := 0) (by omega)
    rw [hW]
    rw [hW] at hp5
    clear hW KK BB R KZ BZ RZ hp0 hc1 hc2
    have KK := Lib.hid K5
    have BB := Lib.hid B5
    have R := K5.rules
    simp only [Rules] at R
    clear K5 B5 z5
    generalize clk.liveB o v t1 = lv at *
    cases lv
    case false =>
      go_wp2
      go_ret
      exact ⟨ret_int (by rw [hN.out (by rw [hO.out]; simp []), erV_f]), BB.out⟩
    by_cases q1 : v1 < -4096
    case pos =>
      have qv : valB v1 = false := valB_iff0.2 (by omega)
      go_wp2
      go_ret
      exact ⟨ret_int (by rw [hN.out (by rw [hO.out]; simp [qv]), erV_f]), BB.out⟩
    by_cases q2 : v1 > 4096
    case pos =>
      have qv : valB v1 = false := valB_iff0.2 (by omega)
      go_wp2
      go_ret
      exact ⟨ret_int (by rw [hN.out (by rw [hO.out]; simp [qv]), erV_f]), BB.out⟩
    have qv : valB v1 = true := valB_iff.2 (by omega)
    go_wp2_with fail
    by_cases h0 : 0 < i
    case neg =>
      have h00 : i = 0 := by omega
      clear hp5
      (refine gro.wp_region_grown (by kernel_rfl) (by kernel_rfl) ?_; (repeat (go_big_quiet_step ((fail)))); refine wpQuiet_nil ?_; intro _ hw'; obtain ⟨nx, hw''⟩ := hw'; subst hw'')
      replace KK := Lib.hid (KK.out.below (below_grown _ nx))
      replace BB := Lib.hid (BB.out.trans ((below_grown _ nx).mono BB.out.size))
      clear R
      generalize grown _ nx = W7 at *
      have R := KK.out.rules
      simp only [Rules] at R
      go_wp2
      go_roundg (n - (i + 1))
      case measure => omega
      case rel => exact ⟨i + 1, by omega, by go_num, by omega, Lib.hid (Bx.tl KK.out), BB.out, hY.out (by rw [hO.out]; simp [qv, h00])⟩
    obtain ⟨hd1, hd2⟩ := hp5 (by omega)
    clear hp5 hsB
    generalize (at_ xs (i - 1)).1 = t0 at *
    generalize (at_ xs (i - 1)).2 = v0 at *
    have HBe := Lib.hid (fun W => beats_any m v1 v0 W)
    have s1 : IntKind.i64.wrap ((i : Int) - 1) = (i : Int) - 1 := IntWalk.i64_in _ (by omega)
    have s2 : 0 ≤ (i : Int) - 1 := by omega
    have s3 : ((i : Int) - 1).toNat = i - 1 := by omega
    have s4 : (i : Int) - 1 < n := by omega
    have s5 : 1 ≤ (i : Int) := by omega
    by_cases e1 : t0 ≥ t1
    case pos =>
      (refine gro.wp_region_grown (by kernel_rfl) (by kernel_rfl) ?_; (repeat (go_big_quiet_step ((fail)))); refine wpQuiet_nil ?_; intro _ hw'; obtain ⟨nx, hw''⟩ := hw'; subst hw'')
      replace KK := Lib.hid (KK.out.below (below_grown _ nx))
      replace BB := Lib.hid (BB.out.trans ((below_grown _ nx).mono BB.out.size))
      clear R
      generalize grown _ nx = W7 at *
      have R := KK.out.rules
      simp only [Rules] at R
      clear s1 s2 s3 s4 s5
      go_wp2
      go_ret
      exact ⟨ret_int (by rw [hN.out (by rw [hO.out]; simp [show ¬ t0 < t1 from by omega, show ¬ i = 0 from by omega]), erV_f]), BB.out⟩
    by_cases e2 : key m v0 ≤ key m v1
    case pos =>
      rw [decide_eq_true e2] at HBe
      (refine gro.wp_region_grown (by kernel_rfl) (by kernel_rfl) ?_; (repeat (go_big_quiet_step ((go_at_call 37; exact gro.call_same (HBe.out _))))); refine wpQuiet_nil ?_; intro _ hw'; obtain ⟨nx, hw''⟩ := hw'; subst hw'')
      replace KK := Lib.hid (KK.out.below (below_grown _ nx))
      replace BB := Lib.hid (BB.out.trans ((below_grown _ nx).mono BB.out.size))
      clear R
      generalize grown _ nx = W7 at *
      have R := KK.out.rules
      simp only [Rules] at R
      clear s1 s2 s3 s4 s5
      go_wp2
      go_ret
      exact ⟨ret_int (by rw [hN.out (by rw [hO.out]; simp [show ¬ key m v1 < key m v0 from by omega, show ¬ i = 0 from by omega]), erV_f]), BB.out⟩
    rw [decide_eq_false e2] at HBe
    (refine gro.wp_region_grown (by kernel_rfl) (by kernel_rfl) ?_; (repeat (go_big_quiet_step ((go_at_call 37; exact gro.call_same (HBe.out _))))); refine wpQuiet_nil ?_; intro _ hw'; obtain ⟨nx, hw''⟩ := hw'; subst hw'')
    replace KK := Lib.hid (KK.out.below (below_grown _ nx))
    replace BB := Lib.hid (BB.out.trans ((below_grown _ nx).mono BB.out.size))
    clear R
    generalize grown _ nx = W7 at *
    have R := KK.out.rules
    simp only [Rules] at R
    clear s1 s2 s3 s4 s5
    go_wp2
    go_roundg (n - (i + 1))
    case measure => omega
    case rel => exact ⟨i + 1, by omega, by go_num, by omega, Lib.hid (Bx.tl KK.out), BB.out, hY.out (by rw [hO.out]; simp [qv, show key m v1 < key m v0 from by omega, show t0 < t1 from by omega])⟩
set_option maxHeartbeats 8000000 in
set_option maxRecDepth 100000 in
theorem ValidateR_any (m : Bool) (v p o : Int) (A : Option Addr) (n c : Nat) (xs : L2) (w : World) (h1 : PRead w w.heap.size A n xs) (hs : n ≤ 65536) : Calls Try.prog 21 #[.agg #[Value.bool m, Value.int IntKind.i64 v, Value.int IntKind.i64 p, Value.int IntKind.i64 o, Value.slice A n c]] w fun e w' => e = .returned (.int .i64 (erV (valE m v p o xs))) ∧ Below w.heap.size w w' := by
  have HG := Lib.hid (fun W => May_any v p o W)
  have H1 := Lib.hid h1
  have HL := Lib.hid h1.len
  clear h1
  rcases Bool.eq_false_or_eq_true (mayB v p o) with hg | hg
  case inr =>
    rw [hg] at HG
    rw [valE_may hg]
    go_enter Try.func21, Try.ntmps21
    go_wp2_with fail
    obtain ⟨W0, hW, hs0, K0, B0⟩ := start1 w 24 #[Value.bool m, Value.int IntKind.i64 v, Value.int IntKind.i64 p, Value.int IntKind.i64 o, Value.slice A n c]
    rw [hW]
    clear hW
    have KK := Lib.hid K0
    have BB := Lib.hid B0
    have R := K0.rules
    simp only [Rules] at R
    clear K0 B0 hs0
    (with_reducible refine (HG.out _).mono ?_)
    rintro e w1 ⟨rfl, rfl⟩
    go_wp2
    go_ret
    exact ⟨rfl, BB.out⟩
  rw [hg] at HG
  by_cases hp : (n : Int) ≤ p
  case neg =>
    rw [valE_cap HL.out hp]
    have hp' : p < n := by omega
    clear hg
    go_enter Try.func21, Try.ntmps21
    go_wp2_with fail
    obtain ⟨W0, hW, hs0, K0, B0⟩ := start1 w 24 #[Value.bool m, Value.int IntKind.i64 v, Value.int IntKind.i64 p, Value.int IntKind.i64 o, Value.slice A n c]
    rw [hW]
    clear hW
    have KK := Lib.hid K0
    have BB := Lib.hid B0
    have R := K0.rules
    simp only [Rules] at R
    clear K0 B0 hs0
    (with_reducible refine (HG.out _).mono ?_)
    rintro e w1 ⟨rfl, rfl⟩
    go_wp2
    go_ret
    exact ⟨rfl, BB.out⟩
  have hYes := Lib.hid (fun h => valE_yes (m := m) (xs := xs) HL.out hg hp h)
  have hNo := Lib.hid (fun i hi h => valE_not (m := m) (v := v) (p := p) (o := o) (i := i) HL.out hi h)
  clear hg
  go_enter Try.func21, Try.ntmps21
  go_wp2_with fail
  obtain ⟨W0, hW, hs0, K0, B0⟩ := start1 w 24 #[Value.bool m, Value.int IntKind.i64 v, Value.int IntKind.i64 p, Value.int IntKind.i64 o, Value.slice A n c]
  rw [hW]
  clear hW
  have KK := Lib.hid K0
  have BB := Lib.hid B0
  have R := K0.rules
  simp only [Rules] at R
  clear K0 B0 hs0
  (with_reducible refine (HG.out _).mono ?_)
  rintro e w1 ⟨rfl, rfl⟩
  go_wp2_with fail
  have sz0 := BB.out.size
  clear R
  go_loopg [24] n (fun kx s24 wr => ∃ i : Nat, i ≤ n ∧ s24 = .int .i64 i ∧ n - i ≤ kx ∧ Hid (Bx wr [(w.heap.size, 24, #[Value.bool m, Value.int IntKind.i64 v, Value.int IntKind.i64 p, Value.int IntKind.i64 o, Value.slice A n c])]) ∧ Hid (Below w.heap.size w wr) ∧ Hid (okTo m v o xs i = true))
  case atStart => exact ⟨0, Nat.zero_le _, rfl, by omega, KK, BB, (rfl : okTo m v o xs 0 = true)⟩
  case round =>
    clear KK BB sz0
    obtain ⟨i, hi, rfl, hik, KK, BB, HO⟩ := hrel
    have R := KK.out.rules
    simp only [Rules] at R
    by_cases hlt : i < n
    case neg =>
      obtain rfl : i = n := by omega
      go_wp2
      go_ret
      exact ⟨ret_int (by rw [hYes.out HO.out, erV_t]), BB.out⟩
    have H2 := H1.out.below BB.out
    obtain ⟨ad, rfl, hbl, hc1, hc2⟩ := PRead.at_ H2 hlt
    have hsz := BB.out.size
    have hbs : ad.block < wr.heap.size := by omega
    have hp0 : 0 < i → wr.cell? (ad.add ((i - 1) * 2)) = some (.int .i64 (at_ xs (i - 1)).1) ∧ wr.cell? ⟨(ad.add ((i - 1) * 2)).block, (ad.add ((i - 1) * 2)).off + 1, none⟩ = some (.int .i64 (at_ xs (i - 1)).2) := fun h => by
      obtain ⟨ad', e, _, hd1, hd2⟩ := PRead.at_ H2 (show i - 1 < n by omega)
      injection e with e; subst e; exact ⟨hd1, hd2⟩
    clear H2
    have hN := Lib.hid (fun h => hNo.out i hlt h)
    have hY := Lib.hid (fun h => okTo_succ HO.out h)
    have hO : Hid (okAt m v o xs i = (clk.liveB o v (at_ xs i).1 && valB (at_ xs i).2 && (decide (i = 0) || (decide ((at_ xs (i - 1)).1 < (at_ xs i).1) && decide (key m (at_ xs i).2 < key m (at_ xs (i - 1)).2))))) := rfl
    clear HO hNo hYes
    change wr.cell? (ad.add (i * 2)) = some (.int .i64 (at_ xs i).1) at hc1
    change wr.cell? ⟨(ad.add (i * 2)).block, (ad.add (i * 2)).off + 1, none⟩ = some (.int .i64 (at_ xs i).2) at hc2
    generalize (at_ xs i).1 = t1 at *
    generalize (at_ xs i).2 = v1 at *
    have HLv := Lib.hid (fun W => clk.Live_any o v t1 W)
    obtain ⟨sB, hsB⟩ : ∃ s, wr.heap.size = s := ⟨_, rfl⟩
    have KZ := Lib.hid (KK.out.new (t := 40) (c := #[Value.int IntKind.i64 t1, Value.int IntKind.i64 v1]) hsB)
    have BZ := Lib.hid (BB.out.alloc BB.out.size (.cells #[Value.int IntKind.i64 t1, Value.int IntKind.i64 v1] 40))
    have RZ := KZ.out.rules
    simp only [Rules] at RZ
    go_wp2_with fail
    have hp5 := fun h => And.intro (cell_box (hp0 h).1 (.cells #[Value.int IntKind.i64 t1, Value.int IntKind.i64 v1] 40)) (cell_box (hp0 h).2 (.cells #[Value.int IntKind.i64 t1, Value.int IntKind.i64 v1] 40))
    obtain ⟨W5, hW, K5, B5, z5⟩ := name_world KZ.out BZ.out (s := 0) (by omega)
    rw [hW]
    rw [hW] at hp5
    clear hW KK BB R KZ BZ RZ hp0 hc1 hc2
    have KK := Lib.hid K5
    have BB := Lib.hid B5
    have R := K5.rules
    simp only [Rules] at R
    clear K5 B5 z5
    have HVl := Lib.hid (fun W => Value_any v1 W)
    generalize clk.liveB o v t1 = lv at *
    generalize valB v1 = vv at *
    cases lv
    case false =>
      (refine gro.wp_region_grown (by kernel_rfl) (by kernel_rfl) ?_; (repeat (go_big_quiet_step ((first | (go_at_call 39; exact gro.call_same (HLv.out _)) | (go_at_call 38; exact gro.call_same (HVl.out _)) | (go_at_call 40; exact gro.call_same (HBe.out _)))))); refine wpQuiet_nil ?_; intro _ hw'; obtain ⟨nx, hw''⟩ := hw'; subst hw'')
      replace KK := Lib.hid (KK.out.below (below_grown _ nx))
      replace BB := Lib.hid (BB.out.trans ((below_grown _ nx).mono BB.out.size))
      clear R
      generalize grown _ nx = W7 at *
      have R := KK.out.rules
      simp only [Rules] at R
      go_wp2
      go_ret
      exact ⟨ret_int (by rw [hN.out (by rw [hO.out]; simp []), erV_f]), BB.out⟩
    cases vv
    case false =>
      (refine gro.wp_region_grown (by kernel_rfl) (by kernel_rfl) ?_; (repeat (go_big_quiet_step ((first | (go_at_call 39; exact gro.call_same (HLv.out _)) | (go_at_call 38; exact gro.call_same (HVl.out _)) | (go_at_call 40; exact gro.call_same (HBe.out _)))))); refine wpQuiet_nil ?_; intro _ hw'; obtain ⟨nx, hw''⟩ := hw'; subst hw'')
      replace KK := Lib.hid (KK.out.below (below_grown _ nx))
      replace BB := Lib.hid (BB.out.trans ((below_grown _ nx).mono BB.out.size))
      clear R
      generalize grown _ nx = W7 at *
      have R := KK.out.rules
      simp only [Rules] at R
      go_wp2
      go_ret
      exact ⟨ret_int (by rw [hN.out (by rw [hO.out]; simp []), erV_f]), BB.out⟩
    by_cases h0 : 0 < i
    case neg =>
      have h00 : i = 0 := by omega
      clear hp5
      (refine gro.wp_region_grown (by kernel_rfl) (by kernel_rfl) ?_; (repeat (go_big_quiet_step ((first | (go_at_call 39; exact gro.call_same (HLv.out _)) | (go_at_call 38; exact gro.call_same (HVl.out _)) | (go_at_call 40; exact gro.call_same (HBe.out _)))))); refine wpQuiet_nil ?_; intro _ hw'; obtain ⟨nx, hw''⟩ := hw'; subst hw'')
      replace KK := Lib.hid (KK.out.below (below_grown _ nx))
      replace BB := Lib.hid (BB.out.trans ((below_grown _ nx).mono BB.out.size))
      clear R
      generalize grown _ nx = W7 at *
      have R := KK.out.rules
      simp only [Rules] at R
      go_wp2
      go_roundg (n - (i + 1))
      case measure => omega
      case rel => exact ⟨i + 1, by omega, by go_num, by omega, Lib.hid (Bx.tl KK.out), BB.out, hY.out (by rw [hO.out]; simp [h00])⟩
    obtain ⟨hd1, hd2⟩ := hp5 (by omega)
    clear hp5 hsB
    generalize (at_ xs (i - 1)).1 = t0 at *
    generalize (at_ xs (i - 1)).2 = v0 at *
    have HBe := Lib.hid (fun W => better_any m v0 v1 W)
    have s1 : IntKind.i64.wrap ((i : Int) - 1) = (i : Int) - 1 := IntWalk.i64_in _ (by omega)
    have s2 : 0 ≤ (i : Int) - 1 := by omega
    have s3 : ((i : Int) - 1).toNat = i - 1 := by omega
    have s4 : (i : Int) - 1 < n := by omega
    have s5 : 1 ≤ (i : Int) := by omega
    by_cases e1 : t0 ≥ t1
    case pos =>
      (refine gro.wp_region_grown (by kernel_rfl) (by kernel_rfl) ?_; (repeat (go_big_quiet_step ((first | (go_at_call 39; exact gro.call_same (HLv.out _)) | (go_at_call 38; exact gro.call_same (HVl.out _)) | (go_at_call 40; exact gro.call_same (HBe.out _)))))); refine wpQuiet_nil ?_; intro _ hw'; obtain ⟨nx, hw''⟩ := hw'; subst hw'')
      replace KK := Lib.hid (KK.out.below (below_grown _ nx))
      replace BB := Lib.hid (BB.out.trans ((below_grown _ nx).mono BB.out.size))
      clear R
      generalize grown _ nx = W7 at *
      have R := KK.out.rules
      simp only [Rules] at R
      clear s1 s2 s3 s4 s5
      go_wp2
      go_ret
      exact ⟨ret_int (by rw [hN.out (by rw [hO.out]; simp [show ¬ t0 < t1 from by omega, show ¬ i = 0 from by omega]), erV_f]), BB.out⟩
    by_cases e2 : key m v1 < key m v0
    case neg =>
      rw [decide_eq_false e2] at HBe
      (refine gro.wp_region_grown (by kernel_rfl) (by kernel_rfl) ?_; (repeat (go_big_quiet_step ((first | (go_at_call 39; exact gro.call_same (HLv.out _)) | (go_at_call 38; exact gro.call_same (HVl.out _)) | (go_at_call 40; exact gro.call_same (HBe.out _)))))); refine wpQuiet_nil ?_; intro _ hw'; obtain ⟨nx, hw''⟩ := hw'; subst hw'')
      replace KK := Lib.hid (KK.out.below (below_grown _ nx))
      replace BB := Lib.hid (BB.out.trans ((below_grown _ nx).mono BB.out.size))
      clear R
      generalize grown _ nx = W7 at *
      have R := KK.out.rules
      simp only [Rules] at R
      clear s1 s2 s3 s4 s5
      go_wp2
      go_ret
      exact ⟨ret_int (by rw [hN.out (by rw [hO.out]; simp [e2, show ¬ i = 0 from by omega]), erV_f]), BB.out⟩
    rw [decide_eq_true e2] at HBe
    (refine gro.wp_region_grown (by kernel_rfl) (by kernel_rfl) ?_; (repeat (go_big_quiet_step ((first | (go_at_call 39; exact gro.call_same (HLv.out _)) | (go_at_call 38; exact gro.call_same (HVl.out _)) | (go_at_call 40; exact gro.call_same (HBe.out _)))))); refine wpQuiet_nil ?_; intro _ hw'; obtain ⟨nx, hw''⟩ := hw'; subst hw'')
    replace KK := Lib.hid (KK.out.below (below_grown _ nx))
    replace BB := Lib.hid (BB.out.trans ((below_grown _ nx).mono BB.out.size))
    clear R
    generalize grown _ nx = W7 at *
    have R := KK.out.rules
    simp only [Rules] at R
    clear s1 s2 s3 s4 s5
    go_wp2
    go_roundg (n - (i + 1))
    case measure => omega
    case rel => exact ⟨i + 1, by omega, by go_num, by omega, Lib.hid (Bx.tl KK.out), BB.out, hY.out (by rw [hO.out]; simp [e2, show t0 < t1 from by omega])⟩
end Go.Proofs.Yteajgmihhnghfaa.ext
