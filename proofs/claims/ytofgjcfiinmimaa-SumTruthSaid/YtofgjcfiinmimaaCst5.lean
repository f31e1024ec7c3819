/- Contracts of Add of histograms of sums. -/
import Derived.Test.YtofgjcfiinmimaaCst3
import Derived.Test.YtofgjcfiinmimaaMgRManyG
namespace Go.Proofs.Ytofgjcfiinmimaa.cst
open Go.RowKit Go.Proofs.Ytofgjcfiinmimaa.mem Go.Proofs.Ytofgjcfiinmimaa.lst Go.Proofs.Ytofgjcfiinmimaa.gro
set_option linter.unusedVariables false
set_option linter.unusedSimpArgs false
set_option maxHeartbeats 4000000 in
set_option maxRecDepth 100000 in
theorem AddS_any (v k p m o x : Int) (A : Option Addr) (n c : Nat) (xs : List (Int × Int)) (w : World) (h1 : PRead w w.heap.size A n xs) (hnc : n ≤ c) (hcm : c ≤ maxLen) (hsmall : n ≤ 2000) (hx : -9223372036854775808 ≤ x ∧ x ≤ 9223372036854775807) :
    Calls Try.prog 37 #[(Value.agg #[.int .i64 v, .int .i64 k, .int .i64 p, .int .i64 m, .int .i64 o, .slice A n c]), .int .i64 x] w (NewSsf (kp (fitS xs v k p m o && (decide (0 ≤ x ∧ x ≤ m) && !decide (p < (totalN xs : Int) + x))) v) (kp (fitS xs v k p m o && (decide (0 ≤ x ∧ x ≤ m) && !decide (p < (totalN xs : Int) + x))) k) (kp (fitS xs v k p m o && (decide (0 ≤ x ∧ x ≤ m) && !decide (p < (totalN xs : Int) + x))) p) (kp (fitS xs v k p m o && (decide (0 ≤ x ∧ x ≤ m) && !decide (p < (totalN xs : Int) + x))) m) (kp (fitS xs v k p m o && (decide (0 ≤ x ∧ x ≤ m) && !decide (p < (totalN xs : Int) + x))) o) (lsK (fitS xs v k p m o && (decide (0 ≤ x ∧ x ≤ m) && !decide (p < (totalN xs : Int) + x))) (insM xs k o x)) (addSE (fitS xs v k p m o) (decide (0 ≤ x ∧ x ≤ m)) (decide (p < (totalN xs : Int) + x))) w) := by
  have HV := Lib.hid (fun W (hb : Below w.heap.size w W) => ValidateS_any v k p m o A n c xs W ((h1.below hb).more hb.size) hnc hcm hsmall)
  have HT : Hid (∀ W, Below w.heap.size w W → Calls Try.prog 65 #[.slice A n c] W fun e w' => e = .returned (.int .i64 (totalN xs : Nat)) ∧ Below W.heap.size W w') := fun W hb => Total_any A n c xs W ((h1.below hb).more hb.size) (by omega)
  have HI := Lib.hid (fun W (hb : Below w.heap.size w W) => InsertMany_f A n c xs k o x W ((h1.below hb).more hb.size) (by omega))
  have hgm : fitS xs v k p m o = true → (1 ≤ p ∧ p ≤ 65536) ∧ 1 ≤ m ∧ m ≤ 1024 := fun h => ⟨(goodS_iff.1 (fitS_iff.1 h).1).1.2.2.1, (goodS_iff.1 (fitS_iff.1 h).1).2⟩
  have htl := totalN_le xs
  rw [PRead.len h1] at htl
  clear h1 hcm
  generalize fitS xs v k p m o = ft at *
  generalize insM xs k o x = ys at *
  have htn : 0 ≤ ((totalN xs : Nat) : Int) ∧ ((totalN xs : Nat) : Int) ≤ 2147483648000 := by omega
  clear htl
  generalize ((totalN xs : Nat) : Int) = tn at *
  cases ft
  case false =>
    clear hgm
    simp only [kp_t, kp_f, lsK_t, lsK_f, addE_f, addE_t, addE_k, addSE_f, addSE_r, addSE_t, addSE_k, okE_t, okE_f, Bool.false_and, Bool.true_and, Bool.and_false, Bool.and_true, Bool.not_true, Bool.not_false] at *
    go_enter Try.func37, Try.ntmps37
    go_wp2_with fail
    obtain ⟨W0, hW, hs0, K0, B0⟩ := start2 w 32 32 #[Value.int IntKind.i64 v, Value.int IntKind.i64 k, Value.int IntKind.i64 p, Value.int IntKind.i64 m, Value.int IntKind.i64 o, Value.slice A n c] #[Value.int IntKind.i64 0, Value.int IntKind.i64 0, Value.int IntKind.i64 0, Value.int IntKind.i64 0, Value.int IntKind.i64 0, Value.slice none 0 0]
    rw [hW]
    clear hW
    have KK := Lib.hid K0
    have BB := Lib.hid B0
    have sz : w.heap.size + 1 + 1 ≤ W0.heap.size := by omega
    have R := K0.rules
    simp only [Rules] at R
    clear K0 B0 hs0
    (with_reducible refine (HV.out _ BB.out).mono ?_)
    rintro e wv ⟨rfl, hbv⟩
    replace BB := Lib.hid (BB.out.trans (hbv.mono BB.out.size))
    replace KK := Lib.hid (KK.out.below hbv)
    replace sz := Nat.le_trans sz hbv.size
    replace R := KK.out.rules
    simp only [Rules] at R
    clear hbv
    go_wp2
    refine bodyPost_ret (v := Value.tuple #[.agg #[Value.int IntKind.i64 0, Value.int IntKind.i64 0, Value.int IntKind.i64 0, Value.int IntKind.i64 0, Value.int IntKind.i64 0, Value.slice none 0 0], .int .i64 2]) (by simp [results, Try.results37, go_sem, R]) rfl ⟨none, 0, 0, rfl, Nat.le_refl _, ⟨Nat.zero_le _, fun ad h => by cases h⟩, .nil_, ?_⟩
    exact ((((((BB.out.setCell (by first | (simp; done) | (simp; omega)) _).setCell (by first | (simp; done) | (simp; omega)) _).setCell (by first | (simp; done) | (simp; omega)) _).setCell (by first | (simp; done) | (simp; omega)) _).setCell (by first | (simp; done) | (simp; omega)) _).setCell (by first | (simp; done) | (simp; omega)) _)
  obtain ⟨⟨p1, p2⟩, m1, m2⟩ := hgm rfl
  clear hgm
  by_cases hr0 : x < 0
  case pos =>
    have q0 : decide (0 ≤ x ∧ x ≤ m) = false := decide_eq_false (by omega)
    have q1 : decide (x < 0) = true := decide_eq_true hr0
    rw [q0]
    clear q0
    simp only [kp_t, kp_f, lsK_t, lsK_f, addE_f, addE_t, addE_k, addSE_f, addSE_r, addSE_t, addSE_k, okE_t, okE_f, Bool.false_and, Bool.true_and, Bool.and_false, Bool.and_true, Bool.not_true, Bool.not_false] at *
    go_enter Try.func37, Try.ntmps37
    go_wp2_with fail
    obtain ⟨W0, hW, hs0, K0, B0⟩ := start2 w 32 32 #[Value.int IntKind.i64 v, Value.int IntKind.i64 k, Value.int IntKind.i64 p, Value.int IntKind.i64 m, Value.int IntKind.i64 o, Value.slice A n c] #[Value.int IntKind.i64 0, Value.int IntKind.i64 0, Value.int IntKind.i64 0, Value.int IntKind.i64 0, Value.int IntKind.i64 0, Value.slice none 0 0]
    rw [hW]
    clear hW
    have KK := Lib.hid K0
    have BB := Lib.hid B0
    have sz : w.heap.size + 1 + 1 ≤ W0.heap.size := by omega
    have R := K0.rules
    simp only [Rules] at R
    clear K0 B0 hs0
    (with_reducible refine (HV.out _ BB.out).mono ?_)
    rintro e wv ⟨rfl, hbv⟩
    replace BB := Lib.hid (BB.out.trans (hbv.mono BB.out.size))
    replace KK := Lib.hid (KK.out.below hbv)
    replace sz := Nat.le_trans sz hbv.size
    replace R := KK.out.rules
    simp only [Rules] at R
    clear hbv
    go_wp2
    refine bodyPost_ret (v := Value.tuple #[.agg #[Value.int IntKind.i64 0, Value.int IntKind.i64 0, Value.int IntKind.i64 0, Value.int IntKind.i64 0, Value.int IntKind.i64 0, Value.slice none 0 0], .int .i64 4]) (by simp [results, Try.results37, go_sem, R]) rfl ⟨none, 0, 0, rfl, Nat.le_refl _, ⟨Nat.zero_le _, fun ad h => by cases h⟩, .nil_, ?_⟩
    exact ((((((BB.out.setCell (by first | (simp; done) | (simp; omega)) _).setCell (by first | (simp; done) | (simp; omega)) _).setCell (by first | (simp; done) | (simp; omega)) _).setCell (by first | (simp; done) | (simp; omega)) _).setCell (by first | (simp; done) | (simp; omega)) _).setCell (by first | (simp; done) | (simp; omega)) _)
  by_cases hr1 : m < x
  case pos =>
    have q0 : decide (0 ≤ x ∧ x ≤ m) = false := decide_eq_false (by omega)
    have q1 : decide (x < 0) = false := decide_eq_false hr0
    have q2 : decide (m < x) = true := decide_eq_true hr1
    rw [q0]
    clear q0
    simp only [kp_t, kp_f, lsK_t, lsK_f, addE_f, addE_t, addE_k, addSE_f, addSE_r, addSE_t, addSE_k, okE_t, okE_f, Bool.false_and, Bool.true_and, Bool.and_false, Bool.and_true, Bool.not_true, Bool.not_false] at *
    go_enter Try.func37, Try.ntmps37
    go_wp2_with fail
    obtain ⟨W0, hW, hs0, K0, B0⟩ := start2 w 32 32 #[Value.int IntKind.i64 v, Value.int IntKind.i64 k, Value.int IntKind.i64 p, Value.int IntKind.i64 m, Value.int IntKind.i64 o, Value.slice A n c] #[Value.int IntKind.i64 0, Value.int IntKind.i64 0, Value.int IntKind.i64 0, Value.int IntKind.i64 0, Value.int IntKind.i64 0, Value.slice none 0 0]
    rw [hW]
    clear hW
    have KK := Lib.hid K0
    have BB := Lib.hid B0
    have sz : w.heap.size + 1 + 1 ≤ W0.heap.size := by omega
    have R := K0.rules
    simp only [Rules] at R
    clear K0 B0 hs0
    (with_reducible refine (HV.out _ BB.out).mono ?_)
    rintro e wv ⟨rfl, hbv⟩
    replace BB := Lib.hid (BB.out.trans (hbv.mono BB.out.size))
    replace KK := Lib.hid (KK.out.below hbv)
    replace sz := Nat.le_trans sz hbv.size
    replace R := KK.out.rules
    simp only [Rules] at R
    clear hbv
    go_wp2
    refine bodyPost_ret (v := Value.tuple #[.agg #[Value.int IntKind.i64 0, Value.int IntKind.i64 0, Value.int IntKind.i64 0, Value.int IntKind.i64 0, Value.int IntKind.i64 0, Value.slice none 0 0], .int .i64 4]) (by simp [results, Try.results37, go_sem, R]) rfl ⟨none, 0, 0, rfl, Nat.le_refl _, ⟨Nat.zero_le _, fun ad h => by cases h⟩, .nil_, ?_⟩
    exact ((((((BB.out.setCell (by first | (simp; done) | (simp; omega)) _).setCell (by first | (simp; done) | (simp; omega)) _).setCell (by first | (simp; done) | (simp; omega)) _).setCell (by first | (simp; done) | (simp; omega)) _).setCell (by first | (simp; done) | (simp; omega)) _).setCell (by first | (simp; done) | (simp; omega)) _)
  have q0 : decide (0 ≤ x ∧ x ≤ m) = true := decide_eq_true (by omega)
  have q1 : decide (x < 0) = false := decide_eq_false hr0
  have q2 : decide (m < x) = false := decide_eq_false hr1
  rw [q0]
  clear q0
  by_cases hf : p < tn + x
  case pos =>
    have q4 : IntKind.i64.wrap (p - x) = p - x := IntWalk.i64_in _ (by omega)
    have q3 : decide (p - x < tn) = true := decide_eq_true (by omega)
    rw [decide_eq_true hf]
    simp only [kp_t, kp_f, lsK_t, lsK_f, addE_f, addE_t, addE_k, addSE_f, addSE_r, addSE_t, addSE_k, okE_t, okE_f, Bool.false_and, Bool.true_and, Bool.and_false, Bool.and_true, Bool.not_true, Bool.not_false] at *
    go_enter Try.func37, Try.ntmps37
    go_wp2_with fail
    obtain ⟨W0, hW, hs0, K0, B0⟩ := start2 w 32 32 #[Value.int IntKind.i64 v, Value.int IntKind.i64 k, Value.int IntKind.i64 p, Value.int IntKind.i64 m, Value.int IntKind.i64 o, Value.slice A n c] #[Value.int IntKind.i64 0, Value.int IntKind.i64 0, Value.int IntKind.i64 0, Value.int IntKind.i64 0, Value.int IntKind.i64 0, Value.slice none 0 0]
    rw [hW]
    clear hW
    have KK := Lib.hid K0
    have BB := Lib.hid B0
    have sz : w.heap.size + 1 + 1 ≤ W0.heap.size := by omega
    have R := K0.rules
    simp only [Rules] at R
    clear K0 B0 hs0
    (with_reducible refine (HV.out _ BB.out).mono ?_)
    rintro e wv ⟨rfl, hbv⟩
    replace BB := Lib.hid (BB.out.trans (hbv.mono BB.out.size))
    replace KK := Lib.hid (KK.out.below hbv)
    replace sz := Nat.le_trans sz hbv.size
    replace R := KK.out.rules
    simp only [Rules] at R
    clear hbv
    go_wp2_with fail
    (refine gro.wp_region_grown (by kernel_rfl) (by kernel_rfl) ?_; (repeat (go_big_quiet_step ((go_at_call 65; exact call_grown (HT.out _ (BB.out.trans ((below_grown _ _).mono BB.out.size))))))); refine wpQuiet_nil ?_; intro _ hw'; obtain ⟨nx, hw''⟩ := hw'; subst hw'')
    replace BB := Lib.hid (BB.out.trans ((below_grown _ nx).mono BB.out.size))
    replace KK := Lib.hid (KK.out.below (below_grown _ nx))
    replace sz := Nat.le_trans sz (below_grown _ nx).size
    clear R
    generalize grown _ nx = W7 at *
    have R := KK.out.rules
    simp only [Rules] at R
    go_wp2
    refine bodyPost_ret (v := Value.tuple #[.agg #[Value.int IntKind.i64 0, Value.int IntKind.i64 0, Value.int IntKind.i64 0, Value.int IntKind.i64 0, Value.int IntKind.i64 0, Value.slice none 0 0], .int .i64 5]) (by simp [results, Try.results37, go_sem, R]) rfl ⟨none, 0, 0, rfl, Nat.le_refl _, ⟨Nat.zero_le _, fun ad h => by cases h⟩, .nil_, ?_⟩
    exact ((((((BB.out.setCell (by first | (simp; done) | (simp; omega)) _).setCell (by first | (simp; done) | (simp; omega)) _).setCell (by first | (simp; done) | (simp; omega)) _).setCell (by first | (simp; done) | (simp; omega)) _).setCell (by first | (simp; done) | (simp; omega)) _).setCell (by first | (simp; done) | (simp; omega)) _)
  have q4 : IntKind.i64.wrap (p - x) = p - x := IntWalk.i64_in _ (by omega)
  have q3 : decide (p - x < tn) = false := decide_eq_false (by omega)
  rw [decide_eq_false hf]
  simp only [kp_t, kp_f, lsK_t, lsK_f, addE_f, addE_t, addE_k, addSE_f, addSE_r, addSE_t, addSE_k, okE_t, okE_f, Bool.false_and, Bool.true_and, Bool.and_false, Bool.and_true, Bool.not_true, Bool.not_false] at *
  go_enter Try.func37, Try.ntmps37
  go_wp2_with fail
  obtain ⟨W0, hW, hs0, K0, B0⟩ := start2 w 32 32 #[Value.int IntKind.i64 v, Value.int IntKind.i64 k, Value.int IntKind.i64 p, Value.int IntKind.i64 m, Value.int IntKind.i64 o, Value.slice A n c] #[Value.int IntKind.i64 0, Value.int IntKind.i64 0, Value.int IntKind.i64 0, Value.int IntKind.i64 0, Value.int IntKind.i64 0, Value.slice none 0 0]
  rw [hW]
  clear hW
  have KK := Lib.hid K0
  have BB := Lib.hid B0
  have sz : w.heap.size + 1 + 1 ≤ W0.heap.size := by omega
  have R := K0.rules
  simp only [Rules] at R
  clear K0 B0 hs0
  (with_reducible refine (HV.out _ BB.out).mono ?_)
  rintro e wv ⟨rfl, hbv⟩
  replace BB := Lib.hid (BB.out.trans (hbv.mono BB.out.size))
  replace KK := Lib.hid (KK.out.below hbv)
  replace sz := Nat.le_trans sz hbv.size
  replace R := KK.out.rules
  simp only [Rules] at R
  clear hbv
  go_wp2_with fail
  (refine gro.wp_region_grown (by kernel_rfl) (by kernel_rfl) ?_; (repeat (go_big_quiet_step ((go_at_call 65; exact call_grown (HT.out _ (BB.out.trans ((below_grown _ _).mono BB.out.size))))))); refine wpQuiet_nil ?_; intro _ hw'; obtain ⟨nx, hw''⟩ := hw'; subst hw'')
  replace BB := Lib.hid (BB.out.trans ((below_grown _ nx).mono BB.out.size))
  replace KK := Lib.hid (KK.out.below (below_grown _ nx))
  replace sz := Nat.le_trans sz (below_grown _ nx).size
  clear R
  generalize grown _ nx = W7 at *
  have R := KK.out.rules
  simp only [Rules] at R
  go_wp2_with fail
  (refine (HI.out _ BB.out).mono ?_)
  rintro e w6 ⟨A6, l6, c6, rfl, r1, ⟨r2, fr⟩, hr6, hb6⟩
  have fr6 : ∀ ad, A6 = some ad → w.heap.size + 1 + 1 ≤ ad.block := fun ad h => Nat.le_trans sz (fr ad h)
  replace BB := Lib.hid (BB.out.trans (hb6.mono BB.out.size))
  replace KK := Lib.hid (KK.out.below hb6)
  replace R := KK.out.rules
  simp only [Rules] at R
  clear hb6 fr
  have KS := Lib.hid KK.out.swap
  have HR6 := Lib.hid (PRead.far hr6 ⟨w.heap.size, 5, none⟩ (fun h0 ad h => by have := fr6 ad h; simp; omega) (.slice A6 l6 c6))
  have KT := Lib.hid (Bx.one (d := #[Value.int IntKind.i64 v, Value.int IntKind.i64 k, Value.int IntKind.i64 p, Value.int IntKind.i64 m, Value.int IntKind.i64 o, Value.slice A6 l6 c6]) 5 (.slice A6 l6 c6) KS.out (by simp) (by simp))
  have BT := Lib.hid (BB.out.setCell (p := ⟨w.heap.size, 5, none⟩) (by simp) (.slice A6 l6 c6))
  have RT := KT.out.rules
  simp only [Rules] at RT
  replace BB := BT
  go_wp2
  refine bodyPost_ret (v := Value.tuple #[.agg #[Value.int IntKind.i64 v, Value.int IntKind.i64 k, Value.int IntKind.i64 p, Value.int IntKind.i64 m, Value.int IntKind.i64 o, Value.slice A6 l6 c6], .int .i64 0]) (by simp [results, Try.results37, go_sem, R, RT]) rfl ⟨A6, l6, c6, rfl, r1, ⟨r2, fun ad h => by have := fr6 ad h; omega⟩, ?_, ?_⟩
  · exact PRead.sz ((PRead.far (PRead.far (PRead.far (PRead.far (PRead.far (PRead.far (show PRead _ (w6.setCell ⟨w.heap.size, 5, none⟩ (.slice A6 l6 c6)).heap.size A6 l6 ys from HR6.out.more (by simp [World.setCell])) ⟨w.heap.size + 1, 0, none⟩ (fun h0 ad h => by have := fr6 ad h; simp; omega) _) ⟨w.heap.size + 1, 1, none⟩ (fun h0 ad h => by have := fr6 ad h; simp; omega) _) ⟨w.heap.size + 1, 2, none⟩ (fun h0 ad h => by have := fr6 ad h; simp; omega) _) ⟨w.heap.size + 1, 3, none⟩ (fun h0 ad h => by have := fr6 ad h; simp; omega) _) ⟨w.heap.size + 1, 4, none⟩ (fun h0 ad h => by have := fr6 ad h; simp; omega) _) ⟨w.heap.size + 1, 5, none⟩ (fun h0 ad h => by have := fr6 ad h; simp; omega) _)) (by simp [World.setCell])
  · exact ((((((BB.out.setCell (by first | (simp; done) | (simp; omega)) _).setCell (by first | (simp; done) | (simp; omega)) _).setCell (by first | (simp; done) | (simp; omega)) _).setCell (by first | (simp; done) | (simp; omega)) _).setCell (by first | (simp; done) | (simp; omega)) _).setCell (by first | (simp; done) | (simp; omega)) _)
set_option maxHeartbeats 4000000 in
set_option maxRecDepth 100000 in
theorem AddSR_any (v k p m o x : Int) (A : Option Addr) (n c : Nat) (xs : List (Int × Int)) (w : World) (h1 : PRead w w.heap.size A n xs) (hnc : n ≤ c) (hcm : c ≤ maxLen) (hsmall : n ≤ 2000) (hx : -9223372036854775808 ≤ x ∧ x ≤ 9223372036854775807) :
    Calls Try.prog 38 #[(Value.agg #[.int .i64 v, .int .i64 k, .int .i64 p, .int .i64 m, .int .i64 o, .slice A n c]), .int .i64 x] w (NewSst (kp (fitS xs v k p m o && (decide (0 ≤ x ∧ x ≤ m) && !decide (p < (totalN xs : Int) + x))) v) (kp (fitS xs v k p m o && (decide (0 ≤ x ∧ x ≤ m) && !decide (p < (totalN xs : Int) + x))) k) (kp (fitS xs v k p m o && (decide (0 ≤ x ∧ x ≤ m) && !decide (p < (totalN xs : Int) + x))) p) (kp (fitS xs v k p m o && (decide (0 ≤ x ∧ x ≤ m) && !decide (p < (totalN xs : Int) + x))) m) (kp (fitS xs v k p m o && (decide (0 ≤ x ∧ x ≤ m) && !decide (p < (totalN xs : Int) + x))) o) (lsK (fitS xs v k p m o && (decide (0 ≤ x ∧ x ≤ m) && !decide (p < (totalN xs : Int) + x))) (insM xs k o x)) (addSE (fitS xs v k p m o) (decide (0 ≤ x ∧ x ≤ m)) (decide (p < (totalN xs : Int) + x))) w) := by
  have HV := Lib.hid (fun W (hb : Below w.heap.size w W) => ValidateSR_any v k p m o A n c xs W ((h1.below hb).more hb.size) hnc hcm hsmall)
  have HT : Hid (∀ W, Below w.heap.size w W → Calls Try.prog 67 #[.slice A n c] W fun e w' => e = .returned (.int .i64 (totalN xs : Nat)) ∧ Below W.heap.size W w') := fun W hb => TotalRef_any A n c xs W ((h1.below hb).more hb.size) (by omega)
  have HI := Lib.hid (fun W (hb : Below w.heap.size w W) => InsertManyRef_g A n c xs k o x W ((h1.below hb).more hb.size) hnc hcm (by omega) w.heap.size (PRead.blk h1) hx)
  have hgm : fitS xs v k p m o = true → (1 ≤ p ∧ p ≤ 65536) ∧ 1 ≤ m ∧ m ≤ 1024 := fun h => ⟨(goodS_iff.1 (fitS_iff.1 h).1).1.2.2.1, (goodS_iff.1 (fitS_iff.1 h).1).2⟩
  have htl := totalN_le xs
  rw [PRead.len h1] at htl
  clear h1 hcm
  generalize fitS xs v k p m o = ft at *
  generalize insM xs k o x = ys at *
  have htn : 0 ≤ ((totalN xs : Nat) : Int) ∧ ((totalN xs : Nat) : Int) ≤ 2147483648000 := by omega
  clear htl
  generalize ((totalN xs : Nat) : Int) = tn at *
  cases ft
  case false =>
    clear hgm
    simp only [kp_t, kp_f, lsK_t, lsK_f, addE_f, addE_t, addE_k, addSE_f, addSE_r, addSE_t, addSE_k, okE_t, okE_f, Bool.false_and, Bool.true_and, Bool.and_false, Bool.and_true, Bool.not_true, Bool.not_false] at *
    go_enter Try.func38, Try.ntmps38
    go_wp2_with fail
    obtain ⟨W0, hW, hs0, K0, B0⟩ := start2 w 32 32 #[Value.int IntKind.i64 v, Value.int IntKind.i64 k, Value.int IntKind.i64 p, Value.int IntKind.i64 m, Value.int IntKind.i64 o, Value.slice A n c] #[Value.int IntKind.i64 0, Value.int IntKind.i64 0, Value.int IntKind.i64 0, Value.int IntKind.i64 0, Value.int IntKind.i64 0, Value.slice none 0 0]
    rw [hW]
    clear hW
    have KK := Lib.hid K0
    have BB := Lib.hid B0
    have sz : w.heap.size + 1 + 1 ≤ W0.heap.size := by omega
    have R := K0.rules
    simp only [Rules] at R
    clear K0 B0 hs0
    (with_reducible refine (HV.out _ BB.out).mono ?_)
    rintro e wv ⟨rfl, hbv⟩
    replace BB := Lib.hid (BB.out.trans (hbv.mono BB.out.size))
    replace KK := Lib.hid (KK.out.below hbv)
    replace sz := Nat.le_trans sz hbv.size
    replace R := KK.out.rules
    simp only [Rules] at R
    clear hbv
    go_wp2
    refine bodyPost_ret (v := Value.tuple #[.agg #[Value.int IntKind.i64 0, Value.int IntKind.i64 0, Value.int IntKind.i64 0, Value.int IntKind.i64 0, Value.int IntKind.i64 0, Value.slice none 0 0], .int .i64 2]) (by simp [results, Try.results38, go_sem, R]) rfl ⟨none, 0, 0, rfl, Nat.le_refl _, Nat.zero_le _, .nil_, ?_⟩
    exact ((((((BB.out.setCell (by first | (simp; done) | (simp; omega)) _).setCell (by first | (simp; done) | (simp; omega)) _).setCell (by first | (simp; done) | (simp; omega)) _).setCell (by first | (simp; done) | (simp; omega)) _).setCell (by first | (simp; done) | (simp; omega)) _).setCell (by first | (simp; done) | (simp; omega)) _)
  obtain ⟨⟨p1, p2⟩, m1, m2⟩ := hgm rfl
  clear hgm
  by_cases hr0 : x < 0
  case pos =>
    have q0 : decide (0 ≤ x ∧ x ≤ m) = false := decide_eq_false (by omega)
    have q1 : decide (x < 0) = true := decide_eq_true hr0
    rw [q0]
    clear q0
    simp only [kp_t, kp_f, lsK_t, lsK_f, addE_f, addE_t, addE_k, addSE_f, addSE_r, addSE_t, addSE_k, okE_t, okE_f, Bool.false_and, Bool.true_and, Bool.and_false, Bool.and_true, Bool.not_true, Bool.not_false] at *
    go_enter Try.func38, Try.ntmps38
    go_wp2_with fail
    obtain ⟨W0, hW, hs0, K0, B0⟩ := start2 w 32 32 #[Value.int IntKind.i64 v, Value.int IntKind.i64 k, Value.int IntKind.i64 p, Value.int IntKind.i64 m, Value.int IntKind.i64 o, Value.slice A n c] #[Value.int IntKind.i64 0, Value.int IntKind.i64 0, Value.int IntKind.i64 0, Value.int IntKind.i64 0, Value.int IntKind.i64 0, Value.slice none 0 0]
    rw [hW]
    clear hW
    have KK := Lib.hid K0
    have BB := Lib.hid B0
    have sz : w.heap.size + 1 + 1 ≤ W0.heap.size := by omega
    have R := K0.rules
    simp only [Rules] at R
    clear K0 B0 hs0
    (with_reducible refine (HV.out _ BB.out).mono ?_)
    rintro e wv ⟨rfl, hbv⟩
    replace BB := Lib.hid (BB.out.trans (hbv.mono BB.out.size))
    replace KK := Lib.hid (KK.out.below hbv)
    replace sz := Nat.le_trans sz hbv.size
    replace R := KK.out.rules
    simp only [Rules] at R
    clear hbv
    go_wp2
    refine bodyPost_ret (v := Value.tuple #[.agg #[Value.int IntKind.i64 0, Value.int IntKind.i64 0, Value.int IntKind.i64 0, Value.int IntKind.i64 0, Value.int IntKind.i64 0, Value.slice none 0 0], .int .i64 4]) (by simp [results, Try.results38, go_sem, R]) rfl ⟨none, 0, 0, rfl, Nat.le_refl _, Nat.zero_le _, .nil_, ?_⟩
    exact ((((((BB.out.setCell (by first | (simp; done) | (simp; omega)) _).setCell (by first | (simp; done) | (simp; omega)) _).setCell (by first | (simp; done) | (simp; omega)) _).setCell (by first | (simp; done) | (simp; omega)) _).setCell (by first | (simp; done) | (simp; omega)) _).setCell (by first | (simp; done) | (simp; omega)) _)
  by_cases hr1 : m < x
  case pos =>
    have q0 : decide (0 ≤ x ∧ x ≤ m) = false := decide_eq_false (by omega)
    have q1 : decide (x < 0) = false := decide_eq_false hr0
    have q2 : decide (m < x) = true := decide_eq_true hr1
    rw [q0]
    clear q0
    simp only [kp_t, kp_f, lsK_t, lsK_f, addE_f, addE_t, addE_k, addSE_f, addSE_r, addSE_t, addSE_k, okE_t, okE_f, Bool.false_and, Bool.true_and, Bool.and_false, Bool.and_true, Bool.not_true, Bool.not_false] at *
    go_enter Try.func38, Try.ntmps38
    go_wp2_with fail
    obtain ⟨W0, hW, hs0, K0, B0⟩ := start2 w 32 32 #[Value.int IntKind.i64 v, Value.int IntKind.i64 k, Value.int IntKind.i64 p, Value.int IntKind.i64 m, Value.int IntKind.i64 o, Value.slice A n c] #[Value.int IntKind.i64 0, Value.int IntKind.i64 0, Value.int IntKind.i64 0, Value.int IntKind.i64 0, Value.int IntKind.i64 0, Value.slice none 0 0]
    rw [hW]
    clear hW
    have KK := Lib.hid K0
    have BB := Lib.hid B0
    have sz : w.heap.size + 1 + 1 ≤ W0.heap.size := by omega
    have R := K0.rules
    simp only [Rules] at R
    clear K0 B0 hs0
    (with_reducible refine (HV.out _ BB.out).mono ?_)
    rintro e wv ⟨rfl, hbv⟩
    replace BB := Lib.hid (BB.out.trans (hbv.mono BB.out.size))
    replace KK := Lib.hid (KK.out.below hbv)
    replace sz := Nat.le_trans sz hbv.size
    replace R := KK.out.rules
    simp only [Rules] at R
    clear hbv
    go_wp2
    refine bodyPost_ret (v := Value.tuple #[.agg #[Value.int IntKind.i64 0, Value.int IntKind.i64 0, Value.int IntKind.i64 0, Value.int IntKind.i64 0, Value.int IntKind.i64 0, Value.slice none 0 0], .int .i64 4]) (by simp [results, Try.results38, go_sem, R]) rfl ⟨none, 0, 0, rfl, Nat.le_refl _, Nat.zero_le _, .nil_, ?_⟩
    exact ((((((BB.out.setCell (by first | (simp; done) | (simp; omega)) _).setCell (by first | (simp; done) | (simp; omega)) _).setCell (by first | (simp; done) | (simp; omega)) _).setCell (by first | (simp; done) | (simp; omega)) _).setCell (by first | (simp; done) | (simp; omega)) _).setCell (by first | (simp; done) | (simp; omega)) _)
  have q0 : decide (0 ≤ x ∧ x ≤ m) = true := decide_eq_true (by omega)
  have q1 : decide (x < 0) = false := decide_eq_false hr0
  have q2 : decide (m < x) = false := decide_eq_false hr1
  rw [q0]
  clear q0
  by_cases hf : p < tn + x
  case pos =>
    have q4 : IntKind.i64.wrap (tn + x) = tn + x := IntWalk.i64_in _ (by omega)
    have q3 : decide (p < tn + x) = true := decide_eq_true (by omega)
    rw [decide_eq_true hf]
    simp only [kp_t, kp_f, lsK_t, lsK_f, addE_f, addE_t, addE_k, addSE_f, addSE_r, addSE_t, addSE_k, okE_t, okE_f, Bool.false_and, Bool.true_and, Bool.and_false, Bool.and_true, Bool.not_true, Bool.not_false] at *
    go_enter Try.func38, Try.ntmps38
    go_wp2_with fail
    obtain ⟨W0, hW, hs0, K0, B0⟩ := start2 w 32 32 #[Value.int IntKind.i64 v, Value.int IntKind.i64 k, Value.int IntKind.i64 p, Value.int IntKind.i64 m, Value.int IntKind.i64 o, Value.slice A n c] #[Value.int IntKind.i64 0, Value.int IntKind.i64 0, Value.int IntKind.i64 0, Value.int IntKind.i64 0, Value.int IntKind.i64 0, Value.slice none 0 0]
    rw [hW]
    clear hW
    have KK := Lib.hid K0
    have BB := Lib.hid B0
    have sz : w.heap.size + 1 + 1 ≤ W0.heap.size := by omega
    have R := K0.rules
    simp only [Rules] at R
    clear K0 B0 hs0
    (with_reducible refine (HV.out _ BB.out).mono ?_)
    rintro e wv ⟨rfl, hbv⟩
    replace BB := Lib.hid (BB.out.trans (hbv.mono BB.out.size))
    replace KK := Lib.hid (KK.out.below hbv)
    replace sz := Nat.le_trans sz hbv.size
    replace R := KK.out.rules
    simp only [Rules] at R
    clear hbv
    go_wp2_with fail
    (refine gro.wp_region_grown (by kernel_rfl) (by kernel_rfl) ?_; (repeat (go_big_quiet_step ((go_at_call 67; exact call_grown (HT.out _ (BB.out.trans ((below_grown _ _).mono BB.out.size))))))); refine wpQuiet_nil ?_; intro _ hw'; obtain ⟨nx, hw''⟩ := hw'; subst hw'')
    replace BB := Lib.hid (BB.out.trans ((below_grown _ nx).mono BB.out.size))
    replace KK := Lib.hid (KK.out.below (below_grown _ nx))
    replace sz := Nat.le_trans sz (below_grown _ nx).size
    clear R
    generalize grown _ nx = W7 at *
    have R := KK.out.rules
    simp only [Rules] at R
    go_wp2
    refine bodyPost_ret (v := Value.tuple #[.agg #[Value.int IntKind.i64 0, Value.int IntKind.i64 0, Value.int IntKind.i64 0, Value.int IntKind.i64 0, Value.int IntKind.i64 0, Value.slice none 0 0], .int .i64 5]) (by simp [results, Try.results38, go_sem, R]) rfl ⟨none, 0, 0, rfl, Nat.le_refl _, Nat.zero_le _, .nil_, ?_⟩
    exact ((((((BB.out.setCell (by first | (simp; done) | (simp; omega)) _).setCell (by first | (simp; done) | (simp; omega)) _).setCell (by first | (simp; done) | (simp; omega)) _).setCell (by first | (simp; done) | (simp; omega)) _).setCell (by first | (simp; done) | (simp; omega)) _).setCell (by first | (simp; done) | (simp; omega)) _)
  have q4 : IntKind.i64.wrap (tn + x) = tn + x := IntWalk.i64_in _ (by omega)
  have q3 : decide (p < tn + x) = false := decide_eq_false (by omega)
  rw [decide_eq_false hf]
  simp only [kp_t, kp_f, lsK_t, lsK_f, addE_f, addE_t, addE_k, addSE_f, addSE_r, addSE_t, addSE_k, okE_t, okE_f, Bool.false_and, Bool.true_and, Bool.and_false, Bool.and_true, Bool.not_true, Bool.not_false] at *
  go_enter Try.func38, Try.ntmps38
  go_wp2_with fail
  obtain ⟨W0, hW, hs0, K0, B0⟩ := start2 w 32 32 #[Value.int IntKind.i64 v, Value.int IntKind.i64 k, Value.int IntKind.i64 p, Value.int IntKind.i64 m, Value.int IntKind.i64 o, Value.slice A n c] #[Value.int IntKind.i64 0, Value.int IntKind.i64 0, Value.int IntKind.i64 0, Value.int IntKind.i64 0, Value.int IntKind.i64 0, Value.slice none 0 0]
  rw [hW]
  clear hW
  have KK := Lib.hid K0
  have BB := Lib.hid B0
  have sz : w.heap.size + 1 + 1 ≤ W0.heap.size := by omega
  have R := K0.rules
  simp only [Rules] at R
  clear K0 B0 hs0
  (with_reducible refine (HV.out _ BB.out).mono ?_)
  rintro e wv ⟨rfl, hbv⟩
  replace BB := Lib.hid (BB.out.trans (hbv.mono BB.out.size))
  replace KK := Lib.hid (KK.out.below hbv)
  replace sz := Nat.le_trans sz hbv.size
  replace R := KK.out.rules
  simp only [Rules] at R
  clear hbv
  go_wp2_with fail
  (refine gro.wp_region_grown (by kernel_rfl) (by kernel_rfl) ?_; (repeat (go_big_quiet_step ((go_at_call 67; exact call_grown (HT.out _ (BB.out.trans ((below_grown _ _).mono BB.out.size))))))); refine wpQuiet_nil ?_; intro _ hw'; obtain ⟨nx, hw''⟩ := hw'; subst hw'')
  replace BB := Lib.hid (BB.out.trans ((below_grown _ nx).mono BB.out.size))
  replace KK := Lib.hid (KK.out.below (below_grown _ nx))
  replace sz := Nat.le_trans sz (below_grown _ nx).size
  clear R
  generalize grown _ nx = W7 at *
  have R := KK.out.rules
  simp only [Rules] at R
  go_wp2_with fail
  (refine (HI.out _ BB.out).mono ?_)
  rintro e w6 ⟨A6, l6, c6, rfl, r1, ⟨r2, fr⟩, hr6, hb6⟩
  have fr6 : 0 < l6 → ∀ ad, A6 = some ad → w.heap.size + 1 + 1 ≤ ad.block ∨ ad.block < w.heap.size := fun h0 ad h => by have := fr h0 ad h; omega
  replace BB := Lib.hid (BB.out.trans (hb6.mono BB.out.size))
  replace KK := Lib.hid (KK.out.below hb6)
  replace R := KK.out.rules
  simp only [Rules] at R
  clear hb6 fr
  have KS := Lib.hid KK.out.swap
  have HR6 := Lib.hid (PRead.far hr6 ⟨w.heap.size, 5, none⟩ (fun h0 ad h => by have := fr6 h0 ad h; simp; omega) (.slice A6 l6 c6))
  have KT := Lib.hid (Bx.one (d := #[Value.int IntKind.i64 v, Value.int IntKind.i64 k, Value.int IntKind.i64 p, Value.int IntKind.i64 m, Value.int IntKind.i64 o, Value.slice A6 l6 c6]) 5 (.slice A6 l6 c6) KS.out (by simp) (by simp))
  have BT := Lib.hid (BB.out.setCell (p := ⟨w.heap.size, 5, none⟩) (by simp) (.slice A6 l6 c6))
  have RT := KT.out.rules
  simp only [Rules] at RT
  replace BB := BT
  go_wp2
  refine bodyPost_ret (v := Value.tuple #[.agg #[Value.int IntKind.i64 v, Value.int IntKind.i64 k, Value.int IntKind.i64 p, Value.int IntKind.i64 m, Value.int IntKind.i64 o, Value.slice A6 l6 c6], .int .i64 0]) (by simp [results, Try.results38, go_sem, R, RT]) rfl ⟨A6, l6, c6, rfl, r1, r2, ?_, ?_⟩
  · exact PRead.sz ((PRead.far (PRead.far (PRead.far (PRead.far (PRead.far (PRead.far (show PRead _ (w6.setCell ⟨w.heap.size, 5, none⟩ (.slice A6 l6 c6)).heap.size A6 l6 ys from HR6.out.more (by simp [World.setCell])) ⟨w.heap.size + 1, 0, none⟩ (fun h0 ad h => by have := fr6 h0 ad h; simp; omega) _) ⟨w.heap.size + 1, 1, none⟩ (fun h0 ad h => by have := fr6 h0 ad h; simp; omega) _) ⟨w.heap.size + 1, 2, none⟩ (fun h0 ad h => by have := fr6 h0 ad h; simp; omega) _) ⟨w.heap.size + 1, 3, none⟩ (fun h0 ad h => by have := fr6 h0 ad h; simp; omega) _) ⟨w.heap.size + 1, 4, none⟩ (fun h0 ad h => by have := fr6 h0 ad h; simp; omega) _) ⟨w.heap.size + 1, 5, none⟩ (fun h0 ad h => by have := fr6 h0 ad h; simp; omega) _)) (by simp [World.setCell])
  · exact ((((((BB.out.setCell (by first | (simp; done) | (simp; omega)) _).setCell (by first | (simp; done) | (simp; omega)) _).setCell (by first | (simp; done) | (simp; omega)) _).setCell (by first | (simp; done) | (simp; omega)) _).setCell (by first | (simp; done) | (simp; omega)) _).setCell (by first | (simp; done) | (simp; omega)) _)
end Go.Proofs.Ytofgjcfiinmimaa.cst
