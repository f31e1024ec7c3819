/- Contracts of Add of histograms of counts. -/
import Derived.Test.YtofgjcfiinmimaaCst3
import Derived.Test.YtofgjcfiinmimaaMgInsertF
import Derived.Test.YtofgjcfiinmimaaMgRInsF
namespace Go.Proofs.Ytofgjcfiinmimaa.cst
open Go.RowKit Go.Proofs.Ytofgjcfiinmimaa.mem Go.Proofs.Ytofgjcfiinmimaa.lst Go.Proofs.Ytofgjcfiinmimaa.gro
set_option linter.unusedVariables false
set_option linter.unusedSimpArgs false
set_option maxHeartbeats 4000000 in
set_option maxRecDepth 100000 in
theorem AddC_any (v k p o : Int) (A : Option Addr) (n c : Nat) (xs : List (Int × Int)) (w : World) (h1 : PRead w w.heap.size A n xs) (hnc : n ≤ c) (hcm : c ≤ maxLen) (hsmall : n ≤ 2000) :
    Calls Try.prog 25 #[(Value.agg #[.int .i64 v, .int .i64 k, .int .i64 p, .int .i64 o, .slice A n c])] w (NewCsf (kp (fitB xs v k p o && !decide ((totalN xs : Int) = p)) v) (kp (fitB xs v k p o && !decide ((totalN xs : Int) = p)) k) (kp (fitB xs v k p o && !decide ((totalN xs : Int) = p)) p) (kp (fitB xs v k p o && !decide ((totalN xs : Int) = p)) o) (lsK (fitB xs v k p o && !decide ((totalN xs : Int) = p)) (insI xs k o)) (addE (fitB xs v k p o) (decide ((totalN xs : Int) = p))) w) := by
  have HV := Lib.hid (fun W (hb : Below w.heap.size w W) => ValidateC_any v k p o A n c xs W ((h1.below hb).more hb.size) hnc hcm hsmall)
  have HT : Hid (∀ W, Below w.heap.size w W → Calls Try.prog 65 #[.slice A n c] W fun e w' => e = .returned (.int .i64 (totalN xs : Nat)) ∧ Below W.heap.size W w') := fun W hb => Total_any A n c xs W ((h1.below hb).more hb.size) (by omega)
  have HI := Lib.hid (fun W (hb : Below w.heap.size w W) => Insert_f A n c xs k o W ((h1.below hb).more hb.size) (by omega))
  clear h1 hcm
  generalize fitB xs v k p o = ft at *
  generalize insI xs k o = ys at *
  generalize ((totalN xs : Nat) : Int) = tn at *
  cases ft
  case false =>
    simp only [kp_t, kp_f, lsK_t, lsK_f, addE_f, addE_t, addE_k, addSE_f, addSE_r, addSE_t, addSE_k, okE_t, okE_f, Bool.false_and, Bool.true_and, Bool.and_false, Bool.and_true, Bool.not_true, Bool.not_false] at *
    go_enter Try.func25, Try.ntmps25
    go_wp2_with fail
    obtain ⟨W0, hW, hs0, K0, B0⟩ := start2 w 24 24 #[Value.int IntKind.i64 v, Value.int IntKind.i64 k, Value.int IntKind.i64 p, Value.int IntKind.i64 o, Value.slice A n c] #[Value.int IntKind.i64 0, Value.int IntKind.i64 0, Value.int IntKind.i64 0, Value.int IntKind.i64 0, Value.slice none 0 0]
    rw [hW]
    clear hW
    have KK := Lib.hid K0
    have BB := Lib.hid B0
    have sz : w.heap.size + 1 + 1 ≤ W0.heap.size := by omega
    have R := K0.rules
    simp only [Rules] at R
    clear K0 B0 hs0
    (with_reducible refine (HV.out _ BB.out).mono ?_)
    rintro e wv ⟨rfl, hbv⟩
    replace BB := Lib.hid (BB.out.trans (hbv.mono BB.out.size))
    replace KK := Lib.hid (KK.out.below hbv)
    replace sz := Nat.le_trans sz hbv.size
    replace R := KK.out.rules
    simp only [Rules] at R
    clear hbv
    go_wp2
    refine bodyPost_ret (v := Value.tuple #[.agg #[Value.int IntKind.i64 0, Value.int IntKind.i64 0, Value.int IntKind.i64 0, Value.int IntKind.i64 0, Value.slice none 0 0], .int .i64 2]) (by simp [results, Try.results25, go_sem, R]) rfl ⟨none, 0, 0, rfl, Nat.le_refl _, ⟨Nat.zero_le _, fun ad h => by cases h⟩, .nil_, ?_⟩
    exact (((((BB.out.setCell (by first | (simp; done) | (simp; omega)) _).setCell (by first | (simp; done) | (simp; omega)) _).setCell (by first | (simp; done) | (simp; omega)) _).setCell (by first | (simp; done) | (simp; omega)) _).setCell (by first | (simp; done) | (simp; omega)) _)
  by_cases hf : tn = p
  case pos =>
    have q1 : (tn == p) = true := by simpa using hf
    have q2 : decide (tn = p) = true := decide_eq_true hf
    rw [q2]
    simp only [kp_t, kp_f, lsK_t, lsK_f, addE_f, addE_t, addE_k, addSE_f, addSE_r, addSE_t, addSE_k, okE_t, okE_f, Bool.false_and, Bool.true_and, Bool.and_false, Bool.and_true, Bool.not_true, Bool.not_false] at *
    go_enter Try.func25, Try.ntmps25
    go_wp2_with fail
    obtain ⟨W0, hW, hs0, K0, B0⟩ := start2 w 24 24 #[Value.int IntKind.i64 v, Value.int IntKind.i64 k, Value.int IntKind.i64 p, Value.int IntKind.i64 o, Value.slice A n c] #[Value.int IntKind.i64 0, Value.int IntKind.i64 0, Value.int IntKind.i64 0, Value.int IntKind.i64 0, Value.slice none 0 0]
    rw [hW]
    clear hW
    have KK := Lib.hid K0
    have BB := Lib.hid B0
    have sz : w.heap.size + 1 + 1 ≤ W0.heap.size := by omega
    have R := K0.rules
    simp only [Rules] at R
    clear K0 B0 hs0
    (with_reducible refine (HV.out _ BB.out).mono ?_)
    rintro e wv ⟨rfl, hbv⟩
    replace BB := Lib.hid (BB.out.trans (hbv.mono BB.out.size))
    replace KK := Lib.hid (KK.out.below hbv)
    replace sz := Nat.le_trans sz hbv.size
    replace R := KK.out.rules
    simp only [Rules] at R
    clear hbv
    go_wp2_with fail
    (refine gro.wp_region_grown (by kernel_rfl) (by kernel_rfl) ?_; (repeat (go_big_quiet_step ((go_at_call 65; exact call_grown (HT.out _ (BB.out.trans ((below_grown _ _).mono BB.out.size))))))); refine wpQuiet_nil ?_; intro _ hw'; obtain ⟨nx, hw''⟩ := hw'; subst hw'')
    replace BB := Lib.hid (BB.out.trans ((below_grown _ nx).mono BB.out.size))
    replace KK := Lib.hid (KK.out.below (below_grown _ nx))
    replace sz := Nat.le_trans sz (below_grown _ nx).size
    clear R
    generalize grown _ nx = W7 at *
    have R := KK.out.rules
    simp only [Rules] at R
    go_wp2
    refine bodyPost_ret (v := Value.tuple #[.agg #[Value.int IntKind.i64 0, Value.int IntKind.i64 0, Value.int IntKind.i64 0, Value.int IntKind.i64 0, Value.slice none 0 0], .int .i64 5]) (by simp [results, Try.results25, go_sem, R]) rfl ⟨none, 0, 0, rfl, Nat.le_refl _, ⟨Nat.zero_le _, fun ad h => by cases h⟩, .nil_, ?_⟩
    exact (((((BB.out.setCell (by first | (simp; done) | (simp; omega)) _).setCell (by first | (simp; done) | (simp; omega)) _).setCell (by first | (simp; done) | (simp; omega)) _).setCell (by first | (simp; done) | (simp; omega)) _).setCell (by first | (simp; done) | (simp; omega)) _)
  have q1 : (tn == p) = false := by simpa using hf
  have q2 : decide (tn = p) = false := decide_eq_false hf
  rw [q2]
  simp only [kp_t, kp_f, lsK_t, lsK_f, addE_f, addE_t, addE_k, addSE_f, addSE_r, addSE_t, addSE_k, okE_t, okE_f, Bool.false_and, Bool.true_and, Bool.and_false, Bool.and_true, Bool.not_true, Bool.not_false] at *
  go_enter Try.func25, Try.ntmps25
  go_wp2_with fail
  obtain ⟨W0, hW, hs0, K0, B0⟩ := start2 w 24 24 #[Value.int IntKind.i64 v, Value.int IntKind.i64 k, Value.int IntKind.i64 p, Value.int IntKind.i64 o, Value.slice A n c] #[Value.int IntKind.i64 0, Value.int IntKind.i64 0, Value.int IntKind.i64 0, Value.int IntKind.i64 0, Value.slice none 0 0]
  rw [hW]
  clear hW
  have KK := Lib.hid K0
  have BB := Lib.hid B0
  have sz : w.heap.size + 1 + 1 ≤ W0.heap.size := by omega
  have R := K0.rules
  simp only [Rules] at R
  clear K0 B0 hs0
  (with_reducible refine (HV.out _ BB.out).mono ?_)
  rintro e wv ⟨rfl, hbv⟩
  replace BB := Lib.hid (BB.out.trans (hbv.mono BB.out.size))
  replace KK := Lib.hid (KK.out.below hbv)
  replace sz := Nat.le_trans sz hbv.size
  replace R := KK.out.rules
  simp only [Rules] at R
  clear hbv
  go_wp2_with fail
  (refine gro.wp_region_grown (by kernel_rfl) (by kernel_rfl) ?_; (repeat (go_big_quiet_step ((go_at_call 65; exact call_grown (HT.out _ (BB.out.trans ((below_grown _ _).mono BB.out.size))))))); refine wpQuiet_nil ?_; intro _ hw'; obtain ⟨nx, hw''⟩ := hw'; subst hw'')
  replace BB := Lib.hid (BB.out.trans ((below_grown _ nx).mono BB.out.size))
  replace KK := Lib.hid (KK.out.below (below_grown _ nx))
  replace sz := Nat.le_trans sz (below_grown _ nx).size
  clear R
  generalize grown _ nx = W7 at *
  have R := KK.out.rules
  simp only [Rules] at R
  go_wp2_with fail
  (refine (HI.out _ BB.out).mono ?_)
  rintro e w6 ⟨A6, l6, c6, rfl, r1, ⟨r2, fr⟩, hr6, hb6⟩
  have fr6 : ∀ ad, A6 = some ad → w.heap.size + 1 + 1 ≤ ad.block := fun ad h => Nat.le_trans sz (fr ad h)
  replace BB := Lib.hid (BB.out.trans (hb6.mono BB.out.size))
  replace KK := Lib.hid (KK.out.below hb6)
  replace R := KK.out.rules
  simp only [Rules] at R
  clear hb6 fr
  have KS := Lib.hid KK.out.swap
  have HR6 := Lib.hid (PRead.far hr6 ⟨w.heap.size, 4, none⟩ (fun h0 ad h => by have := fr6 ad h; simp; omega) (.slice A6 l6 c6))
  have KT := Lib.hid (Bx.one (d := #[Value.int IntKind.i64 v, Value.int IntKind.i64 k, Value.int IntKind.i64 p, Value.int IntKind.i64 o, Value.slice A6 l6 c6]) 4 (.slice A6 l6 c6) KS.out (by simp) (by simp))
  have BT := Lib.hid (BB.out.setCell (p := ⟨w.heap.size, 4, none⟩) (by simp) (.slice A6 l6 c6))
  have RT := KT.out.rules
  simp only [Rules] at RT
  replace BB := BT
  go_wp2
  refine bodyPost_ret (v := Value.tuple #[.agg #[Value.int IntKind.i64 v, Value.int IntKind.i64 k, Value.int IntKind.i64 p, Value.int IntKind.i64 o, Value.slice A6 l6 c6], .int .i64 0]) (by simp [results, Try.results25, go_sem, R, RT]) rfl ⟨A6, l6, c6, rfl, r1, ⟨r2, fun ad h => by have := fr6 ad h; omega⟩, ?_, ?_⟩
  · exact PRead.sz ((PRead.far (PRead.far (PRead.far (PRead.far (PRead.far (show PRead _ (w6.setCell ⟨w.heap.size, 4, none⟩ (.slice A6 l6 c6)).heap.size A6 l6 ys from HR6.out.more (by simp [World.setCell])) ⟨w.heap.size + 1, 0, none⟩ (fun h0 ad h => by have := fr6 ad h; simp; omega) _) ⟨w.heap.size + 1, 1, none⟩ (fun h0 ad h => by have := fr6 ad h; simp; omega) _) ⟨w.heap.size + 1, 2, none⟩ (fun h0 ad h => by have := fr6 ad h; simp; omega) _) ⟨w.heap.size + 1, 3, none⟩ (fun h0 ad h => by have := fr6 ad h; simp; omega) _) ⟨w.heap.size + 1, 4, none⟩ (fun h0 ad h => by have := fr6 ad h; simp; omega) _)) (by simp [World.setCell])
  · exact (((((BB.out.setCell (by first | (simp; done) | (simp; omega)) _).setCell (by first | (simp; done) | (simp; omega)) _).setCell (by first | (simp; done) | (simp; omega)) _).setCell (by first | (simp; done) | (simp; omega)) _).setCell (by first | (simp; done) | (simp; omega)) _)
set_option maxHeartbeats 4000000 in
set_option maxRecDepth 100000 in
theorem AddCR_any (v k p o : Int) (A : Option Addr) (n c : Nat) (xs : List (Int × Int)) (w : World) (h1 : PRead w w.heap.size A n xs) (hnc : n ≤ c) (hcm : c ≤ maxLen) (hsmall : n ≤ 2000) :
    Calls Try.prog 26 #[(Value.agg #[.int .i64 v, .int .i64 k, .int .i64 p, .int .i64 o, .slice A n c])] w (NewCsf (kp (fitB xs v k p o && !decide ((totalN xs : Int) = p)) v) (kp (fitB xs v k p o && !decide ((totalN xs : Int) = p)) k) (kp (fitB xs v k p o && !decide ((totalN xs : Int) = p)) p) (kp (fitB xs v k p o && !decide ((totalN xs : Int) = p)) o) (lsK (fitB xs v k p o && !decide ((totalN xs : Int) = p)) (insI xs k o)) (addE (fitB xs v k p o) (decide ((totalN xs : Int) = p))) w) := by
  have HV := Lib.hid (fun W (hb : Below w.heap.size w W) => ValidateCR_any v k p o A n c xs W ((h1.below hb).more hb.size) hnc hcm hsmall)
  have HT : Hid (∀ W, Below w.heap.size w W → Calls Try.prog 67 #[.slice A n c] W fun e w' => e = .returned (.int .i64 (totalN xs : Nat)) ∧ Below W.heap.size W w') := fun W hb => TotalRef_any A n c xs W ((h1.below hb).more hb.size) (by omega)
  have HI := Lib.hid (fun W (hb : Below w.heap.size w W) => InsertRef_f A n c xs k o W ((h1.below hb).more hb.size) (by omega))
  clear h1 hcm
  generalize fitB xs v k p o = ft at *
  generalize insI xs k o = ys at *
  generalize ((totalN xs : Nat) : Int) = tn at *
  cases ft
  case false =>
    simp only [kp_t, kp_f, lsK_t, lsK_f, addE_f, addE_t, addE_k, addSE_f, addSE_r, addSE_t, addSE_k, okE_t, okE_f, Bool.false_and, Bool.true_and, Bool.and_false, Bool.and_true, Bool.not_true, Bool.not_false] at *
    go_enter Try.func26, Try.ntmps26
    go_wp2_with fail
    obtain ⟨W0, hW, hs0, K0, B0⟩ := start2 w 24 24 #[Value.int IntKind.i64 v, Value.int IntKind.i64 k, Value.int IntKind.i64 p, Value.int IntKind.i64 o, Value.slice A n c] #[Value.int IntKind.i64 0, Value.int IntKind.i64 0, Value.int IntKind.i64 0, Value.int IntKind.i64 0, Value.slice none 0 0]
    rw [hW]
    clear hW
    have KK := Lib.hid K0
    have BB := Lib.hid B0
    have sz : w.heap.size + 1 + 1 ≤ W0.heap.size := by omega
    have R := K0.rules
    simp only [Rules] at R
    clear K0 B0 hs0
    (with_reducible refine (HV.out _ BB.out).mono ?_)
    rintro e wv ⟨rfl, hbv⟩
    replace BB := Lib.hid (BB.out.trans (hbv.mono BB.out.size))
    replace KK := Lib.hid (KK.out.below hbv)
    replace sz := Nat.le_trans sz hbv.size
    replace R := KK.out.rules
    simp only [Rules] at R
    clear hbv
    go_wp2
    refine bodyPost_ret (v := Value.tuple #[.agg #[Value.int IntKind.i64 0, Value.int IntKind.i64 0, Value.int IntKind.i64 0, Value.int IntKind.i64 0, Value.slice none 0 0], .int .i64 2]) (by simp [results, Try.results26, go_sem, R]) rfl ⟨none, 0, 0, rfl, Nat.le_refl _, ⟨Nat.zero_le _, fun ad h => by cases h⟩, .nil_, ?_⟩
    exact (((((BB.out.setCell (by first | (simp; done) | (simp; omega)) _).setCell (by first | (simp; done) | (simp; omega)) _).setCell (by first | (simp; done) | (simp; omega)) _).setCell (by first | (simp; done) | (simp; omega)) _).setCell (by first | (simp; done) | (simp; omega)) _)
  by_cases hf : tn = p
  case pos =>
    have q1 : (tn == p) = true := by simpa using hf
    have q2 : decide (tn = p) = true := decide_eq_true hf
    rw [q2]
    simp only [kp_t, kp_f, lsK_t, lsK_f, addE_f, addE_t, addE_k, addSE_f, addSE_r, addSE_t, addSE_k, okE_t, okE_f, Bool.false_and, Bool.true_and, Bool.and_false, Bool.and_true, Bool.not_true, Bool.not_false] at *
    go_enter Try.func26, Try.ntmps26
    go_wp2_with fail
    obtain ⟨W0, hW, hs0, K0, B0⟩ := start2 w 24 24 #[Value.int IntKind.i64 v, Value.int IntKind.i64 k, Value.int IntKind.i64 p, Value.int IntKind.i64 o, Value.slice A n c] #[Value.int IntKind.i64 0, Value.int IntKind.i64 0, Value.int IntKind.i64 0, Value.int IntKind.i64 0, Value.slice none 0 0]
    rw [hW]
    clear hW
    have KK := Lib.hid K0
    have BB := Lib.hid B0
    have sz : w.heap.size + 1 + 1 ≤ W0.heap.size := by omega
    have R := K0.rules
    simp only [Rules] at R
    clear K0 B0 hs0
    (with_reducible refine (HV.out _ BB.out).mono ?_)
    rintro e wv ⟨rfl, hbv⟩
    replace BB := Lib.hid (BB.out.trans (hbv.mono BB.out.size))
    replace KK := Lib.hid (KK.out.below hbv)
    replace sz := Nat.le_trans sz hbv.size
    replace R := KK.out.rules
    simp only [Rules] at R
    clear hbv
    go_wp2_with fail
    (refine gro.wp_region_grown (by kernel_rfl) (by kernel_rfl) ?_; (repeat (go_big_quiet_step ((go_at_call 67; exact call_grown (HT.out _ (BB.out.trans ((below_grown _ _).mono BB.out.size))))))); refine wpQuiet_nil ?_; intro _ hw'; obtain ⟨nx, hw''⟩ := hw'; subst hw'')
    replace BB := Lib.hid (BB.out.trans ((below_grown _ nx).mono BB.out.size))
    replace KK := Lib.hid (KK.out.below (below_grown _ nx))
    replace sz := Nat.le_trans sz (below_grown _ nx).size
    clear R
    generalize grown _ nx = W7 at *
    have R := KK.out.rules
    simp only [Rules] at R
    go_wp2
    refine bodyPost_ret (v := Value.tuple #[.agg #[Value.int IntKind.i64 0, Value.int IntKind.i64 0, Value.int IntKind.i64 0, Value.int IntKind.i64 0, Value.slice none 0 0], .int .i64 5]) (by simp [results, Try.results26, go_sem, R]) rfl ⟨none, 0, 0, rfl, Nat.le_refl _, ⟨Nat.zero_le _, fun ad h => by cases h⟩, .nil_, ?_⟩
    exact (((((BB.out.setCell (by first | (simp; done) | (simp; omega)) _).setCell (by first | (simp; done) | (simp; omega)) _).setCell (by first | (simp; done) | (simp; omega)) _).setCell (by first | (simp; done) | (simp; omega)) _).setCell (by first | (simp; done) | (simp; omega)) _)
  have q1 : (tn == p) = false := by simpa using hf
  have q2 : decide (tn = p) = false := decide_eq_false hf
  rw [q2]
  simp only [kp_t, kp_f, lsK_t, lsK_f, addE_f, addE_t, addE_k, addSE_f, addSE_r, addSE_t, addSE_k, okE_t, okE_f, Bool.false_and, Bool.true_and, Bool.and_false, Bool.and_true, Bool.not_true, Bool.not_false] at *
  go_enter Try.func26, Try.ntmps26
  go_wp2_with fail
  obtain ⟨W0, hW, hs0, K0, B0⟩ := start2 w 24 24 #[Value.int IntKind.i64 v, Value.int IntKind.i64 k, Value.int IntKind.i64 p, Value.int IntKind.i64 o, Value.slice A n c] #[Value.int IntKind.i64 0, Value.int IntKind.i64 0, Value.int IntKind.i64 0, Value.int IntKind.i64 0, Value.slice none 0 0]
  rw [hW]
  clear hW
  have KK := Lib.hid K0
  have BB := Lib.hid B0
  have sz : w.heap.size + 1 + 1 ≤ W0.heap.size := by omega
  have R := K0.rules
  simp only [Rules] at R
  clear K0 B0 hs0
  (with_reducible refine (HV.out _ BB.out).mono ?_)
  rintro e wv ⟨rfl, hbv⟩
  replace BB := Lib.hid (BB.out.trans (hbv.mono BB.out.size))
  replace KK := Lib.hid (KK.out.below hbv)
  replace sz := Nat.le_trans sz hbv.size
  replace R := KK.out.rules
  simp only [Rules] at R
  clear hbv
  go_wp2_with fail
  (refine gro.wp_region_grown (by kernel_rfl) (by kernel_rfl) ?_; (repeat (go_big_quiet_step ((go_at_call 67; exact call_grown (HT.out _ (BB.out.trans ((below_grown _ _).mono BB.out.size))))))); refine wpQuiet_nil ?_; intro _ hw'; obtain ⟨nx, hw''⟩ := hw'; subst hw'')
  replace BB := Lib.hid (BB.out.trans ((below_grown _ nx).mono BB.out.size))
  replace KK := Lib.hid (KK.out.below (below_grown _ nx))
  replace sz := Nat.le_trans sz (below_grown _ nx).size
  clear R
  generalize grown _ nx = W7 at *
  have R := KK.out.rules
  simp only [Rules] at R
  go_wp2_with fail
  (refine (HI.out _ BB.out).mono ?_)
  rintro e w6 ⟨A6, l6, c6, rfl, r1, ⟨r2, fr⟩, hr6, hb6⟩
  have fr6 : ∀ ad, A6 = some ad → w.heap.size + 1 + 1 ≤ ad.block := fun ad h => Nat.le_trans sz (fr ad h)
  replace BB := Lib.hid (BB.out.trans (hb6.mono BB.out.size))
  replace KK := Lib.hid (KK.out.below hb6)
  replace R := KK.out.rules
  simp only [Rules] at R
  clear hb6 fr
  have KS := Lib.hid KK.out.swap
  have HR6 := Lib.hid (PRead.far hr6 ⟨w.heap.size, 4, none⟩ (fun h0 ad h => by have := fr6 ad h; simp; omega) (.slice A6 l6 c6))
  have KT := Lib.hid (Bx.one (d := #[Value.int IntKind.i64 v, Value.int IntKind.i64 k, Value.int IntKind.i64 p, Value.int IntKind.i64 o, Value.slice A6 l6 c6]) 4 (.slice A6 l6 c6) KS.out (by simp) (by simp))
  have BT := Lib.hid (BB.out.setCell (p := ⟨w.heap.size, 4, none⟩) (by simp) (.slice A6 l6 c6))
  have RT := KT.out.rules
  simp only [Rules] at RT
  replace BB := BT
  go_wp2
  refine bodyPost_ret (v := Value.tuple #[.agg #[Value.int IntKind.i64 v, Value.int IntKind.i64 k, Value.int IntKind.i64 p, Value.int IntKind.i64 o, Value.slice A6 l6 c6], .int .i64 0]) (by simp [results, Try.results26, go_sem, R, RT]) rfl ⟨A6, l6, c6, rfl, r1, ⟨r2, fun ad h => by have := fr6 ad h; omega⟩, ?_, ?_⟩
  · exact PRead.sz ((PRead.far (PRead.far (PRead.far (PRead.far (PRead.far (show PRead _ (w6.setCell ⟨w.heap.size, 4, none⟩ (.slice A6 l6 c6)).heap.size A6 l6 ys from HR6.out.more (by simp [World.setCell])) ⟨w.heap.size + 1, 0, none⟩ (fun h0 ad h => by have := fr6 ad h; simp; omega) _) ⟨w.heap.size + 1, 1, none⟩ (fun h0 ad h => by have := fr6 ad h; simp; omega) _) ⟨w.heap.size + 1, 2, none⟩ (fun h0 ad h => by have := fr6 ad h; simp; omega) _) ⟨w.heap.size + 1, 3, none⟩ (fun h0 ad h => by have := fr6 ad h; simp; omega) _) ⟨w.heap.size + 1, 4, none⟩ (fun h0 ad h => by have := fr6 ad h; simp; omega) _)) (by simp [World.setCell])
  · exact (((((BB.out.setCell (by first | (simp; done) | (simp; omega)) _).setCell (by first | (simp; done) | (simp; omega)) _).setCell (by first | (simp; done) | (simp; omega)) _).setCell (by first | (simp; done) | (simp; omega)) _).setCell (by first | (simp; done) | (simp; omega)) _)
end Go.Proofs.Ytofgjcfiinmimaa.cst
