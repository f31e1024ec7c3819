/- Contracts of Merge of histograms of counts. -/
import Derived.Test.YtofgjcfiinmimaaCst3
import Derived.Test.YtofgjcfiinmimaaMgMeetR
import Derived.Test.YtofgjcfiinmimaaCst1
import Derived.Test.YtofgjcfiinmimaaBAdd
namespace Go.Proofs.Ytofgjcfiinmimaa.cst
open Go.RowKit Go.Proofs.Ytofgjcfiinmimaa.mem Go.Proofs.Ytofgjcfiinmimaa.lst Go.Proofs.Ytofgjcfiinmimaa.gro
set_option linter.unusedVariables false
set_option linter.unusedSimpArgs false
def qa (xs : List (Int × Int)) : Int := wid.whl (qlo xs) (totalN xs) (qlo xs)
def qb (xs : List (Int × Int)) : Int := wid.whl (qlo xs) (totalN xs) 1
def qc (xs : List (Int × Int)) : Int := wid.whl (qlo xs) (totalN xs) ((qlo xs + totalN xs) / 2)
def qd (xs : List (Int × Int)) : Int := wid.whl (qlo xs) (totalN xs) (totalN xs)
theorem qv_parts (xs : List (Int × Int)) : qv xs = .agg #[.int .i64 (qa xs), .int .i64 (qb xs), .int .i64 (qc xs), .int .i64 (qb xs), .int .i64 (qd xs), .int .i64 (qb xs)] := rfl
theorem whl_bd {x y z : Int} (h : wid.I64 z) : wid.I64 (wid.whl x y z) := by
  unfold wid.whl; split
  · exact h
  · unfold wid.I64; omega
theorem q_bd {xs : List (Int × Int)} (h : xs.length ≤ 2000) : wid.I64 (qa xs) ∧ wid.I64 (qb xs) ∧ wid.I64 (qc xs) ∧ wid.I64 (qd xs) := by
  have ht := totalN_le xs
  have hw : ∀ l, (wt l : Int) ≤ 1073741824 ∧ 0 ≤ (wt l : Int) := fun l => by have := wt_le l; omega
  have hq : -2000000000 ≤ qlo xs ∧ qlo xs ≤ 3000000000000 := by
    unfold qlo; have := hw (buk.at_ xs 0).2; split <;> omega
  refine ⟨whl_bd ?_, whl_bd ?_, whl_bd ?_, whl_bd ?_⟩ <;> unfold wid.I64 <;> omega
def mrgV (xs ys : List (Int × Int)) : Value := .agg #[.int .i64 (wid.pk (wid.addOk (qa xs) (qb xs) (qc xs) (qb xs) (qd xs) (qb xs) (qa ys) (qb ys) (qc ys) (qb ys) (qd ys) (qb ys)) (wid.sumN (qa xs) (qb xs) (qa ys) (qb ys) false) 0), .int .i64 (wid.pk (wid.addOk (qa xs) (qb xs) (qc xs) (qb xs) (qd xs) (qb xs) (qa ys) (qb ys) (qc ys) (qb ys) (qd ys) (qb ys)) (wid.sumD (qa xs) (qb xs) (qa ys) (qb ys) false) 0), .int .i64 (wid.pk (wid.addOk (qa xs) (qb xs) (qc xs) (qb xs) (qd xs) (qb xs) (qa ys) (qb ys) (qc ys) (qb ys) (qd ys) (qb ys)) (wid.sumN (qc xs) (qb xs) (qc ys) (qb ys) false) 0), .int .i64 (wid.pk (wid.addOk (qa xs) (qb xs) (qc xs) (qb xs) (qd xs) (qb xs) (qa ys) (qb ys) (qc ys) (qb ys) (qd ys) (qb ys)) (wid.sumD (qc xs) (qb xs) (qc ys) (qb ys) false) 0), .int .i64 (wid.pk (wid.addOk (qa xs) (qb xs) (qc xs) (qb xs) (qd xs) (qb xs) (qa ys) (qb ys) (qc ys) (qb ys) (qd ys) (qb ys)) (wid.sumN (qd xs) (qb xs) (qd ys) (qb ys) false) 0), .int .i64 (wid.pk (wid.addOk (qa xs) (qb xs) (qc xs) (qb xs) (qd xs) (qb xs) (qa ys) (qb ys) (qc ys) (qb ys) (qd ys) (qb ys)) (wid.sumD (qd xs) (qb xs) (qd ys) (qb ys) false) 0)]
noncomputable def mrgR (f1 f2 eq : Bool) (xs ys : List (Int × Int)) : Value := if f1 = true ∧ f2 = true ∧ eq = true then mrgV xs ys else .agg #[.int .i64 0, .int .i64 0, .int .i64 0, .int .i64 0, .int .i64 0, .int .i64 0]
def mrgE (f1 f2 eq : Bool) : Int := if f1 = true then (if f2 = true then (if eq = true then 0 else 1) else 2) else 2
theorem mrg_form (f1 f2 eq : Bool) (xs ys : List (Int × Int)) : ∃ m0 m1 m2 m3 m4 m5 : Int, mrgR f1 f2 eq xs ys = .agg #[.int .i64 m0, .int .i64 m1, .int .i64 m2, .int .i64 m3, .int .i64 m4, .int .i64 m5] := by
  unfold mrgR; split
  · exact ⟨_, _, _, _, _, _, rfl⟩
  · exact ⟨0, 0, 0, 0, 0, 0, rfl⟩
set_option maxHeartbeats 8000000 in
set_option maxRecDepth 100000 in
theorem MergeC_any (v k p o v2 k2 p2 o2 : Int) (A1 : Option Addr) (n1 c1 : Nat) (xs : List (Int × Int)) (A2 : Option Addr) (n2 c2 : Nat) (ys : List (Int × Int)) (w : World) (h1 : PRead w w.heap.size A1 n1 xs) (hnc1 : n1 ≤ c1) (hcm1 : c1 ≤ maxLen) (hs1 : n1 ≤ 2000) (h2 : PRead w w.heap.size A2 n2 ys) (hnc2 : n2 ≤ c2) (hcm2 : c2 ≤ maxLen) (hs2 : n2 ≤ 2000) :
    Calls Try.prog 46 #[(Value.agg #[.int .i64 v, .int .i64 k, .int .i64 p, .int .i64 o, .slice A1 n1 c1]), (Value.agg #[.int .i64 v2, .int .i64 k2, .int .i64 p2, .int .i64 o2, .slice A2 n2 c2])] w fun e w' => e = .returned (.tuple #[mrgR (fitB xs v k p o) (fitB ys v2 k2 p2 o2) (decide (v = v2 ∧ o = o2)) xs ys, .int .i64 (mrgE (fitB xs v k p o) (fitB ys v2 k2 p2 o2) (decide (v = v2 ∧ o = o2)))]) ∧ Below w.heap.size w w' := by
  have bx := q_bd (xs := xs) (by rw [PRead.len h1]; exact hs1)
  have bY := q_bd (xs := ys) (by rw [PRead.len h2]; exact hs2)
  have HA : Hid (∀ W, Calls Try.prog 78 #[qv xs, qv ys] W fun e w' => e = .returned (.tuple #[mrgV xs ys, .bool (wid.addOk (qa xs) (qb xs) (qc xs) (qb xs) (qd xs) (qb xs) (qa ys) (qb ys) (qc ys) (qb ys) (qd ys) (qb ys))]) ∧ Below W.heap.size W w') := fun W => wid.AddB_any (qa xs) (qb xs) (qc xs) (qb xs) (qd xs) (qb xs) (qa ys) (qb ys) (qc ys) (qb ys) (qd ys) (qb ys) bx.1 bx.2.1 bx.2.2.1 bx.2.1 bx.2.2.2 bx.2.1 bY.1 bY.2.1 bY.2.2.1 bY.2.1 bY.2.2.2 bY.2.1 W
  clear bx bY
  have HV1 := Lib.hid (fun W (hb : Below w.heap.size w W) => ValidateC_any v k p o A1 n1 c1 xs W ((h1.below hb).more hb.size) hnc1 hcm1 hs1)
  have HV2 := Lib.hid (fun W (hb : Below w.heap.size w W) => ValidateC_any v2 k2 p2 o2 A2 n2 c2 ys W ((h2.below hb).more hb.size) hnc2 hcm2 hs2)
  have HQ1 : Hid (fitB xs v k p o = true → ∀ W, Below w.heap.size w W → Calls Try.prog 69 #[.slice A1 n1 c1] W fun e w' => e = .returned (qv xs) ∧ Below W.heap.size W w') := fun h W hb => Query_any A1 n1 c1 xs W ((h1.below hb).more hb.size) (by omega) (fun hp => ((buk.validB_iff.1 (fit_iff.1 h).2.1).2.1 0 (by rw [PRead.len h1]; exact hp)).2.1)
  have HQ2 : Hid (fitB ys v2 k2 p2 o2 = true → ∀ W, Below w.heap.size w W → Calls Try.prog 69 #[.slice A2 n2 c2] W fun e w' => e = .returned (qv ys) ∧ Below W.heap.size W w') := fun h W hb => Query_any A2 n2 c2 ys W ((h2.below hb).more hb.size) (by omega) (fun hp => ((buk.validB_iff.1 (fit_iff.1 h).2.1).2.1 0 (by rw [PRead.len h2]; exact hp)).2.1)
  clear h1 h2 hcm1 hcm2 hnc1 hnc2 hs1 hs2
  generalize fitB xs v k p o = f1 at *
  generalize fitB ys v2 k2 p2 o2 = f2 at *
  unfold mrgR mrgE
  obtain ⟨x0, x1, x2, x3, x4, x5, hqx⟩ : ∃ m0 m1 m2 m3 m4 m5 : Int, qv xs = .agg #[.int .i64 m0, .int .i64 m1, .int .i64 m2, .int .i64 m3, .int .i64 m4, .int .i64 m5] := ⟨_, _, _, _, _, _, rfl⟩
  obtain ⟨y0, z1, y2, z3, y4, z5, hqy⟩ : ∃ m0 m1 m2 m3 m4 m5 : Int, qv ys = .agg #[.int .i64 m0, .int .i64 m1, .int .i64 m2, .int .i64 m3, .int .i64 m4, .int .i64 m5] := ⟨_, _, _, _, _, _, rfl⟩
  obtain ⟨g0, g1, g2, g3, g4, g5, hmv⟩ : ∃ m0 m1 m2 m3 m4 m5 : Int, mrgV xs ys = .agg #[.int .i64 m0, .int .i64 m1, .int .i64 m2, .int .i64 m3, .int .i64 m4, .int .i64 m5] := ⟨_, _, _, _, _, _, rfl⟩
  generalize (wid.addOk (qa xs) (qb xs) (qc xs) (qb xs) (qd xs) (qb xs) (qa ys) (qb ys) (qc ys) (qb ys) (qd ys) (qb ys)) = okk at *
  rw [hqx, hqy, hmv] at HA
  rw [hmv]
  clear hmv
  rw [hqx] at HQ1
  rw [hqy] at HQ2
  clear hqx hqy
  cases f1
  case false =>
    simp only [okE_f, okE_t, false_and, and_false, true_and, Bool.false_eq_true, if_true, if_false] at *
    clear HQ1 HQ2 HA
    go_enter Try.func46, Try.ntmps46
    go_wp2_with fail
    obtain ⟨W0, hW, hs0, K0, B0⟩ := start3 w 24 24 43 #[Value.int IntKind.i64 v, Value.int IntKind.i64 k, Value.int IntKind.i64 p, Value.int IntKind.i64 o, Value.slice A1 n1 c1] #[Value.int IntKind.i64 v2, Value.int IntKind.i64 k2, Value.int IntKind.i64 p2, Value.int IntKind.i64 o2, Value.slice A2 n2 c2] #[Value.int IntKind.i64 0, Value.int IntKind.i64 0, Value.int IntKind.i64 0, Value.int IntKind.i64 0, Value.int IntKind.i64 0, Value.int IntKind.i64 0]
    rw [hW]
    clear hW
    have KK := Lib.hid K0
    have BB := Lib.hid B0
    have sz : w.heap.size + 1 + 1 + 1 ≤ W0.heap.size := by omega
    have R := K0.rules
    simp only [Rules] at R
    clear K0 B0 hs0
    (with_reducible refine (HV1.out _ BB.out).mono ?_)
    rintro e wv ⟨rfl, hbv⟩
    replace BB := Lib.hid (BB.out.trans (hbv.mono BB.out.size))
    replace KK := Lib.hid (KK.out.below hbv)
    replace sz := Nat.le_trans sz hbv.size
    replace R := KK.out.rules
    simp only [Rules] at R
    clear hbv
    go_wp2
    refine bodyPost_ret (v := Value.tuple #[.agg #[Value.int IntKind.i64 0, Value.int IntKind.i64 0, Value.int IntKind.i64 0, Value.int IntKind.i64 0, Value.int IntKind.i64 0, Value.int IntKind.i64 0], .int .i64 2]) (by simp [results, Try.results46, go_sem, R]) rfl ⟨rfl, ?_⟩
    exact ((((((BB.out.setCell (by first | (simp; done) | (simp; omega)) _).setCell (by first | (simp; done) | (simp; omega)) _).setCell (by first | (simp; done) | (simp; omega)) _).setCell (by first | (simp; done) | (simp; omega)) _).setCell (by first | (simp; done) | (simp; omega)) _).setCell (by first | (simp; done) | (simp; omega)) _)
  cases f2
  case false =>
    simp only [okE_f, okE_t, false_and, and_false, true_and, Bool.false_eq_true, if_true, if_false] at *
    clear HQ1 HQ2 HA
    go_enter Try.func46, Try.ntmps46
    go_wp2_with fail
    obtain ⟨W0, hW, hs0, K0, B0⟩ := start3 w 24 24 43 #[Value.int IntKind.i64 v, Value.int IntKind.i64 k, Value.int IntKind.i64 p, Value.int IntKind.i64 o, Value.slice A1 n1 c1] #[Value.int IntKind.i64 v2, Value.int IntKind.i64 k2, Value.int IntKind.i64 p2, Value.int IntKind.i64 o2, Value.slice A2 n2 c2] #[Value.int IntKind.i64 0, Value.int IntKind.i64 0, Value.int IntKind.i64 0, Value.int IntKind.i64 0, Value.int IntKind.i64 0, Value.int IntKind.i64 0]
    rw [hW]
    clear hW
    have KK := Lib.hid K0
    have BB := Lib.hid B0
    have sz : w.heap.size + 1 + 1 + 1 ≤ W0.heap.size := by omega
    have R := K0.rules
    simp only [Rules] at R
    clear K0 B0 hs0
    (with_reducible refine (HV1.out _ BB.out).mono ?_)
    rintro e wv ⟨rfl, hbv⟩
    replace BB := Lib.hid (BB.out.trans (hbv.mono BB.out.size))
    replace KK := Lib.hid (KK.out.below hbv)
    replace sz := Nat.le_trans sz hbv.size
    replace R := KK.out.rules
    simp only [Rules] at R
    clear hbv
    go_wp2_with fail
    (with_reducible refine (HV2.out _ BB.out).mono ?_)
    rintro e wv ⟨rfl, hbv⟩
    replace BB := Lib.hid (BB.out.trans (hbv.mono BB.out.size))
    replace KK := Lib.hid (KK.out.below hbv)
    replace sz := Nat.le_trans sz hbv.size
    replace R := KK.out.rules
    simp only [Rules] at R
    clear hbv
    go_wp2
    refine bodyPost_ret (v := Value.tuple #[.agg #[Value.int IntKind.i64 0, Value.int IntKind.i64 0, Value.int IntKind.i64 0, Value.int IntKind.i64 0, Value.int IntKind.i64 0, Value.int IntKind.i64 0], .int .i64 2]) (by simp [results, Try.results46, go_sem, R]) rfl ⟨rfl, ?_⟩
    exact ((((((BB.out.setCell (by first | (simp; done) | (simp; omega)) _).setCell (by first | (simp; done) | (simp; omega)) _).setCell (by first | (simp; done) | (simp; omega)) _).setCell (by first | (simp; done) | (simp; omega)) _).setCell (by first | (simp; done) | (simp; omega)) _).setCell (by first | (simp; done) | (simp; omega)) _)
  replace HQ1 := Lib.hid (HQ1.out rfl)
  replace HQ2 := Lib.hid (HQ2.out rfl)
  by_cases hv : v = v2
  case neg =>
    have q1 : (v == v2) = false := by simpa using hv
    rw [show decide (v = v2 ∧ o = o2) = false from decide_eq_false (fun h => hv h.1)]
    simp only [okE_f, okE_t, false_and, and_false, true_and, Bool.false_eq_true, if_true, if_false] at *
    clear HQ1 HQ2 HA
    go_enter Try.func46, Try.ntmps46
    go_wp2_with fail
    obtain ⟨W0, hW, hs0, K0, B0⟩ := start3 w 24 24 43 #[Value.int IntKind.i64 v, Value.int IntKind.i64 k, Value.int IntKind.i64 p, Value.int IntKind.i64 o, Value.slice A1 n1 c1] #[Value.int IntKind.i64 v2, Value.int IntKind.i64 k2, Value.int IntKind.i64 p2, Value.int IntKind.i64 o2, Value.slice A2 n2 c2] #[Value.int IntKind.i64 0, Value.int IntKind.i64 0, Value.int IntKind.i64 0, Value.int IntKind.i64 0, Value.int IntKind.i64 0, Value.int IntKind.i64 0]
    rw [hW]
    clear hW
    have KK := Lib.hid K0
    have BB := Lib.hid B0
    have sz : w.heap.size + 1 + 1 + 1 ≤ W0.heap.size := by omega
    have R := K0.rules
    simp only [Rules] at R
    clear K0 B0 hs0
    (with_reducible refine (HV1.out _ BB.out).mono ?_)
    rintro e wv ⟨rfl, hbv⟩
    replace BB := Lib.hid (BB.out.trans (hbv.mono BB.out.size))
    replace KK := Lib.hid (KK.out.below hbv)
    replace sz := Nat.le_trans sz hbv.size
    replace R := KK.out.rules
    simp only [Rules] at R
    clear hbv
    go_wp2_with fail
    (with_reducible refine (HV2.out _ BB.out).mono ?_)
    rintro e wv ⟨rfl, hbv⟩
    replace BB := Lib.hid (BB.out.trans (hbv.mono BB.out.size))
    replace KK := Lib.hid (KK.out.below hbv)
    replace sz := Nat.le_trans sz hbv.size
    replace R := KK.out.rules
    simp only [Rules] at R
    clear hbv
    go_wp2
    refine bodyPost_ret (v := Value.tuple #[.agg #[Value.int IntKind.i64 0, Value.int IntKind.i64 0, Value.int IntKind.i64 0, Value.int IntKind.i64 0, Value.int IntKind.i64 0, Value.int IntKind.i64 0], .int .i64 1]) (by simp [results, Try.results46, go_sem, R]) rfl ⟨rfl, ?_⟩
    exact ((((((BB.out.setCell (by first | (simp; done) | (simp; omega)) _).setCell (by first | (simp; done) | (simp; omega)) _).setCell (by first | (simp; done) | (simp; omega)) _).setCell (by first | (simp; done) | (simp; omega)) _).setCell (by first | (simp; done) | (simp; omega)) _).setCell (by first | (simp; done) | (simp; omega)) _)
  subst hv
  by_cases ho : o = o2
  case neg =>
    have q2 : (o == o2) = false := by simpa using ho
    rw [show decide (v = v ∧ o = o2) = false from decide_eq_false (fun h => ho h.2)]
    simp only [okE_f, okE_t, false_and, and_false, true_and, Bool.false_eq_true, if_true, if_false] at *
    clear HQ1 HQ2 HA
    go_enter Try.func46, Try.ntmps46
    go_wp2_with fail
    obtain ⟨W0, hW, hs0, K0, B0⟩ := start3 w 24 24 43 #[Value.int IntKind.i64 v, Value.int IntKind.i64 k, Value.int IntKind.i64 p, Value.int IntKind.i64 o, Value.slice A1 n1 c1] #[Value.int IntKind.i64 v, Value.int IntKind.i64 k2, Value.int IntKind.i64 p2, Value.int IntKind.i64 o2, Value.slice A2 n2 c2] #[Value.int IntKind.i64 0, Value.int IntKind.i64 0, Value.int IntKind.i64 0, Value.int IntKind.i64 0, Value.int IntKind.i64 0, Value.int IntKind.i64 0]
    rw [hW]
    clear hW
    have KK := Lib.hid K0
    have BB := Lib.hid B0
    have sz : w.heap.size + 1 + 1 + 1 ≤ W0.heap.size := by omega
    have R := K0.rules
    simp only [Rules] at R
    clear K0 B0 hs0
    (with_reducible refine (HV1.out _ BB.out).mono ?_)
    rintro e wv ⟨rfl, hbv⟩
    replace BB := Lib.hid (BB.out.trans (hbv.mono BB.out.size))
    replace KK := Lib.hid (KK.out.below hbv)
    replace sz := Nat.le_trans sz hbv.size
    replace R := KK.out.rules
    simp only [Rules] at R
    clear hbv
    go_wp2_with fail
    (with_reducible refine (HV2.out _ BB.out).mono ?_)
    rintro e wv ⟨rfl, hbv⟩
    replace BB := Lib.hid (BB.out.trans (hbv.mono BB.out.size))
    replace KK := Lib.hid (KK.out.below hbv)
    replace sz := Nat.le_trans sz hbv.size
    replace R := KK.out.rules
    simp only [Rules] at R
    clear hbv
    go_wp2
    refine bodyPost_ret (v := Value.tuple #[.agg #[Value.int IntKind.i64 0, Value.int IntKind.i64 0, Value.int IntKind.i64 0, Value.int IntKind.i64 0, Value.int IntKind.i64 0, Value.int IntKind.i64 0], .int .i64 1]) (by simp [results, Try.results46, go_sem, R]) rfl ⟨rfl, ?_⟩
    exact ((((((BB.out.setCell (by first | (simp; done) | (simp; omega)) _).setCell (by first | (simp; done) | (simp; omega)) _).setCell (by first | (simp; done) | (simp; omega)) _).setCell (by first | (simp; done) | (simp; omega)) _).setCell (by first | (simp; done) | (simp; omega)) _).setCell (by first | (simp; done) | (simp; omega)) _)
  subst ho
  rw [show decide (v = v ∧ o = o) = true from decide_eq_true ⟨rfl, rfl⟩]
  simp only [okE_f, okE_t, false_and, and_false, true_and, Bool.false_eq_true, if_true, if_false, and_self] at *
  go_enter Try.func46, Try.ntmps46
  go_wp2_with fail
  obtain ⟨W0, hW, hs0, K0, B0⟩ := start3 w 24 24 43 #[Value.int IntKind.i64 v, Value.int IntKind.i64 k, Value.int IntKind.i64 p, Value.int IntKind.i64 o, Value.slice A1 n1 c1] #[Value.int IntKind.i64 v, Value.int IntKind.i64 k2, Value.int IntKind.i64 p2, Value.int IntKind.i64 o, Value.slice A2 n2 c2] #[Value.int IntKind.i64 0, Value.int IntKind.i64 0, Value.int IntKind.i64 0, Value.int IntKind.i64 0, Value.int IntKind.i64 0, Value.int IntKind.i64 0]
  rw [hW]
  clear hW
  have KK := Lib.hid K0
  have BB := Lib.hid B0
  have sz : w.heap.size + 1 + 1 + 1 ≤ W0.heap.size := by omega
  have R := K0.rules
  simp only [Rules] at R
  clear K0 B0 hs0
  (with_reducible refine (HV1.out _ BB.out).mono ?_)
  rintro e wv ⟨rfl, hbv⟩
  replace BB := Lib.hid (BB.out.trans (hbv.mono BB.out.size))
  replace KK := Lib.hid (KK.out.below hbv)
  replace sz := Nat.le_trans sz hbv.size
  replace R := KK.out.rules
  simp only [Rules] at R
  clear hbv
  go_wp2_with fail
  (with_reducible refine (HV2.out _ BB.out).mono ?_)
  rintro e wv ⟨rfl, hbv⟩
  replace BB := Lib.hid (BB.out.trans (hbv.mono BB.out.size))
  replace KK := Lib.hid (KK.out.below hbv)
  replace sz := Nat.le_trans sz hbv.size
  replace R := KK.out.rules
  simp only [Rules] at R
  clear hbv
  go_wp2_with fail
  (refine gro.wp_region_steady_n 10 3 (by kernel_rfl) (by kernel_rfl) (by intro _ _ _ _ _ h; exact h) (by kernel_rfl) (by kernel_rfl) (by kernel_rfl) ?_; apply Exists.intro; refine ⟨fun w0 hb0 => ?_, ?_⟩; focus (have KZ := (KK.out).below hb0; have RZ := KZ.rules; simp only [gro.Rules] at RZ; simp only [List.take_succ_cons, List.take_zero]; (repeat (go_big_quiet_step ((first | (go_at_call 69; first | (with_reducible exact call_grown (HQ1.out _ (BB.out.trans ((hb0.trans ((below_grown _ _).mono hb0.size)).mono BB.out.size)))) | (with_reducible exact call_grown (HQ2.out _ (BB.out.trans ((hb0.trans ((below_grown _ _).mono hb0.size)).mono BB.out.size))))) | (go_at_call 78; exact call_grown (HA.out _)))))); exact wpQuiet_nil rfl))
  refine gro.anyG_one 10 (by kernel_rfl) rfl ?_
  intro y1 hz1 K' hK'
  have KY1 := KK.out.drew.below hz1
  have BY1 := hz1
  go_simp
  refine hK' _ _ ⟨BY1.alloc BY1.size _, ?_⟩
  clear hK' K'
  obtain ⟨pp, hp⟩ : ∃ p, y1.heap.size = p := ⟨_, rfl⟩
  have KY2 := KY1.new (t := 43) (c := #[Value.int IntKind.i64 0, Value.int IntKind.i64 0, Value.int IntKind.i64 0, Value.int IntKind.i64 0, Value.int IntKind.i64 0, Value.int IntKind.i64 0]) hp
  have BY2 := BY1.alloc BY1.size (.cells #[Value.int IntKind.i64 0, Value.int IntKind.i64 0, Value.int IntKind.i64 0, Value.int IntKind.i64 0, Value.int IntKind.i64 0, Value.int IntKind.i64 0] 43)
  have sY2 : (y1.alloc (.cells #[Value.int IntKind.i64 0, Value.int IntKind.i64 0, Value.int IntKind.i64 0, Value.int IntKind.i64 0, Value.int IntKind.i64 0, Value.int IntKind.i64 0] 43)).heap.size = pp + 1 := by simp [hp]
  have hl := hz1.size
  rw [hp] at hl ⊢
  have hm := hl
  try simp at hm
  generalize y1.alloc (.cells #[Value.int IntKind.i64 0, Value.int IntKind.i64 0, Value.int IntKind.i64 0, Value.int IntKind.i64 0, Value.int IntKind.i64 0, Value.int IntKind.i64 0] 43) = yy2 at *
  refine gro.anyG_one 11 (by kernel_rfl) rfl ?_
  intro y3 hz3 K' hK'
  have KY3 := KY2.below hz3
  have BY3 := BY2.trans (hz3.mono BY2.size)
  have sY3 := hz3.size
  have RY := KY3.rules
  simp only [gro.Rules] at RY
  go_simp
  have BX := gro.Below.set6 (g := pp) BY3 (by omega) (.int .i64 g0) (.int .i64 g1) (.int .i64 g2) (.int .i64 g3) (.int .i64 g4) (.int .i64 g5)
  refine hK' _ _ ⟨BX, ?_⟩
  clear hK' K' RY
  obtain ⟨yy4, hy4, KY4, BY4, sY4⟩ := name_world (gro.Bx.put6 (u0 := .int .i64 g0) (u1 := .int .i64 g1) (u2 := .int .i64 g2) (u3 := .int .i64 g3) (u4 := .int .i64 g4) (u5 := .int .i64 g5) KY3 (by simp; omega)) BX (s := 0) (by omega)
  rw [hy4]
  clear hy4
  refine gro.anyG_one 12 (by kernel_rfl) rfl ?_
  intro y5 hz5 K' hK'
  have KY5 := KY4.below hz5
  have BY5 := BY4.trans (hz5.mono BY4.size)
  go_simp
  refine hK' _ _ ⟨BY5, ?_⟩
  clear hK' K'
  refine gro.anyG_done (by kernel_rfl) ?_
  intro y6 hz6
  replace KK := Lib.hid (KY5.below hz6)
  replace BB := Lib.hid (BB.out.drew.trans ((BY5.trans (hz6.mono BY5.size)).mono BB.out.size))
  replace R := KK.out.rules
  simp only [gro.Rules] at R
  clear KY1 KY2 KY3 KY4 KY5 BY1 BY2 BY3 BY4 BY5 hz1 hz3 hz5 hz6 BX sY2 sY3
  go_wp2
  refine bodyPost_ret (v := Value.tuple #[.agg #[Value.int IntKind.i64 g0, Value.int IntKind.i64 g1, Value.int IntKind.i64 g2, Value.int IntKind.i64 g3, Value.int IntKind.i64 g4, Value.int IntKind.i64 g5], .int .i64 0]) (by simp [results, Try.results46, go_sem, R]) rfl ⟨rfl, ?_⟩
  exact ((((((BB.out.setCell (by first | (simp; done) | (simp; omega)) _).setCell (by first | (simp; done) | (simp; omega)) _).setCell (by first | (simp; done) | (simp; omega)) _).setCell (by first | (simp; done) | (simp; omega)) _).setCell (by first | (simp; done) | (simp; omega)) _).setCell (by first | (simp; done) | (simp; omega)) _)
set_option maxHeartbeats 8000000 in
set_option maxRecDepth 100000 in
theorem MergeCR_any (v k p o v2 k2 p2 o2 : Int) (A1 : Option Addr) (n1 c1 : Nat) (xs : List (Int × Int)) (A2 : Option Addr) (n2 c2 : Nat) (ys : List (Int × Int)) (w : World) (h1 : PRead w w.heap.size A1 n1 xs) (hnc1 : n1 ≤ c1) (hcm1 : c1 ≤ maxLen) (hs1 : n1 ≤ 2000) (h2 : PRead w w.heap.size A2 n2 ys) (hnc2 : n2 ≤ c2) (hcm2 : c2 ≤ maxLen) (hs2 : n2 ≤ 2000) :
    Calls Try.prog 47 #[(Value.agg #[.int .i64 v, .int .i64 k, .int .i64 p, .int .i64 o, .slice A1 n1 c1]), (Value.agg #[.int .i64 v2, .int .i64 k2, .int .i64 p2, .int .i64 o2, .slice A2 n2 c2])] w fun e w' => e = .returned (.tuple #[mrgR (fitB xs v k p o) (fitB ys v2 k2 p2 o2) (decide (v = v2 ∧ o = o2)) xs ys, .int .i64 (mrgE (fitB xs v k p o) (fitB ys v2 k2 p2 o2) (decide (v = v2 ∧ o = o2)))]) ∧ Below w.heap.size w w' := by
  have bx := q_bd (xs := xs) (by rw [PRead.len h1]; exact hs1)
  have bY := q_bd (xs := ys) (by rw [PRead.len h2]; exact hs2)
  have HA : Hid (∀ W, Calls Try.prog 79 #[qv xs, qv ys] W fun e w' => e = .returned (.tuple #[mrgV xs ys, .bool (wid.addOk (qa xs) (qb xs) (qc xs) (qb xs) (qd xs) (qb xs) (qa ys) (qb ys) (qc ys) (qb ys) (qd ys) (qb ys))]) ∧ Below W.heap.size W w') := fun W => wid.AddBR_any (qa xs) (qb xs) (qc xs) (qb xs) (qd xs) (qb xs) (qa ys) (qb ys) (qc ys) (qb ys) (qd ys) (qb ys) bx.1 bx.2.1 bx.2.2.1 bx.2.1 bx.2.2.2 bx.2.1 bY.1 bY.2.1 bY.2.2.1 bY.2.1 bY.2.2.2 bY.2.1 W
  clear bx bY
  have HV1 := Lib.hid (fun W (hb : Below w.heap.size w W) => AskCR_any v k p o A1 n1 c1 xs W ((h1.below hb).more hb.size) hnc1 hcm1 hs1)
  have HV2 := Lib.hid (fun W (hb : Below w.heap.size w W) => AskCR_any v2 k2 p2 o2 A2 n2 c2 ys W ((h2.below hb).more hb.size) hnc2 hcm2 hs2)
  clear h1 h2 hcm1 hcm2 hnc1 hnc2 hs1 hs2
  generalize fitB xs v k p o = f1 at *
  generalize fitB ys v2 k2 p2 o2 = f2 at *
  unfold mrgR mrgE
  obtain ⟨x0, x1, x2, x3, x4, x5, hqx⟩ : ∃ m0 m1 m2 m3 m4 m5 : Int, qv xs = .agg #[.int .i64 m0, .int .i64 m1, .int .i64 m2, .int .i64 m3, .int .i64 m4, .int .i64 m5] := ⟨_, _, _, _, _, _, rfl⟩
  obtain ⟨y0, z1, y2, z3, y4, z5, hqy⟩ : ∃ m0 m1 m2 m3 m4 m5 : Int, qv ys = .agg #[.int .i64 m0, .int .i64 m1, .int .i64 m2, .int .i64 m3, .int .i64 m4, .int .i64 m5] := ⟨_, _, _, _, _, _, rfl⟩
  obtain ⟨g0, g1, g2, g3, g4, g5, hmv⟩ : ∃ m0 m1 m2 m3 m4 m5 : Int, mrgV xs ys = .agg #[.int .i64 m0, .int .i64 m1, .int .i64 m2, .int .i64 m3, .int .i64 m4, .int .i64 m5] := ⟨_, _, _, _, _, _, rfl⟩
  generalize (wid.addOk (qa xs) (qb xs) (qc xs) (qb xs) (qd xs) (qb xs) (qa ys) (qb ys) (qc ys) (qb ys) (qd ys) (qb ys)) = okk at *
  rw [hqx, hqy, hmv] at HA
  rw [hmv]
  clear hmv
  have HU1 : Hid (∀ W, Below w.heap.size w W → Calls Try.prog 28 #[(Value.agg #[.int .i64 v, .int .i64 k, .int .i64 p, .int .i64 o, .slice A1 n1 c1])] W fun e w' => e = .returned (.tuple #[if f1 = true then .agg #[Value.int IntKind.i64 x0, Value.int IntKind.i64 x1, Value.int IntKind.i64 x2, Value.int IntKind.i64 x3, Value.int IntKind.i64 x4, Value.int IntKind.i64 x5] else .agg #[Value.int IntKind.i64 0, Value.int IntKind.i64 0, Value.int IntKind.i64 0, Value.int IntKind.i64 0, Value.int IntKind.i64 0, Value.int IntKind.i64 0], .int .i64 (okE f1)]) ∧ Below W.heap.size W w') := fun W hb => by have := HV1.out W hb; unfold askV at this; rwa [hqx] at this
  have HU2 : Hid (∀ W, Below w.heap.size w W → Calls Try.prog 28 #[(Value.agg #[.int .i64 v2, .int .i64 k2, .int .i64 p2, .int .i64 o2, .slice A2 n2 c2])] W fun e w' => e = .returned (.tuple #[if f2 = true then .agg #[Value.int IntKind.i64 y0, Value.int IntKind.i64 z1, Value.int IntKind.i64 y2, Value.int IntKind.i64 z3, Value.int IntKind.i64 y4, Value.int IntKind.i64 z5] else .agg #[Value.int IntKind.i64 0, Value.int IntKind.i64 0, Value.int IntKind.i64 0, Value.int IntKind.i64 0, Value.int IntKind.i64 0, Value.int IntKind.i64 0], .int .i64 (okE f2)]) ∧ Below W.heap.size W w') := fun W hb => by have := HV2.out W hb; unfold askV at this; rwa [hqy] at this
  clear hqx hqy HV1 HV2
  cases f1
  case false =>
    simp only [okE_f, okE_t, false_and, and_false, true_and, Bool.false_eq_true, if_true, if_false] at *
    clear HA
    go_enter Try.func47, Try.ntmps47
    go_wp2_with fail
    obtain ⟨W0, hW, hs0, K0, B0⟩ := start3 w 24 24 43 #[Value.int IntKind.i64 v, Value.int IntKind.i64 k, Value.int IntKind.i64 p, Value.int IntKind.i64 o, Value.slice A1 n1 c1] #[Value.int IntKind.i64 v2, Value.int IntKind.i64 k2, Value.int IntKind.i64 p2, Value.int IntKind.i64 o2, Value.slice A2 n2 c2] #[Value.int IntKind.i64 0, Value.int IntKind.i64 0, Value.int IntKind.i64 0, Value.int IntKind.i64 0, Value.int IntKind.i64 0, Value.int IntKind.i64 0]
    rw [hW]
    clear hW
    have KK := Lib.hid K0
    have BB := Lib.hid B0
    have sz : w.heap.size + 1 + 1 + 1 ≤ W0.heap.size := by omega
    have R := K0.rules
    simp only [Rules] at R
    clear K0 B0 hs0
    (with_reducible refine (HU1.out _ BB.out).mono ?_)
    rintro e wv ⟨rfl, hbv⟩
    replace BB := Lib.hid (BB.out.trans (hbv.mono BB.out.size))
    replace KK := Lib.hid (KK.out.below hbv)
    replace sz := Nat.le_trans sz hbv.size
    replace R := KK.out.rules
    simp only [Rules] at R
    clear hbv
    obtain ⟨sB, hsB⟩ : ∃ s, wv.heap.size = s := ⟨_, rfl⟩
    rw [hsB] at sz
    replace KK := Lib.hid (KK.out.new (t := 43) (c := #[Value.int IntKind.i64 0, Value.int IntKind.i64 0, Value.int IntKind.i64 0, Value.int IntKind.i64 0, Value.int IntKind.i64 0, Value.int IntKind.i64 0]) hsB)
    replace BB := Lib.hid (BB.out.alloc BB.out.size (.cells #[Value.int IntKind.i64 0, Value.int IntKind.i64 0, Value.int IntKind.i64 0, Value.int IntKind.i64 0, Value.int IntKind.i64 0, Value.int IntKind.i64 0] 43))
    replace sz : w.heap.size + 1 + 1 + 1 ≤ (wv.alloc (.cells #[Value.int IntKind.i64 0, Value.int IntKind.i64 0, Value.int IntKind.i64 0, Value.int IntKind.i64 0, Value.int IntKind.i64 0, Value.int IntKind.i64 0] 43)).heap.size := by simp; omega
    replace R := KK.out.rules
    simp only [Rules] at R
    go_wp2
    refine bodyPost_ret (v := Value.tuple #[.agg #[Value.int IntKind.i64 0, Value.int IntKind.i64 0, Value.int IntKind.i64 0, Value.int IntKind.i64 0, Value.int IntKind.i64 0, Value.int IntKind.i64 0], .int .i64 2]) (by simp [results, Try.results47, go_sem, R]) rfl ⟨rfl, ?_⟩
    exact ((((((BB.out.setCell (by first | (simp; done) | (simp; omega)) _).setCell (by first | (simp; done) | (simp; omega)) _).setCell (by first | (simp; done) | (simp; omega)) _).setCell (by first | (simp; done) | (simp; omega)) _).setCell (by first | (simp; done) | (simp; omega)) _).setCell (by first | (simp; done) | (simp; omega)) _)
  cases f2
  case false =>
    simp only [okE_f, okE_t, false_and, and_false, true_and, Bool.false_eq_true, if_true, if_false] at *
    clear HA
    go_enter Try.func47, Try.ntmps47
    go_wp2_with fail
    obtain ⟨W0, hW, hs0, K0, B0⟩ := start3 w 24 24 43 #[Value.int IntKind.i64 v, Value.int IntKind.i64 k, Value.int IntKind.i64 p, Value.int IntKind.i64 o, Value.slice A1 n1 c1] #[Value.int IntKind.i64 v2, Value.int IntKind.i64 k2, Value.int IntKind.i64 p2, Value.int IntKind.i64 o2, Value.slice A2 n2 c2] #[Value.int IntKind.i64 0, Value.int IntKind.i64 0, Value.int IntKind.i64 0, Value.int IntKind.i64 0, Value.int IntKind.i64 0, Value.int IntKind.i64 0]
    rw [hW]
    clear hW
    have KK := Lib.hid K0
    have BB := Lib.hid B0
    have sz : w.heap.size + 1 + 1 + 1 ≤ W0.heap.size := by omega
    have R := K0.rules
    simp only [Rules] at R
    clear K0 B0 hs0
    (with_reducible refine (HU1.out _ BB.out).mono ?_)
    rintro e wv ⟨rfl, hbv⟩
    replace BB := Lib.hid (BB.out.trans (hbv.mono BB.out.size))
    replace KK := Lib.hid (KK.out.below hbv)
    replace sz := Nat.le_trans sz hbv.size
    replace R := KK.out.rules
    simp only [Rules] at R
    clear hbv
    obtain ⟨sB, hsB⟩ : ∃ s, wv.heap.size = s := ⟨_, rfl⟩
    rw [hsB] at sz
    replace KK := Lib.hid (KK.out.new (t := 43) (c := #[Value.int IntKind.i64 x0, Value.int IntKind.i64 x1, Value.int IntKind.i64 x2, Value.int IntKind.i64 x3, Value.int IntKind.i64 x4, Value.int IntKind.i64 x5]) hsB)
    replace BB := Lib.hid (BB.out.alloc BB.out.size (.cells #[Value.int IntKind.i64 x0, Value.int IntKind.i64 x1, Value.int IntKind.i64 x2, Value.int IntKind.i64 x3, Value.int IntKind.i64 x4, Value.int IntKind.i64 x5] 43))
    replace sz : w.heap.size + 1 + 1 + 1 ≤ (wv.alloc (.cells #[Value.int IntKind.i64 x0, Value.int IntKind.i64 x1, Value.int IntKind.i64 x2, Value.int IntKind.i64 x3, Value.int IntKind.i64 x4, Value.int IntKind.i64 x5] 43)).heap.size := by simp; omega
    replace R := KK.out.rules
    simp only [Rules] at R
    go_wp2_with fail
    clear hsB
    (with_reducible refine (HU2.out _ BB.out).mono ?_)
    rintro e wv ⟨rfl, hbv⟩
    replace BB := Lib.hid (BB.out.trans (hbv.mono BB.out.size))
    replace KK := Lib.hid (KK.out.below hbv)
    replace sz := Nat.le_trans sz hbv.size
    replace R := KK.out.rules
    simp only [Rules] at R
    clear hbv
    obtain ⟨sB, hsB⟩ : ∃ s, wv.heap.size = s := ⟨_, rfl⟩
    rw [hsB] at sz
    replace KK := Lib.hid (KK.out.new (t := 43) (c := #[Value.int IntKind.i64 0, Value.int IntKind.i64 0, Value.int IntKind.i64 0, Value.int IntKind.i64 0, Value.int IntKind.i64 0, Value.int IntKind.i64 0]) hsB)
    replace BB := Lib.hid (BB.out.alloc BB.out.size (.cells #[Value.int IntKind.i64 0, Value.int IntKind.i64 0, Value.int IntKind.i64 0, Value.int IntKind.i64 0, Value.int IntKind.i64 0, Value.int IntKind.i64 0] 43))
    replace sz : w.heap.size + 1 + 1 + 1 ≤ (wv.alloc (.cells #[Value.int IntKind.i64 0, Value.int IntKind.i64 0, Value.int IntKind.i64 0, Value.int IntKind.i64 0, Value.int IntKind.i64 0, Value.int IntKind.i64 0] 43)).heap.size := by simp; omega
    replace R := KK.out.rules
    simp only [Rules] at R
    go_wp2
    refine bodyPost_ret (v := Value.tuple #[.agg #[Value.int IntKind.i64 0, Value.int IntKind.i64 0, Value.int IntKind.i64 0, Value.int IntKind.i64 0, Value.int IntKind.i64 0, Value.int IntKind.i64 0], .int .i64 2]) (by simp [results, Try.results47, go_sem, R]) rfl ⟨rfl, ?_⟩
    exact ((((((BB.out.setCell (by first | (simp; done) | (simp; omega)) _).setCell (by first | (simp; done) | (simp; omega)) _).setCell (by first | (simp; done) | (simp; omega)) _).setCell (by first | (simp; done) | (simp; omega)) _).setCell (by first | (simp; done) | (simp; omega)) _).setCell (by first | (simp; done) | (simp; omega)) _)
  by_cases hv : v = v2
  case neg =>
    have q1 : (v == v2) = false := by simpa using hv
    rw [show decide (v = v2 ∧ o = o2) = false from decide_eq_false (fun h => hv h.1)]
    simp only [okE_f, okE_t, false_and, and_false, true_and, Bool.false_eq_true, if_true, if_false] at *
    clear HA
    go_enter Try.func47, Try.ntmps47
    go_wp2_with fail
    obtain ⟨W0, hW, hs0, K0, B0⟩ := start3 w 24 24 43 #[Value.int IntKind.i64 v, Value.int IntKind.i64 k, Value.int IntKind.i64 p, Value.int IntKind.i64 o, Value.slice A1 n1 c1] #[Value.int IntKind.i64 v2, Value.int IntKind.i64 k2, Value.int IntKind.i64 p2, Value.int IntKind.i64 o2, Value.slice A2 n2 c2] #[Value.int IntKind.i64 0, Value.int IntKind.i64 0, Value.int IntKind.i64 0, Value.int IntKind.i64 0, Value.int IntKind.i64 0, Value.int IntKind.i64 0]
    rw [hW]
    clear hW
    have KK := Lib.hid K0
    have BB := Lib.hid B0
    have sz : w.heap.size + 1 + 1 + 1 ≤ W0.heap.size := by omega
    have R := K0.rules
    simp only [Rules] at R
    clear K0 B0 hs0
    (with_reducible refine (HU1.out _ BB.out).mono ?_)
    rintro e wv ⟨rfl, hbv⟩
    replace BB := Lib.hid (BB.out.trans (hbv.mono BB.out.size))
    replace KK := Lib.hid (KK.out.below hbv)
    replace sz := Nat.le_trans sz hbv.size
    replace R := KK.out.rules
    simp only [Rules] at R
    clear hbv
    obtain ⟨sB, hsB⟩ : ∃ s, wv.heap.size = s := ⟨_, rfl⟩
    rw [hsB] at sz
    replace KK := Lib.hid (KK.out.new (t := 43) (c := #[Value.int IntKind.i64 x0, Value.int IntKind.i64 x1, Value.int IntKind.i64 x2, Value.int IntKind.i64 x3, Value.int IntKind.i64 x4, Value.int IntKind.i64 x5]) hsB)
    replace BB := Lib.hid (BB.out.alloc BB.out.size (.cells #[Value.int IntKind.i64 x0, Value.int IntKind.i64 x1, Value.int IntKind.i64 x2, Value.int IntKind.i64 x3, Value.int IntKind.i64 x4, Value.int IntKind.i64 x5] 43))
    replace sz : w.heap.size + 1 + 1 + 1 ≤ (wv.alloc (.cells #[Value.int IntKind.i64 x0, Value.int IntKind.i64 x1, Value.int IntKind.i64 x2, Value.int IntKind.i64 x3, Value.int IntKind.i64 x4, Value.int IntKind.i64 x5] 43)).heap.size := by simp; omega
    replace R := KK.out.rules
    simp only [Rules] at R
    go_wp2_with fail
    clear hsB
    (with_reducible refine (HU2.out _ BB.out).mono ?_)
    rintro e wv ⟨rfl, hbv⟩
    replace BB := Lib.hid (BB.out.trans (hbv.mono BB.out.size))
    replace KK := Lib.hid (KK.out.below hbv)
    replace sz := Nat.le_trans sz hbv.size
    replace R := KK.out.rules
    simp only [Rules] at R
    clear hbv
    obtain ⟨sB, hsB⟩ : ∃ s, wv.heap.size = s := ⟨_, rfl⟩
    rw [hsB] at sz
    replace KK := Lib.hid (KK.out.new (t := 43) (c := #[Value.int IntKind.i64 y0, Value.int IntKind.i64 z1, Value.int IntKind.i64 y2, Value.int IntKind.i64 z3, Value.int IntKind.i64 y4, Value.int IntKind.i64 z5]) hsB)
    replace BB := Lib.hid (BB.out.alloc BB.out.size (.cells #[Value.int IntKind.i64 y0, Value.int IntKind.i64 z1, Value.int IntKind.i64 y2, Value.int IntKind.i64 z3, Value.int IntKind.i64 y4, Value.int IntKind.i64 z5] 43))
    replace sz : w.heap.size + 1 + 1 + 1 ≤ (wv.alloc (.cells #[Value.int IntKind.i64 y0, Value.int IntKind.i64 z1, Value.int IntKind.i64 y2, Value.int IntKind.i64 z3, Value.int IntKind.i64 y4, Value.int IntKind.i64 z5] 43)).heap.size := by simp; omega
    replace R := KK.out.rules
    simp only [Rules] at R
    go_wp2
    refine bodyPost_ret (v := Value.tuple #[.agg #[Value.int IntKind.i64 0, Value.int IntKind.i64 0, Value.int IntKind.i64 0, Value.int IntKind.i64 0, Value.int IntKind.i64 0, Value.int IntKind.i64 0], .int .i64 1]) (by simp [results, Try.results47, go_sem, R]) rfl ⟨rfl, ?_⟩
    exact ((((((BB.out.setCell (by first | (simp; done) | (simp; omega)) _).setCell (by first | (simp; done) | (simp; omega)) _).setCell (by first | (simp; done) | (simp; omega)) _).setCell (by first | (simp; done) | (simp; omega)) _).setCell (by first | (simp; done) | (simp; omega)) _).setCell (by first | (simp; done) | (simp; omega)) _)
  subst hv
  by_cases ho : o = o2
  case neg =>
    have q2 : (o == o2) = false := by simpa using ho
    rw [show decide (v = v ∧ o = o2) = false from decide_eq_false (fun h => ho h.2)]
    simp only [okE_f, okE_t, false_and, and_false, true_and, Bool.false_eq_true, if_true, if_false] at *
    clear HA
    go_enter Try.func47, Try.ntmps47
    go_wp2_with fail
    obtain ⟨W0, hW, hs0, K0, B0⟩ := start3 w 24 24 43 #[Value.int IntKind.i64 v, Value.int IntKind.i64 k, Value.int IntKind.i64 p, Value.int IntKind.i64 o, Value.slice A1 n1 c1] #[Value.int IntKind.i64 v, Value.int IntKind.i64 k2, Value.int IntKind.i64 p2, Value.int IntKind.i64 o2, Value.slice A2 n2 c2] #[Value.int IntKind.i64 0, Value.int IntKind.i64 0, Value.int IntKind.i64 0, Value.int IntKind.i64 0, Value.int IntKind.i64 0, Value.int IntKind.i64 0]
    rw [hW]
    clear hW
    have KK := Lib.hid K0
    have BB := Lib.hid B0
    have sz : w.heap.size + 1 + 1 + 1 ≤ W0.heap.size := by omega
    have R := K0.rules
    simp only [Rules] at R
    clear K0 B0 hs0
    (with_reducible refine (HU1.out _ BB.out).mono ?_)
    rintro e wv ⟨rfl, hbv⟩
    replace BB := Lib.hid (BB.out.trans (hbv.mono BB.out.size))
    replace KK := Lib.hid (KK.out.below hbv)
    replace sz := Nat.le_trans sz hbv.size
    replace R := KK.out.rules
    simp only [Rules] at R
    clear hbv
    obtain ⟨sB, hsB⟩ : ∃ s, wv.heap.size = s := ⟨_, rfl⟩
    rw [hsB] at sz
    replace KK := Lib.hid (KK.out.new (t := 43) (c := #[Value.int IntKind.i64 x0, Value.int IntKind.i64 x1, Value.int IntKind.i64 x2, Value.int IntKind.i64 x3, Value.int IntKind.i64 x4, Value.int IntKind.i64 x5]) hsB)
    replace BB := Lib.hid (BB.out.alloc BB.out.size (.cells #[Value.int IntKind.i64 x0, Value.int IntKind.i64 x1, Value.int IntKind.i64 x2, Value.int IntKind.i64 x3, Value.int IntKind.i64 x4, Value.int IntKind.i64 x5] 43))
    replace sz : w.heap.size + 1 + 1 + 1 ≤ (wv.alloc (.cells #[Value.int IntKind.i64 x0, Value.int IntKind.i64 x1, Value.int IntKind.i64 x2, Value.int IntKind.i64 x3, Value.int IntKind.i64 x4, Value.int IntKind.i64 x5] 43)).heap.size := by simp; omega
    replace R := KK.out.rules
    simp only [Rules] at R
    go_wp2_with fail
    clear hsB
    (with_reducible refine (HU2.out _ BB.out).mono ?_)
    rintro e wv ⟨rfl, hbv⟩
    replace BB := Lib.hid (BB.out.trans (hbv.mono BB.out.size))
    replace KK := Lib.hid (KK.out.below hbv)
    replace sz := Nat.le_trans sz hbv.size
    replace R := KK.out.rules
    simp only [Rules] at R
    clear hbv
    obtain ⟨sB, hsB⟩ : ∃ s, wv.heap.size = s := ⟨_, rfl⟩
    rw [hsB] at sz
    replace KK := Lib.hid (KK.out.new (t := 43) (c := #[Value.int IntKind.i64 y0, Value.int IntKind.i64 z1, Value.int IntKind.i64 y2, Value.int IntKind.i64 z3, Value.int IntKind.i64 y4, Value.int IntKind.i64 z5]) hsB)
    replace BB := Lib.hid (BB.out.alloc BB.out.size (.cells #[Value.int IntKind.i64 y0, Value.int IntKind.i64 z1, Value.int IntKind.i64 y2, Value.int IntKind.i64 z3, Value.int IntKind.i64 y4, Value.int IntKind.i64 z5] 43))
    replace sz : w.heap.size + 1 + 1 + 1 ≤ (wv.alloc (.cells #[Value.int IntKind.i64 y0, Value.int IntKind.i64 z1, Value.int IntKind.i64 y2, Value.int IntKind.i64 z3, Value.int IntKind.i64 y4, Value.int IntKind.i64 z5] 43)).heap.size := by simp; omega
    replace R := KK.out.rules
    simp only [Rules] at R
    go_wp2
    refine bodyPost_ret (v := Value.tuple #[.agg #[Value.int IntKind.i64 0, Value.int IntKind.i64 0, Value.int IntKind.i64 0, Value.int IntKind.i64 0, Value.int IntKind.i64 0, Value.int IntKind.i64 0], .int .i64 1]) (by simp [results, Try.results47, go_sem, R]) rfl ⟨rfl, ?_⟩
    exact ((((((BB.out.setCell (by first | (simp; done) | (simp; omega)) _).setCell (by first | (simp; done) | (simp; omega)) _).setCell (by first | (simp; done) | (simp; omega)) _).setCell (by first | (simp; done) | (simp; omega)) _).setCell (by first | (simp; done) | (simp; omega)) _).setCell (by first | (simp; done) | (simp; omega)) _)
  subst ho
  rw [show decide (v = v ∧ o = o) = true from decide_eq_true ⟨rfl, rfl⟩]
  simp only [okE_f, okE_t, false_and, and_false, true_and, Bool.false_eq_true, if_true, if_false, and_self] at *
  go_enter Try.func47, Try.ntmps47
  go_wp2_with fail
  obtain ⟨W0, hW, hs0, K0, B0⟩ := start3 w 24 24 43 #[Value.int IntKind.i64 v, Value.int IntKind.i64 k, Value.int IntKind.i64 p, Value.int IntKind.i64 o, Value.slice A1 n1 c1] #[Value.int IntKind.i64 v, Value.int IntKind.i64 k2, Value.int IntKind.i64 p2, Value.int IntKind.i64 o, Value.slice A2 n2 c2] #[Value.int IntKind.i64 0, Value.int IntKind.i64 0, Value.int IntKind.i64 0, Value.int IntKind.i64 0, Value.int IntKind.i64 0, Value.int IntKind.i64 0]
  rw [hW]
  clear hW
  have KK := Lib.hid K0
  have BB := Lib.hid B0
  have sz : w.heap.size + 1 + 1 + 1 ≤ W0.heap.size := by omega
  have R := K0.rules
  simp only [Rules] at R
  clear K0 B0 hs0
  (with_reducible refine (HU1.out _ BB.out).mono ?_)
  rintro e wv ⟨rfl, hbv⟩
  replace BB := Lib.hid (BB.out.trans (hbv.mono BB.out.size))
  replace KK := Lib.hid (KK.out.below hbv)
  replace sz := Nat.le_trans sz hbv.size
  replace R := KK.out.rules
  simp only [Rules] at R
  clear hbv
  obtain ⟨sB, hsB⟩ : ∃ s, wv.heap.size = s := ⟨_, rfl⟩
  rw [hsB] at sz
  replace KK := Lib.hid (KK.out.new (t := 43) (c := #[Value.int IntKind.i64 x0, Value.int IntKind.i64 x1, Value.int IntKind.i64 x2, Value.int IntKind.i64 x3, Value.int IntKind.i64 x4, Value.int IntKind.i64 x5]) hsB)
  replace BB := Lib.hid (BB.out.alloc BB.out.size (.cells #[Value.int IntKind.i64 x0, Value.int IntKind.i64 x1, Value.int IntKind.i64 x2, Value.int IntKind.i64 x3, Value.int IntKind.i64 x4, Value.int IntKind.i64 x5] 43))
  replace sz : w.heap.size + 1 + 1 + 1 ≤ (wv.alloc (.cells #[Value.int IntKind.i64 x0, Value.int IntKind.i64 x1, Value.int IntKind.i64 x2, Value.int IntKind.i64 x3, Value.int IntKind.i64 x4, Value.int IntKind.i64 x5] 43)).heap.size := by simp; omega
  replace R := KK.out.rules
  simp only [Rules] at R
  go_wp2_with fail
  clear hsB
  (with_reducible refine (HU2.out _ BB.out).mono ?_)
  rintro e wv ⟨rfl, hbv⟩
  replace BB := Lib.hid (BB.out.trans (hbv.mono BB.out.size))
  replace KK := Lib.hid (KK.out.below hbv)
  replace sz := Nat.le_trans sz hbv.size
  replace R := KK.out.rules
  simp only [Rules] at R
  clear hbv
  obtain ⟨sB, hsB⟩ : ∃ s, wv.heap.size = s := ⟨_, rfl⟩
  rw [hsB] at sz
  replace KK := Lib.hid (KK.out.new (t := 43) (c := #[Value.int IntKind.i64 y0, Value.int IntKind.i64 z1, Value.int IntKind.i64 y2, Value.int IntKind.i64 z3, Value.int IntKind.i64 y4, Value.int IntKind.i64 z5]) hsB)
  replace BB := Lib.hid (BB.out.alloc BB.out.size (.cells #[Value.int IntKind.i64 y0, Value.int IntKind.i64 z1, Value.int IntKind.i64 y2, Value.int IntKind.i64 z3, Value.int IntKind.i64 y4, Value.int IntKind.i64 z5] 43))
  replace sz : w.heap.size + 1 + 1 + 1 ≤ (wv.alloc (.cells #[Value.int IntKind.i64 y0, Value.int IntKind.i64 z1, Value.int IntKind.i64 y2, Value.int IntKind.i64 z3, Value.int IntKind.i64 y4, Value.int IntKind.i64 z5] 43)).heap.size := by simp; omega
  replace R := KK.out.rules
  simp only [Rules] at R
  go_wp2_with fail
  clear hsB
  (with_reducible refine (HA.out _).mono ?_)
  rintro e wv ⟨rfl, hbv⟩
  replace BB := Lib.hid (BB.out.trans (hbv.mono BB.out.size))
  replace KK := Lib.hid (KK.out.below hbv)
  replace sz := Nat.le_trans sz hbv.size
  replace R := KK.out.rules
  simp only [Rules] at R
  clear hbv
  obtain ⟨sB, hsB⟩ : ∃ s, wv.heap.size = s := ⟨_, rfl⟩
  rw [hsB] at sz
  replace KK := Lib.hid (KK.out.new (t := 43) (c := #[Value.int IntKind.i64 g0, Value.int IntKind.i64 g1, Value.int IntKind.i64 g2, Value.int IntKind.i64 g3, Value.int IntKind.i64 g4, Value.int IntKind.i64 g5]) hsB)
  replace BB := Lib.hid (BB.out.alloc BB.out.size (.cells #[Value.int IntKind.i64 g0, Value.int IntKind.i64 g1, Value.int IntKind.i64 g2, Value.int IntKind.i64 g3, Value.int IntKind.i64 g4, Value.int IntKind.i64 g5] 43))
  replace sz : w.heap.size + 1 + 1 + 1 ≤ (wv.alloc (.cells #[Value.int IntKind.i64 g0, Value.int IntKind.i64 g1, Value.int IntKind.i64 g2, Value.int IntKind.i64 g3, Value.int IntKind.i64 g4, Value.int IntKind.i64 g5] 43)).heap.size := by simp; omega
  replace R := KK.out.rules
  simp only [Rules] at R
  go_wp2
  refine bodyPost_ret (v := Value.tuple #[.agg #[Value.int IntKind.i64 g0, Value.int IntKind.i64 g1, Value.int IntKind.i64 g2, Value.int IntKind.i64 g3, Value.int IntKind.i64 g4, Value.int IntKind.i64 g5], .int .i64 0]) (by simp [results, Try.results47, go_sem, R]) rfl ⟨rfl, ?_⟩
  exact ((((((BB.out.setCell (by first | (simp; done) | (simp; omega)) _).setCell (by first | (simp; done) | (simp; omega)) _).setCell (by first | (simp; done) | (simp; omega)) _).setCell (by first | (simp; done) | (simp; omega)) _).setCell (by first | (simp; done) | (simp; omega)) _).setCell (by first | (simp; done) | (simp; omega)) _)
end Go.Proofs.Ytofgjcfiinmimaa.cst
