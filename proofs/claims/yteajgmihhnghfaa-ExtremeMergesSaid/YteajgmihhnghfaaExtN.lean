/- Contract of the reference's Merge of deques, at any states. -/
import Derived.Test.YteajgmihhnghfaaExtM
import Derived.Test.YteajgmihhnghfaaExtE
namespace Go.Proofs.Yteajgmihhnghfaa.ext
open Go.RowKit Go.Proofs.Yteajgmihhnghfaa.mem Go.Proofs.Yteajgmihhnghfaa.gro
open Go.Proofs.Yteajgmihhnghfaa.buk (at_)
open Go.Proofs.Yteajgmihhnghfaa.lst (own_new NewF newF_own)
set_option linter.unusedVariables false
set_option linter.unusedSimpArgs false
set_option maxHeartbeats 8000000 in
set_option maxRecDepth 100000 in
theorem MergeR_f (m : Bool) (v p o : Int) (m2 : Bool) (v2 p2 o2 : Int) (A1 : Option Addr) (n1 c1 : Nat) (xs : L2) (A2 : Option Addr) (n2 c2 : Nat) (ys : L2) (w : World) (h1 : PRead w w.heap.size A1 n1 xs) (hnc1 : n1 ≤ c1) (hcm1 : c1 ≤ maxLen) (hs1 : n1 ≤ 400) (h2 : PRead w w.heap.size A2 n2 ys) (hnc2 : n2 ≤ c2) (hcm2 : c2 ≤ maxLen) (hs2 : n2 ≤ 400) :
    Calls Try.prog 30 #[.agg #[Value.bool m, Value.int IntKind.i64 v, Value.int IntKind.i64 p, Value.int IntKind.i64 o, Value.slice A1 n1 c1], .agg #[Value.bool m2, Value.int IntKind.i64 v2, Value.int IntKind.i64 p2, Value.int IntKind.i64 o2, Value.slice A2 n2 c2]] w (NewE (kb (valE m v p o xs && (valE m2 v2 p2 o2 ys && (decide (m = m2 ∧ v = v2 ∧ o = o2) && !decide (max p p2 < ((keptN m (xs ++ ys) (n1 + n2)).length : Int))))) m) (kp (valE m v p o xs && (valE m2 v2 p2 o2 ys && (decide (m = m2 ∧ v = v2 ∧ o = o2) && !decide (max p p2 < ((keptN m (xs ++ ys) (n1 + n2)).length : Int))))) v) (kp (valE m v p o xs && (valE m2 v2 p2 o2 ys && (decide (m = m2 ∧ v = v2 ∧ o = o2) && !decide (max p p2 < ((keptN m (xs ++ ys) (n1 + n2)).length : Int))))) (max p p2)) (kp (valE m v p o xs && (valE m2 v2 p2 o2 ys && (decide (m = m2 ∧ v = v2 ∧ o = o2) && !decide (max p p2 < ((keptN m (xs ++ ys) (n1 + n2)).length : Int))))) o) (lsK (valE m v p o xs && (valE m2 v2 p2 o2 ys && (decide (m = m2 ∧ v = v2 ∧ o = o2) && !decide (max p p2 < ((keptN m (xs ++ ys) (n1 + n2)).length : Int))))) (keptN m (xs ++ ys) (n1 + n2))) (mgE (valE m v p o xs) (valE m2 v2 p2 o2 ys) (decide (m = m2 ∧ v = v2 ∧ o = o2)) (decide (max p p2 < ((keptN m (xs ++ ys) (n1 + n2)).length : Int)))) w) := by
  have hcm19 : c1 ≤ 9223372036854775807 := hcm1
  have hcm29 : c2 ≤ 9223372036854775807 := hcm2
  have HV1 := Lib.hid (fun W (hb : Below w.heap.size w W) => ValidateR_any m v p o A1 n1 c1 xs W ((h1.below hb).more hb.size) (by omega))
  have HV2 := Lib.hid (fun W (hb : Below w.heap.size w W) => ValidateR_any m2 v2 p2 o2 A2 n2 c2 ys W ((h2.below hb).more hb.size) (by omega))
  have G1 := Lib.hid (fun h : valE m v p o xs = true => And.intro (valE_good h) (mayB_iff.1 (valE_iff.1 h).1).2.1)
  have G2 := Lib.hid (fun h : valE m2 v2 p2 o2 ys = true => And.intro (valE_good h) (mayB_iff.1 (valE_iff.1 h).1).2.1)
  have H1 := Lib.hid h1
  have H2 := Lib.hid h2
  have HL1 := Lib.hid h1.len
  have HL2 := Lib.hid h2.len
  clear h1 h2 hcm1 hcm2
  generalize valE m v p o xs = f1 at *
  generalize valE m2 v2 p2 o2 ys = f2 at *
  cases f1
  case false =>
    clear HV2 G1 G2 H1 H2 HL1 HL2
    simp only [erV_t, erV_f, kp_t, kp_f, kb_t, kb_f, lsK_t, lsK_f, mgE_1, mgE_2, mgE_3, mgE_4, mgE_5, Bool.false_and, Bool.true_and, Bool.and_false, Bool.and_true, Bool.not_true, Bool.not_false] at *
    go_enter Try.func30, Try.ntmps30
    go_wp2_with fail
    obtain ⟨W0, hW, hs0, K0, B0⟩ := start3 w 24 24 24 #[Value.bool m, Value.int IntKind.i64 v, Value.int IntKind.i64 p, Value.int IntKind.i64 o, Value.slice A1 n1 c1] #[Value.bool m2, Value.int IntKind.i64 v2, Value.int IntKind.i64 p2, Value.int IntKind.i64 o2, Value.slice A2 n2 c2] #[Value.bool false, Value.int IntKind.i64 0, Value.int IntKind.i64 0, Value.int IntKind.i64 0, Value.slice none 0 0]
    rw [hW]
    clear hW
    have KK := Lib.hid K0
    have BB := Lib.hid B0
    have sz : w.heap.size + 1 + 1 + 1 ≤ W0.heap.size := by omega
    have R := K0.rules
    simp only [Rules] at R
    clear K0 B0 hs0
    (with_reducible refine (HV1.out _ BB.out).mono ?_)
    rintro e wv ⟨rfl, hbv⟩
    replace BB := Lib.hid (BB.out.trans (hbv.mono BB.out.size))
    replace KK := Lib.hid (KK.out.below hbv)
    replace sz := Nat.le_trans sz hbv.size
    replace R := KK.out.rules
    simp only [Rules] at R
    clear hbv
    go_wp2
    refine bodyPost_ret (v := Value.tuple #[.agg #[Value.bool false, Value.int IntKind.i64 0, Value.int IntKind.i64 0, Value.int IntKind.i64 0, Value.slice none 0 0], .int .i64 2]) (by simp [results, Try.results30, go_sem, R]) rfl ⟨none, 0, 0, rfl, Nat.le_refl _, ⟨Nat.zero_le _, fun ad h => by cases h⟩, PRead.nil_, ?_⟩
    exact (((((BB.out.setCell (by first | (simp; done) | (simp; omega)) _).setCell (by first | (simp; done) | (simp; omega)) _).setCell (by first | (simp; done) | (simp; omega)) _).setCell (by first | (simp; done) | (simp; omega)) _).setCell (by first | (simp; done) | (simp; omega)) _)
  cases f2
  case false =>
    clear G1 G2 H1 H2 HL1 HL2
    simp only [erV_t, erV_f, kp_t, kp_f, kb_t, kb_f, lsK_t, lsK_f, mgE_1, mgE_2, mgE_3, mgE_4, mgE_5, Bool.false_and, Bool.true_and, Bool.and_false, Bool.and_true, Bool.not_true, Bool.not_false] at *
    go_enter Try.func30, Try.ntmps30
    go_wp2_with fail
    obtain ⟨W0, hW, hs0, K0, B0⟩ := start3 w 24 24 24 #[Value.bool m, Value.int IntKind.i64 v, Value.int IntKind.i64 p, Value.int IntKind.i64 o, Value.slice A1 n1 c1] #[Value.bool m2, Value.int IntKind.i64 v2, Value.int IntKind.i64 p2, Value.int IntKind.i64 o2, Value.slice A2 n2 c2] #[Value.bool false, Value.int IntKind.i64 0, Value.int IntKind.i64 0, Value.int IntKind.i64 0, Value.slice none 0 0]
    rw [hW]
    clear hW
    have KK := Lib.hid K0
    have BB := Lib.hid B0
    have sz : w.heap.size + 1 + 1 + 1 ≤ W0.heap.size := by omega
    have R := K0.rules
    simp only [Rules] at R
    clear K0 B0 hs0
    (with_reducible refine (HV1.out _ BB.out).mono ?_)
    rintro e wv ⟨rfl, hbv⟩
    replace BB := Lib.hid (BB.out.trans (hbv.mono BB.out.size))
    replace KK := Lib.hid (KK.out.below hbv)
    replace sz := Nat.le_trans sz hbv.size
    replace R := KK.out.rules
    simp only [Rules] at R
    clear hbv
    go_wp2_with fail
    (with_reducible refine (HV2.out _ BB.out).mono ?_)
    rintro e wv ⟨rfl, hbv⟩
    replace BB := Lib.hid (BB.out.trans (hbv.mono BB.out.size))
    replace KK := Lib.hid (KK.out.below hbv)
    replace sz := Nat.le_trans sz hbv.size
    replace R := KK.out.rules
    simp only [Rules] at R
    clear hbv
    go_wp2
    refine bodyPost_ret (v := Value.tuple #[.agg #[Value.bool false, Value.int IntKind.i64 0, Value.int IntKind.i64 0, Value.int IntKind.i64 0, Value.slice none 0 0], .int .i64 2]) (by simp [results, Try.results30, go_sem, R]) rfl ⟨none, 0, 0, rfl, Nat.le_refl _, ⟨Nat.zero_le _, fun ad h => by cases h⟩, PRead.nil_, ?_⟩
    exact (((((BB.out.setCell (by first | (simp; done) | (simp; omega)) _).setCell (by first | (simp; done) | (simp; omega)) _).setCell (by first | (simp; done) | (simp; omega)) _).setCell (by first | (simp; done) | (simp; omega)) _).setCell (by first | (simp; done) | (simp; omega)) _)
  by_cases hm : m = m2
  case neg =>
    rw [decide_eq_false (fun h => hm h.1)]
    clear G1 G2 H1 H2 HL1 HL2
    have hmm : (m == m2) = false := by simpa using hm
    have hmn : (m != m2) = true := by simpa using hm
    simp only [erV_t, erV_f, kp_t, kp_f, kb_t, kb_f, lsK_t, lsK_f, mgE_1, mgE_2, mgE_3, mgE_4, mgE_5, Bool.false_and, Bool.true_and, Bool.and_false, Bool.and_true, Bool.not_true, Bool.not_false] at *
    go_enter Try.func30, Try.ntmps30
    go_wp2_with fail
    obtain ⟨W0, hW, hs0, K0, B0⟩ := start3 w 24 24 24 #[Value.bool m, Value.int IntKind.i64 v, Value.int IntKind.i64 p, Value.int IntKind.i64 o, Value.slice A1 n1 c1] #[Value.bool m2, Value.int IntKind.i64 v2, Value.int IntKind.i64 p2, Value.int IntKind.i64 o2, Value.slice A2 n2 c2] #[Value.bool false, Value.int IntKind.i64 0, Value.int IntKind.i64 0, Value.int IntKind.i64 0, Value.slice none 0 0]
    rw [hW]
    clear hW
    have KK := Lib.hid K0
    have BB := Lib.hid B0
    have sz : w.heap.size + 1 + 1 + 1 ≤ W0.heap.size := by omega
    have R := K0.rules
    simp only [Rules] at R
    clear K0 B0 hs0
    (with_reducible refine (HV1.out _ BB.out).mono ?_)
    rintro e wv ⟨rfl, hbv⟩
    replace BB := Lib.hid (BB.out.trans (hbv.mono BB.out.size))
    replace KK := Lib.hid (KK.out.below hbv)
    replace sz := Nat.le_trans sz hbv.size
    replace R := KK.out.rules
    simp only [Rules] at R
    clear hbv
    go_wp2_with fail
    (with_reducible refine (HV2.out _ BB.out).mono ?_)
    rintro e wv ⟨rfl, hbv⟩
    replace BB := Lib.hid (BB.out.trans (hbv.mono BB.out.size))
    replace KK := Lib.hid (KK.out.below hbv)
    replace sz := Nat.le_trans sz hbv.size
    replace R := KK.out.rules
    simp only [Rules] at R
    clear hbv
    go_wp2
    refine bodyPost_ret (v := Value.tuple #[.agg #[Value.bool false, Value.int IntKind.i64 0, Value.int IntKind.i64 0, Value.int IntKind.i64 0, Value.slice none 0 0], .int .i64 1]) (by simp [results, Try.results30, go_sem, R]) rfl ⟨none, 0, 0, rfl, Nat.le_refl _, ⟨Nat.zero_le _, fun ad h => by cases h⟩, PRead.nil_, ?_⟩
    exact (((((BB.out.setCell (by first | (simp; done) | (simp; omega)) _).setCell (by first | (simp; done) | (simp; omega)) _).setCell (by first | (simp; done) | (simp; omega)) _).setCell (by first | (simp; done) | (simp; omega)) _).setCell (by first | (simp; done) | (simp; omega)) _)
  subst hm
  by_cases hv : v = v2
  case neg =>
    rw [decide_eq_false (fun h => hv h.2.1)]
    have hvv : (v == v2) = false := by simpa using hv
    clear G1 G2 H1 H2 HL1 HL2
    simp only [erV_t, erV_f, kp_t, kp_f, kb_t, kb_f, lsK_t, lsK_f, mgE_1, mgE_2, mgE_3, mgE_4, mgE_5, Bool.false_and, Bool.true_and, Bool.and_false, Bool.and_true, Bool.not_true, Bool.not_false] at *
    go_enter Try.func30, Try.ntmps30
    go_wp2_with fail
    obtain ⟨W0, hW, hs0, K0, B0⟩ := start3 w 24 24 24 #[Value.bool m, Value.int IntKind.i64 v, Value.int IntKind.i64 p, Value.int IntKind.i64 o, Value.slice A1 n1 c1] #[Value.bool m, Value.int IntKind.i64 v2, Value.int IntKind.i64 p2, Value.int IntKind.i64 o2, Value.slice A2 n2 c2] #[Value.bool false, Value.int IntKind.i64 0, Value.int IntKind.i64 0, Value.int IntKind.i64 0, Value.slice none 0 0]
    rw [hW]
    clear hW
    have KK := Lib.hid K0
    have BB := Lib.hid B0
    have sz : w.heap.size + 1 + 1 + 1 ≤ W0.heap.size := by omega
    have R := K0.rules
    simp only [Rules] at R
    clear K0 B0 hs0
    (with_reducible refine (HV1.out _ BB.out).mono ?_)
    rintro e wv ⟨rfl, hbv⟩
    replace BB := Lib.hid (BB.out.trans (hbv.mono BB.out.size))
    replace KK := Lib.hid (KK.out.below hbv)
    replace sz := Nat.le_trans sz hbv.size
    replace R := KK.out.rules
    simp only [Rules] at R
    clear hbv
    go_wp2_with fail
    (with_reducible refine (HV2.out _ BB.out).mono ?_)
    rintro e wv ⟨rfl, hbv⟩
    replace BB := Lib.hid (BB.out.trans (hbv.mono BB.out.size))
    replace KK := Lib.hid (KK.out.below hbv)
    replace sz := Nat.le_trans sz hbv.size
    replace R := KK.out.rules
    simp only [Rules] at R
    clear hbv
    go_wp2
    refine bodyPost_ret (v := Value.tuple #[.agg #[Value.bool false, Value.int IntKind.i64 0, Value.int IntKind.i64 0, Value.int IntKind.i64 0, Value.slice none 0 0], .int .i64 1]) (by simp [results, Try.results30, go_sem, R]) rfl ⟨none, 0, 0, rfl, Nat.le_refl _, ⟨Nat.zero_le _, fun ad h => by cases h⟩, PRead.nil_, ?_⟩
    exact (((((BB.out.setCell (by first | (simp; done) | (simp; omega)) _).setCell (by first | (simp; done) | (simp; omega)) _).setCell (by first | (simp; done) | (simp; omega)) _).setCell (by first | (simp; done) | (simp; omega)) _).setCell (by first | (simp; done) | (simp; omega)) _)
  subst hv
  by_cases ho : o = o2
  case neg =>
    rw [decide_eq_false (fun h => ho h.2.2)]
    have hoo : (o == o2) = false := by simpa using ho
    clear G1 G2 H1 H2 HL1 HL2
    simp only [erV_t, erV_f, kp_t, kp_f, kb_t, kb_f, lsK_t, lsK_f, mgE_1, mgE_2, mgE_3, mgE_4, mgE_5, Bool.false_and, Bool.true_and, Bool.and_false, Bool.and_true, Bool.not_true, Bool.not_false] at *
    go_enter Try.func30, Try.ntmps30
    go_wp2_with fail
    obtain ⟨W0, hW, hs0, K0, B0⟩ := start3 w 24 24 24 #[Value.bool m, Value.int IntKind.i64 v, Value.int IntKind.i64 p, Value.int IntKind.i64 o, Value.slice A1 n1 c1] #[Value.bool m, Value.int IntKind.i64 v, Value.int IntKind.i64 p2, Value.int IntKind.i64 o2, Value.slice A2 n2 c2] #[Value.bool false, Value.int IntKind.i64 0, Value.int IntKind.i64 0, Value.int IntKind.i64 0, Value.slice none 0 0]
    rw [hW]
    clear hW
    have KK := Lib.hid K0
    have BB := Lib.hid B0
    have sz : w.heap.size + 1 + 1 + 1 ≤ W0.heap.size := by omega
    have R := K0.rules
    simp only [Rules] at R
    clear K0 B0 hs0
    (with_reducible refine (HV1.out _ BB.out).mono ?_)
    rintro e wv ⟨rfl, hbv⟩
    replace BB := Lib.hid (BB.out.trans (hbv.mono BB.out.size))
    replace KK := Lib.hid (KK.out.below hbv)
    replace sz := Nat.le_trans sz hbv.size
    replace R := KK.out.rules
    simp only [Rules] at R
    clear hbv
    go_wp2_with fail
    (with_reducible refine (HV2.out _ BB.out).mono ?_)
    rintro e wv ⟨rfl, hbv⟩
    replace BB := Lib.hid (BB.out.trans (hbv.mono BB.out.size))
    replace KK := Lib.hid (KK.out.below hbv)
    replace sz := Nat.le_trans sz hbv.size
    replace R := KK.out.rules
    simp only [Rules] at R
    clear hbv
    go_wp2
    refine bodyPost_ret (v := Value.tuple #[.agg #[Value.bool false, Value.int IntKind.i64 0, Value.int IntKind.i64 0, Value.int IntKind.i64 0, Value.slice none 0 0], .int .i64 1]) (by simp [results, Try.results30, go_sem, R]) rfl ⟨none, 0, 0, rfl, Nat.le_refl _, ⟨Nat.zero_le _, fun ad h => by cases h⟩, PRead.nil_, ?_⟩
    exact (((((BB.out.setCell (by first | (simp; done) | (simp; omega)) _).setCell (by first | (simp; done) | (simp; omega)) _).setCell (by first | (simp; done) | (simp; omega)) _).setCell (by first | (simp; done) | (simp; omega)) _).setCell (by first | (simp; done) | (simp; omega)) _)
  subst ho
  rw [decide_eq_true (show m = m ∧ v = v ∧ o = o from ⟨rfl, rfl, rfl⟩)]
  obtain ⟨hg1, hp1⟩ := G1.out rfl
  obtain ⟨hg2, hp2⟩ := G2.out rfl
  clear G1 G2
  have HK := Lib.hid (fun A n c xs W h1 hs => Kept_f m A n c xs W h1 hs)
  have hkl := keptN_len m (xs ++ ys) (n1 + n2)
  clear hg1 hg2
  generalize hla : keptN m (xs ++ ys) (n1 + n2) = la at *
  have HE1 : Hid (keptN m (xs ++ ys) (n1 + n2) = la) := hla
  clear hla
  obtain ⟨mx, hmx⟩ : ∃ mx, max p p2 = mx := ⟨_, rfl⟩
  rw [hmx]
  have hmxb : mx ≤ 65536 := by omega
  have hmx2 : (if p < p2 then p2 else p) = mx := by rw [← hmx]; split <;> omega
  obtain ⟨i0, hi0, hz0, hz1, hz2⟩ := info_parts item_info
  have HI := Lib.hid hi0
  have HZ0 := Lib.hid hz0
  have HZ1 := Lib.hid hz1
  have HZ2 := Lib.hid hz2
  clear hi0 hz0 hz1 hz2
  simp only [erV_t, erV_f, kp_t, kp_f, kb_t, kb_f, lsK_t, lsK_f, mgE_1, mgE_2, mgE_3, mgE_4, mgE_5, Bool.false_and, Bool.true_and, Bool.and_false, Bool.and_true, Bool.not_true, Bool.not_false] at HV1 HV2 ⊢
  go_enter Try.func30, Try.ntmps30
  go_wp2_with fail
  obtain ⟨W0, hW, hs0, K0, B0⟩ := start3 w 24 24 24 #[Value.bool m, Value.int IntKind.i64 v, Value.int IntKind.i64 p, Value.int IntKind.i64 o, Value.slice A1 n1 c1] #[Value.bool m, Value.int IntKind.i64 v, Value.int IntKind.i64 p2, Value.int IntKind.i64 o, Value.slice A2 n2 c2] #[Value.bool false, Value.int IntKind.i64 0, Value.int IntKind.i64 0, Value.int IntKind.i64 0, Value.slice none 0 0]
  rw [hW]
  clear hW
  have KK := Lib.hid K0
  have BB := Lib.hid B0
  have sz : w.heap.size + 1 + 1 + 1 ≤ W0.heap.size := by omega
  have R := K0.rules
  simp only [Rules] at R
  clear K0 B0 hs0
  (with_reducible refine (HV1.out _ BB.out).mono ?_)
  rintro e wv ⟨rfl, hbv⟩
  replace BB := Lib.hid (BB.out.trans (hbv.mono BB.out.size))
  replace KK := Lib.hid (KK.out.below hbv)
  replace sz := Nat.le_trans sz hbv.size
  replace R := KK.out.rules
  simp only [Rules] at R
  clear hbv
  go_wp2_with fail
  (with_reducible refine (HV2.out _ BB.out).mono ?_)
  rintro e W8 ⟨rfl, hbv⟩
  replace BB := Lib.hid (BB.out.trans (hbv.mono BB.out.size))
  replace KK := Lib.hid (KK.out.below hbv)
  replace sz := Nat.le_trans sz hbv.size
  replace R := KK.out.rules
  simp only [Rules] at R
  clear hbv
  go_wp2_with fail
  clear R
  have HR1 := Lib.hid ((H1.out.below BB.out).more BB.out.size)
  have HR2 := Lib.hid ((H2.out.below BB.out).more BB.out.size)
  (refine gro.wp_region_heldA [1, 2, 4, 5, 7, 8] 5 10 _ (gro.lasts_bx _) (by kernel_rfl) (by kernel_rfl) (by intro _ _ _ _ _ h; exact h) (by kernel_rfl) (by kernel_rfl) (by kernel_rfl) (by kernel_rfl) (by kernel_rfl) (by decide) (KK.out).drew ?_; apply Exists.intro; refine ⟨fun w0 hb0 => ?_, ?_⟩; focus (have RZ := gro.Bx.rules hb0; simp only [gro.Rules] at RZ; simp only [gro.pickA, List.filterMap_cons, List.filterMap_nil, List.getElem?_toArray, List.getElem?_cons_succ, List.getElem?_cons_zero]; change wpQuiet _ _ _ _ (_ :: _ :: _ :: _ :: _ :: _ ::  []) _; (repeat (go_big_quiet_step ((fail)))); exact wpQuiet_nil rfl))
  have KX0 := KK.out.drew
  have BZ0 : Below W8.heap.size W8 W8.drew := (Below.refl _ _).drew
  refine gro.anyM_one 0 (by kernel_rfl) rfl ?_
  intro y1 hz1 K' hK'
  have BZ1 := BZ0.trans (hz1.mono BZ0.size)
  go_simp
  refine hK' _ _ ⟨fun _ => (KK.out.below BZ1).alloc _, ?_⟩
  clear hK' K'
  obtain ⟨z1, hy1⟩ : ∃ z, y1.alloc (.cells #[] 40) = z := ⟨_, rfl⟩
  have hA1 : Below y1.heap.size y1 z1 := by rw [← hy1]; exact (Below.refl _ _).alloc (Nat.le_refl _) _
  have BA1 := BZ1.trans (hA1.mono BZ1.size)
  have HV1 : z1.ownsRow W8.heap.size 40 2 (.slice (some ⟨y1.heap.size, 0, none⟩) 0 0) 0 [] := by rw [← hy1]; exact own_empty2 rfl BZ1.size
  rw [hy1]
  clear hz1 hA1 hy1
  refine gro.anyM_one 3 (by kernel_rfl) rfl ?_
  intro y2 hz2 K' hK'
  have BZ2 := BA1.trans (hz2.mono BA1.size)
  have HU2 := own_keep HV1 hz2
  refine step_append_any _ (by rfl) (.tmp 41) (.tmp 43) 22 rfl W8.heap.size 40 i0 (.agg #[.int .i64 0, .int .i64 0]) 2 16 Try.underlying22 HI.out HZ0.out HZ1.out HZ2.out rfl (by omega) (.slice (some ⟨y1.heap.size, 0, none⟩) 0 0) (0) ([]) (by rfl) HU2 _ A1 (n1) (c1) (pc xs) (by rfl) (Reads.below (HR1.out) BZ2) (pc_oneCell _) (by unfold maxLen; omega) (by omega) BZ2.size ?_
  intro v2 w2 hown2 hg2 hat2
  have BG2 := below_own hg2 HU2 BZ2 (Nat.le_refl _) BZ2.size
  refine hK' _ _ ⟨fun _ => KK.out.below BG2, ?_⟩
  clear hK' K' hg2 hat2
  refine gro.anyM_one 6 (by kernel_rfl) rfl ?_
  intro y3 hz3 K' hK'
  have BZ3 := BG2.trans (hz3.mono BG2.size)
  have HU3 := own_keep hown2 hz3
  refine step_append_any _ (by rfl) (.tmp 44) (.tmp 46) 22 rfl W8.heap.size 40 i0 (.agg #[.int .i64 0, .int .i64 0]) 2 16 Try.underlying22 HI.out HZ0.out HZ1.out HZ2.out rfl (by omega) v2 (0 + (n1)) ([] ++ (pc xs)) (by rfl) HU3 _ A2 (n2) (c2) (pc ys) (by rfl) (Reads.below (HR2.out) BZ3) (pc_oneCell _) (by unfold maxLen; omega) (by omega) BZ3.size ?_
  intro v3 w3 hown3 hg3 hat3
  have BG3 := below_own hg3 HU3 BZ3 (Nat.le_refl _) BZ3.size
  refine hK' _ _ ⟨fun _ => KK.out.below BG3, ?_⟩
  clear hK' K' hg3 hat3
  refine gro.anyM_one 9 (by kernel_rfl) rfl ?_
  intro y4 hz4 K' hK'
  have BZ4 := BG3.trans (hz4.mono BG3.size)
  have HU4 := own_keep hown3 hz4
  go_simp
  obtain ⟨A5, c5, rfl, e1, e2, e3⟩ := own_form HU4
  have hpl : Hid (PRead y4 y4.heap.size A5 (0 + (n1) + (n2)) (xs ++ ys)) := by
    have h : Reads y4 y4.heap.size 2 A5 (0 + (n1) + (n2)) ([] ++ (pc xs) ++ (pc ys)) := e3
    have e : [] ++ (pc xs) ++ (pc ys) = pc (xs ++ ys) := by rw [pc_append]; simp
    rw [Hid, PRead, ← e]
    exact h
  (refine (HK.out A5 (0 + (n1) + (n2)) c5 (xs ++ ys) _ hpl.out (by omega)).mono ?_)
  rintro e w4 ⟨A6, l6, c6, rfl, r1, ⟨r2, fr⟩, hr, hb⟩
  rw [show 0 + (n1) + (n2) = n1 + n2 from by omega, HE1.out] at hr
  have BC4 := BZ4.trans (hb.mono BZ4.size)
  have fr6 : ∀ ad, A6 = some ad → W8.heap.size ≤ ad.block := fun ad h => Nat.le_trans BZ4.size (fr ad h)
  refine hK' _ _ ⟨fun _ => KK.out.below BC4, ?_⟩
  clear hK' K' hz4 e1 e2 e3 hpl
  refine gro.anyM_one 10 (by kernel_rfl) rfl ?_
  intro y5 hz5 K' hK'
  have BZ5 := BC4.trans (hz5.mono BC4.size)
  go_simp
  refine hK' _ _ ⟨fun h => absurd (show true = false from h) (by decide), ?_⟩
  clear hK' K'
  refine gro.anyM_done (by kernel_rfl) ?_
  intro y6 hz6
  have BF := BZ5.trans (hz6.mono BZ5.size)
  have HR6 := Lib.hid ((hr.below (hz5.trans (hz6.mono hz5.size))).more (hz5.trans (hz6.mono hz5.size)).size)
  replace KK := Lib.hid (KK.out.below BF)
  replace BB := Lib.hid (BB.out.trans (BF.mono BB.out.size))
  clear KX0 HR1 HR2
  have R := KK.out.rules
  simp only [Rules] at R
  have hl6 := PRead.len (xs := la) HR6.out
  have hmz : l6 ≤ 800 := by omega
  by_cases hfu : mx < (la.length : Int)
  case pos =>
    have hfu2 : mx < (l6 : Int) := by omega
    rw [decide_eq_true hfu] at *
    simp only [kp_f, kb_f, lsK_f, mgE_4, Bool.true_and, Bool.and_false, Bool.not_true] at *
    go_wp2
    refine bodyPost_ret (v := Value.tuple #[.agg #[Value.bool false, Value.int IntKind.i64 0, Value.int IntKind.i64 0, Value.int IntKind.i64 0, Value.slice none 0 0], .int .i64 5]) (by simp [results, Try.results30, go_sem, R]) rfl ⟨none, 0, 0, rfl, Nat.le_refl _, ⟨Nat.zero_le _, fun ad h => by cases h⟩, PRead.nil_, ?_⟩
    exact (((((BB.out.setCell (by first | (simp; done) | (simp; omega)) _).setCell (by first | (simp; done) | (simp; omega)) _).setCell (by first | (simp; done) | (simp; omega)) _).setCell (by first | (simp; done) | (simp; omega)) _).setCell (by first | (simp; done) | (simp; omega)) _)
  rw [decide_eq_false hfu] at *
  have hfu2 : ¬ mx < (l6 : Int) := by omega
  simp only [kp_t, kb_t, lsK_t, mgE_5, Bool.true_and, Bool.and_true, Bool.not_false] at *
  go_wp2
  refine bodyPost_ret (v := Value.tuple #[.agg #[Value.bool m, Value.int IntKind.i64 v, Value.int IntKind.i64 mx, Value.int IntKind.i64 o, Value.slice A6 l6 c6], .int .i64 0]) (by simp [results, Try.results30, go_sem, R]) rfl ⟨A6, l6, c6, rfl, r1, ⟨r2, fun ad h => by have := fr6 ad h; omega⟩, ?_, ?_⟩
  · exact PRead.sz ((PRead.far (PRead.far (PRead.far (PRead.far (PRead.far HR6.out ⟨w.heap.size + 1 + 1, 0, none⟩ (fun h0 ad h => by have := fr6 ad h; simp; omega) _) ⟨w.heap.size + 1 + 1, 1, none⟩ (fun h0 ad h => by have := fr6 ad h; simp; omega) _) ⟨w.heap.size + 1 + 1, 2, none⟩ (fun h0 ad h => by have := fr6 ad h; simp; omega) _) ⟨w.heap.size + 1 + 1, 3, none⟩ (fun h0 ad h => by have := fr6 ad h; simp; omega) _) ⟨w.heap.size + 1 + 1, 4, none⟩ (fun h0 ad h => by have := fr6 ad h; simp; omega) _)) (by simp [World.setCell])
  · exact (((((BB.out.setCell (by first | (simp; done) | (simp; omega)) _).setCell (by first | (simp; done) | (simp; omega)) _).setCell (by first | (simp; done) | (simp; omega)) _).setCell (by first | (simp; done) | (simp; omega)) _).setCell (by first | (simp; done) | (simp; omega)) _)
end Go.Proofs.Yteajgmihhnghfaa.ext
