/- Contract of Merge of deques, at any states. -/
import Derived.Test.YteajgmihhnghfaaExtM
import Derived.Test.YteajgmihhnghfaaExtE
import Derived.OneCell
namespace Go.Proofs.Yteajgmihhnghfaa.ext
open Go.RowKit Go.Proofs.Yteajgmihhnghfaa.mem Go.Proofs.Yteajgmihhnghfaa.gro
open Go.Proofs.Yteajgmihhnghfaa.buk (at_)
open Go.Proofs.Yteajgmihhnghfaa.lst (own_new NewF newF_own)
set_option linter.unusedVariables false
set_option linter.unusedSimpArgs false
theorem PRead.cells {w W : World} {A : Option Addr} {n : Nat} {xs : L2} (h : PRead w w.heap.size A n xs) {i : Nat} (hi : i < n) : ∃ ad, A = some ad ∧ ad.block < w.heap.size ∧ ∀ W, Below w.heap.size w W → W.cell? (ad.add (i * 2)) = some (.int .i64 (at_ xs i).1) ∧ W.cell? ⟨(ad.add (i * 2)).block, (ad.add (i * 2)).off + 1, none⟩ = some (.int .i64 (at_ xs i).2) := by
  obtain ⟨ad, e, hb, h1, h2⟩ := PRead.at_ h hi
  refine ⟨ad, e, hb, fun W hB => ⟨?_, ?_⟩⟩
  · rw [hB.cell (p := ad.add (i * 2)) (by rw [block_of_add]; exact hb)]; exact h1
  · rw [hB.cell (p := ⟨(ad.add (i * 2)).block, (ad.add (i * 2)).off + 1, none⟩) (by show (ad.add (i * 2)).block < _; rw [block_of_add]; exact hb)]; exact h2
theorem own_off2 {W : World} {base : Nat} {e : TypeId} {size n gi : Nat} {u u0 u1 : Value} {xs : List Value} (h : W.ownsRow base e size u n xs) (ho : ∀ k, u.ownBlock = some k → k ≠ gi) : ((W.setCell ⟨gi, 0, none⟩ u0).setCell ⟨gi, 1, none⟩ u1).ownsRow base e size u n xs :=
  ownsRow_setCell_other (ownsRow_setCell_other h (a := ⟨gi, 0, none⟩) (fun e => ho _ e rfl) _) (a := ⟨gi, 1, none⟩) (fun e => ho _ e rfl) _
theorem Bx.app3 {W w1 : World} {L : List (Nat × TypeId × Array Value)} {row : Option Nat} (h : Bx W L) (hg : W.grownBy w1 row) (hd : ∀ p ∈ L, some p.1 ≠ row) : Bx w1 L := fun p hp => (h p hp).grown hg (hd p hp)
set_option maxHeartbeats 8000000 in
set_option maxRecDepth 100000 in
theorem Merge_f (m : Bool) (v p o : Int) (m2 : Bool) (v2 p2 o2 : Int) (A1 : Option Addr) (n1 c1 : Nat) (xs : L2) (A2 : Option Addr) (n2 c2 : Nat) (ys : L2) (w : World) (h1 : PRead w w.heap.size A1 n1 xs) (hnc1 : n1 ≤ c1) (hcm1 : c1 ≤ maxLen) (hs1 : n1 ≤ 400) (h2 : PRead w w.heap.size A2 n2 ys) (hnc2 : n2 ≤ c2) (hcm2 : c2 ≤ maxLen) (hs2 : n2 ≤ 400) :
    Calls Try.prog 29 #[.agg #[Value.bool m, Value.int IntKind.i64 v, Value.int IntKind.i64 p, Value.int IntKind.i64 o, Value.slice A1 n1 c1], .agg #[Value.bool m2, Value.int IntKind.i64 v2, Value.int IntKind.i64 p2, Value.int IntKind.i64 o2, Value.slice A2 n2 c2]] w (NewE (kb (valE m v p o xs && (valE m2 v2 p2 o2 ys && (decide (m = m2 ∧ v = v2 ∧ o = o2) && !decide (max p p2 < ((keptN m (xs ++ ys) (n1 + n2)).length : Int))))) m) (kp (valE m v p o xs && (valE m2 v2 p2 o2 ys && (decide (m = m2 ∧ v = v2 ∧ o = o2) && !decide (max p p2 < ((keptN m (xs ++ ys) (n1 + n2)).length : Int))))) v) (kp (valE m v p o xs && (valE m2 v2 p2 o2 ys && (decide (m = m2 ∧ v = v2 ∧ o = o2) && !decide (max p p2 < ((keptN m (xs ++ ys) (n1 + n2)).length : Int))))) (max p p2)) (kp (valE m v p o xs && (valE m2 v2 p2 o2 ys && (decide (m = m2 ∧ v = v2 ∧ o = o2) && !decide (max p p2 < ((keptN m (xs ++ ys) (n1 + n2)).length : Int))))) o) (lsK (valE m v p o xs && (valE m2 v2 p2 o2 ys && (decide (m = m2 ∧ v = v2 ∧ o = o2) && !decide (max p p2 < ((keptN m (xs ++ ys) (n1 + n2)).length : Int))))) (keptN m (xs ++ ys) (n1 + n2))) (mgE (valE m v p o xs) (valE m2 v2 p2 o2 ys) (decide (m = m2 ∧ v = v2 ∧ o = o2)) (decide (max p p2 < ((keptN m (xs ++ ys) (n1 + n2)).length : Int)))) w) := by
  have hcm19 : c1 ≤ 9223372036854775807 := hcm1
  have hcm29 : c2 ≤ 9223372036854775807 := hcm2
  have HV1 := Lib.hid (fun W (hb : Below w.heap.size w W) => Validate_any m v p o A1 n1 c1 xs W ((h1.below hb).more hb.size) (by omega))
  have HV2 := Lib.hid (fun W (hb : Below w.heap.size w W) => Validate_any m2 v2 p2 o2 A2 n2 c2 ys W ((h2.below hb).more hb.size) (by omega))
  have G1 := Lib.hid (fun h : valE m v p o xs = true => And.intro (valE_good h) (mayB_iff.1 (valE_iff.1 h).1).2.1)
  have G2 := Lib.hid (fun h : valE m2 v2 p2 o2 ys = true => And.intro (valE_good h) (mayB_iff.1 (valE_iff.1 h).1).2.1)
  have H1 := Lib.hid h1
  have H2 := Lib.hid h2
  have HL1 := Lib.hid h1.len
  have HL2 := Lib.hid h2.len
  clear h1 h2 hcm1 hcm2
  generalize valE m v p o xs = f1 at *
  generalize valE m2 v2 p2 o2 ys = f2 at *
  cases f1
  case false =>
    clear HV2 G1 G2 H1 H2 HL1 HL2
    simp only [erV_t, erV_f, kp_t, kp_f, kb_t, kb_f, lsK_t, lsK_f, mgE_1, mgE_2, mgE_3, mgE_4, mgE_5, Bool.false_and, Bool.true_and, Bool.and_false, Bool.and_true, Bool.not_true, Bool.not_false] at *
    go_enter Try.func29, Try.ntmps29
    go_wp2_with fail
    obtain ⟨W0, hW, hs0, K0, B0⟩ := start3 w 24 24 24 #[Value.bool m, Value.int IntKind.i64 v, Value.int IntKind.i64 p, Value.int IntKind.i64 o, Value.slice A1 n1 c1] #[Value.bool m2, Value.int IntKind.i64 v2, Value.int IntKind.i64 p2, Value.int IntKind.i64 o2, Value.slice A2 n2 c2] #[Value.bool false, Value.int IntKind.i64 0, Value.int IntKind.i64 0, Value.int IntKind.i64 0, Value.slice none 0 0]
    rw [hW]
    clear hW
    have KK := Lib.hid K0
    have BB := Lib.hid B0
    have sz : w.heap.size + 1 + 1 + 1 ≤ W0.heap.size := by omega
    have R := K0.rules
    simp only [Rules] at R
    clear K0 B0 hs0
    (with_reducible refine (HV1.out _ BB.out).mono ?_)
    rintro e wv ⟨rfl, hbv⟩
    replace BB := Lib.hid (BB.out.trans (hbv.mono BB.out.size))
    replace KK := Lib.hid (KK.out.below hbv)
    replace sz := Nat.le_trans sz hbv.size
    replace R := KK.out.rules
    simp only [Rules] at R
    clear hbv
    go_wp2
    refine bodyPost_ret (v := Value.tuple #[.agg #[Value.bool false, Value.int IntKind.i64 0, Value.int IntKind.i64 0, Value.int IntKind.i64 0, Value.slice none 0 0], .int .i64 2]) (by simp [results, Try.results29, go_sem, R]) rfl ⟨none, 0, 0, rfl, Nat.le_refl _, ⟨Nat.zero_le _, fun ad h => by cases h⟩, PRead.nil_, ?_⟩
    exact (((((BB.out.setCell (by first | (simp; done) | (simp; omega)) _).setCell (by first | (simp; done) | (simp; omega)) _).setCell (by first | (simp; done) | (simp; omega)) _).setCell (by first | (simp; done) | (simp; omega)) _).setCell (by first | (simp; done) | (simp; omega)) _)
  cases f2
  case false =>
    clear G1 G2 H1 H2 HL1 HL2
    simp only [erV_t, erV_f, kp_t, kp_f, kb_t, kb_f, lsK_t, lsK_f, mgE_1, mgE_2, mgE_3, mgE_4, mgE_5, Bool.false_and, Bool.true_and, Bool.and_false, Bool.and_true, Bool.not_true, Bool.not_false] at *
    go_enter Try.func29, Try.ntmps29
    go_wp2_with fail
    obtain ⟨W0, hW, hs0, K0, B0⟩ := start3 w 24 24 24 #[Value.bool m, Value.int IntKind.i64 v, Value.int IntKind.i64 p, Value.int IntKind.i64 o, Value.slice A1 n1 c1] #[Value.bool m2, Value.int IntKind.i64 v2, Value.int IntKind.i64 p2, Value.int IntKind.i64 o2, Value.slice A2 n2 c2] #[Value.bool false, Value.int IntKind.i64 0, Value.int IntKind.i64 0, Value.int IntKind.i64 0, Value.slice none 0 0]
    rw [hW]
    clear hW
    have KK := Lib.hid K0
    have BB := Lib.hid B0
    have sz : w.heap.size + 1 + 1 + 1 ≤ W0.heap.size := by omega
    have R := K0.rules
    simp only [Rules] at R
    clear K0 B0 hs0
    (with_reducible refine (HV1.out _ BB.out).mono ?_)
    rintro e wv ⟨rfl, hbv⟩
    replace BB := Lib.hid (BB.out.trans (hbv.mono BB.out.size))
    replace KK := Lib.hid (KK.out.below hbv)
    replace sz := Nat.le_trans sz hbv.size
    replace R := KK.out.rules
    simp only [Rules] at R
    clear hbv
    go_wp2_with fail
    (with_reducible refine (HV2.out _ BB.out).mono ?_)
    rintro e wv ⟨rfl, hbv⟩
    replace BB := Lib.hid (BB.out.trans (hbv.mono BB.out.size))
    replace KK := Lib.hid (KK.out.below hbv)
    replace sz := Nat.le_trans sz hbv.size
    replace R := KK.out.rules
    simp only [Rules] at R
    clear hbv
    go_wp2
    refine bodyPost_ret (v := Value.tuple #[.agg #[Value.bool false, Value.int IntKind.i64 0, Value.int IntKind.i64 0, Value.int IntKind.i64 0, Value.slice none 0 0], .int .i64 2]) (by simp [results, Try.results29, go_sem, R]) rfl ⟨none, 0, 0, rfl, Nat.le_refl _, ⟨Nat.zero_le _, fun ad h => by cases h⟩, PRead.nil_, ?_⟩
    exact (((((BB.out.setCell (by first | (simp; done) | (simp; omega)) _).setCell (by first | (simp; done) | (simp; omega)) _).setCell (by first | (simp; done) | (simp; omega)) _).setCell (by first | (simp; done) | (simp; omega)) _).setCell (by first | (simp; done) | (simp; omega)) _)
  by_cases hm : m = m2
  case neg =>
    rw [decide_eq_false (fun h => hm h.1)]
    clear G1 G2 H1 H2 HL1 HL2
    have hmm : (m == m2) = false := by simpa using hm
    have hmn : (m != m2) = true := by simpa using hm
    simp only [erV_t, erV_f, kp_t, kp_f, kb_t, kb_f, lsK_t, lsK_f, mgE_1, mgE_2, mgE_3, mgE_4, mgE_5, Bool.false_and, Bool.true_and, Bool.and_false, Bool.and_true, Bool.not_true, Bool.not_false] at *
    go_enter Try.func29, Try.ntmps29
    go_wp2_with fail
    obtain ⟨W0, hW, hs0, K0, B0⟩ := start3 w 24 24 24 #[Value.bool m, Value.int IntKind.i64 v, Value.int IntKind.i64 p, Value.int IntKind.i64 o, Value.slice A1 n1 c1] #[Value.bool m2, Value.int IntKind.i64 v2, Value.int IntKind.i64 p2, Value.int IntKind.i64 o2, Value.slice A2 n2 c2] #[Value.bool false, Value.int IntKind.i64 0, Value.int IntKind.i64 0, Value.int IntKind.i64 0, Value.slice none 0 0]
    rw [hW]
    clear hW
    have KK := Lib.hid K0
    have BB := Lib.hid B0
    have sz : w.heap.size + 1 + 1 + 1 ≤ W0.heap.size := by omega
    have R := K0.rules
    simp only [Rules] at R
    clear K0 B0 hs0
    (with_reducible refine (HV1.out _ BB.out).mono ?_)
    rintro e wv ⟨rfl, hbv⟩
    replace BB := Lib.hid (BB.out.trans (hbv.mono BB.out.size))
    replace KK := Lib.hid (KK.out.below hbv)
    replace sz := Nat.le_trans sz hbv.size
    replace R := KK.out.rules
    simp only [Rules] at R
    clear hbv
    go_wp2_with fail
    (with_reducible refine (HV2.out _ BB.out).mono ?_)
    rintro e wv ⟨rfl, hbv⟩
    replace BB := Lib.hid (BB.out.trans (hbv.mono BB.out.size))
    replace KK := Lib.hid (KK.out.below hbv)
    replace sz := Nat.le_trans sz hbv.size
    replace R := KK.out.rules
    simp only [Rules] at R
    clear hbv
    go_wp2
    refine bodyPost_ret (v := Value.tuple #[.agg #[Value.bool false, Value.int IntKind.i64 0, Value.int IntKind.i64 0, Value.int IntKind.i64 0, Value.slice none 0 0], .int .i64 1]) (by simp [results, Try.results29, go_sem, R]) rfl ⟨none, 0, 0, rfl, Nat.le_refl _, ⟨Nat.zero_le _, fun ad h => by cases h⟩, PRead.nil_, ?_⟩
    exact (((((BB.out.setCell (by first | (simp; done) | (simp; omega)) _).setCell (by first | (simp; done) | (simp; omega)) _).setCell (by first | (simp; done) | (simp; omega)) _).setCell (by first | (simp; done) | (simp; omega)) _).setCell (by first | (simp; done) | (simp; omega)) _)
  subst hm
  by_cases hv : v = v2
  case neg =>
    rw [decide_eq_false (fun h => hv h.2.1)]
    have hvv : (v == v2) = false := by simpa using hv
    clear G1 G2 H1 H2 HL1 HL2
    simp only [erV_t, erV_f, kp_t, kp_f, kb_t, kb_f, lsK_t, lsK_f, mgE_1, mgE_2, mgE_3, mgE_4, mgE_5, Bool.false_and, Bool.true_and, Bool.and_false, Bool.and_true, Bool.not_true, Bool.not_false] at *
    go_enter Try.func29, Try.ntmps29
    go_wp2_with fail
    obtain ⟨W0, hW, hs0, K0, B0⟩ := start3 w 24 24 24 #[Value.bool m, Value.int IntKind.i64 v, Value.int IntKind.i64 p, Value.int IntKind.i64 o, Value.slice A1 n1 c1] #[Value.bool m, Value.int IntKind.i64 v2, Value.int IntKind.i64 p2, Value.int IntKind.i64 o2, Value.slice A2 n2 c2] #[Value.bool false, Value.int IntKind.i64 0, Value.int IntKind.i64 0, Value.int IntKind.i64 0, Value.slice none 0 0]
    rw [hW]
    clear hW
    have KK := Lib.hid K0
    have BB := Lib.hid B0
    have sz : w.heap.size + 1 + 1 + 1 ≤ W0.heap.size := by omega
    have R := K0.rules
    simp only [Rules] at R
    clear K0 B0 hs0
    (with_reducible refine (HV1.out _ BB.out).mono ?_)
    rintro e wv ⟨rfl, hbv⟩
    replace BB := Lib.hid (BB.out.trans (hbv.mono BB.out.size))
    replace KK := Lib.hid (KK.out.below hbv)
    replace sz := Nat.le_trans sz hbv.size
    replace R := KK.out.rules
    simp only [Rules] at R
    clear hbv
    go_wp2_with fail
    (with_reducible refine (HV2.out _ BB.out).mono ?_)
    rintro e wv ⟨rfl, hbv⟩
    replace BB := Lib.hid (BB.out.trans (hbv.mono BB.out.size))
    replace KK := Lib.hid (KK.out.below hbv)
    replace sz := Nat.le_trans sz hbv.size
    replace R := KK.out.rules
    simp only [Rules] at R
    clear hbv
    go_wp2
    refine bodyPost_ret (v := Value.tuple #[.agg #[Value.bool false, Value.int IntKind.i64 0, Value.int IntKind.i64 0, Value.int IntKind.i64 0, Value.slice none 0 0], .int .i64 1]) (by simp [results, Try.results29, go_sem, R]) rfl ⟨none, 0, 0, rfl, Nat.le_refl _, ⟨Nat.zero_le _, fun ad h => by cases h⟩, PRead.nil_, ?_⟩
    exact (((((BB.out.setCell (by first | (simp; done) | (simp; omega)) _).setCell (by first | (simp; done) | (simp; omega)) _).setCell (by first | (simp; done) | (simp; omega)) _).setCell (by first | (simp; done) | (simp; omega)) _).setCell (by first | (simp; done) | (simp; omega)) _)
  subst hv
  by_cases ho : o = o2
  case neg =>
    rw [decide_eq_false (fun h => ho h.2.2)]
    have hoo : (o == o2) = false := by simpa using ho
    clear G1 G2 H1 H2 HL1 HL2
    simp only [erV_t, erV_f, kp_t, kp_f, kb_t, kb_f, lsK_t, lsK_f, mgE_1, mgE_2, mgE_3, mgE_4, mgE_5, Bool.false_and, Bool.true_and, Bool.and_false, Bool.and_true, Bool.not_true, Bool.not_false] at *
    go_enter Try.func29, Try.ntmps29
    go_wp2_with fail
    obtain ⟨W0, hW, hs0, K0, B0⟩ := start3 w 24 24 24 #[Value.bool m, Value.int IntKind.i64 v, Value.int IntKind.i64 p, Value.int IntKind.i64 o, Value.slice A1 n1 c1] #[Value.bool m, Value.int IntKind.i64 v, Value.int IntKind.i64 p2, Value.int IntKind.i64 o2, Value.slice A2 n2 c2] #[Value.bool false, Value.int IntKind.i64 0, Value.int IntKind.i64 0, Value.int IntKind.i64 0, Value.slice none 0 0]
    rw [hW]
    clear hW
    have KK := Lib.hid K0
    have BB := Lib.hid B0
    have sz : w.heap.size + 1 + 1 + 1 ≤ W0.heap.size := by omega
    have R := K0.rules
    simp only [Rules] at R
    clear K0 B0 hs0
    (with_reducible refine (HV1.out _ BB.out).mono ?_)
    rintro e wv ⟨rfl, hbv⟩
    replace BB := Lib.hid (BB.out.trans (hbv.mono BB.out.size))
    replace KK := Lib.hid (KK.out.below hbv)
    replace sz := Nat.le_trans sz hbv.size
    replace R := KK.out.rules
    simp only [Rules] at R
    clear hbv
    go_wp2_with fail
    (with_reducible refine (HV2.out _ BB.out).mono ?_)
    rintro e wv ⟨rfl, hbv⟩
    replace BB := Lib.hid (BB.out.trans (hbv.mono BB.out.size))
    replace KK := Lib.hid (KK.out.below hbv)
    replace sz := Nat.le_trans sz hbv.size
    replace R := KK.out.rules
    simp only [Rules] at R
    clear hbv
    go_wp2
    refine bodyPost_ret (v := Value.tuple #[.agg #[Value.bool false, Value.int IntKind.i64 0, Value.int IntKind.i64 0, Value.int IntKind.i64 0, Value.slice none 0 0], .int .i64 1]) (by simp [results, Try.results29, go_sem, R]) rfl ⟨none, 0, 0, rfl, Nat.le_refl _, ⟨Nat.zero_le _, fun ad h => by cases h⟩, PRead.nil_, ?_⟩
    exact (((((BB.out.setCell (by first | (simp; done) | (simp; omega)) _).setCell (by first | (simp; done) | (simp; omega)) _).setCell (by first | (simp; done) | (simp; omega)) _).setCell (by first | (simp; done) | (simp; omega)) _).setCell (by first | (simp; done) | (simp; omega)) _)
  subst ho
  rw [decide_eq_true (show m = m ∧ v = v ∧ o = o from ⟨rfl, rfl, rfl⟩)]
  obtain ⟨hg1, hp1⟩ := G1.out rfl
  obtain ⟨hg2, hp2⟩ := G2.out rfl
  clear G1 G2
  obtain ⟨mx, hmx⟩ : ∃ mx, max p p2 = mx := ⟨_, rfl⟩
  rw [hmx]
  have hmxb : mx ≤ 65536 := by omega
  have hmx2 : (if p < p2 then p2 else p) = mx := by rw [← hmx]; split <;> omega
  have HG1 := Lib.hid hg1
  have HG2 := Lib.hid hg2
  have hfin := Lib.hid (fun back (h : MInv m xs ys 0 0 back) => h.fin HL1.out HL2.out)
  have H0 : Hid (MInv m xs ys n1 n2 []) := by
    have := MInv.start m xs ys
    rwa [HL1.out, HL2.out] at this
  generalize keptN m (xs ++ ys) (n1 + n2) = la at *
  clear hg1 hg2
  obtain ⟨i0, hi0, hz0, hz1, hz2⟩ := info_parts item_info
  have HI := Lib.hid hi0
  have HZ0 := Lib.hid hz0
  have HZ1 := Lib.hid hz1
  have HZ2 := Lib.hid hz2
  clear hi0 hz0 hz1 hz2
  simp only [erV_t, erV_f, kp_t, kp_f, kb_t, kb_f, lsK_t, lsK_f, mgE_1, mgE_2, mgE_3, mgE_4, mgE_5, Bool.false_and, Bool.true_and, Bool.and_false, Bool.and_true, Bool.not_true, Bool.not_false] at HV1 HV2 ⊢
  go_enter Try.func29, Try.ntmps29
  go_wp2_with fail
  obtain ⟨W0, hW, hs0, K0, B0⟩ := start3 w 24 24 24 #[Value.bool m, Value.int IntKind.i64 v, Value.int IntKind.i64 p, Value.int IntKind.i64 o, Value.slice A1 n1 c1] #[Value.bool m, Value.int IntKind.i64 v, Value.int IntKind.i64 p2, Value.int IntKind.i64 o, Value.slice A2 n2 c2] #[Value.bool false, Value.int IntKind.i64 0, Value.int IntKind.i64 0, Value.int IntKind.i64 0, Value.slice none 0 0]
  rw [hW]
  clear hW
  have KK := Lib.hid K0
  have BB := Lib.hid B0
  have sz : w.heap.size + 1 + 1 + 1 ≤ W0.heap.size := by omega
  have R := K0.rules
  simp only [Rules] at R
  clear K0 B0 hs0
  (with_reducible refine (HV1.out _ BB.out).mono ?_)
  rintro e wv ⟨rfl, hbv⟩
  replace BB := Lib.hid (BB.out.trans (hbv.mono BB.out.size))
  replace KK := Lib.hid (KK.out.below hbv)
  replace sz := Nat.le_trans sz hbv.size
  replace R := KK.out.rules
  simp only [Rules] at R
  clear hbv
  go_wp2_with fail
  (with_reducible refine (HV2.out _ BB.out).mono ?_)
  rintro e wv ⟨rfl, hbv⟩
  replace BB := Lib.hid (BB.out.trans (hbv.mono BB.out.size))
  replace KK := Lib.hid (KK.out.below hbv)
  replace sz := Nat.le_trans sz hbv.size
  replace R := KK.out.rules
  simp only [Rules] at R
  clear hbv
  have u1 : IntKind.i64.wrap ((n1 : Int) - 1) = (n1 : Int) - 1 := IntWalk.i64_in _ (by omega)
  have u2 : IntKind.i64.wrap ((n2 : Int) - 1) = (n2 : Int) - 1 := IntWalk.i64_in _ (by omega)
  go_wp2_with fail
  (refine gro.wp_region_grown (by kernel_rfl) (by kernel_rfl) ?_; (repeat (go_big_quiet_step ((fail)))); refine wpQuiet_nil ?_; intro _ hw'; obtain ⟨nx, hw''⟩ := hw'; subst hw'')
  replace KK := Lib.hid (KK.out.below (below_grown _ nx))
  replace BB := Lib.hid (BB.out.trans ((below_grown _ nx).mono BB.out.size))
  replace sz := Nat.le_trans sz (below_grown _ nx).size
  clear R
  generalize grown _ nx = W7 at *
  have R := KK.out.rules
  simp only [Rules] at R
  clear u1 u2 HV1 HV2
  go_wp2_with fail
  clear R
  go_loopg [8, 9, 10] (n1 + n2) (fun kx s8 s9 s10 wr => ∃ (u : Value) (e8 e9 : Int) (I J : Nat) (back : L2), s8 = .int .i64 e8 ∧ s9 = .int .i64 e9 ∧ u = s10 ∧ e8 = (I : Int) - 1 ∧ e9 = (J : Int) - 1 ∧ I ≤ n1 ∧ J ≤ n2 ∧ I + J ≤ kx ∧ back.length ≤ (n1 - I) + (n2 - J) ∧ Hid (MInv m xs ys I J back) ∧ Hid (wr.ownsRow (w.heap.size + 1 + 1 + 1) 40 2 u back.length (pc back)) ∧ Hid (Bx wr [(w.heap.size + 1 + 1, 24, #[Value.bool false, Value.int IntKind.i64 0, Value.int IntKind.i64 0, Value.int IntKind.i64 0, Value.slice none 0 0]), (w.heap.size + 1, 24, #[Value.bool m, Value.int IntKind.i64 v, Value.int IntKind.i64 p2, Value.int IntKind.i64 o, Value.slice A2 n2 c2]), (w.heap.size, 24, #[Value.bool m, Value.int IntKind.i64 v, Value.int IntKind.i64 p, Value.int IntKind.i64 o, Value.slice A1 n1 c1])]) ∧ Hid (Below w.heap.size w wr) ∧ w.heap.size + 1 + 1 + 1 ≤ wr.heap.size)
  case atStart => exact ⟨_, _, _, n1, n2, [], rfl, rfl, rfl, rfl, rfl, Nat.le_refl _, Nat.le_refl _, Nat.le_refl _, by simp, H0, own_nil _ _ _ _, KK, BB, sz⟩
  case round =>
    clear KK BB sz H0
    obtain ⟨u, e8, e9, I, J, back, rfl, rfl, rfl, he8, he9, hI, hJ, hkx, hbl, HM, HO, KK, BB, sz⟩ := hrel
    have R := KK.out.rules
    simp only [Rules] at R
    by_cases hI0 : 0 < I
    case neg =>
      have hIz : I = 0 := by omega
      have p8 : ¬ 0 ≤ e8 := by omega
      have d8 : decide (0 ≤ e8) = false := decide_eq_false p8
      by_cases hJ0 : 0 < J
      case neg =>
        obtain rfl : J = 0 := by omega
        subst hIz
        have p9 : ¬ 0 ≤ e9 := by omega
        have hla := hfin.out back HM.out
        clear hfin HM
        obtain ⟨A7, c7, rfl, o1, o2, o3⟩ := own_form HO.out
        have HRb : Hid (PRead wr wr.heap.size A7 back.length back) := o3
        have o2' : c7 ≤ 9223372036854775807 := o2
        obtain ⟨len, hlen⟩ : ∃ l, back.length = l := ⟨_, rfl⟩
        have hlr : la.length = len := by rw [hla, List.length_reverse, hlen]
        rw [hlen] at HRb o1
        simp only [hlen]
        have hfar : 0 < len → ∀ ad, A7 = some ad → ad.block ≠ w.heap.size := fun _ ad h => by subst h; have := own_block_ge HO.out ad.block rfl; omega
        clear HO o3
        have hll : len ≤ 800 := by omega
        have HLA := Lib.hid hla
        have HLen := Lib.hid hlen
        clear hla hlen he8 he9
        have K2 := Lib.hid (Bx.one (d := #[Value.bool m, Value.int IntKind.i64 v, Value.int IntKind.i64 mx, Value.int IntKind.i64 o, Value.slice A1 n1 c1]) 2 (.int .i64 mx) (KK.out.perm (L' := [(w.heap.size, 24, #[Value.bool m, Value.int IntKind.i64 v, Value.int IntKind.i64 p, Value.int IntKind.i64 o, Value.slice A1 n1 c1]), (w.heap.size + 1 + 1, 24, #[Value.bool false, Value.int IntKind.i64 0, Value.int IntKind.i64 0, Value.int IntKind.i64 0, Value.slice none 0 0]), (w.heap.size + 1, 24, #[Value.bool m, Value.int IntKind.i64 v, Value.int IntKind.i64 p2, Value.int IntKind.i64 o, Value.slice A2 n2 c2])]) (by simp)) (by simp <;> omega) (by simp))
        have R2 := K2.out.rules
        simp only [Rules] at R2
        by_cases hfu : mx < (la.length : Int)
        case pos =>
          have hfu2 : mx < (len : Int) := by omega
          rw [decide_eq_true hfu] at *
          simp only [kp_f, kb_f, lsK_f, mgE_4, Bool.true_and, Bool.and_false, Bool.not_true] at *
          go_wp2
          refine bodyPost_ret (v := Value.tuple #[.agg #[Value.bool false, Value.int IntKind.i64 0, Value.int IntKind.i64 0, Value.int IntKind.i64 0, Value.slice none 0 0], .int .i64 5]) (by simp [results, Try.results29, go_sem, R2]) rfl ⟨none, 0, 0, rfl, Nat.le_refl _, ⟨Nat.zero_le _, fun ad h => by cases h⟩, PRead.nil_, ?_⟩
          exact ((((((BB.out.setCell (by first | (simp; done) | (simp; omega)) _).setCell (by first | (simp; done) | (simp; omega)) _).setCell (by first | (simp; done) | (simp; omega)) _).setCell (by first | (simp; done) | (simp; omega)) _).setCell (by first | (simp; done) | (simp; omega)) _).setCell (by first | (simp; done) | (simp; omega)) _)
        have hfu2 : ¬ mx < (len : Int) := by omega
        rw [decide_eq_false hfu] at *
        simp only [kp_t, kb_t, lsK_t, mgE_5, Bool.true_and, Bool.and_true, Bool.not_false] at *
        have K3 := Bx.one (d := #[Value.bool m, Value.int IntKind.i64 v, Value.int IntKind.i64 mx, Value.int IntKind.i64 o, Value.slice none 0 0]) 4 (.slice none 0 0) K2.out (by simp <;> omega) (by simp)
        have u3 : IntKind.i64.wrap ((len : Int) - 1) = (len : Int) - 1 := IntWalk.i64_in _ (by omega)
        go_wp2_with fail
        obtain ⟨Wl, hW, K4, B4, z4⟩ := name_world K3 ((BB.out.setCell (p := ⟨w.heap.size, 2, none⟩) (by simp) (.int .i64 mx)).setCell (p := ⟨w.heap.size, 4, none⟩) (by simp) (.slice none 0 0)) (s := w.heap.size + 1 + 1 + 1) (by simp [World.setCell]; omega)
        have HRl : Hid (PRead Wl Wl.heap.size A7 len back) := by
          rw [← hW]
          exact PRead.sz (PRead.far (PRead.far HRb.out ⟨w.heap.size, 2, none⟩ hfar _) ⟨w.heap.size, 4, none⟩ hfar _) (by simp [World.setCell])
        rw [hW]
        clear hW K2 R2 K3 KK BB R HRb
        have KK := Lib.hid K4
        have BB := Lib.hid B4
        clear K4 B4
        go_loopg [12] len (fun kx s12 w3 => ∃ (u : Value) (e : Int) (K : Nat), s12 = .int .i64 e ∧ e = (K : Int) - 1 ∧ K ≤ len ∧ K ≤ kx ∧ Hid (w3.ownsRow Wl.heap.size 40 2 u (len - K) (pc (back.drop K).reverse)) ∧ Hid (PRead w3 Wl.heap.size A7 len back) ∧ Hid (Bx w3 [(w.heap.size, 24, #[Value.bool m, Value.int IntKind.i64 v, Value.int IntKind.i64 mx, Value.int IntKind.i64 o, u]), (w.heap.size + 1 + 1, 24, #[Value.bool false, Value.int IntKind.i64 0, Value.int IntKind.i64 0, Value.int IntKind.i64 0, Value.slice none 0 0]), (w.heap.size + 1, 24, #[Value.bool m, Value.int IntKind.i64 v, Value.int IntKind.i64 p2, Value.int IntKind.i64 o, Value.slice A2 n2 c2])]) ∧ Hid (Below w.heap.size w w3) ∧ Wl.heap.size ≤ w3.heap.size)
        case atStart => exact ⟨.slice none 0 0, _, len, rfl, rfl, Nat.le_refl _, Nat.le_refl _, Lib.hid (by rw [Nat.sub_self, List.drop_of_length_le (by rw [HLen.out]; exact Nat.le_refl _)]; exact own_nil _ _ _ _), HRl, KK, BB, Nat.le_refl _⟩
        case round =>
          clear KK BB HRl u3
          obtain ⟨u, e, K, rfl, he, hK, hKx, HU, HR, KK, BB, sz3⟩ := hrel
          have R := KK.out.rules
          simp only [Rules] at R
          by_cases hK0 : 0 < K
          case neg =>
            obtain rfl : K = 0 := by omega
            have pe : ¬ 0 ≤ e := by omega
            obtain ⟨A9, c9, rfl, y1, y2, y3⟩ := own_form HU.out
            have HF9 : Hid (PRead wr wr.heap.size A9 (len - 0) la) := by
              rw [HLA.out]; exact y3
            have fr9 : ∀ ad, A9 = some ad → Wl.heap.size ≤ ad.block := fun ad e => own_new HU.out ad e
            go_wp2
            refine bodyPost_ret (v := Value.tuple #[.agg #[Value.bool m, Value.int IntKind.i64 v, Value.int IntKind.i64 mx, Value.int IntKind.i64 o, Value.slice A9 (len - 0) c9], .int .i64 0]) (by simp [results, Try.results29, go_sem, R]) rfl ⟨A9, len - 0, c9, rfl, y1, ⟨y2, fun ad h => by have := fr9 ad h; omega⟩, ?_, ?_⟩
            · exact PRead.sz ((PRead.far (PRead.far (PRead.far (PRead.far (PRead.far HF9.out ⟨w.heap.size + 1 + 1, 0, none⟩ (fun h0 ad h => by have := fr9 ad h; simp; omega) _) ⟨w.heap.size + 1 + 1, 1, none⟩ (fun h0 ad h => by have := fr9 ad h; simp; omega) _) ⟨w.heap.size + 1 + 1, 2, none⟩ (fun h0 ad h => by have := fr9 ad h; simp; omega) _) ⟨w.heap.size + 1 + 1, 3, none⟩ (fun h0 ad h => by have := fr9 ad h; simp; omega) _) ⟨w.heap.size + 1 + 1, 4, none⟩ (fun h0 ad h => by have := fr9 ad h; simp; omega) _)) (by simp [World.setCell])
            · exact (((((BB.out.setCell (by first | (simp; done) | (simp; omega)) _).setCell (by first | (simp; done) | (simp; omega)) _).setCell (by first | (simp; done) | (simp; omega)) _).setCell (by first | (simp; done) | (simp; omega)) _).setCell (by first | (simp; done) | (simp; omega)) _)
          have pe : 0 ≤ e := by omega
          have pe2 : e.toNat = K - 1 := by omega
          have pe3 : e < len := by omega
          have pe4 : IntKind.i64.wrap (e - 1) = e - 1 := IntWalk.i64_in _ (by omega)
          replace he := Lib.hid he
          have hst := Lib.hid (back_step (back := back) hK0 (by rw [HLen.out]; exact hK))
          obtain ⟨ad7, rfl, hb7, d1, d2⟩ := PRead.at_ HR.out (show K - 1 < len by omega)
          change wr.cell? (ad7.add ((K - 1) * 2)) = some (.int .i64 (at_ back (K - 1)).1) at d1
          change wr.cell? ⟨(ad7.add ((K - 1) * 2)).block, (ad7.add ((K - 1) * 2)).off + 1, none⟩ = some (.int .i64 (at_ back (K - 1)).2) at d2
          have hate : Hid (at_ back (K - 1) = ((at_ back (K - 1)).1, (at_ back (K - 1)).2)) := rfl
          generalize (at_ back (K - 1)).1 = bx at *
          generalize (at_ back (K - 1)).2 = bv at *
          rw [hate.out] at hst
          go_wp2_with fail
          (refine gro.wp_region_heldA [0, 1, 2, 3, 4] 5 9 _ (gro.lasts_bx _) (by kernel_rfl) (by kernel_rfl) (by intro _ _ _ _ _ h; exact h) (by kernel_rfl) (by kernel_rfl) (by kernel_rfl) (by kernel_rfl) (by kernel_rfl) (by decide) (KK.out).drew ?_; apply Exists.intro; refine ⟨fun w0 hb0 => ?_, ?_⟩; focus (have RZ := gro.Bx.rules hb0; simp only [gro.Rules] at RZ; simp only [gro.pickA, List.filterMap_cons, List.filterMap_nil, List.getElem?_toArray, List.getElem?_cons_succ, List.getElem?_cons_zero]; change wpQuiet _ _ _ _ (_ :: _ :: _ :: _ :: _ ::  []) _; (repeat (go_big_quiet_step ((fail)))); exact wpQuiet_nil rfl))
          have KX0 := KK.out.drew
          have B0 : Below wr.heap.size wr wr.drew := (Below.refl _ _).drew
          refine gro.anyM_one 5 (by kernel_rfl) rfl ?_
          intro y1 hz1 K' hK'
          have B1 := B0.trans (hz1.mono B0.size)
          have e1 := (B1.cell (p := ad7.add ((K - 1) * 2)) (by rw [block_of_add]; omega)).trans d1
          have e2 := (B1.cell (p := ⟨(ad7.add ((K - 1) * 2)).block, (ad7.add ((K - 1) * 2)).off + 1, none⟩) (by show (ad7.add ((K - 1) * 2)).block < _; rw [block_of_add]; omega)).trans d2
          go_simp
          refine hK' _ _ ⟨fun _ => KK.out.below B1, ?_⟩
          clear hK' K' e1 e2
          refine gro.anyM_one 6 (by kernel_rfl) rfl ?_
          intro y2 hz2 K' hK'
          have B2 := B1.trans (hz2.mono B1.size)
          go_simp
          refine hK' _ _ ⟨fun _ => (KK.out.below B2).alloc _, ?_⟩
          clear hK' K'
          obtain ⟨z2, hy2⟩ : ∃ z, y2.alloc (.cells #[Value.int IntKind.i64 bx, Value.int IntKind.i64 bv] 40) = z := ⟨_, rfl⟩
          have hA2 : Below y2.heap.size y2 z2 := by rw [← hy2]; exact (Below.refl _ _).alloc (Nat.le_refl _) _
          have B3 := B2.trans (hA2.mono B2.size)
          have HE : Reads z2 z2.heap.size 2 (some ⟨y2.heap.size, 0, none⟩) 1 [Value.int IntKind.i64 bx, Value.int IntKind.i64 bv] := by rw [← hy2]; exact Reads.more (reads_new y2 40 #[Value.int IntKind.i64 bx, Value.int IntKind.i64 bv] rfl) (by simp)
          rw [hy2]
          refine gro.anyM_one 7 (by kernel_rfl) rfl ?_
          intro y3 hz3 K' hK'
          have B4 := B3.trans (hz3.mono B3.size)
          have HE3 := (Reads.below HE hz3).more hz3.size
          have HU3 := own_keep HU.out B4
          refine step_append_any _ (by rfl) (.tmp 169) (.tmp 174) 22 rfl Wl.heap.size 40 i0 (.agg #[.int .i64 0, .int .i64 0]) 2 16 Try.underlying22 HI.out HZ0.out HZ1.out HZ2.out rfl (by omega) u (len - K) (pc (back.drop K).reverse) (by rfl) HU3 _ _ 1 1 _ (by rfl) HE3 (by simp [Value.oneCell']) (by unfold maxLen; omega) (by omega) (Nat.le_trans sz3 B4.size) ?_
          intro v4 w4 hown4 hg4 hat4
          obtain ⟨A4, cc4, rfl, m1, m2, m3⟩ := own_form hown4
          clear m3
          have KY := (KK.out.below B4)
          have hlo : ∀ k, u.ownBlock = some k → Wl.heap.size ≤ k := fun k h => own_block_ge HU3 k h
          have KW := Bx.app3 KY hg4 (fun q hq h => by have := hlo _ h.symm; simp at hq; rcases hq with h | h | h <;> rw [h] at this <;> simp at this <;> omega)
          have HRW := (HR.out.below (B4.mono sz3)).grown hg4 (Nat.le_trans sz3 B4.size) hlo
          have BBW := (BB.out.trans (B4.mono BB.out.size)).grown hg4 (BB.out.trans (B4.mono BB.out.size)).size (fun k h => by have := hlo k h; omega)
          have szw := hg4.size
          have sz4 := B4.size
          refine hK' _ _ ⟨fun _ => KW, ?_⟩
          clear hK' K'
          refine gro.anyM_one 8 (by kernel_rfl) rfl ?_
          intro y5 hz5 K' hK'
          go_simp
          refine hK' _ _ ⟨fun _ => KW.below hz5, ?_⟩
          clear hK' K'
          refine gro.anyM_one 9 (by kernel_rfl) rfl ?_
          intro y6 hz6 K' hK'
          have hz56 := hz5.trans (hz6.mono hz5.size)
          have KV := KW.below hz56
          have RV := KV.rules
          simp only [Rules] at RV
          go_simp
          refine hK' _ _ ⟨fun h => absurd (show true = false from h) (by decide), ?_⟩
          clear hK' K' RV
          have KT := Bx.one (d := #[Value.bool m, Value.int IntKind.i64 v, Value.int IntKind.i64 mx, Value.int IntKind.i64 o, Value.slice A4 (len - K + 1) cc4]) 4 (.slice A4 (len - K + 1) cc4) KV (by simp <;> omega) (by simp)
          have HO6 := ownsRow_setCell_below (own_keep hown4 hz56) (a := ⟨w.heap.size, 4, none⟩) (by show w.heap.size < _; omega) (.slice A4 (len - K + 1) cc4)
          have HR6 := PRead.far (HRW.below (hz56.mono (by omega))) ⟨w.heap.size, 4, none⟩ (fun h0 ad h => by have := hb7; injection h with h; subst h; have := hfar (by omega) ad7 rfl; simpa using this) (.slice A4 (len - K + 1) cc4)
          have BB6 := (BBW.trans (hz56.mono BBW.size)).setCell (p := ⟨w.heap.size, 4, none⟩) (by simp) (.slice A4 (len - K + 1) cc4)
          refine gro.anyM_done (by kernel_rfl) ?_
          intro y7 hz7
          have szz := hz56.size
          have szy := hz7.size
          go_wp2
          have he' := he.out
          go_roundg (K - 1)
          case measure => omega
          case rel => exact ⟨.slice A4 (len - K + 1) cc4, e - 1, K - 1, rfl, by omega, by omega, by omega, Lib.hid (by rw [hst.out, pc_append, show len - (K - 1) = len - K + 1 by omega]; exact own_keep HO6 hz7), Lib.hid (Reads.below HR6 (hz7.mono (by simp [World.setCell]; omega))), KT.below hz7, BB6.trans (hz7.mono BB6.size), by simp [World.setCell] at szy; omega⟩
      have p9 : 0 ≤ e9 := by omega
      have d9 : decide (e9 < 0) = false := decide_eq_false (by omega)
      obtain ⟨ad2, rfl, hb2, hcB⟩ := PRead.cells (W := w) H2.out (show J - 1 < n2 by omega)
      have fb1 : e9.toNat = J - 1 := by omega
      have fb2 : e9 < n2 := by omega
      have fb3 : IntKind.i64.wrap (e9 - 1) = e9 - 1 := IntWalk.i64_in _ (by omega)
      have hatB : Hid (at_ ys (J - 1) = ((at_ ys (J - 1)).1, (at_ ys (J - 1)).2)) := rfl
      obtain ⟨ty, hty⟩ : ∃ z, (at_ ys (J - 1)).1 = z := ⟨_, rfl⟩
      obtain ⟨vy, hvy⟩ : ∃ z, (at_ ys (J - 1)).2 = z := ⟨_, rfl⟩
      rw [hty, hvy] at hatB hcB
      have hC : I = 0 ∨ (at_ xs (I - 1)).1 < (at_ ys (J - 1)).1 ∨ ((at_ ys (J - 1)).1 = (at_ xs (I - 1)).1 ∧ key m (at_ xs (I - 1)).2 ≤ key m (at_ ys (J - 1)).2) := .inl hIz
      replace he8 := Lib.hid he8
      replace he9 := Lib.hid he9
      obtain ⟨gi, hgi⟩ : ∃ s, wr.heap.size = s := ⟨_, rfl⟩
      have BZ := Lib.hid (BB.out.alloc BB.out.size (.cells #[Value.int IntKind.i64 0, Value.int IntKind.i64 0] 40))
      have HOZ := Lib.hid (own_alloc HO.out (.cells #[Value.int IntKind.i64 0, Value.int IntKind.i64 0] 40))
      have KZ := Lib.hid (KK.out.new (t := 40) (c := #[Value.int IntKind.i64 0, Value.int IntKind.i64 0]) hgi)
      go_wp2_with fail
      obtain ⟨W5, hW, K5, B5, z5⟩ := name_world KZ.out BZ.out (s := gi + 1) (by simp; omega)
      rw [hW]
      rw [hW] at HOZ
      clear hW KK BB R KZ BZ
      have hoff : ∀ k, Value.ownBlock u = some k → k ≠ gi := fun k h => by have := (World.ownsRow.lt HO.out k h).2; omega
      clear HO
      have KK := Lib.hid K5
      have BB := Lib.hid B5
      have R := K5.rules
      simp only [Rules] at R
      clear K5 B5
      obtain ⟨cb1, cb2⟩ := hcB _ BB.out
      have hbb := Nat.lt_of_lt_of_le hb2 BB.out.size
      (refine gro.wp_region_grown (by kernel_rfl) (by kernel_rfl) ?_; (repeat (go_big_quiet_step ((fail)))); refine wpQuiet_nil ?_; intro _ hw'; obtain ⟨nx, hw''⟩ := hw'; subst hw'')
      replace KK := Lib.hid (KK.out.below (below_grown _ nx))
      replace BB := Lib.hid (BB.out.trans ((below_grown _ nx).mono BB.out.size))
      replace HOZ := Lib.hid (own_keep HOZ.out (below_grown _ nx))
      replace z5 := Nat.le_trans z5 (below_grown _ nx).size
      clear R  cb1 cb2
      generalize grown _ nx = W7 at *
      have R := KK.out.rules
      simp only [Rules] at R
      obtain ⟨cb1, cb2⟩ := hcB _ BB.out
      go_wp2_with fail
      obtain ⟨W9, hW, K9, B9, z9⟩ := name_world (Bx.put2 (u := .int .i64 ty) (v := .int .i64 vy) KK.out (by simp <;> omega)) ((BB.out.setCell (p := ⟨gi, 0, none⟩) (by show w.heap.size ≤ gi; omega) _).setCell (p := ⟨gi, 1, none⟩) (by show w.heap.size ≤ gi; omega) _) (s := gi + 1) (by simp only [set2_size]; exact z5)
      have HO9 : Hid (W9.ownsRow (w.heap.size + 1 + 1 + 1) 40 2 u back.length (pc back)) := by
        rw [← hW]
        exact own_off2 HOZ.out hoff
      rw [hW]
      clear hW KK BB R HOZ cb1 cb2
      have KK := Lib.hid K9
      have BB := Lib.hid B9
      have R := K9.rules
      simp only [Rules] at R
      clear K9 B9
      have HM2 := Lib.hid (show MInv m xs ys (I) (J - 1) (pushM m back (ty, vy)) from hatB.out ▸ MInv.stepB HG1.out HG2.out HM.out hJ0 (by rw [HL1.out]; exact hI) (by rw [HL2.out]; exact hJ) hC)
      by_cases hb0 : back.length = 0
      case pos =>
        have q0 : ((back.length : Int) == 0) = true := by rw [hb0]; rfl
        rw [pushM_nil hb0] at HM2
        have hbe : back = [] := List.eq_nil_of_length_eq_zero hb0
        obtain ⟨A7, c7, rfl, o1, o2, _⟩ := own_form HO9.out
        have hzl : IntKind.i64.wrap (back.length : Int) = 0 := by rw [hb0]; rfl
        (refine gro.wp_region_grown (by kernel_rfl) (by kernel_rfl) ?_; (repeat (go_big_quiet_step ((fail)))); refine wpQuiet_nil ?_; intro _ hw'; obtain ⟨nx, hw''⟩ := hw'; subst hw'')
        replace KK := Lib.hid (KK.out.below (below_grown _ nx))
        replace BB := Lib.hid (BB.out.trans ((below_grown _ nx).mono BB.out.size))
        replace HO9 := Lib.hid (own_keep HO9.out (below_grown _ nx))
        replace z9 := Nat.le_trans z9 (below_grown _ nx).size
        clear R
        generalize grown _ nx = W9 at *
        have R := KK.out.rules
        simp only [Rules] at R
        go_wp2_with (at_builtin; go_loud (refine wpList_append_any _ rfl (.tmp 144) (.tmp 146) 22 rfl (w.heap.size + 1 + 1 + 1) 40 i0 (.agg #[.int .i64 0, .int .i64 0]) 2 16 Try.underlying22 HI.out HZ0.out HZ1.out HZ2.out rfl (by omega) _ back.length _ rfl (own_alloc HO9.out _) _ _ 1 1 _ rfl (reads_new _ _ _ rfl) (by simp [Value.oneCell']) (by unfold maxLen; omega) (by omega) (by simp; omega) ?_); intro v1 w1 hown1 hg1 hat1)
        have HBw : Below (w.heap.size + 1 + 1 + 1) W9 w1 := below_box2 (by omega) HO9.out hg1
        have KKw : Bx w1 [(w.heap.size + 1 + 1, 24, #[Value.bool false, Value.int IntKind.i64 0, Value.int IntKind.i64 0, Value.int IntKind.i64 0, Value.slice none 0 0]), (w.heap.size + 1, 24, #[Value.bool m, Value.int IntKind.i64 v, Value.int IntKind.i64 p2, Value.int IntKind.i64 o, Value.slice (some ad2) n2 c2]), (w.heap.size, 24, #[Value.bool m, Value.int IntKind.i64 v, Value.int IntKind.i64 p, Value.int IntKind.i64 o, Value.slice A1 n1 c1])] := fun q hq => (KK.out q (List.mem_cons_of_mem _ hq)).below HBw (by simp at hq; rcases hq with h | h | h <;> rw [h] <;> simp <;> omega)
        have szw := HBw.size
        have he8' := he8.out
        have he9' := he9.out
        go_roundg (I + J - 1)
        case measure => omega
        case rel => exact ⟨v1, e8, e9 - 1, I, J - 1, back ++ [(ty, vy)], by first | rfl | exact congrArg (Value.int IntKind.i64) (by omega), by first | rfl | exact congrArg (Value.int IntKind.i64) (by omega), rfl, by omega, by omega, by omega, by omega, by omega, by rw [List.length_append, List.length_singleton]; omega, (by rw [hbe, List.nil_append]; exact HM2.out), (by rw [Hid, pc_append, List.length_append]; exact hown1), KKw, BB.out.trans (HBw.mono (by omega)), by omega⟩
      have q0 : ((back.length : Int) == 0) = false := by simpa using hb0
      obtain ⟨len, hlen⟩ : ∃ l, back.length = l := ⟨_, rfl⟩
      have hpn := Lib.hid (fun h => pushM_no (m := m) (back := back) (x := (ty, vy)) hb0 h)
      have hpy := Lib.hid (fun h => pushM_yes (m := m) (back := back) (x := (ty, vy)) hb0 h)
      rw [hlen] at HO9 hbl q0 hpn hpy hb0
      obtain ⟨g, cc, rfl, o1, o2, o3, o4⟩ := own_form2 HO9.out (by omega)
      have o2' : cc ≤ 9223372036854775807 := o2
      obtain ⟨d1, d2⟩ := own_pair HO9.out (show len - 1 < len by omega)
      change W9.cell? ⟨g, (len - 1) * 2 + 1, none⟩ = some (.int .i64 (at_ back (len - 1)).2) at d2
      clear d1
      have hgl : g < W9.heap.size := (World.ownsRow.lt HO9.out _ rfl).2
      have HBe := Lib.hid (fun W => beats_any m (at_ back (len - 1)).2 vy W)
      obtain ⟨lv, hlv⟩ : ∃ l, (at_ back (len - 1)).2 = l := ⟨_, rfl⟩
      rw [hlv] at d2 hpn hpy HBe
      clear hlv
      have t1 : IntKind.i64.wrap ((len : Int) - 1) = (len : Int) - 1 := IntWalk.i64_in _ (by omega)
      have t2 : 0 ≤ (len : Int) - 1 := by omega
      have t3 : ((len : Int) - 1).toNat = len - 1 := by omega
      have t4 : (len : Int) - 1 < len := by omega
      have HLen := Lib.hid hlen
      clear hlen
      by_cases hbt : key m vy ≤ key m lv
      case pos =>
        rw [decide_eq_true hbt] at HBe
        rw [hpn.out hbt] at HM2
        (refine gro.wp_region_grown (by kernel_rfl) (by kernel_rfl) ?_; (repeat (go_big_quiet_step ((go_at_call 37; exact gro.call_same (HBe.out _))))); refine wpQuiet_nil ?_; intro _ hw'; obtain ⟨nx, hw''⟩ := hw'; subst hw'')
        replace KK := Lib.hid (KK.out.below (below_grown _ nx))
        replace BB := Lib.hid (BB.out.trans ((below_grown _ nx).mono BB.out.size))
        replace HO9 := Lib.hid (own_keep HO9.out (below_grown _ nx))
        replace z9 := Nat.le_trans z9 (below_grown _ nx).size
        clear R
        generalize grown _ nx = W9 at *
        have R := KK.out.rules
        simp only [Rules] at R
        clear t1 t2 t3 t4 d2
        go_wp2
        have he8' := he8.out
        have he9' := he9.out
        go_roundg (I + J - 1)
        case measure => omega
        case rel => exact ⟨_, e8, e9 - 1, I, J - 1, back, by first | rfl | exact congrArg (Value.int IntKind.i64) (by omega), by first | rfl | exact congrArg (Value.int IntKind.i64) (by omega), rfl, by omega, by omega, by omega, by omega, by omega, by rw [HLen.out]; omega, HM2.out, (by rw [Hid, HLen.out]; exact HO9.out), Bx.tl KK.out, BB.out, by omega⟩
      rw [decide_eq_false hbt] at HBe
      rw [hpy.out hbt] at HM2
      (refine gro.wp_region_grown (by kernel_rfl) (by kernel_rfl) ?_; (repeat (go_big_quiet_step ((go_at_call 37; exact gro.call_same (HBe.out _))))); refine wpQuiet_nil ?_; intro _ hw'; obtain ⟨nx, hw''⟩ := hw'; subst hw'')
      replace KK := Lib.hid (KK.out.below (below_grown _ nx))
      replace BB := Lib.hid (BB.out.trans ((below_grown _ nx).mono BB.out.size))
      replace HO9 := Lib.hid (own_keep HO9.out (below_grown _ nx))
      replace z9 := Nat.le_trans z9 (below_grown _ nx).size
      clear R
      generalize grown _ nx = W9 at *
      have R := KK.out.rules
      simp only [Rules] at R
      clear t1 t2 t3 t4 d2
      go_wp2_with (at_builtin; go_loud (refine wpList_append_any _ rfl (.tmp 144) (.tmp 146) 22 rfl (w.heap.size + 1 + 1 + 1) 40 i0 (.agg #[.int .i64 0, .int .i64 0]) 2 16 Try.underlying22 HI.out HZ0.out HZ1.out HZ2.out rfl (by omega) _ len _ rfl (own_alloc HO9.out _) _ _ 1 1 _ rfl (reads_new _ _ _ rfl) (by simp [Value.oneCell']) (by unfold maxLen; omega) (by omega) (by simp; omega) ?_); intro v1 w1 hown1 hg1 hat1)
      have HBw : Below (w.heap.size + 1 + 1 + 1) W9 w1 := below_box2 (by omega) HO9.out hg1
      have KKw : Bx w1 [(w.heap.size + 1 + 1, 24, #[Value.bool false, Value.int IntKind.i64 0, Value.int IntKind.i64 0, Value.int IntKind.i64 0, Value.slice none 0 0]), (w.heap.size + 1, 24, #[Value.bool m, Value.int IntKind.i64 v, Value.int IntKind.i64 p2, Value.int IntKind.i64 o, Value.slice (some ad2) n2 c2]), (w.heap.size, 24, #[Value.bool m, Value.int IntKind.i64 v, Value.int IntKind.i64 p, Value.int IntKind.i64 o, Value.slice A1 n1 c1])] := fun q hq => (KK.out q (List.mem_cons_of_mem _ hq)).below HBw (by simp at hq; rcases hq with h | h | h <;> rw [h] <;> simp <;> omega)
      have szw := HBw.size
      have he8' := he8.out
      have he9' := he9.out
      go_roundg (I + J - 1)
      case measure => omega
      case rel => exact ⟨v1, e8, e9 - 1, I, J - 1, back ++ [(ty, vy)], by first | rfl | exact congrArg (Value.int IntKind.i64) (by omega), by first | rfl | exact congrArg (Value.int IntKind.i64) (by omega), rfl, by omega, by omega, by omega, by omega, by omega, by rw [List.length_append, List.length_singleton, HLen.out]; omega, HM2.out, (by rw [Hid, pc_append, List.length_append, HLen.out]; exact hown1), KKw, BB.out.trans (HBw.mono (by omega)), by omega⟩
    have p8 : 0 ≤ e8 := by omega
    have d8 : decide (0 ≤ e8) = true := decide_eq_true p8
    by_cases hJ0 : 0 < J
    case neg =>
      have hJz : J = 0 := by omega
      have p9 : ¬ 0 ≤ e9 := by omega
      have d9 : decide (e9 < 0) = true := decide_eq_true (by omega)
      obtain ⟨ad1, rfl, hb1, hcA⟩ := PRead.cells (W := w) H1.out (show I - 1 < n1 by omega)
      have fa1 : e8.toNat = I - 1 := by omega
      have fa2 : e8 < n1 := by omega
      have fa3 : IntKind.i64.wrap (e8 - 1) = e8 - 1 := IntWalk.i64_in _ (by omega)
      have hatA : Hid (at_ xs (I - 1) = ((at_ xs (I - 1)).1, (at_ xs (I - 1)).2)) := rfl
      obtain ⟨tx, htx⟩ : ∃ z, (at_ xs (I - 1)).1 = z := ⟨_, rfl⟩
      obtain ⟨vx, hvx⟩ : ∃ z, (at_ xs (I - 1)).2 = z := ⟨_, rfl⟩
      rw [htx, hvx] at hatA hcA
      have hC : J = 0 ∨ (at_ ys (J - 1)).1 < (at_ xs (I - 1)).1 ∨ ((at_ xs (I - 1)).1 = (at_ ys (J - 1)).1 ∧ key m (at_ ys (J - 1)).2 ≤ key m (at_ xs (I - 1)).2) := .inl hJz
      replace he8 := Lib.hid he8
      replace he9 := Lib.hid he9
      obtain ⟨gi, hgi⟩ : ∃ s, wr.heap.size = s := ⟨_, rfl⟩
      have BZ := Lib.hid (BB.out.alloc BB.out.size (.cells #[Value.int IntKind.i64 0, Value.int IntKind.i64 0] 40))
      have HOZ := Lib.hid (own_alloc HO.out (.cells #[Value.int IntKind.i64 0, Value.int IntKind.i64 0] 40))
      have KZ := Lib.hid (KK.out.new (t := 40) (c := #[Value.int IntKind.i64 0, Value.int IntKind.i64 0]) hgi)
      go_wp2_with fail
      obtain ⟨W5, hW, K5, B5, z5⟩ := name_world KZ.out BZ.out (s := gi + 1) (by simp; omega)
      rw [hW]
      rw [hW] at HOZ
      clear hW KK BB R KZ BZ
      have hoff : ∀ k, Value.ownBlock u = some k → k ≠ gi := fun k h => by have := (World.ownsRow.lt HO.out k h).2; omega
      clear HO
      have KK := Lib.hid K5
      have BB := Lib.hid B5
      have R := K5.rules
      simp only [Rules] at R
      clear K5 B5
      obtain ⟨ca1, ca2⟩ := hcA _ BB.out
      have hba := Nat.lt_of_lt_of_le hb1 BB.out.size
      (refine gro.wp_region_grown (by kernel_rfl) (by kernel_rfl) ?_; (repeat (go_big_quiet_step ((fail)))); refine wpQuiet_nil ?_; intro _ hw'; obtain ⟨nx, hw''⟩ := hw'; subst hw'')
      replace KK := Lib.hid (KK.out.below (below_grown _ nx))
      replace BB := Lib.hid (BB.out.trans ((below_grown _ nx).mono BB.out.size))
      replace HOZ := Lib.hid (own_keep HOZ.out (below_grown _ nx))
      replace z5 := Nat.le_trans z5 (below_grown _ nx).size
      clear R ca1 ca2 
      generalize grown _ nx = W7 at *
      have R := KK.out.rules
      simp only [Rules] at R
      obtain ⟨ca1, ca2⟩ := hcA _ BB.out
      go_wp2_with fail
      obtain ⟨W9, hW, K9, B9, z9⟩ := name_world (Bx.put2 (u := .int .i64 tx) (v := .int .i64 vx) KK.out (by simp <;> omega)) ((BB.out.setCell (p := ⟨gi, 0, none⟩) (by show w.heap.size ≤ gi; omega) _).setCell (p := ⟨gi, 1, none⟩) (by show w.heap.size ≤ gi; omega) _) (s := gi + 1) (by simp only [set2_size]; exact z5)
      have HO9 : Hid (W9.ownsRow (w.heap.size + 1 + 1 + 1) 40 2 u back.length (pc back)) := by
        rw [← hW]
        exact own_off2 HOZ.out hoff
      rw [hW]
      clear hW KK BB R HOZ ca1 ca2
      have KK := Lib.hid K9
      have BB := Lib.hid B9
      have R := K9.rules
      simp only [Rules] at R
      clear K9 B9
      have HM2 := Lib.hid (show MInv m xs ys (I - 1) (J) (pushM m back (tx, vx)) from hatA.out ▸ MInv.stepA HG1.out HG2.out HM.out hI0 (by rw [HL1.out]; exact hI) (by rw [HL2.out]; exact hJ) hC)
      by_cases hb0 : back.length = 0
      case pos =>
        have q0 : ((back.length : Int) == 0) = true := by rw [hb0]; rfl
        rw [pushM_nil hb0] at HM2
        have hbe : back = [] := List.eq_nil_of_length_eq_zero hb0
        obtain ⟨A7, c7, rfl, o1, o2, _⟩ := own_form HO9.out
        have hzl : IntKind.i64.wrap (back.length : Int) = 0 := by rw [hb0]; rfl
        (refine gro.wp_region_grown (by kernel_rfl) (by kernel_rfl) ?_; (repeat (go_big_quiet_step ((fail)))); refine wpQuiet_nil ?_; intro _ hw'; obtain ⟨nx, hw''⟩ := hw'; subst hw'')
        replace KK := Lib.hid (KK.out.below (below_grown _ nx))
        replace BB := Lib.hid (BB.out.trans ((below_grown _ nx).mono BB.out.size))
        replace HO9 := Lib.hid (own_keep HO9.out (below_grown _ nx))
        replace z9 := Nat.le_trans z9 (below_grown _ nx).size
        clear R
        generalize grown _ nx = W9 at *
        have R := KK.out.rules
        simp only [Rules] at R
        go_wp2_with (at_builtin; go_loud (refine wpList_append_any _ rfl (.tmp 144) (.tmp 146) 22 rfl (w.heap.size + 1 + 1 + 1) 40 i0 (.agg #[.int .i64 0, .int .i64 0]) 2 16 Try.underlying22 HI.out HZ0.out HZ1.out HZ2.out rfl (by omega) _ back.length _ rfl (own_alloc HO9.out _) _ _ 1 1 _ rfl (reads_new _ _ _ rfl) (by simp [Value.oneCell']) (by unfold maxLen; omega) (by omega) (by simp; omega) ?_); intro v1 w1 hown1 hg1 hat1)
        have HBw : Below (w.heap.size + 1 + 1 + 1) W9 w1 := below_box2 (by omega) HO9.out hg1
        have KKw : Bx w1 [(w.heap.size + 1 + 1, 24, #[Value.bool false, Value.int IntKind.i64 0, Value.int IntKind.i64 0, Value.int IntKind.i64 0, Value.slice none 0 0]), (w.heap.size + 1, 24, #[Value.bool m, Value.int IntKind.i64 v, Value.int IntKind.i64 p2, Value.int IntKind.i64 o, Value.slice A2 n2 c2]), (w.heap.size, 24, #[Value.bool m, Value.int IntKind.i64 v, Value.int IntKind.i64 p, Value.int IntKind.i64 o, Value.slice (some ad1) n1 c1])] := fun q hq => (KK.out q (List.mem_cons_of_mem _ hq)).below HBw (by simp at hq; rcases hq with h | h | h <;> rw [h] <;> simp <;> omega)
        have szw := HBw.size
        have he8' := he8.out
        have he9' := he9.out
        go_roundg (I + J - 1)
        case measure => omega
        case rel => exact ⟨v1, e8 - 1, e9, I - 1, J, back ++ [(tx, vx)], by first | rfl | exact congrArg (Value.int IntKind.i64) (by omega), by first | rfl | exact congrArg (Value.int IntKind.i64) (by omega), rfl, by omega, by omega, by omega, by omega, by omega, by rw [List.length_append, List.length_singleton]; omega, (by rw [hbe, List.nil_append]; exact HM2.out), (by rw [Hid, pc_append, List.length_append]; exact hown1), KKw, BB.out.trans (HBw.mono (by omega)), by omega⟩
      have q0 : ((back.length : Int) == 0) = false := by simpa using hb0
      obtain ⟨len, hlen⟩ : ∃ l, back.length = l := ⟨_, rfl⟩
      have hpn := Lib.hid (fun h => pushM_no (m := m) (back := back) (x := (tx, vx)) hb0 h)
      have hpy := Lib.hid (fun h => pushM_yes (m := m) (back := back) (x := (tx, vx)) hb0 h)
      rw [hlen] at HO9 hbl q0 hpn hpy hb0
      obtain ⟨g, cc, rfl, o1, o2, o3, o4⟩ := own_form2 HO9.out (by omega)
      have o2' : cc ≤ 9223372036854775807 := o2
      obtain ⟨d1, d2⟩ := own_pair HO9.out (show len - 1 < len by omega)
      change W9.cell? ⟨g, (len - 1) * 2 + 1, none⟩ = some (.int .i64 (at_ back (len - 1)).2) at d2
      clear d1
      have hgl : g < W9.heap.size := (World.ownsRow.lt HO9.out _ rfl).2
      have HBe := Lib.hid (fun W => beats_any m (at_ back (len - 1)).2 vx W)
      obtain ⟨lv, hlv⟩ : ∃ l, (at_ back (len - 1)).2 = l := ⟨_, rfl⟩
      rw [hlv] at d2 hpn hpy HBe
      clear hlv
      have t1 : IntKind.i64.wrap ((len : Int) - 1) = (len : Int) - 1 := IntWalk.i64_in _ (by omega)
      have t2 : 0 ≤ (len : Int) - 1 := by omega
      have t3 : ((len : Int) - 1).toNat = len - 1 := by omega
      have t4 : (len : Int) - 1 < len := by omega
      have HLen := Lib.hid hlen
      clear hlen
      by_cases hbt : key m vx ≤ key m lv
      case pos =>
        rw [decide_eq_true hbt] at HBe
        rw [hpn.out hbt] at HM2
        (refine gro.wp_region_grown (by kernel_rfl) (by kernel_rfl) ?_; (repeat (go_big_quiet_step ((go_at_call 37; exact gro.call_same (HBe.out _))))); refine wpQuiet_nil ?_; intro _ hw'; obtain ⟨nx, hw''⟩ := hw'; subst hw'')
        replace KK := Lib.hid (KK.out.below (below_grown _ nx))
        replace BB := Lib.hid (BB.out.trans ((below_grown _ nx).mono BB.out.size))
        replace HO9 := Lib.hid (own_keep HO9.out (below_grown _ nx))
        replace z9 := Nat.le_trans z9 (below_grown _ nx).size
        clear R
        generalize grown _ nx = W9 at *
        have R := KK.out.rules
        simp only [Rules] at R
        clear t1 t2 t3 t4 d2
        go_wp2
        have he8' := he8.out
        have he9' := he9.out
        go_roundg (I + J - 1)
        case measure => omega
        case rel => exact ⟨_, e8 - 1, e9, I - 1, J, back, by first | rfl | exact congrArg (Value.int IntKind.i64) (by omega), by first | rfl | exact congrArg (Value.int IntKind.i64) (by omega), rfl, by omega, by omega, by omega, by omega, by omega, by rw [HLen.out]; omega, HM2.out, (by rw [Hid, HLen.out]; exact HO9.out), Bx.tl KK.out, BB.out, by omega⟩
      rw [decide_eq_false hbt] at HBe
      rw [hpy.out hbt] at HM2
      (refine gro.wp_region_grown (by kernel_rfl) (by kernel_rfl) ?_; (repeat (go_big_quiet_step ((go_at_call 37; exact gro.call_same (HBe.out _))))); refine wpQuiet_nil ?_; intro _ hw'; obtain ⟨nx, hw''⟩ := hw'; subst hw'')
      replace KK := Lib.hid (KK.out.below (below_grown _ nx))
      replace BB := Lib.hid (BB.out.trans ((below_grown _ nx).mono BB.out.size))
      replace HO9 := Lib.hid (own_keep HO9.out (below_grown _ nx))
      replace z9 := Nat.le_trans z9 (below_grown _ nx).size
      clear R
      generalize grown _ nx = W9 at *
      have R := KK.out.rules
      simp only [Rules] at R
      clear t1 t2 t3 t4 d2
      go_wp2_with (at_builtin; go_loud (refine wpList_append_any _ rfl (.tmp 144) (.tmp 146) 22 rfl (w.heap.size + 1 + 1 + 1) 40 i0 (.agg #[.int .i64 0, .int .i64 0]) 2 16 Try.underlying22 HI.out HZ0.out HZ1.out HZ2.out rfl (by omega) _ len _ rfl (own_alloc HO9.out _) _ _ 1 1 _ rfl (reads_new _ _ _ rfl) (by simp [Value.oneCell']) (by unfold maxLen; omega) (by omega) (by simp; omega) ?_); intro v1 w1 hown1 hg1 hat1)
      have HBw : Below (w.heap.size + 1 + 1 + 1) W9 w1 := below_box2 (by omega) HO9.out hg1
      have KKw : Bx w1 [(w.heap.size + 1 + 1, 24, #[Value.bool false, Value.int IntKind.i64 0, Value.int IntKind.i64 0, Value.int IntKind.i64 0, Value.slice none 0 0]), (w.heap.size + 1, 24, #[Value.bool m, Value.int IntKind.i64 v, Value.int IntKind.i64 p2, Value.int IntKind.i64 o, Value.slice A2 n2 c2]), (w.heap.size, 24, #[Value.bool m, Value.int IntKind.i64 v, Value.int IntKind.i64 p, Value.int IntKind.i64 o, Value.slice (some ad1) n1 c1])] := fun q hq => (KK.out q (List.mem_cons_of_mem _ hq)).below HBw (by simp at hq; rcases hq with h | h | h <;> rw [h] <;> simp <;> omega)
      have szw := HBw.size
      have he8' := he8.out
      have he9' := he9.out
      go_roundg (I + J - 1)
      case measure => omega
      case rel => exact ⟨v1, e8 - 1, e9, I - 1, J, back ++ [(tx, vx)], by first | rfl | exact congrArg (Value.int IntKind.i64) (by omega), by first | rfl | exact congrArg (Value.int IntKind.i64) (by omega), rfl, by omega, by omega, by omega, by omega, by omega, by rw [List.length_append, List.length_singleton, HLen.out]; omega, HM2.out, (by rw [Hid, pc_append, List.length_append, HLen.out]; exact hown1), KKw, BB.out.trans (HBw.mono (by omega)), by omega⟩
    have p9 : 0 ≤ e9 := by omega
    have d9 : decide (e9 < 0) = false := decide_eq_false (by omega)
    obtain ⟨ad1, rfl, hb1, hcA⟩ := PRead.cells (W := w) H1.out (show I - 1 < n1 by omega)
    have fa1 : e8.toNat = I - 1 := by omega
    have fa2 : e8 < n1 := by omega
    have fa3 : IntKind.i64.wrap (e8 - 1) = e8 - 1 := IntWalk.i64_in _ (by omega)
    obtain ⟨ad2, rfl, hb2, hcB⟩ := PRead.cells (W := w) H2.out (show J - 1 < n2 by omega)
    have fb1 : e9.toNat = J - 1 := by omega
    have fb2 : e9 < n2 := by omega
    have fb3 : IntKind.i64.wrap (e9 - 1) = e9 - 1 := IntWalk.i64_in _ (by omega)
    have hatA : Hid (at_ xs (I - 1) = ((at_ xs (I - 1)).1, (at_ xs (I - 1)).2)) := rfl
    obtain ⟨tx, htx⟩ : ∃ z, (at_ xs (I - 1)).1 = z := ⟨_, rfl⟩
    obtain ⟨vx, hvx⟩ : ∃ z, (at_ xs (I - 1)).2 = z := ⟨_, rfl⟩
    rw [htx, hvx] at hatA hcA
    have hatB : Hid (at_ ys (J - 1) = ((at_ ys (J - 1)).1, (at_ ys (J - 1)).2)) := rfl
    obtain ⟨ty, hty⟩ : ∃ z, (at_ ys (J - 1)).1 = z := ⟨_, rfl⟩
    obtain ⟨vy, hvy⟩ : ∃ z, (at_ ys (J - 1)).2 = z := ⟨_, rfl⟩
    rw [hty, hvy] at hatB hcB
    have HBc := Lib.hid (fun W => beats_any m vx vy W)
    by_cases c1_ : ty < tx
    case pos =>
      have k1 : decide (ty < tx) = true := decide_eq_true c1_
      have hC : J = 0 ∨ (at_ ys (J - 1)).1 < (at_ xs (I - 1)).1 ∨ ((at_ xs (I - 1)).1 = (at_ ys (J - 1)).1 ∧ key m (at_ ys (J - 1)).2 ≤ key m (at_ xs (I - 1)).2) := by rw [htx, hvx, hty, hvy]; omega
      replace he8 := Lib.hid he8
      replace he9 := Lib.hid he9
      obtain ⟨gi, hgi⟩ : ∃ s, wr.heap.size = s := ⟨_, rfl⟩
      have BZ := Lib.hid (BB.out.alloc BB.out.size (.cells #[Value.int IntKind.i64 0, Value.int IntKind.i64 0] 40))
      have HOZ := Lib.hid (own_alloc HO.out (.cells #[Value.int IntKind.i64 0, Value.int IntKind.i64 0] 40))
      have KZ := Lib.hid (KK.out.new (t := 40) (c := #[Value.int IntKind.i64 0, Value.int IntKind.i64 0]) hgi)
      go_wp2_with fail
      obtain ⟨W5, hW, K5, B5, z5⟩ := name_world KZ.out BZ.out (s := gi + 1) (by simp; omega)
      rw [hW]
      rw [hW] at HOZ
      clear hW KK BB R KZ BZ
      have hoff : ∀ k, Value.ownBlock u = some k → k ≠ gi := fun k h => by have := (World.ownsRow.lt HO.out k h).2; omega
      clear HO
      have KK := Lib.hid K5
      have BB := Lib.hid B5
      have R := K5.rules
      simp only [Rules] at R
      clear K5 B5
      obtain ⟨ca1, ca2⟩ := hcA _ BB.out
      obtain ⟨cb1, cb2⟩ := hcB _ BB.out
      have hba := Nat.lt_of_lt_of_le hb1 BB.out.size
      have hbb := Nat.lt_of_lt_of_le hb2 BB.out.size
      (refine gro.wp_region_grown (by kernel_rfl) (by kernel_rfl) ?_; (repeat (go_big_quiet_step ((fail)))); refine wpQuiet_nil ?_; intro _ hw'; obtain ⟨nx, hw''⟩ := hw'; subst hw'')
      replace KK := Lib.hid (KK.out.below (below_grown _ nx))
      replace BB := Lib.hid (BB.out.trans ((below_grown _ nx).mono BB.out.size))
      replace HOZ := Lib.hid (own_keep HOZ.out (below_grown _ nx))
      replace z5 := Nat.le_trans z5 (below_grown _ nx).size
      clear R ca1 ca2 cb1 cb2
      generalize grown _ nx = W7 at *
      have R := KK.out.rules
      simp only [Rules] at R
      obtain ⟨ca1, ca2⟩ := hcA _ BB.out
      go_wp2_with fail
      obtain ⟨W9, hW, K9, B9, z9⟩ := name_world (Bx.put2 (u := .int .i64 tx) (v := .int .i64 vx) KK.out (by simp <;> omega)) ((BB.out.setCell (p := ⟨gi, 0, none⟩) (by show w.heap.size ≤ gi; omega) _).setCell (p := ⟨gi, 1, none⟩) (by show w.heap.size ≤ gi; omega) _) (s := gi + 1) (by simp only [set2_size]; exact z5)
      have HO9 : Hid (W9.ownsRow (w.heap.size + 1 + 1 + 1) 40 2 u back.length (pc back)) := by
        rw [← hW]
        exact own_off2 HOZ.out hoff
      rw [hW]
      clear hW KK BB R HOZ ca1 ca2
      have KK := Lib.hid K9
      have BB := Lib.hid B9
      have R := K9.rules
      simp only [Rules] at R
      clear K9 B9
      have HM2 := Lib.hid (show MInv m xs ys (I - 1) (J) (pushM m back (tx, vx)) from hatA.out ▸ MInv.stepA HG1.out HG2.out HM.out hI0 (by rw [HL1.out]; exact hI) (by rw [HL2.out]; exact hJ) hC)
      by_cases hb0 : back.length = 0
      case pos =>
        have q0 : ((back.length : Int) == 0) = true := by rw [hb0]; rfl
        rw [pushM_nil hb0] at HM2
        have hbe : back = [] := List.eq_nil_of_length_eq_zero hb0
        obtain ⟨A7, c7, rfl, o1, o2, _⟩ := own_form HO9.out
        have hzl : IntKind.i64.wrap (back.length : Int) = 0 := by rw [hb0]; rfl
        (refine gro.wp_region_grown (by kernel_rfl) (by kernel_rfl) ?_; (repeat (go_big_quiet_step ((fail)))); refine wpQuiet_nil ?_; intro _ hw'; obtain ⟨nx, hw''⟩ := hw'; subst hw'')
        replace KK := Lib.hid (KK.out.below (below_grown _ nx))
        replace BB := Lib.hid (BB.out.trans ((below_grown _ nx).mono BB.out.size))
        replace HO9 := Lib.hid (own_keep HO9.out (below_grown _ nx))
        replace z9 := Nat.le_trans z9 (below_grown _ nx).size
        clear R
        generalize grown _ nx = W9 at *
        have R := KK.out.rules
        simp only [Rules] at R
        go_wp2_with (at_builtin; go_loud (refine wpList_append_any _ rfl (.tmp 144) (.tmp 146) 22 rfl (w.heap.size + 1 + 1 + 1) 40 i0 (.agg #[.int .i64 0, .int .i64 0]) 2 16 Try.underlying22 HI.out HZ0.out HZ1.out HZ2.out rfl (by omega) _ back.length _ rfl (own_alloc HO9.out _) _ _ 1 1 _ rfl (reads_new _ _ _ rfl) (by simp [Value.oneCell']) (by unfold maxLen; omega) (by omega) (by simp; omega) ?_); intro v1 w1 hown1 hg1 hat1)
        have HBw : Below (w.heap.size + 1 + 1 + 1) W9 w1 := below_box2 (by omega) HO9.out hg1
        have KKw : Bx w1 [(w.heap.size + 1 + 1, 24, #[Value.bool false, Value.int IntKind.i64 0, Value.int IntKind.i64 0, Value.int IntKind.i64 0, Value.slice none 0 0]), (w.heap.size + 1, 24, #[Value.bool m, Value.int IntKind.i64 v, Value.int IntKind.i64 p2, Value.int IntKind.i64 o, Value.slice (some ad2) n2 c2]), (w.heap.size, 24, #[Value.bool m, Value.int IntKind.i64 v, Value.int IntKind.i64 p, Value.int IntKind.i64 o, Value.slice (some ad1) n1 c1])] := fun q hq => (KK.out q (List.mem_cons_of_mem _ hq)).below HBw (by simp at hq; rcases hq with h | h | h <;> rw [h] <;> simp <;> omega)
        have szw := HBw.size
        have he8' := he8.out
        have he9' := he9.out
        go_roundg (I + J - 1)
        case measure => omega
        case rel => exact ⟨v1, e8 - 1, e9, I - 1, J, back ++ [(tx, vx)], by first | rfl | exact congrArg (Value.int IntKind.i64) (by omega), by first | rfl | exact congrArg (Value.int IntKind.i64) (by omega), rfl, by omega, by omega, by omega, by omega, by omega, by rw [List.length_append, List.length_singleton]; omega, (by rw [hbe, List.nil_append]; exact HM2.out), (by rw [Hid, pc_append, List.length_append]; exact hown1), KKw, BB.out.trans (HBw.mono (by omega)), by omega⟩
      have q0 : ((back.length : Int) == 0) = false := by simpa using hb0
      obtain ⟨len, hlen⟩ : ∃ l, back.length = l := ⟨_, rfl⟩
      have hpn := Lib.hid (fun h => pushM_no (m := m) (back := back) (x := (tx, vx)) hb0 h)
      have hpy := Lib.hid (fun h => pushM_yes (m := m) (back := back) (x := (tx, vx)) hb0 h)
      rw [hlen] at HO9 hbl q0 hpn hpy hb0
      obtain ⟨g, cc, rfl, o1, o2, o3, o4⟩ := own_form2 HO9.out (by omega)
      have o2' : cc ≤ 9223372036854775807 := o2
      obtain ⟨d1, d2⟩ := own_pair HO9.out (show len - 1 < len by omega)
      change W9.cell? ⟨g, (len - 1) * 2 + 1, none⟩ = some (.int .i64 (at_ back (len - 1)).2) at d2
      clear d1
      have hgl : g < W9.heap.size := (World.ownsRow.lt HO9.out _ rfl).2
      have HBe := Lib.hid (fun W => beats_any m (at_ back (len - 1)).2 vx W)
      obtain ⟨lv, hlv⟩ : ∃ l, (at_ back (len - 1)).2 = l := ⟨_, rfl⟩
      rw [hlv] at d2 hpn hpy HBe
      clear hlv
      have t1 : IntKind.i64.wrap ((len : Int) - 1) = (len : Int) - 1 := IntWalk.i64_in _ (by omega)
      have t2 : 0 ≤ (len : Int) - 1 := by omega
      have t3 : ((len : Int) - 1).toNat = len - 1 := by omega
      have t4 : (len : Int) - 1 < len := by omega
      have HLen := Lib.hid hlen
      clear hlen
      by_cases hbt : key m vx ≤ key m lv
      case pos =>
        rw [decide_eq_true hbt] at HBe
        rw [hpn.out hbt] at HM2
        (refine gro.wp_region_grown (by kernel_rfl) (by kernel_rfl) ?_; (repeat (go_big_quiet_step ((go_at_call 37; exact gro.call_same (HBe.out _))))); refine wpQuiet_nil ?_; intro _ hw'; obtain ⟨nx, hw''⟩ := hw'; subst hw'')
        replace KK := Lib.hid (KK.out.below (below_grown _ nx))
        replace BB := Lib.hid (BB.out.trans ((below_grown _ nx).mono BB.out.size))
        replace HO9 := Lib.hid (own_keep HO9.out (below_grown _ nx))
        replace z9 := Nat.le_trans z9 (below_grown _ nx).size
        clear R
        generalize grown _ nx = W9 at *
        have R := KK.out.rules
        simp only [Rules] at R
        clear t1 t2 t3 t4 d2
        go_wp2
        have he8' := he8.out
        have he9' := he9.out
        go_roundg (I + J - 1)
        case measure => omega
        case rel => exact ⟨_, e8 - 1, e9, I - 1, J, back, by first | rfl | exact congrArg (Value.int IntKind.i64) (by omega), by first | rfl | exact congrArg (Value.int IntKind.i64) (by omega), rfl, by omega, by omega, by omega, by omega, by omega, by rw [HLen.out]; omega, HM2.out, (by rw [Hid, HLen.out]; exact HO9.out), Bx.tl KK.out, BB.out, by omega⟩
      rw [decide_eq_false hbt] at HBe
      rw [hpy.out hbt] at HM2
      (refine gro.wp_region_grown (by kernel_rfl) (by kernel_rfl) ?_; (repeat (go_big_quiet_step ((go_at_call 37; exact gro.call_same (HBe.out _))))); refine wpQuiet_nil ?_; intro _ hw'; obtain ⟨nx, hw''⟩ := hw'; subst hw'')
      replace KK := Lib.hid (KK.out.below (below_grown _ nx))
      replace BB := Lib.hid (BB.out.trans ((below_grown _ nx).mono BB.out.size))
      replace HO9 := Lib.hid (own_keep HO9.out (below_grown _ nx))
      replace z9 := Nat.le_trans z9 (below_grown _ nx).size
      clear R
      generalize grown _ nx = W9 at *
      have R := KK.out.rules
      simp only [Rules] at R
      clear t1 t2 t3 t4 d2
      go_wp2_with (at_builtin; go_loud (refine wpList_append_any _ rfl (.tmp 144) (.tmp 146) 22 rfl (w.heap.size + 1 + 1 + 1) 40 i0 (.agg #[.int .i64 0, .int .i64 0]) 2 16 Try.underlying22 HI.out HZ0.out HZ1.out HZ2.out rfl (by omega) _ len _ rfl (own_alloc HO9.out _) _ _ 1 1 _ rfl (reads_new _ _ _ rfl) (by simp [Value.oneCell']) (by unfold maxLen; omega) (by omega) (by simp; omega) ?_); intro v1 w1 hown1 hg1 hat1)
      have HBw : Below (w.heap.size + 1 + 1 + 1) W9 w1 := below_box2 (by omega) HO9.out hg1
      have KKw : Bx w1 [(w.heap.size + 1 + 1, 24, #[Value.bool false, Value.int IntKind.i64 0, Value.int IntKind.i64 0, Value.int IntKind.i64 0, Value.slice none 0 0]), (w.heap.size + 1, 24, #[Value.bool m, Value.int IntKind.i64 v, Value.int IntKind.i64 p2, Value.int IntKind.i64 o, Value.slice (some ad2) n2 c2]), (w.heap.size, 24, #[Value.bool m, Value.int IntKind.i64 v, Value.int IntKind.i64 p, Value.int IntKind.i64 o, Value.slice (some ad1) n1 c1])] := fun q hq => (KK.out q (List.mem_cons_of_mem _ hq)).below HBw (by simp at hq; rcases hq with h | h | h <;> rw [h] <;> simp <;> omega)
      have szw := HBw.size
      have he8' := he8.out
      have he9' := he9.out
      go_roundg (I + J - 1)
      case measure => omega
      case rel => exact ⟨v1, e8 - 1, e9, I - 1, J, back ++ [(tx, vx)], by first | rfl | exact congrArg (Value.int IntKind.i64) (by omega), by first | rfl | exact congrArg (Value.int IntKind.i64) (by omega), rfl, by omega, by omega, by omega, by omega, by omega, by rw [List.length_append, List.length_singleton, HLen.out]; omega, HM2.out, (by rw [Hid, pc_append, List.length_append, HLen.out]; exact hown1), KKw, BB.out.trans (HBw.mono (by omega)), by omega⟩
    have k1 : decide (ty < tx) = false := decide_eq_false c1_
    by_cases c2_ : tx = ty
    case pos =>
      have k2 : (tx == ty) = true := by simpa using c2_
      by_cases c3_ : key m vy ≤ key m vx
      case pos =>
        rw [decide_eq_true c3_] at HBc
        have hC : J = 0 ∨ (at_ ys (J - 1)).1 < (at_ xs (I - 1)).1 ∨ ((at_ xs (I - 1)).1 = (at_ ys (J - 1)).1 ∧ key m (at_ ys (J - 1)).2 ≤ key m (at_ xs (I - 1)).2) := by rw [htx, hvx, hty, hvy]; omega
        replace c2_ := Lib.hid c2_
        replace he8 := Lib.hid he8
        replace he9 := Lib.hid he9
        obtain ⟨gi, hgi⟩ : ∃ s, wr.heap.size = s := ⟨_, rfl⟩
        have BZ := Lib.hid (BB.out.alloc BB.out.size (.cells #[Value.int IntKind.i64 0, Value.int IntKind.i64 0] 40))
        have HOZ := Lib.hid (own_alloc HO.out (.cells #[Value.int IntKind.i64 0, Value.int IntKind.i64 0] 40))
        have KZ := Lib.hid (KK.out.new (t := 40) (c := #[Value.int IntKind.i64 0, Value.int IntKind.i64 0]) hgi)
        go_wp2_with fail
        obtain ⟨W5, hW, K5, B5, z5⟩ := name_world KZ.out BZ.out (s := gi + 1) (by simp; omega)
        rw [hW]
        rw [hW] at HOZ
        clear hW KK BB R KZ BZ
        have hoff : ∀ k, Value.ownBlock u = some k → k ≠ gi := fun k h => by have := (World.ownsRow.lt HO.out k h).2; omega
        clear HO
        have KK := Lib.hid K5
        have BB := Lib.hid B5
        have R := K5.rules
        simp only [Rules] at R
        clear K5 B5
        obtain ⟨ca1, ca2⟩ := hcA _ BB.out
        obtain ⟨cb1, cb2⟩ := hcB _ BB.out
        have hba := Nat.lt_of_lt_of_le hb1 BB.out.size
        have hbb := Nat.lt_of_lt_of_le hb2 BB.out.size
        (refine gro.wp_region_grown (by kernel_rfl) (by kernel_rfl) ?_; (repeat (go_big_quiet_step ((go_at_call 37; exact gro.call_same (HBc.out _))))); refine wpQuiet_nil ?_; intro _ hw'; obtain ⟨nx, hw''⟩ := hw'; subst hw'')
        replace KK := Lib.hid (KK.out.below (below_grown _ nx))
        replace BB := Lib.hid (BB.out.trans ((below_grown _ nx).mono BB.out.size))
        replace HOZ := Lib.hid (own_keep HOZ.out (below_grown _ nx))
        replace z5 := Nat.le_trans z5 (below_grown _ nx).size
        clear R ca1 ca2 cb1 cb2
        generalize grown _ nx = W7 at *
        have R := KK.out.rules
        simp only [Rules] at R
        obtain ⟨ca1, ca2⟩ := hcA _ BB.out
        go_wp2_with fail
        obtain ⟨W9, hW, K9, B9, z9⟩ := name_world (Bx.put2 (u := .int .i64 tx) (v := .int .i64 vx) KK.out (by simp <;> omega)) ((BB.out.setCell (p := ⟨gi, 0, none⟩) (by show w.heap.size ≤ gi; omega) _).setCell (p := ⟨gi, 1, none⟩) (by show w.heap.size ≤ gi; omega) _) (s := gi + 1) (by simp only [set2_size]; exact z5)
        have HO9 : Hid (W9.ownsRow (w.heap.size + 1 + 1 + 1) 40 2 u back.length (pc back)) := by
          rw [← hW]
          exact own_off2 HOZ.out hoff
        rw [hW]
        clear hW KK BB R HOZ ca1 ca2
        have KK := Lib.hid K9
        have BB := Lib.hid B9
        have R := K9.rules
        simp only [Rules] at R
        clear K9 B9
        have HM2 := Lib.hid (show MInv m xs ys (I - 1) (J) (pushM m back (tx, vx)) from hatA.out ▸ MInv.stepA HG1.out HG2.out HM.out hI0 (by rw [HL1.out]; exact hI) (by rw [HL2.out]; exact hJ) hC)
        by_cases hb0 : back.length = 0
        case pos =>
          have q0 : ((back.length : Int) == 0) = true := by rw [hb0]; rfl
          rw [pushM_nil hb0] at HM2
          have hbe : back = [] := List.eq_nil_of_length_eq_zero hb0
          obtain ⟨A7, c7, rfl, o1, o2, _⟩ := own_form HO9.out
          have hzl : IntKind.i64.wrap (back.length : Int) = 0 := by rw [hb0]; rfl
          (refine gro.wp_region_grown (by kernel_rfl) (by kernel_rfl) ?_; (repeat (go_big_quiet_step ((fail)))); refine wpQuiet_nil ?_; intro _ hw'; obtain ⟨nx, hw''⟩ := hw'; subst hw'')
          replace KK := Lib.hid (KK.out.below (below_grown _ nx))
          replace BB := Lib.hid (BB.out.trans ((below_grown _ nx).mono BB.out.size))
          replace HO9 := Lib.hid (own_keep HO9.out (below_grown _ nx))
          replace z9 := Nat.le_trans z9 (below_grown _ nx).size
          clear R
          generalize grown _ nx = W9 at *
          have R := KK.out.rules
          simp only [Rules] at R
          go_wp2_with (at_builtin; go_loud (refine wpList_append_any _ rfl (.tmp 144) (.tmp 146) 22 rfl (w.heap.size + 1 + 1 + 1) 40 i0 (.agg #[.int .i64 0, .int .i64 0]) 2 16 Try.underlying22 HI.out HZ0.out HZ1.out HZ2.out rfl (by omega) _ back.length _ rfl (own_alloc HO9.out _) _ _ 1 1 _ rfl (reads_new _ _ _ rfl) (by simp [Value.oneCell']) (by unfold maxLen; omega) (by omega) (by simp; omega) ?_); intro v1 w1 hown1 hg1 hat1)
          have HBw : Below (w.heap.size + 1 + 1 + 1) W9 w1 := below_box2 (by omega) HO9.out hg1
          have KKw : Bx w1 [(w.heap.size + 1 + 1, 24, #[Value.bool false, Value.int IntKind.i64 0, Value.int IntKind.i64 0, Value.int IntKind.i64 0, Value.slice none 0 0]), (w.heap.size + 1, 24, #[Value.bool m, Value.int IntKind.i64 v, Value.int IntKind.i64 p2, Value.int IntKind.i64 o, Value.slice (some ad2) n2 c2]), (w.heap.size, 24, #[Value.bool m, Value.int IntKind.i64 v, Value.int IntKind.i64 p, Value.int IntKind.i64 o, Value.slice (some ad1) n1 c1])] := fun q hq => (KK.out q (List.mem_cons_of_mem _ hq)).below HBw (by simp at hq; rcases hq with h | h | h <;> rw [h] <;> simp <;> omega)
          have szw := HBw.size
          have he8' := he8.out
          have he9' := he9.out
          go_roundg (I + J - 1)
          case measure => omega
          case rel => exact ⟨v1, e8 - 1, e9, I - 1, J, back ++ [(tx, vx)], by first | rfl | exact congrArg (Value.int IntKind.i64) (by omega), by first | rfl | exact congrArg (Value.int IntKind.i64) (by omega), rfl, by omega, by omega, by omega, by omega, by omega, by rw [List.length_append, List.length_singleton]; omega, (by rw [hbe, List.nil_append]; exact HM2.out), (by rw [Hid, pc_append, List.length_append]; exact hown1), KKw, BB.out.trans (HBw.mono (by omega)), by omega⟩
        have q0 : ((back.length : Int) == 0) = false := by simpa using hb0
        obtain ⟨len, hlen⟩ : ∃ l, back.length = l := ⟨_, rfl⟩
        have hpn := Lib.hid (fun h => pushM_no (m := m) (back := back) (x := (tx, vx)) hb0 h)
        have hpy := Lib.hid (fun h => pushM_yes (m := m) (back := back) (x := (tx, vx)) hb0 h)
        rw [hlen] at HO9 hbl q0 hpn hpy hb0
        obtain ⟨g, cc, rfl, o1, o2, o3, o4⟩ := own_form2 HO9.out (by omega)
        have o2' : cc ≤ 9223372036854775807 := o2
        obtain ⟨d1, d2⟩ := own_pair HO9.out (show len - 1 < len by omega)
        change W9.cell? ⟨g, (len - 1) * 2 + 1, none⟩ = some (.int .i64 (at_ back (len - 1)).2) at d2
        clear d1
        have hgl : g < W9.heap.size := (World.ownsRow.lt HO9.out _ rfl).2
        have HBe := Lib.hid (fun W => beats_any m (at_ back (len - 1)).2 vx W)
        obtain ⟨lv, hlv⟩ : ∃ l, (at_ back (len - 1)).2 = l := ⟨_, rfl⟩
        rw [hlv] at d2 hpn hpy HBe
        clear hlv
        have t1 : IntKind.i64.wrap ((len : Int) - 1) = (len : Int) - 1 := IntWalk.i64_in _ (by omega)
        have t2 : 0 ≤ (len : Int) - 1 := by omega
        have t3 : ((len : Int) - 1).toNat = len - 1 := by omega
        have t4 : (len : Int) - 1 < len := by omega
        have HLen := Lib.hid hlen
        clear hlen
        by_cases hbt : key m vx ≤ key m lv
        case pos =>
          rw [decide_eq_true hbt] at HBe
          rw [hpn.out hbt] at HM2
          (refine gro.wp_region_grown (by kernel_rfl) (by kernel_rfl) ?_; (repeat (go_big_quiet_step ((go_at_call 37; exact gro.call_same (HBe.out _))))); refine wpQuiet_nil ?_; intro _ hw'; obtain ⟨nx, hw''⟩ := hw'; subst hw'')
          replace KK := Lib.hid (KK.out.below (below_grown _ nx))
          replace BB := Lib.hid (BB.out.trans ((below_grown _ nx).mono BB.out.size))
          replace HO9 := Lib.hid (own_keep HO9.out (below_grown _ nx))
          replace z9 := Nat.le_trans z9 (below_grown _ nx).size
          clear R
          generalize grown _ nx = W9 at *
          have R := KK.out.rules
          simp only [Rules] at R
          clear t1 t2 t3 t4 d2
          go_wp2
          have he8' := he8.out
          have he9' := he9.out
          go_roundg (I + J - 1)
          case measure => omega
          case rel => exact ⟨_, e8 - 1, e9, I - 1, J, back, by first | rfl | exact congrArg (Value.int IntKind.i64) (by omega), by first | rfl | exact congrArg (Value.int IntKind.i64) (by omega), rfl, by omega, by omega, by omega, by omega, by omega, by rw [HLen.out]; omega, HM2.out, (by rw [Hid, HLen.out]; exact HO9.out), Bx.tl KK.out, BB.out, by omega⟩
        rw [decide_eq_false hbt] at HBe
        rw [hpy.out hbt] at HM2
        (refine gro.wp_region_grown (by kernel_rfl) (by kernel_rfl) ?_; (repeat (go_big_quiet_step ((go_at_call 37; exact gro.call_same (HBe.out _))))); refine wpQuiet_nil ?_; intro _ hw'; obtain ⟨nx, hw''⟩ := hw'; subst hw'')
        replace KK := Lib.hid (KK.out.below (below_grown _ nx))
        replace BB := Lib.hid (BB.out.trans ((below_grown _ nx).mono BB.out.size))
        replace HO9 := Lib.hid (own_keep HO9.out (below_grown _ nx))
        replace z9 := Nat.le_trans z9 (below_grown _ nx).size
        clear R
        generalize grown _ nx = W9 at *
        have R := KK.out.rules
        simp only [Rules] at R
        clear t1 t2 t3 t4 d2
        go_wp2_with (at_builtin; go_loud (refine wpList_append_any _ rfl (.tmp 144) (.tmp 146) 22 rfl (w.heap.size + 1 + 1 + 1) 40 i0 (.agg #[.int .i64 0, .int .i64 0]) 2 16 Try.underlying22 HI.out HZ0.out HZ1.out HZ2.out rfl (by omega) _ len _ rfl (own_alloc HO9.out _) _ _ 1 1 _ rfl (reads_new _ _ _ rfl) (by simp [Value.oneCell']) (by unfold maxLen; omega) (by omega) (by simp; omega) ?_); intro v1 w1 hown1 hg1 hat1)
        have HBw : Below (w.heap.size + 1 + 1 + 1) W9 w1 := below_box2 (by omega) HO9.out hg1
        have KKw : Bx w1 [(w.heap.size + 1 + 1, 24, #[Value.bool false, Value.int IntKind.i64 0, Value.int IntKind.i64 0, Value.int IntKind.i64 0, Value.slice none 0 0]), (w.heap.size + 1, 24, #[Value.bool m, Value.int IntKind.i64 v, Value.int IntKind.i64 p2, Value.int IntKind.i64 o, Value.slice (some ad2) n2 c2]), (w.heap.size, 24, #[Value.bool m, Value.int IntKind.i64 v, Value.int IntKind.i64 p, Value.int IntKind.i64 o, Value.slice (some ad1) n1 c1])] := fun q hq => (KK.out q (List.mem_cons_of_mem _ hq)).below HBw (by simp at hq; rcases hq with h | h | h <;> rw [h] <;> simp <;> omega)
        have szw := HBw.size
        have he8' := he8.out
        have he9' := he9.out
        go_roundg (I + J - 1)
        case measure => omega
        case rel => exact ⟨v1, e8 - 1, e9, I - 1, J, back ++ [(tx, vx)], by first | rfl | exact congrArg (Value.int IntKind.i64) (by omega), by first | rfl | exact congrArg (Value.int IntKind.i64) (by omega), rfl, by omega, by omega, by omega, by omega, by omega, by rw [List.length_append, List.length_singleton, HLen.out]; omega, HM2.out, (by rw [Hid, pc_append, List.length_append, HLen.out]; exact hown1), KKw, BB.out.trans (HBw.mono (by omega)), by omega⟩
      rw [decide_eq_false c3_] at HBc
      have hC : I = 0 ∨ (at_ xs (I - 1)).1 < (at_ ys (J - 1)).1 ∨ ((at_ ys (J - 1)).1 = (at_ xs (I - 1)).1 ∧ key m (at_ xs (I - 1)).2 ≤ key m (at_ ys (J - 1)).2) := by rw [htx, hvx, hty, hvy]; omega
      replace c2_ := Lib.hid c2_
      replace he8 := Lib.hid he8
      replace he9 := Lib.hid he9
      obtain ⟨gi, hgi⟩ : ∃ s, wr.heap.size = s := ⟨_, rfl⟩
      have BZ := Lib.hid (BB.out.alloc BB.out.size (.cells #[Value.int IntKind.i64 0, Value.int IntKind.i64 0] 40))
      have HOZ := Lib.hid (own_alloc HO.out (.cells #[Value.int IntKind.i64 0, Value.int IntKind.i64 0] 40))
      have KZ := Lib.hid (KK.out.new (t := 40) (c := #[Value.int IntKind.i64 0, Value.int IntKind.i64 0]) hgi)
      go_wp2_with fail
      obtain ⟨W5, hW, K5, B5, z5⟩ := name_world KZ.out BZ.out (s := gi + 1) (by simp; omega)
      rw [hW]
      rw [hW] at HOZ
      clear hW KK BB R KZ BZ
      have hoff : ∀ k, Value.ownBlock u = some k → k ≠ gi := fun k h => by have := (World.ownsRow.lt HO.out k h).2; omega
      clear HO
      have KK := Lib.hid K5
      have BB := Lib.hid B5
      have R := K5.rules
      simp only [Rules] at R
      clear K5 B5
      obtain ⟨ca1, ca2⟩ := hcA _ BB.out
      obtain ⟨cb1, cb2⟩ := hcB _ BB.out
      have hba := Nat.lt_of_lt_of_le hb1 BB.out.size
      have hbb := Nat.lt_of_lt_of_le hb2 BB.out.size
      (refine gro.wp_region_grown (by kernel_rfl) (by kernel_rfl) ?_; (repeat (go_big_quiet_step ((go_at_call 37; exact gro.call_same (HBc.out _))))); refine wpQuiet_nil ?_; intro _ hw'; obtain ⟨nx, hw''⟩ := hw'; subst hw'')
      replace KK := Lib.hid (KK.out.below (below_grown _ nx))
      replace BB := Lib.hid (BB.out.trans ((below_grown _ nx).mono BB.out.size))
      replace HOZ := Lib.hid (own_keep HOZ.out (below_grown _ nx))
      replace z5 := Nat.le_trans z5 (below_grown _ nx).size
      clear R ca1 ca2 cb1 cb2
      generalize grown _ nx = W7 at *
      have R := KK.out.rules
      simp only [Rules] at R
      obtain ⟨cb1, cb2⟩ := hcB _ BB.out
      go_wp2_with fail
      obtain ⟨W9, hW, K9, B9, z9⟩ := name_world (Bx.put2 (u := .int .i64 ty) (v := .int .i64 vy) KK.out (by simp <;> omega)) ((BB.out.setCell (p := ⟨gi, 0, none⟩) (by show w.heap.size ≤ gi; omega) _).setCell (p := ⟨gi, 1, none⟩) (by show w.heap.size ≤ gi; omega) _) (s := gi + 1) (by simp only [set2_size]; exact z5)
      have HO9 : Hid (W9.ownsRow (w.heap.size + 1 + 1 + 1) 40 2 u back.length (pc back)) := by
        rw [← hW]
        exact own_off2 HOZ.out hoff
      rw [hW]
      clear hW KK BB R HOZ cb1 cb2
      have KK := Lib.hid K9
      have BB := Lib.hid B9
      have R := K9.rules
      simp only [Rules] at R
      clear K9 B9
      have HM2 := Lib.hid (show MInv m xs ys (I) (J - 1) (pushM m back (ty, vy)) from hatB.out ▸ MInv.stepB HG1.out HG2.out HM.out hJ0 (by rw [HL1.out]; exact hI) (by rw [HL2.out]; exact hJ) hC)
      by_cases hb0 : back.length = 0
      case pos =>
        have q0 : ((back.length : Int) == 0) = true := by rw [hb0]; rfl
        rw [pushM_nil hb0] at HM2
        have hbe : back = [] := List.eq_nil_of_length_eq_zero hb0
        obtain ⟨A7, c7, rfl, o1, o2, _⟩ := own_form HO9.out
        have hzl : IntKind.i64.wrap (back.length : Int) = 0 := by rw [hb0]; rfl
        (refine gro.wp_region_grown (by kernel_rfl) (by kernel_rfl) ?_; (repeat (go_big_quiet_step ((fail)))); refine wpQuiet_nil ?_; intro _ hw'; obtain ⟨nx, hw''⟩ := hw'; subst hw'')
        replace KK := Lib.hid (KK.out.below (below_grown _ nx))
        replace BB := Lib.hid (BB.out.trans ((below_grown _ nx).mono BB.out.size))
        replace HO9 := Lib.hid (own_keep HO9.out (below_grown _ nx))
        replace z9 := Nat.le_trans z9 (below_grown _ nx).size
        clear R
        generalize grown _ nx = W9 at *
        have R := KK.out.rules
        simp only [Rules] at R
        go_wp2_with (at_builtin; go_loud (refine wpList_append_any _ rfl (.tmp 144) (.tmp 146) 22 rfl (w.heap.size + 1 + 1 + 1) 40 i0 (.agg #[.int .i64 0, .int .i64 0]) 2 16 Try.underlying22 HI.out HZ0.out HZ1.out HZ2.out rfl (by omega) _ back.length _ rfl (own_alloc HO9.out _) _ _ 1 1 _ rfl (reads_new _ _ _ rfl) (by simp [Value.oneCell']) (by unfold maxLen; omega) (by omega) (by simp; omega) ?_); intro v1 w1 hown1 hg1 hat1)
        have HBw : Below (w.heap.size + 1 + 1 + 1) W9 w1 := below_box2 (by omega) HO9.out hg1
        have KKw : Bx w1 [(w.heap.size + 1 + 1, 24, #[Value.bool false, Value.int IntKind.i64 0, Value.int IntKind.i64 0, Value.int IntKind.i64 0, Value.slice none 0 0]), (w.heap.size + 1, 24, #[Value.bool m, Value.int IntKind.i64 v, Value.int IntKind.i64 p2, Value.int IntKind.i64 o, Value.slice (some ad2) n2 c2]), (w.heap.size, 24, #[Value.bool m, Value.int IntKind.i64 v, Value.int IntKind.i64 p, Value.int IntKind.i64 o, Value.slice (some ad1) n1 c1])] := fun q hq => (KK.out q (List.mem_cons_of_mem _ hq)).below HBw (by simp at hq; rcases hq with h | h | h <;> rw [h] <;> simp <;> omega)
        have szw := HBw.size
        have he8' := he8.out
        have he9' := he9.out
        go_roundg (I + J - 1)
        case measure => omega
        case rel => exact ⟨v1, e8, e9 - 1, I, J - 1, back ++ [(ty, vy)], by first | rfl | exact congrArg (Value.int IntKind.i64) (by omega), by first | rfl | exact congrArg (Value.int IntKind.i64) (by omega), rfl, by omega, by omega, by omega, by omega, by omega, by rw [List.length_append, List.length_singleton]; omega, (by rw [hbe, List.nil_append]; exact HM2.out), (by rw [Hid, pc_append, List.length_append]; exact hown1), KKw, BB.out.trans (HBw.mono (by omega)), by omega⟩
      have q0 : ((back.length : Int) == 0) = false := by simpa using hb0
      obtain ⟨len, hlen⟩ : ∃ l, back.length = l := ⟨_, rfl⟩
      have hpn := Lib.hid (fun h => pushM_no (m := m) (back := back) (x := (ty, vy)) hb0 h)
      have hpy := Lib.hid (fun h => pushM_yes (m := m) (back := back) (x := (ty, vy)) hb0 h)
      rw [hlen] at HO9 hbl q0 hpn hpy hb0
      obtain ⟨g, cc, rfl, o1, o2, o3, o4⟩ := own_form2 HO9.out (by omega)
      have o2' : cc ≤ 9223372036854775807 := o2
      obtain ⟨d1, d2⟩ := own_pair HO9.out (show len - 1 < len by omega)
      change W9.cell? ⟨g, (len - 1) * 2 + 1, none⟩ = some (.int .i64 (at_ back (len - 1)).2) at d2
      clear d1
      have hgl : g < W9.heap.size := (World.ownsRow.lt HO9.out _ rfl).2
      have HBe := Lib.hid (fun W => beats_any m (at_ back (len - 1)).2 vy W)
      obtain ⟨lv, hlv⟩ : ∃ l, (at_ back (len - 1)).2 = l := ⟨_, rfl⟩
      rw [hlv] at d2 hpn hpy HBe
      clear hlv
      have t1 : IntKind.i64.wrap ((len : Int) - 1) = (len : Int) - 1 := IntWalk.i64_in _ (by omega)
      have t2 : 0 ≤ (len : Int) - 1 := by omega
      have t3 : ((len : Int) - 1).toNat = len - 1 := by omega
      have t4 : (len : Int) - 1 < len := by omega
      have HLen := Lib.hid hlen
      clear hlen
      by_cases hbt : key m vy ≤ key m lv
      case pos =>
        rw [decide_eq_true hbt] at HBe
        rw [hpn.out hbt] at HM2
        (refine gro.wp_region_grown (by kernel_rfl) (by kernel_rfl) ?_; (repeat (go_big_quiet_step ((go_at_call 37; exact gro.call_same (HBe.out _))))); refine wpQuiet_nil ?_; intro _ hw'; obtain ⟨nx, hw''⟩ := hw'; subst hw'')
        replace KK := Lib.hid (KK.out.below (below_grown _ nx))
        replace BB := Lib.hid (BB.out.trans ((below_grown _ nx).mono BB.out.size))
        replace HO9 := Lib.hid (own_keep HO9.out (below_grown _ nx))
        replace z9 := Nat.le_trans z9 (below_grown _ nx).size
        clear R
        generalize grown _ nx = W9 at *
        have R := KK.out.rules
        simp only [Rules] at R
        clear t1 t2 t3 t4 d2
        go_wp2
        have he8' := he8.out
        have he9' := he9.out
        go_roundg (I + J - 1)
        case measure => omega
        case rel => exact ⟨_, e8, e9 - 1, I, J - 1, back, by first | rfl | exact congrArg (Value.int IntKind.i64) (by omega), by first | rfl | exact congrArg (Value.int IntKind.i64) (by omega), rfl, by omega, by omega, by omega, by omega, by omega, by rw [HLen.out]; omega, HM2.out, (by rw [Hid, HLen.out]; exact HO9.out), Bx.tl KK.out, BB.out, by omega⟩
      rw [decide_eq_false hbt] at HBe
      rw [hpy.out hbt] at HM2
      (refine gro.wp_region_grown (by kernel_rfl) (by kernel_rfl) ?_; (repeat (go_big_quiet_step ((go_at_call 37; exact gro.call_same (HBe.out _))))); refine wpQuiet_nil ?_; intro _ hw'; obtain ⟨nx, hw''⟩ := hw'; subst hw'')
      replace KK := Lib.hid (KK.out.below (below_grown _ nx))
      replace BB := Lib.hid (BB.out.trans ((below_grown _ nx).mono BB.out.size))
      replace HO9 := Lib.hid (own_keep HO9.out (below_grown _ nx))
      replace z9 := Nat.le_trans z9 (below_grown _ nx).size
      clear R
      generalize grown _ nx = W9 at *
      have R := KK.out.rules
      simp only [Rules] at R
      clear t1 t2 t3 t4 d2
      go_wp2_with (at_builtin; go_loud (refine wpList_append_any _ rfl (.tmp 144) (.tmp 146) 22 rfl (w.heap.size + 1 + 1 + 1) 40 i0 (.agg #[.int .i64 0, .int .i64 0]) 2 16 Try.underlying22 HI.out HZ0.out HZ1.out HZ2.out rfl (by omega) _ len _ rfl (own_alloc HO9.out _) _ _ 1 1 _ rfl (reads_new _ _ _ rfl) (by simp [Value.oneCell']) (by unfold maxLen; omega) (by omega) (by simp; omega) ?_); intro v1 w1 hown1 hg1 hat1)
      have HBw : Below (w.heap.size + 1 + 1 + 1) W9 w1 := below_box2 (by omega) HO9.out hg1
      have KKw : Bx w1 [(w.heap.size + 1 + 1, 24, #[Value.bool false, Value.int IntKind.i64 0, Value.int IntKind.i64 0, Value.int IntKind.i64 0, Value.slice none 0 0]), (w.heap.size + 1, 24, #[Value.bool m, Value.int IntKind.i64 v, Value.int IntKind.i64 p2, Value.int IntKind.i64 o, Value.slice (some ad2) n2 c2]), (w.heap.size, 24, #[Value.bool m, Value.int IntKind.i64 v, Value.int IntKind.i64 p, Value.int IntKind.i64 o, Value.slice (some ad1) n1 c1])] := fun q hq => (KK.out q (List.mem_cons_of_mem _ hq)).below HBw (by simp at hq; rcases hq with h | h | h <;> rw [h] <;> simp <;> omega)
      have szw := HBw.size
      have he8' := he8.out
      have he9' := he9.out
      go_roundg (I + J - 1)
      case measure => omega
      case rel => exact ⟨v1, e8, e9 - 1, I, J - 1, back ++ [(ty, vy)], by first | rfl | exact congrArg (Value.int IntKind.i64) (by omega), by first | rfl | exact congrArg (Value.int IntKind.i64) (by omega), rfl, by omega, by omega, by omega, by omega, by omega, by rw [List.length_append, List.length_singleton, HLen.out]; omega, HM2.out, (by rw [Hid, pc_append, List.length_append, HLen.out]; exact hown1), KKw, BB.out.trans (HBw.mono (by omega)), by omega⟩
    have k2 : (tx == ty) = false := by simpa using c2_
    have hC : I = 0 ∨ (at_ xs (I - 1)).1 < (at_ ys (J - 1)).1 ∨ ((at_ ys (J - 1)).1 = (at_ xs (I - 1)).1 ∧ key m (at_ xs (I - 1)).2 ≤ key m (at_ ys (J - 1)).2) := by rw [htx, hvx, hty, hvy]; omega
    replace he8 := Lib.hid he8
    replace he9 := Lib.hid he9
    obtain ⟨gi, hgi⟩ : ∃ s, wr.heap.size = s := ⟨_, rfl⟩
    have BZ := Lib.hid (BB.out.alloc BB.out.size (.cells #[Value.int IntKind.i64 0, Value.int IntKind.i64 0] 40))
    have HOZ := Lib.hid (own_alloc HO.out (.cells #[Value.int IntKind.i64 0, Value.int IntKind.i64 0] 40))
    have KZ := Lib.hid (KK.out.new (t := 40) (c := #[Value.int IntKind.i64 0, Value.int IntKind.i64 0]) hgi)
    go_wp2_with fail
    obtain ⟨W5, hW, K5, B5, z5⟩ := name_world KZ.out BZ.out (s := gi + 1) (by simp; omega)
    rw [hW]
    rw [hW] at HOZ
    clear hW KK BB R KZ BZ
    have hoff : ∀ k, Value.ownBlock u = some k → k ≠ gi := fun k h => by have := (World.ownsRow.lt HO.out k h).2; omega
    clear HO
    have KK := Lib.hid K5
    have BB := Lib.hid B5
    have R := K5.rules
    simp only [Rules] at R
    clear K5 B5
    obtain ⟨ca1, ca2⟩ := hcA _ BB.out
    obtain ⟨cb1, cb2⟩ := hcB _ BB.out
    have hba := Nat.lt_of_lt_of_le hb1 BB.out.size
    have hbb := Nat.lt_of_lt_of_le hb2 BB.out.size
    (refine gro.wp_region_grown (by kernel_rfl) (by kernel_rfl) ?_; (repeat (go_big_quiet_step ((fail)))); refine wpQuiet_nil ?_; intro _ hw'; obtain ⟨nx, hw''⟩ := hw'; subst hw'')
    replace KK := Lib.hid (KK.out.below (below_grown _ nx))
    replace BB := Lib.hid (BB.out.trans ((below_grown _ nx).mono BB.out.size))
    replace HOZ := Lib.hid (own_keep HOZ.out (below_grown _ nx))
    replace z5 := Nat.le_trans z5 (below_grown _ nx).size
    clear R ca1 ca2 cb1 cb2
    generalize grown _ nx = W7 at *
    have R := KK.out.rules
    simp only [Rules] at R
    obtain ⟨cb1, cb2⟩ := hcB _ BB.out
    go_wp2_with fail
    obtain ⟨W9, hW, K9, B9, z9⟩ := name_world (Bx.put2 (u := .int .i64 ty) (v := .int .i64 vy) KK.out (by simp <;> omega)) ((BB.out.setCell (p := ⟨gi, 0, none⟩) (by show w.heap.size ≤ gi; omega) _).setCell (p := ⟨gi, 1, none⟩) (by show w.heap.size ≤ gi; omega) _) (s := gi + 1) (by simp only [set2_size]; exact z5)
    have HO9 : Hid (W9.ownsRow (w.heap.size + 1 + 1 + 1) 40 2 u back.length (pc back)) := by
      rw [← hW]
      exact own_off2 HOZ.out hoff
    rw [hW]
    clear hW KK BB R HOZ cb1 cb2
    have KK := Lib.hid K9
    have BB := Lib.hid B9
    have R := K9.rules
    simp only [Rules] at R
    clear K9 B9
    have HM2 := Lib.hid (show MInv m xs ys (I) (J - 1) (pushM m back (ty, vy)) from hatB.out ▸ MInv.stepB HG1.out HG2.out HM.out hJ0 (by rw [HL1.out]; exact hI) (by rw [HL2.out]; exact hJ) hC)
    by_cases hb0 : back.length = 0
    case pos =>
      have q0 : ((back.length : Int) == 0) = true := by rw [hb0]; rfl
      rw [pushM_nil hb0] at HM2
      have hbe : back = [] := List.eq_nil_of_length_eq_zero hb0
      obtain ⟨A7, c7, rfl, o1, o2, _⟩ := own_form HO9.out
      have hzl : IntKind.i64.wrap (back.length : Int) = 0 := by rw [hb0]; rfl
      (refine gro.wp_region_grown (by kernel_rfl) (by kernel_rfl) ?_; (repeat (go_big_quiet_step ((fail)))); refine wpQuiet_nil ?_; intro _ hw'; obtain ⟨nx, hw''⟩ := hw'; subst hw'')
      replace KK := Lib.hid (KK.out.below (below_grown _ nx))
      replace BB := Lib.hid (BB.out.trans ((below_grown _ nx).mono BB.out.size))
      replace HO9 := Lib.hid (own_keep HO9.out (below_grown _ nx))
      replace z9 := Nat.le_trans z9 (below_grown _ nx).size
      clear R
      generalize grown _ nx = W9 at *
      have R := KK.out.rules
      simp only [Rules] at R
      go_wp2_with (at_builtin; go_loud (refine wpList_append_any _ rfl (.tmp 144) (.tmp 146) 22 rfl (w.heap.size + 1 + 1 + 1) 40 i0 (.agg #[.int .i64 0, .int .i64 0]) 2 16 Try.underlying22 HI.out HZ0.out HZ1.out HZ2.out rfl (by omega) _ back.length _ rfl (own_alloc HO9.out _) _ _ 1 1 _ rfl (reads_new _ _ _ rfl) (by simp [Value.oneCell']) (by unfold maxLen; omega) (by omega) (by simp; omega) ?_); intro v1 w1 hown1 hg1 hat1)
      have HBw : Below (w.heap.size + 1 + 1 + 1) W9 w1 := below_box2 (by omega) HO9.out hg1
      have KKw : Bx w1 [(w.heap.size + 1 + 1, 24, #[Value.bool false, Value.int IntKind.i64 0, Value.int IntKind.i64 0, Value.int IntKind.i64 0, Value.slice none 0 0]), (w.heap.size + 1, 24, #[Value.bool m, Value.int IntKind.i64 v, Value.int IntKind.i64 p2, Value.int IntKind.i64 o, Value.slice (some ad2) n2 c2]), (w.heap.size, 24, #[Value.bool m, Value.int IntKind.i64 v, Value.int IntKind.i64 p, Value.int IntKind.i64 o, Value.slice (some ad1) n1 c1])] := fun q hq => (KK.out q (List.mem_cons_of_mem _ hq)).below HBw (by simp at hq; rcases hq with h | h | h <;> rw [h] <;> simp <;> omega)
      have szw := HBw.size
      have he8' := he8.out
      have he9' := he9.out
      go_roundg (I + J - 1)
      case measure => omega
      case rel => exact ⟨v1, e8, e9 - 1, I, J - 1, back ++ [(ty, vy)], by first | rfl | exact congrArg (Value.int IntKind.i64) (by omega), by first | rfl | exact congrArg (Value.int IntKind.i64) (by omega), rfl, by omega, by omega, by omega, by omega, by omega, by rw [List.length_append, List.length_singleton]; omega, (by rw [hbe, List.nil_append]; exact HM2.out), (by rw [Hid, pc_append, List.length_append]; exact hown1), KKw, BB.out.trans (HBw.mono (by omega)), by omega⟩
    have q0 : ((back.length : Int) == 0) = false := by simpa using hb0
    obtain ⟨len, hlen⟩ : ∃ l, back.length = l := ⟨_, rfl⟩
    have hpn := Lib.hid (fun h => pushM_no (m := m) (back := back) (x := (ty, vy)) hb0 h)
    have hpy := Lib.hid (fun h => pushM_yes (m := m) (back := back) (x := (ty, vy)) hb0 h)
    rw [hlen] at HO9 hbl q0 hpn hpy hb0
    obtain ⟨g, cc, rfl, o1, o2, o3, o4⟩ := own_form2 HO9.out (by omega)
    have o2' : cc ≤ 9223372036854775807 := o2
    obtain ⟨d1, d2⟩ := own_pair HO9.out (show len - 1 < len by omega)
    change W9.cell? ⟨g, (len - 1) * 2 + 1, none⟩ = some (.int .i64 (at_ back (len - 1)).2) at d2
    clear d1
    have hgl : g < W9.heap.size := (World.ownsRow.lt HO9.out _ rfl).2
    have HBe := Lib.hid (fun W => beats_any m (at_ back (len - 1)).2 vy W)
    obtain ⟨lv, hlv⟩ : ∃ l, (at_ back (len - 1)).2 = l := ⟨_, rfl⟩
    rw [hlv] at d2 hpn hpy HBe
    clear hlv
    have t1 : IntKind.i64.wrap ((len : Int) - 1) = (len : Int) - 1 := IntWalk.i64_in _ (by omega)
    have t2 : 0 ≤ (len : Int) - 1 := by omega
    have t3 : ((len : Int) - 1).toNat = len - 1 := by omega
    have t4 : (len : Int) - 1 < len := by omega
    have HLen := Lib.hid hlen
    clear hlen
    by_cases hbt : key m vy ≤ key m lv
    case pos =>
      rw [decide_eq_true hbt] at HBe
      rw [hpn.out hbt] at HM2
      (refine gro.wp_region_grown (by kernel_rfl) (by kernel_rfl) ?_; (repeat (go_big_quiet_step ((go_at_call 37; exact gro.call_same (HBe.out _))))); refine wpQuiet_nil ?_; intro _ hw'; obtain ⟨nx, hw''⟩ := hw'; subst hw'')
      replace KK := Lib.hid (KK.out.below (below_grown _ nx))
      replace BB := Lib.hid (BB.out.trans ((below_grown _ nx).mono BB.out.size))
      replace HO9 := Lib.hid (own_keep HO9.out (below_grown _ nx))
      replace z9 := Nat.le_trans z9 (below_grown _ nx).size
      clear R
      generalize grown _ nx = W9 at *
      have R := KK.out.rules
      simp only [Rules] at R
      clear t1 t2 t3 t4 d2
      go_wp2
      have he8' := he8.out
      have he9' := he9.out
      go_roundg (I + J - 1)
      case measure => omega
      case rel => exact ⟨_, e8, e9 - 1, I, J - 1, back, by first | rfl | exact congrArg (Value.int IntKind.i64) (by omega), by first | rfl | exact congrArg (Value.int IntKind.i64) (by omega), rfl, by omega, by omega, by omega, by omega, by omega, by rw [HLen.out]; omega, HM2.out, (by rw [Hid, HLen.out]; exact HO9.out), Bx.tl KK.out, BB.out, by omega⟩
    rw [decide_eq_false hbt] at HBe
    rw [hpy.out hbt] at HM2
    (refine gro.wp_region_grown (by kernel_rfl) (by kernel_rfl) ?_; (repeat (go_big_quiet_step ((go_at_call 37; exact gro.call_same (HBe.out _))))); refine wpQuiet_nil ?_; intro _ hw'; obtain ⟨nx, hw''⟩ := hw'; subst hw'')
    replace KK := Lib.hid (KK.out.below (below_grown _ nx))
    replace BB := Lib.hid (BB.out.trans ((below_grown _ nx).mono BB.out.size))
    replace HO9 := Lib.hid (own_keep HO9.out (below_grown _ nx))
    replace z9 := Nat.le_trans z9 (below_grown _ nx).size
    clear R
    generalize grown _ nx = W9 at *
    have R := KK.out.rules
    simp only [Rules] at R
    clear t1 t2 t3 t4 d2
    go_wp2_with (at_builtin; go_loud (refine wpList_append_any _ rfl (.tmp 144) (.tmp 146) 22 rfl (w.heap.size + 1 + 1 + 1) 40 i0 (.agg #[.int .i64 0, .int .i64 0]) 2 16 Try.underlying22 HI.out HZ0.out HZ1.out HZ2.out rfl (by omega) _ len _ rfl (own_alloc HO9.out _) _ _ 1 1 _ rfl (reads_new _ _ _ rfl) (by simp [Value.oneCell']) (by unfold maxLen; omega) (by omega) (by simp; omega) ?_); intro v1 w1 hown1 hg1 hat1)
    have HBw : Below (w.heap.size + 1 + 1 + 1) W9 w1 := below_box2 (by omega) HO9.out hg1
    have KKw : Bx w1 [(w.heap.size + 1 + 1, 24, #[Value.bool false, Value.int IntKind.i64 0, Value.int IntKind.i64 0, Value.int IntKind.i64 0, Value.slice none 0 0]), (w.heap.size + 1, 24, #[Value.bool m, Value.int IntKind.i64 v, Value.int IntKind.i64 p2, Value.int IntKind.i64 o, Value.slice (some ad2) n2 c2]), (w.heap.size, 24, #[Value.bool m, Value.int IntKind.i64 v, Value.int IntKind.i64 p, Value.int IntKind.i64 o, Value.slice (some ad1) n1 c1])] := fun q hq => (KK.out q (List.mem_cons_of_mem _ hq)).below HBw (by simp at hq; rcases hq with h | h | h <;> rw [h] <;> simp <;> omega)
    have szw := HBw.size
    have he8' := he8.out
    have he9' := he9.out
    go_roundg (I + J - 1)
    case measure => omega
    case rel => exact ⟨v1, e8, e9 - 1, I, J - 1, back ++ [(ty, vy)], by first | rfl | exact congrArg (Value.int IntKind.i64) (by omega), by first | rfl | exact congrArg (Value.int IntKind.i64) (by omega), rfl, by omega, by omega, by omega, by omega, by omega, by rw [List.length_append, List.length_singleton, HLen.out]; omega, HM2.out, (by rw [Hid, pc_append, List.length_append, HLen.out]; exact hown1), KKw, BB.out.trans (HBw.mono (by omega)), by omega⟩
end Go.Proofs.Yteajgmihhnghfaa.ext
