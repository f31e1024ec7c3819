/- Contracts of SameItems, Same, few, Ask and its reference. -/
import Derived.Test.YteajgmihhnghfaaExtA
import Derived.Test.YteajgmihhnghfaaLst
namespace Go.Proofs.Yteajgmihhnghfaa.ext
open Go.RowKit Go.Proofs.Yteajgmihhnghfaa.mem Go.Proofs.Yteajgmihhnghfaa.gro
open Go.Proofs.Yteajgmihhnghfaa.buk (at_)
set_option linter.unusedVariables false
set_option linter.unusedSimpArgs false
set_option maxHeartbeats 2000000 in
theorem SameItems_any (A1 A2 : Option Addr) (n1 c1 n2 c2 : Nat) (xs ys : List (Int × Int)) (w : World) (B : Nat) (h1 : PRead w B A1 n1 xs) (h2 : PRead w B A2 n2 ys) (hm : n1 ≤ 4611686018427387904) :
    Calls Try.prog 25 #[.slice A1 n1 c1, .slice A2 n2 c2] w fun e w' => e = .returned (.bool (decide (xs = ys))) ∧ ∃ q, w' = w.drewN q := by
  have l1 := h1.len
  have l2 := h2.len
  by_cases hn : n1 = n2
  · subst hn
    have HL1 := Lib.hid l1
    have HL2 := Lib.hid l2
    clear l1 l2
    have H1 := Lib.hid h1
    have H2 := Lib.hid h2
    clear h1 h2
    go_enter Try.func25, Try.ntmps25
    go_wp2
    go_loopg [13] n1 (fun kx s wr => ∃ k q : Nat, k ≤ n1 ∧ s = .int .i64 k ∧ n1 - k ≤ kx ∧ wr = w.drewN q ∧ Hid (xs.take k = ys.take k))
    case atStart => exact ⟨0, 0, Nat.zero_le _, rfl, by omega, rfl, (rfl : xs.take 0 = ys.take 0)⟩
    case round =>
      obtain ⟨k, q, hk, rfl, hg, rfl, hok⟩ := hrel
      by_cases hlt : k < n1
      · obtain ⟨ad, rfl, _, hc1, hc2⟩ := (H1.out).at_ hlt
        obtain ⟨ae, rfl, _, hd1, hd2⟩ := (H2.out).at_ hlt
        have HE : Hid ((xs.take (k + 1) = ys.take (k + 1)) ↔ ((xs[k]?.getD (0, 0)).1 = (ys[k]?.getD (0, 0)).1 ∧ (xs[k]?.getD (0, 0)).2 = (ys[k]?.getD (0, 0)).2)) := by
          exact lst.take_step (by rw [HL1.out]; exact hlt) (by rw [HL2.out]; exact hlt) hok.out
        have HN : Hid (xs.take (k + 1) ≠ ys.take (k + 1) → xs ≠ ys) := fun h e => h (by rw [e])
        clear hok
        generalize (xs[k]?.getD (0, 0)).1 = x1 at *
        generalize (xs[k]?.getD (0, 0)).2 = x2 at *
        generalize (ys[k]?.getD (0, 0)).1 = y1 at *
        generalize (ys[k]?.getD (0, 0)).2 = y2 at *
        by_cases e1 : x1 = y1
        · subst e1
          by_cases e2 : x2 = y2
          · subst e2
            have HT : Hid (xs.take (k + 1) = ys.take (k + 1)) := HE.out.2 ⟨rfl, rfl⟩
            clear HE HN
            go_wp2
            go_quiet (fail)
            go_wp2
            go_roundg (n1 - (k + 1))
            case measure => omega
            case rel => exact ⟨k + 1, _, by omega, by go_num, by omega, rfl, HT⟩
          · have HF : Hid (decide (xs = ys) = false) := by rw [Hid, decide_eq_false_iff_not]; exact HN.out (fun h => e2 (HE.out.1 h).2)
            clear HE HN
            go_wp2
            go_quiet (fail)
            go_wp2
            go_ret
            exact ⟨ret_bool HF.out.symm, _, World.drewN_drewN _ _ _⟩
        · have HF : Hid (decide (xs = ys) = false) := by rw [Hid, decide_eq_false_iff_not]; exact HN.out (fun h => e1 (HE.out.1 h).1)
          clear HE HN
          go_wp2
          go_quiet (fail)
          go_wp2
          go_ret
          exact ⟨ret_bool HF.out.symm, _, World.drewN_drewN _ _ _⟩
      · obtain rfl : k = n1 := by omega
        have HT : Hid (decide (xs = ys) = true) := by
          have h := hok.out
          rw [List.take_of_length_le (by rw [HL1.out]; exact Nat.le_refl _), List.take_of_length_le (by rw [HL2.out]; exact Nat.le_refl _)] at h
          rw [Hid, decide_eq_true_eq]
          exact h
        clear hok
        go_wp2
        go_ret
        exact ⟨ret_bool HT.out.symm, _, rfl⟩
  · have HF : Hid (decide (xs = ys) = false) := by rw [Hid, decide_eq_false_iff_not]; intro h; rw [h] at l1; omega
    clear l1 l2 h1 h2
    go_enter Try.func25, Try.ntmps25
    go_wp2
    go_ret
    exact ⟨ret_bool HF.out.symm, 0, rfl⟩
theorem SameItems_ok (A1 A2 : Option Addr) (n1 c1 n2 c2 : Nat) (xs : L2) (w : World) (h1 : PRead w w.heap.size A1 n1 xs) (h2 : PRead w w.heap.size A2 n2 xs) (hm : n1 ≤ 4611686018427387904) :
    Calls Try.prog 25 #[.slice A1 n1 c1, .slice A2 n2 c2] w fun e w' => e = .returned (.bool true) ∧ Below w.heap.size w w' := by
  have := SameItems_any A1 A2 n1 c1 n2 c2 xs xs w w.heap.size h1 h2 hm
  rw [decide_eq_true rfl] at this
  refine this.mono ?_
  rintro e w' ⟨rfl, q, rfl⟩
  exact ⟨rfl, below_drewN (Below.refl _ _) q⟩
set_option maxHeartbeats 2000000 in
set_option maxRecDepth 100000 in
theorem SameE_any (m : Bool) (v p o : Int) (A1 A2 : Option Addr) (n1 c1 n2 c2 : Nat) (xs : L2) (w : World) (h1 : PRead w w.heap.size A1 n1 xs) (h2 : PRead w w.heap.size A2 n2 xs) (hm : n1 ≤ 4611686018427387904) :
    Calls Try.prog 11 #[.agg #[Value.bool m, Value.int IntKind.i64 v, Value.int IntKind.i64 p, Value.int IntKind.i64 o, Value.slice A1 n1 c1], .agg #[Value.bool m, Value.int IntKind.i64 v, Value.int IntKind.i64 p, Value.int IntKind.i64 o, Value.slice A2 n2 c2]] w fun e w' => e = .returned (.bool true) ∧ Below w.heap.size w w' := by
  have HS := Lib.hid (fun W (hb : Below w.heap.size w W) => SameItems_ok A1 A2 n1 c1 n2 c2 xs W ((h1.below hb).more hb.size) ((h2.below hb).more hb.size) hm)
  clear h1 h2 hm
  go_enter Try.func11, Try.ntmps11
  go_wp2_with fail
  obtain ⟨W0, hW, hs0, K0, B0⟩ := start2 w 24 24 #[Value.bool m, Value.int IntKind.i64 v, Value.int IntKind.i64 p, Value.int IntKind.i64 o, Value.slice A1 n1 c1] #[Value.bool m, Value.int IntKind.i64 v, Value.int IntKind.i64 p, Value.int IntKind.i64 o, Value.slice A2 n2 c2]
  rw [hW]
  clear hW
  have KK := Lib.hid K0
  have BB := Lib.hid B0
  have R := K0.rules
  simp only [Rules] at R
  clear K0 B0 hs0
  (with_reducible refine (HS.out _ BB.out).mono ?_)
  rintro e wv ⟨rfl, hbv⟩; replace BB := Lib.hid (BB.out.trans (hbv.mono BB.out.size)); replace KK := Lib.hid (KK.out.below hbv); replace R := KK.out.rules; simp only [gro.Rules] at R; clear hbv
  go_wp2
  go_ret
  exact ⟨rfl, BB.out⟩
set_option maxHeartbeats 2000000 in
set_option maxRecDepth 100000 in
theorem fewE_any (m : Bool) (v p o : Int) (A : Option Addr) (n c : Nat) (w : World) (hn : n ≤ maxLen) : Calls Try.prog 13 #[.agg #[Value.bool m, Value.int IntKind.i64 v, Value.int IntKind.i64 p, Value.int IntKind.i64 o, Value.slice A n c]] w fun e w' => e = .returned (.bool (decide (n ≤ 200))) ∧ Below w.heap.size w w' := by
  have hn9 : n ≤ 9223372036854775807 := hn
  go_enter Try.func13, Try.ntmps13
  go_wp2_with fail
  obtain ⟨W0, hW, hs0, K0, B0⟩ := start1 w 24 #[Value.bool m, Value.int IntKind.i64 v, Value.int IntKind.i64 p, Value.int IntKind.i64 o, Value.slice A n c]
  rw [hW]
  clear hW
  have BB := Lib.hid B0
  have R := K0.rules
  simp only [Rules] at R
  clear K0 B0 hs0
  go_wp2
  go_ret
  exact ⟨ret_bool (by rw [Bool.eq_iff_iff]; simp; omega), BB.out⟩
def askV (b : Bool) (xs : L2) : Int := if b = true then (at_ xs 0).2 else 0
def askE (b : Bool) (n : Nat) : Int := if b = true then (if n = 0 then 7 else 0) else 2
theorem askV_t (xs : L2) : askV true xs = (at_ xs 0).2 := rfl
theorem askV_f (xs : L2) : askV false xs = 0 := rfl
theorem askE_f (n : Nat) : askE false n = 2 := rfl
theorem askE_t (n : Nat) : askE true n = if n = 0 then 7 else 0 := rfl
set_option maxHeartbeats 8000000 in
set_option maxRecDepth 100000 in
theorem Ask_any (m : Bool) (v p o : Int) (A : Option Addr) (n c : Nat) (xs : L2) (w : World) (h1 : PRead w w.heap.size A n xs) (hsmall : n ≤ 2000) :
    Calls Try.prog 18 #[.agg #[Value.bool m, Value.int IntKind.i64 v, Value.int IntKind.i64 p, Value.int IntKind.i64 o, Value.slice A n c]] w fun e w' => e = .returned (.tuple #[.int .i64 (askV (valE m v p o xs) xs), .int .i64 (askE (valE m v p o xs) n)]) ∧ Below w.heap.size w w' := by
  have HV := Lib.hid (fun W (hb : Below w.heap.size w W) => Validate_any m v p o A n c xs W ((h1.below hb).more hb.size) (by omega))
  have H1 := Lib.hid h1
  have HLn := Lib.hid h1.len
  clear h1
  generalize valE m v p o xs = ft at *
  cases ft
  case false =>
    simp only [erV_f, askV_f, askE_f] at *
    go_enter Try.func18, Try.ntmps18
    go_wp2_with fail
    obtain ⟨W0, hW, hs0, K0, B0⟩ := start1 w 24 #[Value.bool m, Value.int IntKind.i64 v, Value.int IntKind.i64 p, Value.int IntKind.i64 o, Value.slice A n c]
    rw [hW]
    clear hW
    have KK := Lib.hid K0
    have BB := Lib.hid B0
    have R := K0.rules
    simp only [Rules] at R
    clear K0 B0 hs0
    (with_reducible refine (HV.out _ BB.out).mono ?_)
    rintro e wv ⟨rfl, hbv⟩; replace BB := Lib.hid (BB.out.trans (hbv.mono BB.out.size)); replace KK := Lib.hid (KK.out.below hbv); replace R := KK.out.rules; simp only [gro.Rules] at R; clear hbv
    go_wp2
    go_ret2
    exact ⟨rfl, BB.out⟩
  simp only [erV_t, askV_t, askE_t] at *
  by_cases h0 : 0 < n
  case neg =>
    obtain rfl : n = 0 := by omega
    have e : xs = [] := List.eq_nil_of_length_eq_zero HLn.out
    subst e
    rw [if_pos rfl, show (at_ ([] : L2) 0).2 = 0 from rfl]
    go_enter Try.func18, Try.ntmps18
    go_wp2_with fail
    obtain ⟨W0, hW, hs0, K0, B0⟩ := start1 w 24 #[Value.bool m, Value.int IntKind.i64 v, Value.int IntKind.i64 p, Value.int IntKind.i64 o, Value.slice A 0 c]
    rw [hW]
    clear hW
    have KK := Lib.hid K0
    have BB := Lib.hid B0
    have R := K0.rules
    simp only [Rules] at R
    clear K0 B0 hs0
    (with_reducible refine (HV.out _ BB.out).mono ?_)
    rintro e wv ⟨rfl, hbv⟩; replace BB := Lib.hid (BB.out.trans (hbv.mono BB.out.size)); replace KK := Lib.hid (KK.out.below hbv); replace R := KK.out.rules; simp only [gro.Rules] at R; clear hbv
    go_wp2
    go_ret2
    exact ⟨rfl, BB.out⟩
  rw [if_neg (by omega)]
  have hn0 : ((n : Int) == 0) = false := by simp; omega
  obtain ⟨ad, rfl, hbl, hc1, hc2⟩ := PRead.at_ H1.out h0
  rw [show ad.add (0 * 2) = ad from by simp [Addr.add]] at hc1 hc2
  change w.cell? ⟨ad.block, ad.off + 1, none⟩ = some (.int .i64 (at_ xs 0).2) at hc2
  generalize (at_ xs 0).2 = V at *
  clear hc1 HLn
  go_enter Try.func18, Try.ntmps18
  go_wp2_with fail
  obtain ⟨W0, hW, hs0, K0, B0⟩ := start1 w 24 #[Value.bool m, Value.int IntKind.i64 v, Value.int IntKind.i64 p, Value.int IntKind.i64 o, Value.slice (some ad) n c]
  rw [hW]
  clear hW
  have KK := Lib.hid K0
  have BB := Lib.hid B0
  have R := K0.rules
  simp only [Rules] at R
  clear K0 B0 hs0
  (with_reducible refine (HV.out _ BB.out).mono ?_)
  rintro e wv ⟨rfl, hbv⟩; replace BB := Lib.hid (BB.out.trans (hbv.mono BB.out.size)); replace KK := Lib.hid (KK.out.below hbv); replace R := KK.out.rules; simp only [gro.Rules] at R; clear hbv
  have hd2 := BB.out.cell (p := ⟨ad.block, ad.off + 1, none⟩) hbl
  rw [hc2] at hd2
  go_wp2
  go_ret2
  exact ⟨rfl, BB.out⟩
set_option maxHeartbeats 8000000 in
set_option maxRecDepth 100000 in
theorem AskR_any (m : Bool) (v p o : Int) (A : Option Addr) (n c : Nat) (xs : L2) (w : World) (h1 : PRead w w.heap.size A n xs) (hsmall : n ≤ 2000) :
    Calls Try.prog 19 #[.agg #[Value.bool m, Value.int IntKind.i64 v, Value.int IntKind.i64 p, Value.int IntKind.i64 o, Value.slice A n c]] w fun e w' => e = .returned (.tuple #[.int .i64 (askV (valE m v p o xs) xs), .int .i64 (askE (valE m v p o xs) n)]) ∧ Below w.heap.size w w' := by
  have HV := Lib.hid (fun W (hb : Below w.heap.size w W) => ValidateR_any m v p o A n c xs W ((h1.below hb).more hb.size) (by omega))
  have H1 := Lib.hid h1
  have HLn := Lib.hid h1.len
  clear h1
  generalize valE m v p o xs = ft at *
  cases ft
  case false =>
    simp only [erV_f, askV_f, askE_f] at *
    go_enter Try.func19, Try.ntmps19
    go_wp2_with fail
    obtain ⟨W0, hW, hs0, K0, B0⟩ := start1 w 24 #[Value.bool m, Value.int IntKind.i64 v, Value.int IntKind.i64 p, Value.int IntKind.i64 o, Value.slice A n c]
    rw [hW]
    clear hW
    have KK := Lib.hid K0
    have BB := Lib.hid B0
    have R := K0.rules
    simp only [Rules] at R
    clear K0 B0 hs0
    (with_reducible refine (HV.out _ BB.out).mono ?_)
    rintro e wv ⟨rfl, hbv⟩; replace BB := Lib.hid (BB.out.trans (hbv.mono BB.out.size)); replace KK := Lib.hid (KK.out.below hbv); replace R := KK.out.rules; simp only [gro.Rules] at R; clear hbv
    go_wp2
    go_ret2
    exact ⟨rfl, BB.out⟩
  simp only [erV_t, askV_t, askE_t] at *
  by_cases h0 : 0 < n
  case neg =>
    obtain rfl : n = 0 := by omega
    have e : xs = [] := List.eq_nil_of_length_eq_zero HLn.out
    subst e
    rw [if_pos rfl, show (at_ ([] : L2) 0).2 = 0 from rfl]
    go_enter Try.func19, Try.ntmps19
    go_wp2_with fail
    obtain ⟨W0, hW, hs0, K0, B0⟩ := start1 w 24 #[Value.bool m, Value.int IntKind.i64 v, Value.int IntKind.i64 p, Value.int IntKind.i64 o, Value.slice A 0 c]
    rw [hW]
    clear hW
    have KK := Lib.hid K0
    have BB := Lib.hid B0
    have R := K0.rules
    simp only [Rules] at R
    clear K0 B0 hs0
    (with_reducible refine (HV.out _ BB.out).mono ?_)
    rintro e wv ⟨rfl, hbv⟩; replace BB := Lib.hid (BB.out.trans (hbv.mono BB.out.size)); replace KK := Lib.hid (KK.out.below hbv); replace R := KK.out.rules; simp only [gro.Rules] at R; clear hbv
    go_wp2
    go_ret2
    exact ⟨rfl, BB.out⟩
  rw [if_neg (by omega)]
  have hn0 : ((n : Int) == 0) = false := by simp; omega
  obtain ⟨ad, rfl, hbl, hc1, hc2⟩ := PRead.at_ H1.out h0
  rw [show ad.add (0 * 2) = ad from by simp [Addr.add]] at hc1 hc2
  change w.cell? ⟨ad.block, ad.off + 1, none⟩ = some (.int .i64 (at_ xs 0).2) at hc2
  generalize (at_ xs 0).2 = V at *
  clear hc1 HLn
  go_enter Try.func19, Try.ntmps19
  go_wp2_with fail
  obtain ⟨W0, hW, hs0, K0, B0⟩ := start1 w 24 #[Value.bool m, Value.int IntKind.i64 v, Value.int IntKind.i64 p, Value.int IntKind.i64 o, Value.slice (some ad) n c]
  rw [hW]
  clear hW
  have KK := Lib.hid K0
  have BB := Lib.hid B0
  have R := K0.rules
  simp only [Rules] at R
  clear K0 B0 hs0
  (with_reducible refine (HV.out _ BB.out).mono ?_)
  rintro e wv ⟨rfl, hbv⟩; replace BB := Lib.hid (BB.out.trans (hbv.mono BB.out.size)); replace KK := Lib.hid (KK.out.below hbv); replace R := KK.out.rules; simp only [gro.Rules] at R; clear hbv
  have hd2 := BB.out.cell (p := ⟨ad.block, ad.off + 1, none⟩) hbl
  rw [hc2] at hd2
  go_wp2
  go_ret2
  exact ⟨rfl, BB.out⟩
end Go.Proofs.Yteajgmihhnghfaa.ext
