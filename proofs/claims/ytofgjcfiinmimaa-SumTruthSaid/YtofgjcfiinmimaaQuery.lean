/- Contracts of Query of a list of buckets, in the code and in the reference. -/
import Derived.Test.YtofgjcfiinmimaaMgGrown
import Derived.Test.YtofgjcfiinmimaaMgPutEq
import Derived.Test.YtofgjcfiinmimaaMgCanon
import Derived.Test.YtofgjcfiinmimaaMgCountsR
namespace Go.Proofs.Ytofgjcfiinmimaa.lst
open Go.RowKit Go.Proofs.Ytofgjcfiinmimaa.mem Go.Proofs.Ytofgjcfiinmimaa.gro Go.Proofs.Ytofgjcfiinmimaa.wid
set_option linter.unusedVariables false
set_option linter.unusedSimpArgs false
theorem counts_len (xs : List (Int × Int)) : (countsI xs).length ≤ 31 := by
  by_cases h : 0 < xs.length ∧ lvOk xs xs.length
  · rw [countsI_t h]
    have := h.2 0 h.1
    simp
    omega
  · rw [countsI_f h]; simp
/-- The least number of a list's live items. -/
def qlo (xs : List (Int × Int)) : Int := if xs.length = 0 then 0 else (totalN xs : Int) - (wt (buk.at_ xs 0).2 : Int) + 1
def qv (xs : List (Int × Int)) : Value := .agg #[.int .i64 (whl (qlo xs) (totalN xs) (qlo xs)), .int .i64 (whl (qlo xs) (totalN xs) 1), .int .i64 (whl (qlo xs) (totalN xs) ((qlo xs + totalN xs) / 2)), .int .i64 (whl (qlo xs) (totalN xs) 1), .int .i64 (whl (qlo xs) (totalN xs) (totalN xs)), .int .i64 (whl (qlo xs) (totalN xs) 1)]
theorem qv_nil : qv [] = .agg #[.int .i64 0, .int .i64 1, .int .i64 0, .int .i64 1, .int .i64 0, .int .i64 1] := by
  simp [qv, qlo, totalN, whl]
theorem ex_zero : exN 0 1 = 0 ∧ exD 0 1 = 1 := by
  have : validQ 0 1 = true := valid_one 0
  unfold exN exD; rw [this]; exact ⟨rfl, rfl⟩
theorem shl_wt {l : Int} (hl : 0 ≤ l ∧ l ≤ 30) : wrap64 (2 ^ l.toNat) = (wt l : Int) ∧ 1 ≤ (wt l : Int) ∧ (wt l : Int) ≤ 1073741824 := by
  have h1 : (2 : Nat) ^ l.toNat ≤ 1073741824 := Nat.le_trans (Nat.pow_le_pow_right (by omega) (show l.toNat ≤ 30 by omega)) (by decide)
  have h0 : 0 < (2 : Nat) ^ l.toNat := Nat.pow_pos (by omega)
  have h2 : ((2 : Int) ^ l.toNat) = ((2 ^ l.toNat : Nat) : Int) := by simp
  rw [h2]
  have h3 : wt l = 2 ^ l.toNat := by unfold wt; rw [if_pos hl]
  rw [h3]
  generalize (2 : Nat) ^ l.toNat = p at *
  rw [IntWalk.wrap64_in (p : Int) (by omega)]
  omega
set_option maxHeartbeats 1000000 in
theorem Whole8_any (w : World) : Calls Try.prog 100 #[.int .i64 0] w fun e w' => e = .returned (.agg #[.int .i64 0, .int .i64 1, .int .i64 0, .int .i64 1, .int .i64 0, .int .i64 1]) ∧ Below w.heap.size w w' := by
  have H1 := Lib.hid (fun W => ofQR_any 0 W)
  have H2 : Hid (∀ W, Calls Try.prog 116 #[(Value.agg #[Value.int IntKind.i64 (0), Value.int IntKind.i64 ( 1)])] W fun e w' => e = .returned (.agg #[.int .i64 0, .int .i64 1, .int .i64 0, .int .i64 1, .int .i64 0, .int .i64 1]) ∧ Below W.heap.size W w') := fun W => by
    have := ExactBR_any 0 1 (by unfold I64; omega) (by unfold I64; omega) W
    rwa [ex_zero.1, ex_zero.2] at this
  go_enter Try.func100, Try.ntmps100
  go_wp2_with fail
  obtain ⟨W0, hW, hs0, K0, B0⟩ := start1 w 43 #[Value.int IntKind.i64 0, Value.int IntKind.i64 0, Value.int IntKind.i64 0, Value.int IntKind.i64 0, Value.int IntKind.i64 0, Value.int IntKind.i64 0]
  rw [hW]
  clear hW
  have KK := Lib.hid K0
  have BB := Lib.hid B0
  have R := K0.rules
  simp only [Rules] at R
  clear K0 B0 hs0
  (with_reducible refine (H1.out _).mono ?_)
  rintro e wv ⟨rfl, hbv⟩; replace BB := Lib.hid (BB.out.trans (hbv.mono BB.out.size)); replace KK := Lib.hid (KK.out.below hbv); replace R := KK.out.rules; simp only [gro.Rules] at R; clear hbv
  go_wp2_with fail
  (with_reducible refine (H2.out _).mono ?_)
  rintro e wv ⟨rfl, hbv⟩; replace BB := Lib.hid (BB.out.trans (hbv.mono BB.out.size)); replace KK := Lib.hid (KK.out.below hbv); replace R := KK.out.rules; simp only [gro.Rules] at R; clear hbv
  go_wp2
  refine bodyPost_ret (v := Value.agg #[.int .i64 0, .int .i64 1, .int .i64 0, .int .i64 1, .int .i64 0, .int .i64 1]) (by simp [results, Try.results100, go_sem, R]) rfl ⟨rfl, ?_⟩
  exact (((((BB.out.setCell (by first | (simp; done) | (simp; omega)) _).setCell (by first | (simp; done) | (simp; omega)) _).setCell (by first | (simp; done) | (simp; omega)) _).setCell (by first | (simp; done) | (simp; omega)) _).setCell (by first | (simp; done) | (simp; omega)) _).setCell (by first | (simp; done) | (simp; omega)) _
set_option maxHeartbeats 4000000 in
set_option maxRecDepth 100000 in
theorem Query_any (A : Option Addr) (n c : Nat) (xs : List (Int × Int)) (w : World) (h1 : PRead w w.heap.size A n xs) (hsmall : n ≤ 65536) (hl : 0 < n → 0 ≤ (buk.at_ xs 0).2 ∧ (buk.at_ xs 0).2 ≤ 30) :
    Calls Try.prog 69 #[.slice A n c] w fun e w' => e = .returned (qv xs) ∧ Below w.heap.size w w' := by
  have HL := Lib.hid h1.len
  have H1 := Lib.hid h1
  by_cases hn0 : 0 < n
  · have hnb : ((n : Int) == 0) = false := by simp; omega
    obtain ⟨ad, rfl, hbl, hc1, hc2⟩ := PRead.at_ h1 hn0
    have hLv := hl hn0
    have HT := Lib.hid (fun W (hb : Below w.heap.size w W) => Total_any (some ad) n c xs W ((h1.below hb).more hb.size) hsmall)
    rw [show ad.add (0 * 2) = ad from by simp [Addr.add]] at hc1 hc2
    change w.cell? ⟨ad.block, ad.off + 1, none⟩ = some (.int .i64 (buk.at_ xs 0).2) at hc2
    obtain ⟨hsh, hw1, hw2⟩ := shl_wt hLv
    have htl := totalN_le xs
    rw [HL.out] at htl
    have hq : qlo xs = (totalN xs : Int) - (wt (buk.at_ xs 0).2 : Int) + 1 := by unfold qlo; rw [if_neg (by rw [HL.out]; omega)]
    have hb1 : I64 (qlo xs) := by rw [hq]; unfold I64; omega
    have hb2 : I64 (totalN xs) := by unfold I64; omega
    have HW := Lib.hid (fun W => WholeB_any (qlo xs) (totalN xs) hb1 hb2 W)
    have hqv : Hid (qv xs = .agg #[.int .i64 (whl (qlo xs) (totalN xs) (qlo xs)), .int .i64 (whl (qlo xs) (totalN xs) 1), .int .i64 (whl (qlo xs) (totalN xs) ((qlo xs + totalN xs) / 2)), .int .i64 (whl (qlo xs) (totalN xs) 1), .int .i64 (whl (qlo xs) (totalN xs) (totalN xs)), .int .i64 (whl (qlo xs) (totalN xs) 1)]) := rfl
    have hx1 : IntKind.i64.wrap ((totalN xs : Int) - (wt (buk.at_ xs 0).2 : Int)) = (totalN xs : Int) - (wt (buk.at_ xs 0).2 : Int) := IntWalk.i64_in _ (by omega)
    have hx2 : IntKind.i64.wrap ((totalN xs : Int) - (wt (buk.at_ xs 0).2 : Int) + 1) = qlo xs := by rw [hq]; exact IntWalk.i64_in _ (by omega)
    have hlb : levelB (buk.at_ xs 0).2 = true := levelB_iff.2 hLv
    have HLV := Lib.hid (fun W => level_any (buk.at_ xs 0).2 W)
    rw [hlb] at HLV
    rw [hqv.out]
    clear hqv hlb hq hb1 hb2 htl hl h1 H1 hw1 hw2
    generalize decide (qlo xs ≤ (totalN xs : Int)) = dq at *
    generalize whl (qlo xs) (totalN xs) (qlo xs) = m0 at *
    generalize whl (qlo xs) (totalN xs) 1 = m1 at *
    generalize whl (qlo xs) (totalN xs) ((qlo xs + totalN xs) / 2) = m2 at *
    generalize whl (qlo xs) (totalN xs) (totalN xs) = m4 at *
    generalize qlo xs = lo1 at *
    have HT2 : Hid (∀ W, Below w.heap.size w W → Calls Try.prog 65 #[.slice (some ad) n c] W fun e w' => e = .returned (.int .i64 (totalN xs : Nat)) ∧ Below W.heap.size W w') := fun W hb => HT.out W hb
    clear HT
    have HT := HT2
    clear HT2
    generalize ((totalN xs : Nat) : Int) = tt at *
    generalize ((wt (buk.at_ xs 0).2 : Nat) : Int) = pw at *
    generalize (buk.at_ xs 0).2 = lv at *
    generalize (buk.at_ xs 0).1 = tk at *
    go_enter Try.func69, Try.ntmps69
    go_wp2_with fail
    obtain ⟨W0, hW, hs0, K0, B0⟩ := start1 w 43 #[Value.int IntKind.i64 0, Value.int IntKind.i64 0, Value.int IntKind.i64 0, Value.int IntKind.i64 0, Value.int IntKind.i64 0, Value.int IntKind.i64 0]
    rw [hW]
    clear hW
    have KK := Lib.hid K0
    have BB := Lib.hid B0
    have R := K0.rules
    simp only [Rules] at R
    clear K0 B0 hs0
    (with_reducible refine (HT.out _ BB.out).mono ?_)
    rintro e wv ⟨rfl, hbv⟩; replace BB := Lib.hid (BB.out.trans (hbv.mono BB.out.size)); replace KK := Lib.hid (KK.out.below hbv); replace R := KK.out.rules; simp only [gro.Rules] at R; clear hbv
    have hd2 := BB.out.cell (p := ⟨ad.block, ad.off + 1, none⟩) hbl
    rw [hc2] at hd2
    clear HT
    go_wp2_with (go_at_call 91; refine (HLV.out _).mono ?_; rintro e w9 ⟨rfl, rfl⟩)
    (with_reducible refine (HW.out _).mono ?_)
    rintro e wv ⟨rfl, hbv⟩; replace BB := Lib.hid (BB.out.trans (hbv.mono BB.out.size)); replace KK := Lib.hid (KK.out.below hbv); replace R := KK.out.rules; simp only [gro.Rules] at R; clear hbv
    obtain ⟨s5, hs5⟩ : ∃ s, wv.heap.size = s := ⟨_, rfl⟩
    replace KK := Lib.hid (KK.out.new (t := 43) (c := #[Value.int IntKind.i64 m0, Value.int IntKind.i64 m1, Value.int IntKind.i64 m2, Value.int IntKind.i64 m1, Value.int IntKind.i64 m4, Value.int IntKind.i64 m1]) hs5)
    replace BB := Lib.hid (BB.out.alloc BB.out.size (.cells #[Value.int IntKind.i64 m0, Value.int IntKind.i64 m1, Value.int IntKind.i64 m2, Value.int IntKind.i64 m1, Value.int IntKind.i64 m4, Value.int IntKind.i64 m1] 43))
    replace R := KK.out.rules
    simp only [Rules] at R
    go_wp2
    refine bodyPost_ret (v := Value.agg #[Value.int IntKind.i64 m0, Value.int IntKind.i64 m1, Value.int IntKind.i64 m2, Value.int IntKind.i64 m1, Value.int IntKind.i64 m4, Value.int IntKind.i64 m1]) (by simp [results, Try.results69, go_sem, R]) rfl ⟨rfl, ?_⟩
    exact (((((BB.out.setCell (by first | (simp; done) | (simp; omega)) _).setCell (by first | (simp; done) | (simp; omega)) _).setCell (by first | (simp; done) | (simp; omega)) _).setCell (by first | (simp; done) | (simp; omega)) _).setCell (by first | (simp; done) | (simp; omega)) _).setCell (by first | (simp; done) | (simp; omega)) _
  · obtain rfl : n = 0 := by omega
    obtain rfl : xs = [] := List.eq_nil_of_length_eq_zero HL.out
    rw [qv_nil]
    have H8 := Lib.hid (fun W => Whole8_any W)
    have HO := Lib.hid (fun W => ofQ_any 0 W)
    have HE : Hid (∀ W, Calls Try.prog 97 #[(Value.agg #[Value.int IntKind.i64 (0), Value.int IntKind.i64 ( 1)])] W fun e w' => e = .returned (.agg #[.int .i64 0, .int .i64 1, .int .i64 0, .int .i64 1, .int .i64 0, .int .i64 1]) ∧ Below W.heap.size W w') := fun W => by
      have := ExactB_any 0 1 (by unfold I64; omega) (by unfold I64; omega) W
      rwa [ex_zero.1, ex_zero.2] at this
    clear hl h1 H1 HL
    go_enter Try.func69, Try.ntmps69
    go_wp2_with fail
    obtain ⟨W0, hW, hs0, K0, B0⟩ := start1 w 43 #[Value.int IntKind.i64 0, Value.int IntKind.i64 0, Value.int IntKind.i64 0, Value.int IntKind.i64 0, Value.int IntKind.i64 0, Value.int IntKind.i64 0]
    rw [hW]
    clear hW
    have KK := Lib.hid K0
    have BB := Lib.hid B0
    have R := K0.rules
    simp only [Rules] at R
    clear K0 B0 hs0
    first
    | ((with_reducible refine (H8.out _).mono ?_)
       rintro e wv ⟨rfl, hbv⟩; replace BB := Lib.hid (BB.out.trans (hbv.mono BB.out.size)); replace KK := Lib.hid (KK.out.below hbv); replace R := KK.out.rules; simp only [gro.Rules] at R; clear hbv)
    | ((with_reducible refine (HO.out _).mono ?_)
       rintro e wv ⟨rfl, hbv⟩; replace BB := Lib.hid (BB.out.trans (hbv.mono BB.out.size)); replace KK := Lib.hid (KK.out.below hbv); replace R := KK.out.rules; simp only [gro.Rules] at R; clear hbv
       go_wp2_with fail
       (with_reducible refine (HE.out _).mono ?_)
       rintro e wv ⟨rfl, hbv⟩; replace BB := Lib.hid (BB.out.trans (hbv.mono BB.out.size)); replace KK := Lib.hid (KK.out.below hbv); replace R := KK.out.rules; simp only [gro.Rules] at R; clear hbv)
    go_wp2
    refine bodyPost_ret (v := Value.agg #[.int .i64 0, .int .i64 1, .int .i64 0, .int .i64 1, .int .i64 0, .int .i64 1]) (by simp [results, Try.results69, go_sem, R]) rfl ⟨rfl, ?_⟩
    exact (((((BB.out.setCell (by first | (simp; done) | (simp; omega)) _).setCell (by first | (simp; done) | (simp; omega)) _).setCell (by first | (simp; done) | (simp; omega)) _).setCell (by first | (simp; done) | (simp; omega)) _).setCell (by first | (simp; done) | (simp; omega)) _).setCell (by first | (simp; done) | (simp; omega)) _
set_option maxHeartbeats 4000000 in
set_option maxRecDepth 100000 in
theorem QueryR_any (A : Option Addr) (n c : Nat) (xs : List (Int × Int)) (w : World) (h1 : PRead w w.heap.size A n xs) (hsmall : n ≤ 65536) (hl : 0 < n → 0 ≤ (buk.at_ xs 0).2 ∧ (buk.at_ xs 0).2 ≤ 30) :
    Calls Try.prog 70 #[.slice A n c] w fun e w' => e = .returned (qv xs) ∧ Below w.heap.size w w' := by
  have HL := Lib.hid h1.len
  have H1 := Lib.hid h1
  by_cases hn0 : 0 < n
  · have hnb : ((n : Int) == 0) = false := by simp; omega
    obtain ⟨ad, rfl, hbl, hc1, hc2⟩ := PRead.at_ h1 hn0
    have hLv := hl hn0
    have HT := Lib.hid (fun W (hb : Below w.heap.size w W) => TotalRef_any (some ad) n c xs W ((h1.below hb).more hb.size) hsmall)
    rw [show ad.add (0 * 2) = ad from by simp [Addr.add]] at hc1 hc2
    change w.cell? ⟨ad.block, ad.off + 1, none⟩ = some (.int .i64 (buk.at_ xs 0).2) at hc2
    obtain ⟨hsh, hw1, hw2⟩ := shl_wt hLv
    have htl := totalN_le xs
    rw [HL.out] at htl
    have hq : qlo xs = (totalN xs : Int) - (wt (buk.at_ xs 0).2 : Int) + 1 := by unfold qlo; rw [if_neg (by rw [HL.out]; omega)]
    have hb1 : I64 (qlo xs) := by rw [hq]; unfold I64; omega
    have hb2 : I64 (totalN xs) := by unfold I64; omega
    have HW := Lib.hid (fun W => WholeBR_any (qlo xs) (totalN xs) hb1 hb2 W)
    have hqv : Hid (qv xs = .agg #[.int .i64 (whl (qlo xs) (totalN xs) (qlo xs)), .int .i64 (whl (qlo xs) (totalN xs) 1), .int .i64 (whl (qlo xs) (totalN xs) ((qlo xs + totalN xs) / 2)), .int .i64 (whl (qlo xs) (totalN xs) 1), .int .i64 (whl (qlo xs) (totalN xs) (totalN xs)), .int .i64 (whl (qlo xs) (totalN xs) 1)]) := rfl
    have hx1 : IntKind.i64.wrap ((totalN xs : Int) - (wt (buk.at_ xs 0).2 : Int)) = (totalN xs : Int) - (wt (buk.at_ xs 0).2 : Int) := IntWalk.i64_in _ (by omega)
    have hx2 : IntKind.i64.wrap ((totalN xs : Int) - (wt (buk.at_ xs 0).2 : Int) + 1) = qlo xs := by rw [hq]; exact IntWalk.i64_in _ (by omega)
    have hlb : levelB (buk.at_ xs 0).2 = true := levelB_iff.2 hLv
    have HLV := Lib.hid (fun W => level_any (buk.at_ xs 0).2 W)
    rw [hlb] at HLV
    rw [hqv.out]
    clear hqv hlb hq hb1 hb2 htl hl h1 H1 hw1 hw2
    generalize decide (qlo xs ≤ (totalN xs : Int)) = dq at *
    generalize whl (qlo xs) (totalN xs) (qlo xs) = m0 at *
    generalize whl (qlo xs) (totalN xs) 1 = m1 at *
    generalize whl (qlo xs) (totalN xs) ((qlo xs + totalN xs) / 2) = m2 at *
    generalize whl (qlo xs) (totalN xs) (totalN xs) = m4 at *
    generalize qlo xs = lo1 at *
    have HT2 : Hid (∀ W, Below w.heap.size w W → Calls Try.prog 67 #[.slice (some ad) n c] W fun e w' => e = .returned (.int .i64 (totalN xs : Nat)) ∧ Below W.heap.size W w') := fun W hb => HT.out W hb
    clear HT
    have HT := HT2
    clear HT2
    generalize ((totalN xs : Nat) : Int) = tt at *
    generalize ((wt (buk.at_ xs 0).2 : Nat) : Int) = pw at *
    generalize (buk.at_ xs 0).2 = lv at *
    generalize (buk.at_ xs 0).1 = tk at *
    go_enter Try.func70, Try.ntmps70
    go_wp2_with fail
    obtain ⟨W0, hW, hs0, K0, B0⟩ := start1 w 43 #[Value.int IntKind.i64 0, Value.int IntKind.i64 0, Value.int IntKind.i64 0, Value.int IntKind.i64 0, Value.int IntKind.i64 0, Value.int IntKind.i64 0]
    rw [hW]
    clear hW
    have KK := Lib.hid K0
    have BB := Lib.hid B0
    have R := K0.rules
    simp only [Rules] at R
    clear K0 B0 hs0
    (with_reducible refine (HT.out _ BB.out).mono ?_)
    rintro e wv ⟨rfl, hbv⟩; replace BB := Lib.hid (BB.out.trans (hbv.mono BB.out.size)); replace KK := Lib.hid (KK.out.below hbv); replace R := KK.out.rules; simp only [gro.Rules] at R; clear hbv
    have hd2 := BB.out.cell (p := ⟨ad.block, ad.off + 1, none⟩) hbl
    rw [hc2] at hd2
    clear HT
    go_wp2_with (go_at_call 91; refine (HLV.out _).mono ?_; rintro e w9 ⟨rfl, rfl⟩)
    (with_reducible refine (HW.out _).mono ?_)
    rintro e wv ⟨rfl, hbv⟩; replace BB := Lib.hid (BB.out.trans (hbv.mono BB.out.size)); replace KK := Lib.hid (KK.out.below hbv); replace R := KK.out.rules; simp only [gro.Rules] at R; clear hbv
    obtain ⟨s5, hs5⟩ : ∃ s, wv.heap.size = s := ⟨_, rfl⟩
    replace KK := Lib.hid (KK.out.new (t := 43) (c := #[Value.int IntKind.i64 m0, Value.int IntKind.i64 m1, Value.int IntKind.i64 m2, Value.int IntKind.i64 m1, Value.int IntKind.i64 m4, Value.int IntKind.i64 m1]) hs5)
    replace BB := Lib.hid (BB.out.alloc BB.out.size (.cells #[Value.int IntKind.i64 m0, Value.int IntKind.i64 m1, Value.int IntKind.i64 m2, Value.int IntKind.i64 m1, Value.int IntKind.i64 m4, Value.int IntKind.i64 m1] 43))
    replace R := KK.out.rules
    simp only [Rules] at R
    go_wp2
    refine bodyPost_ret (v := Value.agg #[Value.int IntKind.i64 m0, Value.int IntKind.i64 m1, Value.int IntKind.i64 m2, Value.int IntKind.i64 m1, Value.int IntKind.i64 m4, Value.int IntKind.i64 m1]) (by simp [results, Try.results70, go_sem, R]) rfl ⟨rfl, ?_⟩
    exact (((((BB.out.setCell (by first | (simp; done) | (simp; omega)) _).setCell (by first | (simp; done) | (simp; omega)) _).setCell (by first | (simp; done) | (simp; omega)) _).setCell (by first | (simp; done) | (simp; omega)) _).setCell (by first | (simp; done) | (simp; omega)) _).setCell (by first | (simp; done) | (simp; omega)) _
  · obtain rfl : n = 0 := by omega
    obtain rfl : xs = [] := List.eq_nil_of_length_eq_zero HL.out
    rw [qv_nil]
    have H8 := Lib.hid (fun W => Whole8_any W)
    have HO := Lib.hid (fun W => ofQ_any 0 W)
    have HE : Hid (∀ W, Calls Try.prog 97 #[(Value.agg #[Value.int IntKind.i64 (0), Value.int IntKind.i64 ( 1)])] W fun e w' => e = .returned (.agg #[.int .i64 0, .int .i64 1, .int .i64 0, .int .i64 1, .int .i64 0, .int .i64 1]) ∧ Below W.heap.size W w') := fun W => by
      have := ExactB_any 0 1 (by unfold I64; omega) (by unfold I64; omega) W
      rwa [ex_zero.1, ex_zero.2] at this
    clear hl h1 H1 HL
    go_enter Try.func70, Try.ntmps70
    go_wp2_with fail
    obtain ⟨W0, hW, hs0, K0, B0⟩ := start1 w 43 #[Value.int IntKind.i64 0, Value.int IntKind.i64 0, Value.int IntKind.i64 0, Value.int IntKind.i64 0, Value.int IntKind.i64 0, Value.int IntKind.i64 0]
    rw [hW]
    clear hW
    have KK := Lib.hid K0
    have BB := Lib.hid B0
    have R := K0.rules
    simp only [Rules] at R
    clear K0 B0 hs0
    first
    | ((with_reducible refine (H8.out _).mono ?_)
       rintro e wv ⟨rfl, hbv⟩; replace BB := Lib.hid (BB.out.trans (hbv.mono BB.out.size)); replace KK := Lib.hid (KK.out.below hbv); replace R := KK.out.rules; simp only [gro.Rules] at R; clear hbv)
    | ((with_reducible refine (HO.out _).mono ?_)
       rintro e wv ⟨rfl, hbv⟩; replace BB := Lib.hid (BB.out.trans (hbv.mono BB.out.size)); replace KK := Lib.hid (KK.out.below hbv); replace R := KK.out.rules; simp only [gro.Rules] at R; clear hbv
       go_wp2_with fail
       (with_reducible refine (HE.out _).mono ?_)
       rintro e wv ⟨rfl, hbv⟩; replace BB := Lib.hid (BB.out.trans (hbv.mono BB.out.size)); replace KK := Lib.hid (KK.out.below hbv); replace R := KK.out.rules; simp only [gro.Rules] at R; clear hbv)
    go_wp2
    refine bodyPost_ret (v := Value.agg #[.int .i64 0, .int .i64 1, .int .i64 0, .int .i64 1, .int .i64 0, .int .i64 1]) (by simp [results, Try.results70, go_sem, R]) rfl ⟨rfl, ?_⟩
    exact (((((BB.out.setCell (by first | (simp; done) | (simp; omega)) _).setCell (by first | (simp; done) | (simp; omega)) _).setCell (by first | (simp; done) | (simp; omega)) _).setCell (by first | (simp; done) | (simp; omega)) _).setCell (by first | (simp; done) | (simp; omega)) _).setCell (by first | (simp; done) | (simp; omega)) _
end Go.Proofs.Ytofgjcfiinmimaa.lst
