/- RGap; Canon: texts in one. -/
import Derived.Test.YtjapjfcennemeaaMgRValR
import Derived.Test.YtjapjfcennemeaaApp
import Derived.Test.YtjapjfcennemeaaMgTotal
set_option linter.unusedVariables false
set_option linter.unusedSimpArgs false
/- Contracts of both Gap, at any summary. -/
namespace Go.Proofs.Ytjapjfcennemeaa.rnk
open Go.RowKit Go.Proofs.Ytjapjfcennemeaa.mem Go.Proofs.Ytjapjfcennemeaa.gro
set_option linter.unusedVariables false
set_option linter.unusedSimpArgs false
set_option pp.maxSteps 200000
theorem gapR_f {N : Int} {es : L3} (h : valR N es = false) : gapR N es = 0 := by unfold gapR; rw [if_neg (fun h2 => by rw [h] at h2; cases h2.1)]
theorem gapR_0 {N : Int} {es : L3} (h : es.length = 0) : gapR N es = 0 := by unfold gapR; rw [if_neg (fun h2 => by omega)]
theorem gapR_t {N : Int} {es : L3} {n : Nat} (hl : es.length = n) (h : valR N es = true) (h0 : 0 < n) : gapR N es = gapTo es (n - 1) := by unfold gapR; rw [hl, if_pos ⟨h, h0⟩]
theorem gapTo_max {es : L3} {i : Nat} (h0 : 1 ≤ i) : gapTo es (i + 1 - 1) = max (gapTo es (i - 1)) ((at3 es i).2.2 - (at3 es (i - 1)).2.1) := by
  obtain ⟨j, rfl⟩ : ∃ j, i = j + 1 := ⟨i - 1, by omega⟩
  simp only [Nat.add_sub_cancel]
  rfl
set_option maxHeartbeats 8000000 in
set_option maxRecDepth 100000 in
theorem Gap_any (N : Int) (A : Option Addr) (n c : Nat) (es : L3) (w : World) (h1 : ERead w w.heap.size A n es) (hs : n ≤ 16777216) : Calls Try.prog 41 #[.agg #[.int .i64 N, .slice A n c]] w fun e w' => e = .returned (.int .i64 (gapR N es)) ∧ Below w.heap.size w w' := by
  have H1 := Lib.hid h1
  have HL := Lib.hid h1.len
  have HV := Lib.hid (fun W (hb : Below w.heap.size w W) => Validate_any N A n c es W ((h1.below hb).more hb.size) (by omega))
  clear h1
  rcases Bool.eq_false_or_eq_true (valR N es) with hv | hv
  case inr =>
    rw [hv, erS_f] at HV
    have HG := Lib.hid (gapR_f hv)
    clear hv
    go_enter Try.func41, Try.ntmps41
    go_wp2_with fail
    obtain ⟨W0, hW, hs0, K0, B0⟩ := start1 w 46 #[Value.int IntKind.i64 N, Value.slice A n c]
    rw [hW]
    clear hW
    have KK := Lib.hid K0
    have BB := Lib.hid B0
    have R := K0.rules
    simp only [Rules] at R
    clear K0 B0 hs0
    go_wp2_with fail
    (with_reducible refine (HV.out _ BB.out).mono ?_)
    rintro e wv ⟨rfl, hbv⟩; replace BB := Lib.hid (BB.out.trans (hbv.mono BB.out.size)); replace KK := Lib.hid (KK.out.below hbv); replace R := KK.out.rules; simp only [gro.Rules] at R; clear hbv
    go_wp2
    go_ret
    exact ⟨ret_int (by rw [HG.out]), BB.out⟩
  rw [hv, erS_t] at HV
  obtain ⟨⟨hN0, hN1, hN2⟩, hen, _⟩ := valR_iff.1 hv
  rw [HL.out] at hN2 hen
  by_cases h0 : 0 < n
  case neg =>
    obtain rfl : n = 0 := by omega
    obtain rfl : N = 0 := hN2.1 rfl
    have HG := Lib.hid (gapR_0 (N := 0) HL.out)
    clear hv hen hN2
    go_enter Try.func41, Try.ntmps41
    go_wp2_with fail
    obtain ⟨W0, hW, hs0, K0, B0⟩ := start1 w 46 #[Value.int IntKind.i64 0, Value.slice A (0 : Nat) c]
    rw [hW]
    clear hW
    have KK := Lib.hid K0
    have BB := Lib.hid B0
    have R := K0.rules
    simp only [Rules] at R
    clear K0 B0 hs0
    go_wp2_with fail
    (with_reducible refine (HV.out _ BB.out).mono ?_)
    rintro e wv ⟨rfl, hbv⟩; replace BB := Lib.hid (BB.out.trans (hbv.mono BB.out.size)); replace KK := Lib.hid (KK.out.below hbv); replace R := KK.out.rules; simp only [gro.Rules] at R; clear hbv
    go_wp2
    go_ret
    exact ⟨ret_int (by rw [HG.out]), BB.out⟩
  have hN3 : 1 ≤ N := by have : N ≠ 0 := fun e => by have := hN2.2 e; omega
                         omega
  have HG := Lib.hid (gapR_t HL.out hv h0)
  have HB := Lib.hid (fun i (hi : i < n) => gapTo_bd hv hN3 i (by rw [HL.out]; exact hi))
  have HE := Lib.hid (fun i (hi : i < n) => (hen i hi).1)
  have hn0 : ((n : Int) == 0) = false := by simp; omega
  have hN4 : (N == 0) = false := by simp; omega
  clear hv hen hN2
  go_enter Try.func41, Try.ntmps41
  go_wp2_with fail
  obtain ⟨W0, hW, hs0, K0, B0⟩ := start1 w 46 #[Value.int IntKind.i64 N, Value.slice A n c]
  rw [hW]
  clear hW
  have KK := Lib.hid K0
  have BB := Lib.hid B0
  have R := K0.rules
  simp only [Rules] at R
  clear K0 B0 hs0
  go_wp2_with fail
  (with_reducible refine (HV.out _ BB.out).mono ?_)
  rintro e wv ⟨rfl, hbv⟩; replace BB := Lib.hid (BB.out.trans (hbv.mono BB.out.size)); replace KK := Lib.hid (KK.out.below hbv); replace R := KK.out.rules; simp only [gro.Rules] at R; clear hbv
  go_wp2_with fail
  clear R
  go_loopg [3, 4] n (fun kx s3 s4 wr => ∃ i : Nat, 1 ≤ i ∧ i ≤ n ∧ s4 = .int .i64 i ∧ s3 = .int .i64 (gapTo es (i - 1)) ∧ n - i ≤ kx ∧ Hid (Bx wr [(w.heap.size, 46, #[Value.int IntKind.i64 N, Value.slice A n c])]) ∧ Hid (Below w.heap.size w wr))
  case atStart => exact ⟨1, Nat.le_refl _, h0, rfl, rfl, by omega, KK, BB⟩
  case round =>
    clear KK BB
    obtain ⟨i, hi1, hi, rfl, rfl, hik, KK, BB⟩ := hrel
    have R := KK.out.rules
    simp only [Rules] at R
    by_cases hlt : i < n
    case neg =>
      obtain rfl : i = n := by omega
      go_wp2
      go_ret
      exact ⟨ret_int (by rw [HG.out]), BB.out⟩
    have H2 := H1.out.below BB.out
    obtain ⟨ad, rfl, hbl, hc1, hc2, hc3⟩ := ERead.at_ H2 hlt
    obtain ⟨ad', e, _, hd1, hd2, hd3⟩ := ERead.at_ H2 (show i - 1 < n by omega)
    injection e with e
    subst e
    have hg := HB.out (i - 1) (by omega)
    have he := HE.out i hlt
    have hf := HE.out (i - 1) (by omega)
    have hM := Lib.hid (gapTo_max (es := es) hi1)
    clear H2 hc1 hc2 hd1 hd3 HB HE
    generalize (at3 es i).2.2 = x1 at *
    generalize (at3 es (i - 1)).2.1 = m0 at *
    generalize gapTo es (i - 1) = g at *
    have s2 : 0 ≤ (i : Int) - 1 := by omega
    have s3 : ((i : Int) - 1).toNat = i - 1 := by omega
    have s4 : (i : Int) - 1 < n := by omega
    have s6 : IntKind.i64.wrap ((i : Int) - 1) = (i : Int) - 1 := IntWalk.i64_in _ (by omega)
    have s7 : IntKind.i64.wrap (x1 - m0) = x1 - m0 := IntWalk.i64_in _ (by omega)
    go_wp2_with fail
    (refine gro.wp_region_grown (by kernel_rfl) (by kernel_rfl) ?_; (repeat (go_big_quiet_step ((fail)))); refine wpQuiet_nil ?_; intro _ hw'; obtain ⟨nx, hw''⟩ := hw'; subst hw'')
    replace BB := Lib.hid (BB.out.trans ((below_grown _ nx).mono BB.out.size))
    replace KK := Lib.hid (KK.out.below (below_grown _ nx))
    clear R
    generalize grown _ nx = W7 at *
    go_wp2
    all_goals (go_roundg (n - (i + 1)); (case measure => omega); (case rel => exact ⟨i + 1, by omega, by omega, by go_num, by rw [hM.out]; exact congrArg (Value.int IntKind.i64) (by omega), by omega, KK, BB⟩))
set_option maxHeartbeats 8000000 in
set_option maxRecDepth 100000 in
theorem GapR_any (N : Int) (A : Option Addr) (n c : Nat) (es : L3) (w : World) (h1 : ERead w w.heap.size A n es) (hs : n ≤ 16777216) : Calls Try.prog 73 #[.agg #[.int .i64 N, .slice A n c]] w fun e w' => e = .returned (.int .i64 (gapR N es)) ∧ Below w.heap.size w w' := by
  have H1 := Lib.hid h1
  have HL := Lib.hid h1.len
  have HV := Lib.hid (fun W (hb : Below w.heap.size w W) => ValidateR_any N A n c es W ((h1.below hb).more hb.size) (by omega))
  clear h1
  rcases Bool.eq_false_or_eq_true (valR N es) with hv | hv
  case inr =>
    rw [hv, erS_f] at HV
    have HG := Lib.hid (gapR_f hv)
    clear hv
    go_enter Try.func73, Try.ntmps73
    go_wp2_with fail
    obtain ⟨W0, hW, hs0, K0, B0⟩ := start1 w 46 #[Value.int IntKind.i64 N, Value.slice A n c]
    rw [hW]
    clear hW
    have KK := Lib.hid K0
    have BB := Lib.hid B0
    have R := K0.rules
    simp only [Rules] at R
    clear K0 B0 hs0
    go_wp2_with fail
    (with_reducible refine (HV.out _ BB.out).mono ?_)
    rintro e wv ⟨rfl, hbv⟩; replace BB := Lib.hid (BB.out.trans (hbv.mono BB.out.size)); replace KK := Lib.hid (KK.out.below hbv); replace R := KK.out.rules; simp only [gro.Rules] at R; clear hbv
    go_wp2
    go_ret
    exact ⟨ret_int (by rw [HG.out]), BB.out⟩
  rw [hv, erS_t] at HV
  obtain ⟨⟨hN0, hN1, hN2⟩, hen, _⟩ := valR_iff.1 hv
  rw [HL.out] at hN2 hen
  by_cases h0 : 0 < n
  case neg =>
    obtain rfl : n = 0 := by omega
    obtain rfl : N = 0 := hN2.1 rfl
    have HG := Lib.hid (gapR_0 (N := 0) HL.out)
    clear hv hen hN2
    go_enter Try.func73, Try.ntmps73
    go_wp2_with fail
    obtain ⟨W0, hW, hs0, K0, B0⟩ := start1 w 46 #[Value.int IntKind.i64 0, Value.slice A (0 : Nat) c]
    rw [hW]
    clear hW
    have KK := Lib.hid K0
    have BB := Lib.hid B0
    have R := K0.rules
    simp only [Rules] at R
    clear K0 B0 hs0
    go_wp2_with fail
    (with_reducible refine (HV.out _ BB.out).mono ?_)
    rintro e wv ⟨rfl, hbv⟩; replace BB := Lib.hid (BB.out.trans (hbv.mono BB.out.size)); replace KK := Lib.hid (KK.out.below hbv); replace R := KK.out.rules; simp only [gro.Rules] at R; clear hbv
    go_wp2
    go_ret
    exact ⟨ret_int (by rw [HG.out]), BB.out⟩
  have hN3 : 1 ≤ N := by have : N ≠ 0 := fun e => by have := hN2.2 e; omega
                         omega
  have HG := Lib.hid (gapR_t HL.out hv h0)
  have HB := Lib.hid (fun i (hi : i < n) => gapTo_bd hv hN3 i (by rw [HL.out]; exact hi))
  have HE := Lib.hid (fun i (hi : i < n) => (hen i hi).1)
  have hn0 : ((n : Int) == 0) = false := by simp; omega
  have hN4 : (N == 0) = false := by simp; omega
  clear hv hen hN2
  go_enter Try.func73, Try.ntmps73
  go_wp2_with fail
  obtain ⟨W0, hW, hs0, K0, B0⟩ := start1 w 46 #[Value.int IntKind.i64 N, Value.slice A n c]
  rw [hW]
  clear hW
  have KK := Lib.hid K0
  have BB := Lib.hid B0
  have R := K0.rules
  simp only [Rules] at R
  clear K0 B0 hs0
  go_wp2_with fail
  (with_reducible refine (HV.out _ BB.out).mono ?_)
  rintro e wv ⟨rfl, hbv⟩; replace BB := Lib.hid (BB.out.trans (hbv.mono BB.out.size)); replace KK := Lib.hid (KK.out.below hbv); replace R := KK.out.rules; simp only [gro.Rules] at R; clear hbv
  go_wp2_with fail
  clear R
  go_loopg [3, 4] n (fun kx s3 s4 wr => ∃ i : Nat, 1 ≤ i ∧ i ≤ n ∧ s4 = .int .i64 i ∧ s3 = .int .i64 (gapTo es (i - 1)) ∧ n - i ≤ kx ∧ Hid (Bx wr [(w.heap.size, 46, #[Value.int IntKind.i64 N, Value.slice A n c])]) ∧ Hid (Below w.heap.size w wr))
  case atStart => exact ⟨1, Nat.le_refl _, h0, rfl, rfl, by omega, KK, BB⟩
  case round =>
    clear KK BB
    obtain ⟨i, hi1, hi, rfl, rfl, hik, KK, BB⟩ := hrel
    have R := KK.out.rules
    simp only [Rules] at R
    by_cases hlt : i < n
    case neg =>
      obtain rfl : i = n := by omega
      go_wp2
      go_ret
      exact ⟨ret_int (by rw [HG.out]), BB.out⟩
    have H2 := H1.out.below BB.out
    obtain ⟨ad, rfl, hbl, hc1, hc2, hc3⟩ := ERead.at_ H2 hlt
    obtain ⟨ad', e, _, hd1, hd2, hd3⟩ := ERead.at_ H2 (show i - 1 < n by omega)
    injection e with e
    subst e
    have hg := HB.out (i - 1) (by omega)
    have he := HE.out i hlt
    have hf := HE.out (i - 1) (by omega)
    have hM := Lib.hid (gapTo_max (es := es) hi1)
    clear H2 hc1 hc2 hd1 hd3 HB HE
    generalize (at3 es i).2.2 = x1 at *
    generalize (at3 es (i - 1)).2.1 = m0 at *
    generalize gapTo es (i - 1) = g at *
    have s2 : 0 ≤ (i : Int) - 1 := by omega
    have s3 : ((i : Int) - 1).toNat = i - 1 := by omega
    have s4 : (i : Int) - 1 < n := by omega
    have s6 : IntKind.i64.wrap ((i : Int) - 1) = (i : Int) - 1 := IntWalk.i64_in _ (by omega)
    have s7 : IntKind.i64.wrap (x1 - m0) = x1 - m0 := IntWalk.i64_in _ (by omega)
    go_wp2_with fail
    (refine gro.wp_region_grown (by kernel_rfl) (by kernel_rfl) ?_; (repeat (go_big_quiet_step ((fail)))); refine wpQuiet_nil ?_; intro _ hw'; obtain ⟨nx, hw''⟩ := hw'; subst hw'')
    replace BB := Lib.hid (BB.out.trans ((below_grown _ nx).mono BB.out.size))
    replace KK := Lib.hid (KK.out.below (below_grown _ nx))
    clear R
    generalize grown _ nx = W7 at *
    go_wp2
    all_goals (go_roundg (n - (i + 1)); (case measure => omega); (case rel => exact ⟨i + 1, by omega, by omega, by go_num, by rw [hM.out]; exact congrArg (Value.int IntKind.i64) (by omega), by omega, KK, BB⟩))
end Go.Proofs.Ytjapjfcennemeaa.rnk

/- Contracts of SameInts, of buckets.Canonical and of its reference. -/
namespace Go.Proofs.Ytjapjfcennemeaa.lst
open Go.RowKit Go.Proofs.Ytjapjfcennemeaa.mem
set_option linter.unusedVariables false

theorem take_stepI {xs ys : List Int} {k : Nat} (a1 : k < xs.length) (a2 : k < ys.length) (h : xs.take k = ys.take k) :
    (xs.take (k + 1) = ys.take (k + 1)) ↔ xs[k]?.getD 0 = ys[k]?.getD 0 := by
  rw [List.take_succ_eq_append_getElem a1, List.take_succ_eq_append_getElem a2, h, List.getElem?_eq_getElem a1, List.getElem?_eq_getElem a2, List.append_cancel_left_eq]
  simp

/-- The closed form, with fuel. -/
def canonF (k : Nat) : Nat → Nat → List Int
  | 0, _ => []
  | f + 1, n => if n = 0 then [] else ((n - 2 * ((n - k) / 2) : Nat) : Int) :: canonF k f ((n - k) / 2)
theorem canonF_zero (k f : Nat) : canonF k f 0 = [] := by cases f <;> simp [canonF]
theorem canonF_pos (k f n : Nat) (hn : 0 < n) : canonF k (f + 1) n = ((n - 2 * ((n - k) / 2) : Nat) : Int) :: canonF k f ((n - k) / 2) := by
  simp [canonF, show n ≠ 0 from by omega]
def canonI (n k : Int) : List Int := if 0 ≤ n ∧ n ≤ 1073741824 ∧ 1 ≤ k ∧ k ≤ 128 then canonF k.toNat n.toNat n.toNat else []

theorem int_info : (Try.prog.info? 3).map (fun i => (i.zero, i.size, i.bytes)) = some (some (.int .i64 0), 1, 8) := by kernel_rfl

theorem canonI_in {n k : Nat} (hn : n ≤ 1073741824) (hk1 : 1 ≤ k) (hk2 : k ≤ 128) : canonI n k = canonF k n n := by
  unfold canonI; rw [if_pos (by omega)]; simp
theorem canonI_out {n k : Int} (h : ¬ (0 ≤ n ∧ n ≤ 1073741824 ∧ 1 ≤ k ∧ k ≤ 128)) : canonI n k = [] := by
  unfold canonI; rw [if_neg h]

def mayKB (k : Int) : Bool := decide (1 ≤ k) && decide (k ≤ 128)
theorem mayKB_iff {k : Int} : mayKB k = true ↔ 1 ≤ k ∧ k ≤ 128 := by simp [mayKB]
theorem mayKB_iff0 {k : Int} : mayKB k = false ↔ ¬ (1 ≤ k ∧ k ≤ 128) := by rw [← mayKB_iff]; simp
set_option maxHeartbeats 400000 in
theorem MayK_any (k : Int) (w : World) :
    Calls Try.prog 118 #[.int .i64 k] w fun e w' => e = .returned (.bool (mayKB k)) ∧ w = w' := by
  go_enter Try.func118, Try.ntmps118
  go_wp2
  all_goals (go_ret; refine ⟨ret_bool ?_, rfl⟩; first | (symm; rw [mayKB_iff]; omega) | (symm; rw [mayKB_iff0]; omega) | (rw [Bool.eq_iff_iff, mayKB_iff]; simp; omega))

/-- The example of the chapter. -/
theorem reads_build (w : World) (e : TypeId) (a b : Int) : IRead (w.alloc (.cells #[.int .i64 a, .int .i64 b] e)) (w.heap.size + 1) (some ⟨w.heap.size, 0, none⟩) 2 [a, b] := reads_new w e _ rfl
end Go.Proofs.Ytjapjfcennemeaa.lst
