/- KeepT; CstL: texts in one. -/
import Derived.Test.YtofgjcfiinmimaaMgKeepM
import Derived.Test.YtofgjcfiinmimaaQuery
import Derived.Test.YtofgjcfiinmimaaMgRMany
import Derived.Test.YtofgjcfiinmimaaMgHold
import Derived.Test.YtofgjcfiinmimaaMgIns
import Derived.Test.YtofgjcfiinmimaaWithin
import Derived.Test.YtofgjcfiinmimaaValidR
import Derived.Test.YtofgjcfiinmimaaMgClk
/- What a list in order keeps: by expiry, by insertion; its bounds are narrow and its buckets few. -/
namespace Go.Proofs.Ytofgjcfiinmimaa.lst
open Go.RowKit Go.Proofs.Ytofgjcfiinmimaa.mem Go.Proofs.Ytofgjcfiinmimaa.buk Go.Proofs.Ytofgjcfiinmimaa.wid Go.Proofs.Ytofgjcfiinmimaa.num
set_option linter.unusedVariables false
def Good (xs : List (Int × Int)) (k : Nat) (t : Int) (m : Nat) : Prop := ValidP xs k ∧ (0 < xs.length → tailT xs ≤ t) ∧ wgt xs ≤ m
theorem good_nil {k : Nat} (hk : 1 ≤ k) (hk2 : k ≤ 128) : Good [] k 0 0 := ⟨validP_nil hk hk2, fun h => by simp at h, Nat.le_refl _⟩
theorem expire_drop (f : Int) : ∀ xs : List (Int × Int), ∃ i, expireL f xs = xs.drop i
  | [] => ⟨0, rfl⟩
  | p :: r => by
    unfold expireL
    rw [List.dropWhile_cons]
    split
    · obtain ⟨i, hi⟩ := expire_drop f r
      exact ⟨i + 1, by rw [List.drop_succ_cons]; exact hi⟩
    · exact ⟨0, rfl⟩
theorem good_expire {xs : List (Int × Int)} {k m : Nat} {t : Int} (h : Good xs k t m) (f : Int) : Good (expireL f xs) k t m ∧ totalN (expireL f xs) ≤ totalN xs := by
  obtain ⟨hv, ht, hw⟩ := h
  obtain ⟨i, hi⟩ := expire_drop f xs
  rw [hi]
  have hv2 := drop_valid hv i
  have hwd := wgt_drop xs i
  have e1 := wgt_total hv.2.1
  have e2 := wgt_total hv2.2.1
  refine ⟨⟨hv2, fun hp => ?_, by omega⟩, by omega⟩
  rw [List.length_drop] at hp
  unfold tailT
  rw [at_drop, List.length_drop, show i + (xs.length - i - 1) = xs.length - 1 by omega]
  exact ht (by omega)
theorem good_insert {xs : List (Int × Int)} {k m : Nat} {t0 t : Int} (h : Good xs k t0 m) (h0 : t0 ≤ t) (ht : 0 ≤ t ∧ t ≤ 16777216) (hm : m ≤ 1000) : Good (insI xs k t) k t (m + 1) ∧ totalN (insI xs k t) = totalN xs + 1 := by
  obtain ⟨hv, htl, hw⟩ := h
  have e1 := wgt_total hv.2.1
  have hmm : 0 < xs.length → tailT xs ≤ t := fun hp => Int.le_trans (htl hp) h0
  obtain ⟨v2, w2, t2, p2⟩ := insC_valid hv ht hmm (by omega)
  have e2 := wgt_total v2.2.1
  rw [insI_t ⟨validB_t hv, mayB_iff.2 ⟨ht, tail_lastT hmm ht.1⟩, by omega⟩, Int.toNat_natCast]
  exact ⟨⟨v2, fun _ => by omega, by omega⟩, by omega⟩
theorem bits_top {L w : Nat} (h : 2 ^ L ≤ w) (hw : w < 2 ^ 64) : L + 1 ≤ Lib.bitLen w := by
  have h1 := bits_spec w 64 hw
  have h2 : 2 ^ L < 2 ^ Lib.bitLenAux 64 w := Nat.lt_of_le_of_lt h h1
  exact (Nat.pow_lt_pow_iff_right (by omega)).1 h2
theorem good_tail {xs : List (Int × Int)} {k m : Nat} {t : Int} (h : Good xs k t m) (hm : m ≤ 1000) :
    buk.validB xs k = true ∧ (xs.length : Int) ≤ mostI k (totalN xs) ∧ xs.length ≤ 1000 ∧ (0 < xs.length → 0 ≤ (at_ xs 0).2 ∧ (at_ xs 0).2 ≤ 30) ∧ 0 ≤ (totalN xs : Int) ∧ (totalN xs : Int) ≤ 1000 ∧
    ∃ lo mid : Int, qv xs = .agg #[.int .i64 lo, .int .i64 1, .int .i64 mid, .int .i64 1, .int .i64 (totalN xs), .int .i64 1] ∧ I64 lo ∧ I64 mid ∧
      wid.validB lo 1 mid 1 (totalN xs) 1 = true ∧ withB lo 1 mid 1 (totalN xs) 1 k lo 1 = true := by
  obtain ⟨hv, htl, hw⟩ := h
  have e1 := wgt_total hv.2.1
  have hlw := len_wgt xs
  have hk := hv.1
  have key : (xs.length : Int) ≤ mostI k (totalN xs) ∧ qlo xs ≤ totalN xs ∧ 0 ≤ qlo xs ∧ (k : Int) * ((totalN xs : Int) - qlo xs) ≤ qlo xs := by
    rcases Nat.eq_zero_or_pos xs.length with h0 | h0
    · obtain rfl : xs = [] := List.eq_nil_of_length_eq_zero h0
      refine ⟨?_, ?_, ?_, ?_⟩
      · rw [mostI_in ⟨hk, by simp [totalN]⟩]
        exact Int.mul_nonneg (by omega) (by omega)
      · simp [qlo, totalN]
      · simp [qlo]
      · simp [qlo, totalN]
    · have hl0 := (hv.2.1 0 h0).2.1
      obtain ⟨L, hL⟩ := Int.eq_ofNat_of_zero_le hl0.1
      obtain ⟨f1, f2, f3, f4⟩ := keep_facts hv h0 L hL
      have hwt : wt (at_ xs 0).2 = 2 ^ L := by unfold wt; rw [if_pos hl0, hL, Int.toNat_natCast]
      have hq : qlo xs = (totalN xs : Int) - (wt (at_ xs 0).2 : Int) + 1 := by unfold qlo; rw [if_neg (by omega)]
      rw [hwt] at hq
      have hp : 1 ≤ 2 ^ L := Nat.one_le_two_pow
      refine ⟨?_, by rw [hq]; omega, by rw [hq]; omega, ?_⟩
      · rw [mostI_in ⟨hk, by omega⟩]
        have hb := bits_top f4 (by omega)
        have h5 : (k + 1) * (L + 1) ≤ (k + 1) * Lib.bitLen (wgt xs) := Nat.mul_le_mul_left _ hb
        have h6 : bitsN (totalN xs : Int) = Lib.bitLen (wgt xs) := by unfold bitsN; rw [Int.toNat_natCast, e1]
        rw [h6]
        have h7 : xs.length ≤ (k + 1) * Lib.bitLen (wgt xs) := Nat.le_trans f2 h5
        have : ((k : Int) + 1) * (Lib.bitLen (wgt xs) : Int) = (((k + 1) * Lib.bitLen (wgt xs) : Nat) : Int) := by rw [Int.natCast_mul]; rfl
        rw [this]
        omega
      · have hx : (totalN xs : Int) - qlo xs = ((2 ^ L : Nat) : Int) - 1 := by rw [hq]; omega
        rw [hx, hq, Int.mul_sub, Int.mul_one, ← Int.natCast_mul]
        omega
  obtain ⟨k1, k2, k3, k4⟩ := key
  have q : ∀ v, whl (qlo xs) (totalN xs) v = v := fun v => if_pos k2
  refine ⟨validB_t hv, k1, by omega, fun hp => (hv.2.1 0 hp).2.1, by omega, by omega, qlo xs, (qlo xs + totalN xs) / 2, by unfold qv; simp only [q], by unfold I64; omega, by unfold I64; omega, whole_valid k2, ?_⟩
  unfold withB
  rw [whole_valid k2, valid_one, decide_eq_true (show (1 : Int) ≤ k by omega), decide_eq_true k3, decide_eq_true (show (k : Int) * ((totalN xs : Int) * 1 - qlo xs * 1) * 1 ≤ qlo xs * (1 * 1) by simpa using k4)]
  rfl
end Go.Proofs.Ytofgjcfiinmimaa.lst

/- States of histograms of counts and of sums: which are in order. No program. -/
namespace Go.Proofs.Ytofgjcfiinmimaa.cst
open Go.RowKit Go.Proofs.Ytofgjcfiinmimaa.mem Go.Proofs.Ytofgjcfiinmimaa.lst
set_option linter.unusedVariables false
def goodC (v k p o : Int) : Bool := decide ((1 ≤ v ∧ v ≤ 1048576) ∧ (1 ≤ k ∧ k ≤ 64) ∧ (1 ≤ p ∧ p ≤ 65536) ∧ (0 ≤ o ∧ o ≤ 16777216))
theorem goodC_iff {v k p o : Int} : goodC v k p o = true ↔ (1 ≤ v ∧ v ≤ 1048576) ∧ (1 ≤ k ∧ k ≤ 64) ∧ (1 ≤ p ∧ p ≤ 65536) ∧ (0 ≤ o ∧ o ≤ 16777216) := decide_eq_true_iff
theorem goodC_iff0 {v k p o : Int} : goodC v k p o = false ↔ ¬ ((1 ≤ v ∧ v ≤ 1048576) ∧ (1 ≤ k ∧ k ≤ 64) ∧ (1 ≤ p ∧ p ≤ 65536) ∧ (0 ≤ o ∧ o ≤ 16777216)) := decide_eq_false_iff_not
def mayB (v p o : Int) : Bool := decide ((1 ≤ v ∧ v ≤ 1048576) ∧ (1 ≤ p ∧ p ≤ 65536) ∧ (0 ≤ o ∧ o ≤ 16777216))
theorem mayB_iff {v p o : Int} : mayB v p o = true ↔ (1 ≤ v ∧ v ≤ 1048576) ∧ (1 ≤ p ∧ p ≤ 65536) ∧ (0 ≤ o ∧ o ≤ 16777216) := decide_eq_true_iff
theorem mayB_iff0 {v p o : Int} : mayB v p o = false ↔ ¬ ((1 ≤ v ∧ v ≤ 1048576) ∧ (1 ≤ p ∧ p ≤ 65536) ∧ (0 ≤ o ∧ o ≤ 16777216)) := decide_eq_false_iff_not
def kB (k : Int) : Bool := decide (1 ≤ k ∧ k ≤ 64)
theorem kB_iff {k : Int} : kB k = true ↔ 1 ≤ k ∧ k ≤ 64 := decide_eq_true_iff
theorem kB_iff0 {k : Int} : kB k = false ↔ ¬ (1 ≤ k ∧ k ≤ 64) := decide_eq_false_iff_not
def mB (m : Int) : Bool := decide (1 ≤ m ∧ m ≤ 1024)
theorem mB_iff {k : Int} : mB k = true ↔ 1 ≤ k ∧ k ≤ 1024 := decide_eq_true_iff
theorem mB_iff0 {k : Int} : mB k = false ↔ ¬ (1 ≤ k ∧ k ≤ 1024) := decide_eq_false_iff_not
def goodS (v k p m o : Int) : Bool := goodC v k p o && mB m
theorem goodS_iff {v k p m o : Int} : goodS v k p m o = true ↔ ((1 ≤ v ∧ v ≤ 1048576) ∧ (1 ≤ k ∧ k ≤ 64) ∧ (1 ≤ p ∧ p ≤ 65536) ∧ (0 ≤ o ∧ o ≤ 16777216)) ∧ 1 ≤ m ∧ m ≤ 1024 := by
  unfold goodS; rw [Bool.and_eq_true, goodC_iff, mB_iff]
theorem goodS_iff0 {v k p m o : Int} : goodS v k p m o = false ↔ ¬ (((1 ≤ v ∧ v ≤ 1048576) ∧ (1 ≤ k ∧ k ≤ 64) ∧ (1 ≤ p ∧ p ≤ 65536) ∧ (0 ≤ o ∧ o ≤ 16777216)) ∧ 1 ≤ m ∧ m ≤ 1024) := by
  rw [← goodS_iff]; simp
theorem goodC_may (v k p o : Int) : goodC v k p o = (mayB v p o && kB k) := by
  rw [Bool.eq_iff_iff, Bool.and_eq_true, goodC_iff, mayB_iff, kB_iff]
  constructor
  · rintro ⟨a, b, c, d⟩; exact ⟨⟨a, c, d⟩, b⟩
  · rintro ⟨⟨a, c, d⟩, b⟩; exact ⟨a, b, c, d⟩
/-- Which lists belong to a window. -/
def liveTo (xs : List (Int × Int)) (o v : Int) (m : Nat) : Prop := ∀ i, i < m → clk.liveB o v (buk.at_ xs i).1 = true
open Classical in
noncomputable def fitB (xs : List (Int × Int)) (v k p o : Int) : Bool := goodC v k p o && buk.validB xs k && decide ((totalN xs : Int) ≤ p) && decide (liveTo xs o v xs.length)
theorem liveTo_zero (xs : List (Int × Int)) (o v : Int) : liveTo xs o v 0 := fun i hi => absurd hi (Nat.not_lt_zero _)
theorem liveTo_succ {xs : List (Int × Int)} {o v : Int} {m : Nat} (h : liveTo xs o v m) (hm : clk.liveB o v (buk.at_ xs m).1 = true) : liveTo xs o v (m + 1) := fun i hi => by
  rcases Nat.lt_or_ge i m with h1 | h1
  · exact h i h1
  · obtain rfl : i = m := by omega
    exact hm
theorem fit_iff {xs : List (Int × Int)} {v k p o : Int} : fitB xs v k p o = true ↔ goodC v k p o = true ∧ buk.validB xs k = true ∧ (totalN xs : Int) ≤ p ∧ liveTo xs o v xs.length := by
  unfold fitB
  simp only [Bool.and_eq_true, decide_eq_true_eq]
  exact ⟨fun ⟨⟨⟨a, b⟩, c⟩, d⟩ => ⟨a, b, c, d⟩, fun ⟨a, b, c, d⟩ => ⟨⟨⟨a, b⟩, c⟩, d⟩⟩
theorem fit_not {xs : List (Int × Int)} {v k p o : Int} (h : ¬ (goodC v k p o = true ∧ buk.validB xs k = true ∧ (totalN xs : Int) ≤ p ∧ liveTo xs o v xs.length)) : fitB xs v k p o = false := by
  rw [← Bool.not_eq_true, fit_iff]; exact h
/-- A number that is kept, or nought. -/
def kp (b : Bool) (x : Int) : Int := if b = true then x else 0
theorem kp_t (x : Int) : kp true x = x := rfl
theorem kp_f (x : Int) : kp false x = 0 := rfl
end Go.Proofs.Ytofgjcfiinmimaa.cst
