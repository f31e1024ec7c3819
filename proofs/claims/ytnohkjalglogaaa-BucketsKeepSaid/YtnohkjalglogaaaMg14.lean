/- RatL; Ord: texts in one. -/
import Derived.Test.YtnohkjalglogaaaMg9
import Derived.Test.YtnohkjalglogaaaUndo
import Derived.Test.YtnohkjalglogaaaMg13
/- What the statements on rational numbers need of integers. -/
namespace Go.Proofs.Ytnohkjalglogaaa.wid
open Go.RowKit
theorem cmpZ_anti (X Y : Int) : cmpZ Y X = -cmpZ X Y := by unfold cmpZ; repeat' (first | omega | split)
theorem cmpZ_bd (X Y : Int) : -1 ≤ cmpZ X Y ∧ cmpZ X Y ≤ 1 := by unfold cmpZ; repeat' (first | omega | split)
theorem cmpQ_anti (n d m e : Int) : cmpQ m e n d = -cmpQ n d m e := by
  unfold cmpQ
  by_cases h : validQ n d = true ∧ validQ m e = true
  · rw [if_pos h, if_pos ⟨h.2, h.1⟩, cmpZ_anti]
  · rw [if_neg h, if_neg (fun h' => h ⟨h'.2, h'.1⟩)]; rfl
theorem cmpQ_bd (n d m e : Int) : -1 ≤ cmpQ n d m e ∧ cmpQ n d m e ≤ 1 := by
  unfold cmpQ
  split
  · exact cmpZ_bd _ _
  · omega
theorem cmpZ_le {X Y : Int} : cmpZ X Y ≤ 0 ↔ X ≤ Y := by unfold cmpZ; split <;> (try split) <;> omega
theorem validQ_of (n : Int) : validQ n 1 = true := by simp [validQ]
theorem floor_facts {n d : Int} (hv : validQ n d = true) : cmpQ (floorQ n d) 1 n d ≤ 0 ∧ cmpQ n d (ceilQ n d) 1 ≤ 0 ∧ floorQ n d ≤ ceilQ n d ∧ ceilQ n d ≤ floorQ n d + 1 ∧ (ceilQ n d = floorQ n d ↔ d = 1) := by
  obtain ⟨hd, hg⟩ := validQ_iff.1 hv
  have h1 := Int.mul_ediv_add_emod n d
  have h2 := Int.emod_nonneg n (show d ≠ 0 by omega)
  have h3 := Int.emod_lt_of_pos n (show 0 < d by omega)
  have hc : -((-n) / d) = if n % d = 0 then n / d else n / d + 1 := by
    split
    · rename_i h0
      have : -n = d * (-(n / d)) := by rw [Int.mul_neg]; omega
      rw [this, Int.mul_ediv_cancel_left _ (by omega)]; omega
    · have : -n = (d - n % d) + d * (-(n / d) - 1) := by rw [Int.mul_sub, Int.mul_neg]; omega
      rw [this, Int.add_mul_ediv_left _ _ (by omega), Int.ediv_eq_zero_of_lt (by omega) (by omega)]; omega
  have hone : n % d = 0 ↔ d = 1 := by
    constructor
    · intro h0
      have hdv : d ∣ n := Int.dvd_of_emod_eq_zero h0
      have := Nat.gcd_eq_right (Int.natAbs_dvd_natAbs.2 hdv)
      omega
    · intro h; subst h; omega
  unfold cmpQ floorQ ceilQ
  rw [if_pos hv, if_pos hv, if_pos ⟨validQ_of _, hv⟩, if_pos ⟨hv, validQ_of _⟩, cmpZ_le, cmpZ_le, hc]
  have hm := Int.mul_comm (n / d) d
  refine ⟨by omega, ?_, ?_, ?_, ?_⟩
  · split
    · omega
    · rw [Int.add_mul]; omega
  · split <;> omega
  · split <;> omega
  · rw [← hone]; split <;> omega
end Go.Proofs.Ytnohkjalglogaaa.wid

/- The order of rational numbers: transitivity, sums. No condition beyond valid numbers. -/
namespace Go.Proofs.Ytnohkjalglogaaa.wid
open Go.RowKit
set_option linter.unusedVariables false
theorem cmpQ_le {n d m e : Int} (hv : validQ n d = true) (hu : validQ m e = true) : cmpQ n d m e ≤ 0 ↔ n * e ≤ m * d := by
  rw [show cmpQ n d m e = cmpZ (n * e) (m * d) from if_pos ⟨hv, hu⟩, cmpZ_le]
theorem q_trans {n d m e k f : Int} (hd : 1 ≤ d) (he : 1 ≤ e) (hf : 1 ≤ f) (h : n * e ≤ m * d) (h2 : m * f ≤ k * e) : n * f ≤ k * d := by
  have h3 := Int.mul_le_mul_of_nonneg_right h (show 0 ≤ f by omega)
  have h4 := Int.mul_le_mul_of_nonneg_right h2 (show 0 ≤ d by omega)
  have h5 : (n * f) * e ≤ (k * d) * e := by
    have e1 : n * e * f = n * f * e := Int.mul_right_comm ..
    have e2 : m * d * f = m * f * d := Int.mul_right_comm ..
    have e3 : k * e * d = k * d * e := Int.mul_right_comm ..
    omega
  exact Int.le_of_mul_le_mul_right h5 (by omega)
theorem valid_pos {n d : Int} (hv : validQ n d = true) : 1 ≤ d := (validQ_iff.1 hv).1
theorem cmpQ_trans {n d m e k f : Int} (hv : validQ n d = true) (hu : validQ m e = true) (ht : validQ k f = true) (h : cmpQ n d m e ≤ 0) (h2 : cmpQ m e k f ≤ 0) : cmpQ n d k f ≤ 0 :=
  (cmpQ_le hv ht).2 (q_trans (valid_pos hv) (valid_pos hu) (valid_pos ht) ((cmpQ_le hv hu).1 h) ((cmpQ_le hu ht).1 h2))
theorem cmpQ_refl (n d : Int) : cmpQ n d n d = 0 := by
  have := cmpQ_anti n d n d
  omega
theorem q_add {n d n' d' m e m' e' : Int} (hd : 1 ≤ d) (hd' : 1 ≤ d') (he : 1 ≤ e) (he' : 1 ≤ e') (h : n * d' ≤ n' * d) (h2 : m * e' ≤ m' * e) :
    (n * e + m * d) * (d' * e') ≤ (n' * e' + m' * d') * (d * e) := by
  have p1 : 0 ≤ e * e' := Int.mul_nonneg (by omega) (by omega)
  have p2 : 0 ≤ d * d' := Int.mul_nonneg (by omega) (by omega)
  have h3 := Int.mul_le_mul_of_nonneg_right h p1
  have h4 := Int.mul_le_mul_of_nonneg_right h2 p2
  have e1 : (n * e + m * d) * (d' * e') = n * d' * (e * e') + m * e' * (d * d') := by
    rw [Int.add_mul]
    rw [show n * e * (d' * e') = n * d' * (e * e') by ac_rfl, show m * d * (d' * e') = m * e' * (d * d') by ac_rfl]
  have e2 : (n' * e' + m' * d') * (d * e) = n' * d * (e * e') + m' * e * (d * d') := by
    rw [Int.add_mul]
    rw [show n' * e' * (d * e) = n' * d * (e * e') by ac_rfl, show m' * d' * (d * e) = m' * e * (d * d') by ac_rfl]
  omega
theorem sum_facts {n d m e : Int} (hv : validQ n d = true) (hu : validQ m e = true) (h : sumOk n d m e false = true) :
    validQ (sumN n d m e false) (sumD n d m e false) = true ∧ sumN n d m e false * (d * e) = (n * e + m * d) * sumD n d m e false ∧ 1 ≤ d * e ∧ I64 (sumN n d m e false) ∧ I64 (sumD n d m e false) := by
  obtain ⟨e1, e2, e3⟩ := sum_yes (minus := false) hv hu
  rw [e3] at h
  rw [e1, e2]
  have p : 1 ≤ d * e := by
    have := Int.mul_pos (show 0 < d by have := valid_pos hv; omega) (show 0 < e by have := valid_pos hu; omega)
    omega
  obtain ⟨q1, q2, q3, q4⟩ := red_cross p h
  exact ⟨q2, q1, p, q3, q4⟩
theorem sum_le {n d n' d' m e m' e' : Int} (hv : validQ n d = true) (hv' : validQ n' d' = true) (hu : validQ m e = true) (hu' : validQ m' e' = true)
    (h : cmpQ n d n' d' ≤ 0) (h2 : cmpQ m e m' e' ≤ 0) (k : sumOk n d m e false = true) (k' : sumOk n' d' m' e' false = true) :
    cmpQ (sumN n d m e false) (sumD n d m e false) (sumN n' d' m' e' false) (sumD n' d' m' e' false) ≤ 0 := by
  obtain ⟨f1, f2, f3, _, _⟩ := sum_facts hv hu k
  obtain ⟨g1, g2, g3, _, _⟩ := sum_facts hv' hu' k'
  have hq := q_add (valid_pos hv) (valid_pos hv') (valid_pos hu) (valid_pos hu') ((cmpQ_le hv hv').1 h) ((cmpQ_le hu hu').1 h2)
  refine (cmpQ_le f1 g1).2 ?_
  refine q_trans (valid_pos f1) g3 (valid_pos g1) (q_trans (valid_pos f1) f3 g3 (by omega) hq) ?_
  omega
theorem holdB_iff {a0 a1 b0 b1 c0 c1 n d : Int} : holdB a0 a1 b0 b1 c0 c1 n d = true ↔ validQ a0 a1 = true ∧ validQ b0 b1 = true ∧ validQ c0 c1 = true ∧ cmpQ a0 a1 b0 b1 ≤ 0 ∧ cmpQ b0 b1 c0 c1 ≤ 0 ∧ validQ n d = true ∧ cmpQ a0 a1 n d ≤ 0 ∧ cmpQ n d c0 c1 ≤ 0 := by
  unfold holdB validB
  simp only [Bool.and_eq_true, decide_eq_true_eq]
  constructor
  · rintro ⟨⟨⟨⟨⟨⟨⟨a, b⟩, c⟩, d⟩, e⟩, f⟩, g⟩, h⟩; exact ⟨a, b, c, d, e, f, g, h⟩
  · rintro ⟨a, b, c, d, e, f, g, h⟩; exact ⟨⟨⟨⟨⟨⟨⟨a, b⟩, c⟩, d⟩, e⟩, f⟩, g⟩, h⟩
/-- Of two numbers the lesser one, and the greater one. -/
def lesP (n d m e : Int) : Bool := decide (cmpQ n d m e ≤ 0)
def mosP (n d m e : Int) : Bool := decide (0 ≤ cmpQ n d m e)
def pk (b : Bool) (x y : Int) : Int := if b = true then x else y
/-- What meets: low, high, first estimate, estimate. -/
theorem pk_yes {x y : Int} : pk true x y = x := rfl
theorem pk_no {x y : Int} : pk false x y = y := rfl
theorem I64.pk {b : Bool} {x y : Int} (hx : I64 x) (hy : I64 y) : I64 (pk b x y) := by cases b <;> assumption
theorem mos_facts {n d m e : Int} (hv : validQ n d = true) (hu : validQ m e = true) :
    validQ (pk (mosP n d m e) n m) (pk (mosP n d m e) d e) = true ∧ cmpQ n d (pk (mosP n d m e) n m) (pk (mosP n d m e) d e) ≤ 0 ∧ cmpQ m e (pk (mosP n d m e) n m) (pk (mosP n d m e) d e) ≤ 0 ∧
    (∀ k f, cmpQ n d k f ≤ 0 → cmpQ m e k f ≤ 0 → cmpQ (pk (mosP n d m e) n m) (pk (mosP n d m e) d e) k f ≤ 0) := by
  have ha := cmpQ_anti n d m e
  by_cases h : 0 ≤ cmpQ n d m e
  · rw [show mosP n d m e = true from decide_eq_true h]
    simp only [pk_yes]
    exact ⟨hv, by rw [cmpQ_refl]; omega, by omega, fun k f h1 h2 => h1⟩
  · rw [show mosP n d m e = false from decide_eq_false h]
    simp only [pk_no]
    exact ⟨hu, by omega, by rw [cmpQ_refl]; omega, fun k f h1 h2 => h2⟩
theorem les_facts {n d m e : Int} (hv : validQ n d = true) (hu : validQ m e = true) :
    validQ (pk (lesP n d m e) n m) (pk (lesP n d m e) d e) = true ∧ cmpQ (pk (lesP n d m e) n m) (pk (lesP n d m e) d e) n d ≤ 0 ∧ cmpQ (pk (lesP n d m e) n m) (pk (lesP n d m e) d e) m e ≤ 0 ∧
    (∀ k f, cmpQ k f n d ≤ 0 → cmpQ k f m e ≤ 0 → cmpQ k f (pk (lesP n d m e) n m) (pk (lesP n d m e) d e) ≤ 0) := by
  have ha := cmpQ_anti n d m e
  by_cases h : cmpQ n d m e ≤ 0
  · rw [show lesP n d m e = true from decide_eq_true h]
    simp only [pk_yes]
    exact ⟨hv, by rw [cmpQ_refl]; omega, by omega, fun k f h1 h2 => h1⟩
  · rw [show lesP n d m e = false from decide_eq_false h]
    simp only [pk_no]
    exact ⟨hu, by omega, by rw [cmpQ_refl]; omega, fun k f h1 h2 => h2⟩
end Go.Proofs.Ytnohkjalglogaaa.wid
