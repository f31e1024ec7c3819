/- Reduced fractions are unique; sums and products are undone. -/
import Derived.Test.YtnohkjalglogaaaMg7
import Derived.Test.YtnohkjalglogaaaMul
namespace Go.Proofs.Ytnohkjalglogaaa.wid
open Go.RowKit
set_option linter.unusedVariables false
theorem gcd_parts (n d : Nat) (h0 : 0 < d) : n = rp n d * Nat.gcd n d ∧ d = rq n d * Nat.gcd n d ∧ 0 < Nat.gcd n d ∧ Nat.Coprime (rp n d) (rq n d) ∧ 0 < rq n d :=
  ⟨(Nat.div_mul_cancel (Nat.gcd_dvd_left n d)).symm, (Nat.div_mul_cancel (Nat.gcd_dvd_right n d)).symm, Nat.gcd_pos_of_pos_right _ h0, Nat.gcd_div_gcd_div_gcd_of_pos_right h0,
    Nat.div_pos (Nat.le_of_dvd h0 (Nat.gcd_dvd_right n d)) (Nat.gcd_pos_of_pos_right _ h0)⟩
theorem red_uniq {N D a b : Int} (hv : validQ a b = true) (ha : I64 a) (hb : I64 b) (hD : D ≠ 0) (h : N * b = a * (D.natAbs : Int)) : rOk N D = true ∧ rN N D = a ∧ rD N D = b := by
  obtain ⟨hb1, hc⟩ := validQ_iff.1 hv
  have h0 : 0 < D.natAbs := by omega
  obtain ⟨e1, e2, e3, e4, e5⟩ := gcd_parts N.natAbs D.natAbs h0
  have hn : N.natAbs * b.natAbs = a.natAbs * D.natAbs := by
    have := congrArg Int.natAbs h
    rwa [Int.natAbs_mul, Int.natAbs_mul, Int.natAbs_natCast] at this
  have hm : rp N.natAbs D.natAbs * b.natAbs = a.natAbs * rq N.natAbs D.natAbs := by
    have h1 : (rp N.natAbs D.natAbs * b.natAbs) * Nat.gcd N.natAbs D.natAbs = (a.natAbs * rq N.natAbs D.natAbs) * Nat.gcd N.natAbs D.natAbs := by
      rw [Nat.mul_right_comm, ← e1, Nat.mul_assoc, ← e2, hn]
    exact Nat.eq_of_mul_eq_mul_right e3 h1
  have d1 : rq N.natAbs D.natAbs ∣ b.natAbs := Nat.Coprime.dvd_of_dvd_mul_left (Nat.Coprime.symm e4) (by rw [hm]; exact Nat.dvd_mul_left _ _)
  have d2 : b.natAbs ∣ rq N.natAbs D.natAbs := Nat.Coprime.dvd_of_dvd_mul_left (Nat.Coprime.symm (show Nat.Coprime a.natAbs b.natAbs from hc)) (by rw [← hm]; exact Nat.dvd_mul_left _ _)
  have hq : rq N.natAbs D.natAbs = b.natAbs := Nat.dvd_antisymm d1 d2
  have hp : rp N.natAbs D.natAbs = a.natAbs := by
    rw [hq] at hm
    exact Nat.eq_of_mul_eq_mul_right (by omega) hm
  have hs : N < 0 ↔ a < 0 := by
    have p := @sign_mul_pos N b hb1
    have q := @sign_mul_pos a D.natAbs (by omega)
    rw [h] at p
    exact p.1.symm.trans q.1
  unfold I64 at ha hb
  have hok : redOk (decide (N < 0)) N.natAbs D.natAbs = true := by
    unfold redOk fitsP
    rw [hp, hq]
    simp only [Bool.and_eq_true, Bool.or_eq_true, decide_eq_true_eq]
    omega
  obtain ⟨r1, r2⟩ := red_yes hok
  refine ⟨hok, ?_, ?_⟩
  · unfold rN
    rw [r1, hp]
    simp only [decide_eq_true_eq]
    split <;> omega
  · unfold rD
    rw [r2, hq]
    omega
theorem red_cross {N D : Int} (hD : 1 ≤ D) (h : rOk N D = true) : rN N D * D = N * rD N D ∧ validQ (rN N D) (rD N D) = true ∧ I64 (rN N D) ∧ I64 (rD N D) := by
  refine ⟨?_, red_valid h (by omega)⟩
  obtain ⟨e1, e2, e3, e4, e5⟩ := gcd_parts N.natAbs D.natAbs (by omega)
  obtain ⟨r1, r2⟩ := red_yes h
  unfold rN rD
  rw [r1, r2]
  have hD2 : D = (rq N.natAbs D.natAbs : Int) * (Nat.gcd N.natAbs D.natAbs : Int) := by rw [← Int.natCast_mul, ← e2]; omega
  have hN2 : (N.natAbs : Int) = (rp N.natAbs D.natAbs : Int) * (Nat.gcd N.natAbs D.natAbs : Int) := by rw [← Int.natCast_mul, ← e1]
  generalize (rp N.natAbs D.natAbs : Int) = p at *
  generalize (rq N.natAbs D.natAbs : Int) = q at *
  generalize (Nat.gcd N.natAbs D.natAbs : Int) = g at *
  by_cases hs : N < 0
  · rw [if_pos (by simpa using hs)]
    have : N = -(p * g) := by omega
    rw [this, hD2, Int.neg_mul, Int.neg_mul, Int.mul_comm q g, Int.mul_assoc]
  · rw [if_neg (by simpa using hs)]
    have : N = p * g := by omega
    rw [this, hD2, Int.mul_comm q g, Int.mul_assoc]
theorem sum_undone {a b c e : Int} (ha : I64 a) (hb : I64 b) (hv : validQ a b = true) (hu : validQ c e = true) (h : sumOk a b c e false = true) :
    I64 (sumN a b c e false) ∧ I64 (sumD a b c e false) ∧ sumOk (sumN a b c e false) (sumD a b c e false) c e true = true ∧ sumN (sumN a b c e false) (sumD a b c e false) c e true = a ∧ sumD (sumN a b c e false) (sumD a b c e false) c e true = b := by
  obtain ⟨s1, s2, s3⟩ := @sum_yes a b c e false hv hu
  have hb1 := (validQ_iff.1 hv).1
  have he1 := (validQ_iff.1 hu).1
  have hbe : 1 ≤ b * e := Int.mul_pos (show 0 < b by omega) (show 0 < e by omega)
  rw [s3] at h
  obtain ⟨x1, x2, x3, x4⟩ := red_cross hbe h
  rw [s1, s2]
  generalize rN (a * e + sg false c * b) (b * e) = y at *
  generalize rD (a * e + sg false c * b) (b * e) = z at *
  obtain ⟨t1, t2, t3⟩ := @sum_yes y z c e true x2 hu
  have hz1 := (validQ_iff.1 x2).1
  have hze : 1 ≤ z * e := Int.mul_pos (show 0 < z by omega) (show 0 < e by omega)
  obtain ⟨u1, u2, u3⟩ := @red_uniq (y * e + sg true c * z) (z * e) a b hv ha hb (by omega) (by
    rw [show ((z * e).natAbs : Int) = z * e by omega]
    have f1 : sg true c = -c := rfl
    have f2 : sg false c = c := rfl
    rw [f1]
    rw [f2] at x1
    have g1 : (y * e + -c * z) * b = y * (b * e) - c * b * z := by
      rw [Int.add_mul, Int.neg_mul, Int.neg_mul, Int.mul_assoc y e b, Int.mul_comm e b, Int.mul_right_comm c z b]; omega
    rw [g1, x1, Int.add_mul, Int.mul_comm z e, ← Int.mul_assoc a e z]
    omega)
  exact ⟨x3, x4, t3.trans u1, t1.trans u2, t2.trans u3⟩
theorem mul_undone {a b c e : Int} (ha : I64 a) (hb : I64 b) (hv : validQ a b = true) (hu : validQ c e = true) (hc0 : c ≠ 0) (h : mulQOk a b c e = true) :
    I64 (mulQN a b c e) ∧ I64 (mulQD a b c e) ∧ divQOk (mulQN a b c e) (mulQD a b c e) c e = true ∧ divQN (mulQN a b c e) (mulQD a b c e) c e = a ∧ divQD (mulQN a b c e) (mulQD a b c e) c e = b := by
  obtain ⟨s1, s2, s3⟩ := @mul_yes a b c e hv hu
  have hb1 := (validQ_iff.1 hv).1
  have he1 := (validQ_iff.1 hu).1
  have hbe : 1 ≤ b * e := Int.mul_pos (show 0 < b by omega) (show 0 < e by omega)
  rw [s3] at h
  obtain ⟨x1, x2, x3, x4⟩ := red_cross hbe h
  rw [s1, s2]
  generalize rN (a * c) (b * e) = y at *
  generalize rD (a * c) (b * e) = z at *
  obtain ⟨t1, t2, t3⟩ := @div_yes y z c e x2 hu hc0
  have hz1 := (validQ_iff.1 x2).1
  have hzc : (z * c).natAbs = z * (c.natAbs : Int) := by rw [Int.natAbs_mul, Int.natCast_mul]; rw [show (z.natAbs : Int) = z by omega]
  have hzc0 : z * c ≠ 0 := Int.mul_ne_zero (by omega) hc0
  obtain ⟨u1, u2, u3⟩ := @red_uniq (dv y c e) (z * c) a b hv ha hb hzc0 (by
    rw [hzc]
    unfold dv
    have g0 : y * e * b = a * c * z := by rw [Int.mul_assoc, Int.mul_comm e b]; exact x1
    by_cases hc : c < 0
    · rw [if_pos hc, show (c.natAbs : Int) = -c by omega, Int.neg_mul, Int.neg_mul, g0, Int.mul_neg, Int.mul_neg, Int.mul_comm z c, ← Int.mul_assoc a c z]
    · rw [if_neg hc, show (c.natAbs : Int) = c by omega, g0, Int.mul_comm z c, ← Int.mul_assoc a c z])
  exact ⟨x3, x4, t3.trans u1, t1.trans u2, t2.trans u3⟩
end Go.Proofs.Ytnohkjalglogaaa.wid
