/- Mul; Undo; RatL; Ord: texts in one. -/
import Derived.Test.YtofgjcfiinmimaaSum
import Derived.Deep.DeepCutAuto
import Derived.Test.YtofgjcfiinmimaaMgFloor
import Derived.Test.YtofgjcfiinmimaaMgRat2
import Derived.Test.YtofgjcfiinmimaaMgHold
/- Contracts of Mul and Div of rational numbers. -/
namespace Go.Proofs.Ytofgjcfiinmimaa.wid
open Go.RowKit Go.Proofs.Ytofgjcfiinmimaa.mem Go.Proofs.Ytofgjcfiinmimaa.gro
set_option linter.unusedVariables false
def mulQN (n d m e : Int) : Int := if validQ n d = true ∧ validQ m e = true then rN (n * m) (d * e) else 0
def mulQD (n d m e : Int) : Int := if validQ n d = true ∧ validQ m e = true then rD (n * m) (d * e) else 0
def mulQOk (n d m e : Int) : Bool := validQ n d && validQ m e && rOk (n * m) (d * e)
def dv (n m e : Int) : Int := (if m < 0 then -n else n) * e
def divQN (n d m e : Int) : Int := if validQ n d = true ∧ validQ m e = true ∧ m ≠ 0 then rN (dv n m e) (d * m) else 0
def divQD (n d m e : Int) : Int := if validQ n d = true ∧ validQ m e = true ∧ m ≠ 0 then rD (dv n m e) (d * m) else 0
def divQOk (n d m e : Int) : Bool := validQ n d && validQ m e && decide (m ≠ 0) && rOk (dv n m e) (d * m)
theorem mul_yes {n d m e : Int} (hv : validQ n d = true) (hu : validQ m e = true) : mulQN n d m e = rN (n * m) (d * e) ∧ mulQD n d m e = rD (n * m) (d * e) ∧ mulQOk n d m e = rOk (n * m) (d * e) := by
  unfold mulQN mulQD mulQOk
  rw [if_pos ⟨hv, hu⟩, if_pos ⟨hv, hu⟩, hv, hu]
  exact ⟨rfl, rfl, rfl⟩
theorem mul_no {n d m e : Int} (h : ¬ (validQ n d = true ∧ validQ m e = true)) : mulQN n d m e = 0 ∧ mulQD n d m e = 0 ∧ mulQOk n d m e = false := by
  unfold mulQN mulQD mulQOk
  rw [if_neg h, if_neg h]
  refine ⟨rfl, rfl, ?_⟩
  cases h1 : validQ n d <;> cases h2 : validQ m e <;> simp_all
theorem div_yes {n d m e : Int} (hv : validQ n d = true) (hu : validQ m e = true) (hm : m ≠ 0) : divQN n d m e = rN (dv n m e) (d * m) ∧ divQD n d m e = rD (dv n m e) (d * m) ∧ divQOk n d m e = rOk (dv n m e) (d * m) := by
  unfold divQN divQD divQOk
  rw [if_pos ⟨hv, hu, hm⟩, if_pos ⟨hv, hu, hm⟩, hv, hu, decide_eq_true hm]
  exact ⟨rfl, rfl, rfl⟩
theorem div_no {n d m e : Int} (h : ¬ (validQ n d = true ∧ validQ m e = true ∧ m ≠ 0)) : divQN n d m e = 0 ∧ divQD n d m e = 0 ∧ divQOk n d m e = false := by
  unfold divQN divQD divQOk
  rw [if_neg h, if_neg h]
  refine ⟨rfl, rfl, ?_⟩
  cases h1 : validQ n d <;> cases h2 : validQ m e <;> simp_all
theorem mul_flag {n m : Int} (h : n * m ≠ 0) : (!(decide (n < 0) == decide (m < 0))) = decide (n * m < 0) := by
  rcases Int.lt_trichotomy n 0 with a | a | a <;> rcases Int.lt_trichotomy m 0 with b | b | b
  · have := Int.mul_pos_of_neg_of_neg a b
    simp [a, b]; omega
  · subst b; simp at h
  · have := Int.mul_neg_of_neg_of_pos a b
    simp [a, this]; omega
  · subst a; simp at h
  · subst a; simp at h
  · subst a; simp at h
  · have := Int.mul_neg_of_pos_of_neg a b
    simp [b, this]; omega
  · subst b; simp at h
  · have := Int.mul_pos a b
    rw [decide_eq_false (by omega), decide_eq_false (by omega), decide_eq_false (by omega)]; rfl
theorem div_flag {n m e : Int} (he : 1 ≤ e) (hm : m ≠ 0) (h : dv n m e ≠ 0) : (!(decide (n < 0) == decide (m < 0))) = decide (dv n m e < 0) := by
  unfold dv at *
  have hz : (if m < 0 then -n else n) ≠ 0 := by intro h0; rw [h0] at h; simp at h
  obtain ⟨p1, p2⟩ := @sign_mul_pos (if m < 0 then -n else n) e he
  simp only [p1]
  clear p1 p2 h
  by_cases hc : m < 0
  · simp only [if_pos hc] at hz ⊢
    by_cases ha : n < 0
    · rw [decide_eq_true ha, decide_eq_true hc, decide_eq_false (by omega)]; rfl
    · rw [decide_eq_false ha, decide_eq_true hc, decide_eq_true (by omega)]; rfl
  · simp only [if_neg hc] at hz ⊢
    rw [decide_eq_false hc]
    by_cases ha : n < 0
    · rw [decide_eq_true ha]; rfl
    · rw [decide_eq_false ha]; rfl
theorem dv_abs (n m e : Int) : (dv n m e).natAbs = n.natAbs * e.natAbs := by
  unfold dv; rw [Int.natAbs_mul]; split <;> simp
theorem mul_zero_iff {n m : Int} : n * m = 0 ↔ n.natAbs * m.natAbs = 0 := by rw [← Int.natAbs_mul]; omega
theorem prod_any {F : FuncId} (hP : ∀ (x y : Int), 0 ≤ x → x ≤ 18446744073709551615 → 0 ≤ y → y ≤ 18446744073709551615 → ∀ W : World, Calls Try.prog F #[.int .u64 x, .int .u64 y] W fun e w' => e = .returned (Value.agg #[Value.int IntKind.u64 (hi (x.toNat * y.toNat)), Value.int IntKind.u64 (lo (x.toNat * y.toNat))]) ∧ Below W.heap.size W w')
    (n m : Int) (hn : I64 n) (hm : I64 m) (W : World) : Calls Try.prog F #[.int .u64 n.natAbs, .int .u64 m.natAbs] W fun x w' => x = .returned (Value.agg #[Value.int IntKind.u64 (hi (n.natAbs * m.natAbs)), Value.int IntKind.u64 (lo (n.natAbs * m.natAbs))]) ∧ Below W.heap.size W w' := by
  have := hP n.natAbs m.natAbs (by omega) (by unfold I64 at hn; omega) (by omega) (by unfold I64 at hm; omega) W
  rwa [Int.toNat_natCast, Int.toNat_natCast] at this
theorem prod_by {F : FuncId} (hP : ∀ (x y : Int), 0 ≤ x → x ≤ 18446744073709551615 → 0 ≤ y → y ≤ 18446744073709551615 → ∀ W : World, Calls Try.prog F #[.int .u64 x, .int .u64 y] W fun e w' => e = .returned (Value.agg #[Value.int IntKind.u64 (hi (x.toNat * y.toNat)), Value.int IntKind.u64 (lo (x.toNat * y.toNat))]) ∧ Below W.heap.size W w')
    (d m : Int) (hd : I64 d) (hm : I64 m) (hd1 : 1 ≤ d) (W : World) : Calls Try.prog F #[.int .u64 d, .int .u64 m.natAbs] W fun x w' => x = .returned (Value.agg #[Value.int IntKind.u64 (hi ((d * m).natAbs)), Value.int IntKind.u64 (lo ((d * m).natAbs))]) ∧ Below W.heap.size W w' := by
  have := hP d m.natAbs (by omega) (by unfold I64 at hd; omega) (by omega) (by unfold I64 at hm; omega) W
  rwa [Int.toNat_natCast, show d.toNat = d.natAbs by omega, ← Int.natAbs_mul] at this
end Go.Proofs.Ytofgjcfiinmimaa.wid

/- Reduced fractions are unique; sums and products are undone. -/
namespace Go.Proofs.Ytofgjcfiinmimaa.wid
open Go.RowKit
set_option linter.unusedVariables false
theorem gcd_parts (n d : Nat) (h0 : 0 < d) : n = rp n d * Nat.gcd n d ∧ d = rq n d * Nat.gcd n d ∧ 0 < Nat.gcd n d ∧ Nat.Coprime (rp n d) (rq n d) ∧ 0 < rq n d :=
  ⟨(Nat.div_mul_cancel (Nat.gcd_dvd_left n d)).symm, (Nat.div_mul_cancel (Nat.gcd_dvd_right n d)).symm, Nat.gcd_pos_of_pos_right _ h0, Nat.gcd_div_gcd_div_gcd_of_pos_right h0,
    Nat.div_pos (Nat.le_of_dvd h0 (Nat.gcd_dvd_right n d)) (Nat.gcd_pos_of_pos_right _ h0)⟩
theorem red_uniq {N D a b : Int} (hv : validQ a b = true) (ha : I64 a) (hb : I64 b) (hD : D ≠ 0) (h : N * b = a * (D.natAbs : Int)) : rOk N D = true ∧ rN N D = a ∧ rD N D = b := by
  obtain ⟨hb1, hc⟩ := validQ_iff.1 hv
  have h0 : 0 < D.natAbs := by omega
  obtain ⟨e1, e2, e3, e4, e5⟩ := gcd_parts N.natAbs D.natAbs h0
  have hn : N.natAbs * b.natAbs = a.natAbs * D.natAbs := by
    have := congrArg Int.natAbs h
    rwa [Int.natAbs_mul, Int.natAbs_mul, Int.natAbs_natCast] at this
  have hm : rp N.natAbs D.natAbs * b.natAbs = a.natAbs * rq N.natAbs D.natAbs := by
    have h1 : (rp N.natAbs D.natAbs * b.natAbs) * Nat.gcd N.natAbs D.natAbs = (a.natAbs * rq N.natAbs D.natAbs) * Nat.gcd N.natAbs D.natAbs := by
      rw [Nat.mul_right_comm, ← e1, Nat.mul_assoc, ← e2, hn]
    exact Nat.eq_of_mul_eq_mul_right e3 h1
  have d1 : rq N.natAbs D.natAbs ∣ b.natAbs := Nat.Coprime.dvd_of_dvd_mul_left (Nat.Coprime.symm e4) (by rw [hm]; exact Nat.dvd_mul_left _ _)
  have d2 : b.natAbs ∣ rq N.natAbs D.natAbs := Nat.Coprime.dvd_of_dvd_mul_left (Nat.Coprime.symm (show Nat.Coprime a.natAbs b.natAbs from hc)) (by rw [← hm]; exact Nat.dvd_mul_left _ _)
  have hq : rq N.natAbs D.natAbs = b.natAbs := Nat.dvd_antisymm d1 d2
  have hp : rp N.natAbs D.natAbs = a.natAbs := by
    rw [hq] at hm
    exact Nat.eq_of_mul_eq_mul_right (by omega) hm
  have hs : N < 0 ↔ a < 0 := by
    have p := @sign_mul_pos N b hb1
    have q := @sign_mul_pos a D.natAbs (by omega)
    rw [h] at p
    exact p.1.symm.trans q.1
  unfold I64 at ha hb
  have hok : redOk (decide (N < 0)) N.natAbs D.natAbs = true := by
    unfold redOk fitsP
    rw [hp, hq]
    simp only [Bool.and_eq_true, Bool.or_eq_true, decide_eq_true_eq]
    omega
  obtain ⟨r1, r2⟩ := red_yes hok
  refine ⟨hok, ?_, ?_⟩
  · unfold rN
    rw [r1, hp]
    simp only [decide_eq_true_eq]
    split <;> omega
  · unfold rD
    rw [r2, hq]
    omega
theorem red_cross {N D : Int} (hD : 1 ≤ D) (h : rOk N D = true) : rN N D * D = N * rD N D ∧ validQ (rN N D) (rD N D) = true ∧ I64 (rN N D) ∧ I64 (rD N D) := by
  refine ⟨?_, red_valid h (by omega)⟩
  obtain ⟨e1, e2, e3, e4, e5⟩ := gcd_parts N.natAbs D.natAbs (by omega)
  obtain ⟨r1, r2⟩ := red_yes h
  unfold rN rD
  rw [r1, r2]
  have hD2 : D = (rq N.natAbs D.natAbs : Int) * (Nat.gcd N.natAbs D.natAbs : Int) := by rw [← Int.natCast_mul, ← e2]; omega
  have hN2 : (N.natAbs : Int) = (rp N.natAbs D.natAbs : Int) * (Nat.gcd N.natAbs D.natAbs : Int) := by rw [← Int.natCast_mul, ← e1]
  generalize (rp N.natAbs D.natAbs : Int) = p at *
  generalize (rq N.natAbs D.natAbs : Int) = q at *
  generalize (Nat.gcd N.natAbs D.natAbs : Int) = g at *
  by_cases hs : N < 0
  · rw [if_pos (by simpa using hs)]
    have : N = -(p * g) := by omega
    rw [this, hD2, Int.neg_mul, Int.neg_mul, Int.mul_comm q g, Int.mul_assoc]
  · rw [if_neg (by simpa using hs)]
    have : N = p * g := by omega
    rw [this, hD2, Int.mul_comm q g, Int.mul_assoc]
theorem sum_undone {a b c e : Int} (ha : I64 a) (hb : I64 b) (hv : validQ a b = true) (hu : validQ c e = true) (h : sumOk a b c e false = true) :
    I64 (sumN a b c e false) ∧ I64 (sumD a b c e false) ∧ sumOk (sumN a b c e false) (sumD a b c e false) c e true = true ∧ sumN (sumN a b c e false) (sumD a b c e false) c e true = a ∧ sumD (sumN a b c e false) (sumD a b c e false) c e true = b := by
  obtain ⟨s1, s2, s3⟩ := @sum_yes a b c e false hv hu
  have hb1 := (validQ_iff.1 hv).1
  have he1 := (validQ_iff.1 hu).1
  have hbe : 1 ≤ b * e := Int.mul_pos (show 0 < b by omega) (show 0 < e by omega)
  rw [s3] at h
  obtain ⟨x1, x2, x3, x4⟩ := red_cross hbe h
  rw [s1, s2]
  generalize rN (a * e + sg false c * b) (b * e) = y at *
  generalize rD (a * e + sg false c * b) (b * e) = z at *
  obtain ⟨t1, t2, t3⟩ := @sum_yes y z c e true x2 hu
  have hz1 := (validQ_iff.1 x2).1
  have hze : 1 ≤ z * e := Int.mul_pos (show 0 < z by omega) (show 0 < e by omega)
  obtain ⟨u1, u2, u3⟩ := @red_uniq (y * e + sg true c * z) (z * e) a b hv ha hb (by omega) (by
    rw [show ((z * e).natAbs : Int) = z * e by omega]
    have f1 : sg true c = -c := rfl
    have f2 : sg false c = c := rfl
    rw [f1]
    rw [f2] at x1
    have g1 : (y * e + -c * z) * b = y * (b * e) - c * b * z := by
      rw [Int.add_mul, Int.neg_mul, Int.neg_mul, Int.mul_assoc y e b, Int.mul_comm e b, Int.mul_right_comm c z b]; omega
    rw [g1, x1, Int.add_mul, Int.mul_comm z e, ← Int.mul_assoc a e z]
    omega)
  exact ⟨x3, x4, t3.trans u1, t1.trans u2, t2.trans u3⟩
theorem mul_undone {a b c e : Int} (ha : I64 a) (hb : I64 b) (hv : validQ a b = true) (hu : validQ c e = true) (hc0 : c ≠ 0) (h : mulQOk a b c e = true) :
    I64 (mulQN a b c e) ∧ I64 (mulQD a b c e) ∧ divQOk (mulQN a b c e) (mulQD a b c e) c e = true ∧ divQN (mulQN a b c e) (mulQD a b c e) c e = a ∧ divQD (mulQN a b c e) (mulQD a b c e) c e = b := by
  obtain ⟨s1, s2, s3⟩ := @mul_yes a b c e hv hu
  have hb1 := (validQ_iff.1 hv).1
  have he1 := (validQ_iff.1 hu).1
  have hbe : 1 ≤ b * e := Int.mul_pos (show 0 < b by omega) (show 0 < e by omega)
  rw [s3] at h
  obtain ⟨x1, x2, x3, x4⟩ := red_cross hbe h
  rw [s1, s2]
  generalize rN (a * c) (b * e) = y at *
  generalize rD (a * c) (b * e) = z at *
  obtain ⟨t1, t2, t3⟩ := @div_yes y z c e x2 hu hc0
  have hz1 := (validQ_iff.1 x2).1
  have hzc : (z * c).natAbs = z * (c.natAbs : Int) := by rw [Int.natAbs_mul, Int.natCast_mul]; rw [show (z.natAbs : Int) = z by omega]
  have hzc0 : z * c ≠ 0 := Int.mul_ne_zero (by omega) hc0
  obtain ⟨u1, u2, u3⟩ := @red_uniq (dv y c e) (z * c) a b hv ha hb hzc0 (by
    rw [hzc]
    unfold dv
    have g0 : y * e * b = a * c * z := by rw [Int.mul_assoc, Int.mul_comm e b]; exact x1
    by_cases hc : c < 0
    · rw [if_pos hc, show (c.natAbs : Int) = -c by omega, Int.neg_mul, Int.neg_mul, g0, Int.mul_neg, Int.mul_neg, Int.mul_comm z c, ← Int.mul_assoc a c z]
    · rw [if_neg hc, show (c.natAbs : Int) = c by omega, g0, Int.mul_comm z c, ← Int.mul_assoc a c z])
  exact ⟨x3, x4, t3.trans u1, t1.trans u2, t2.trans u3⟩
end Go.Proofs.Ytofgjcfiinmimaa.wid

/- What the statements on rational numbers need of integers. -/
namespace Go.Proofs.Ytofgjcfiinmimaa.wid
open Go.RowKit
theorem cmpZ_anti (X Y : Int) : cmpZ Y X = -cmpZ X Y := by unfold cmpZ; repeat' (first | omega | split)
theorem cmpZ_bd (X Y : Int) : -1 ≤ cmpZ X Y ∧ cmpZ X Y ≤ 1 := by unfold cmpZ; repeat' (first | omega | split)
theorem cmpQ_anti (n d m e : Int) : cmpQ m e n d = -cmpQ n d m e := by
  unfold cmpQ
  by_cases h : validQ n d = true ∧ validQ m e = true
  · rw [if_pos h, if_pos ⟨h.2, h.1⟩, cmpZ_anti]
  · rw [if_neg h, if_neg (fun h' => h ⟨h'.2, h'.1⟩)]; rfl
theorem cmpQ_bd (n d m e : Int) : -1 ≤ cmpQ n d m e ∧ cmpQ n d m e ≤ 1 := by
  unfold cmpQ
  split
  · exact cmpZ_bd _ _
  · omega
theorem cmpZ_le {X Y : Int} : cmpZ X Y ≤ 0 ↔ X ≤ Y := by unfold cmpZ; split <;> (try split) <;> omega
theorem validQ_of (n : Int) : validQ n 1 = true := by simp [validQ]
theorem floor_facts {n d : Int} (hv : validQ n d = true) : cmpQ (floorQ n d) 1 n d ≤ 0 ∧ cmpQ n d (ceilQ n d) 1 ≤ 0 ∧ floorQ n d ≤ ceilQ n d ∧ ceilQ n d ≤ floorQ n d + 1 ∧ (ceilQ n d = floorQ n d ↔ d = 1) := by
  obtain ⟨hd, hg⟩ := validQ_iff.1 hv
  have h1 := Int.mul_ediv_add_emod n d
  have h2 := Int.emod_nonneg n (show d ≠ 0 by omega)
  have h3 := Int.emod_lt_of_pos n (show 0 < d by omega)
  have hc : -((-n) / d) = if n % d = 0 then n / d else n / d + 1 := by
    split
    · rename_i h0
      have : -n = d * (-(n / d)) := by rw [Int.mul_neg]; omega
      rw [this, Int.mul_ediv_cancel_left _ (by omega)]; omega
    · have : -n = (d - n % d) + d * (-(n / d) - 1) := by rw [Int.mul_sub, Int.mul_neg]; omega
      rw [this, Int.add_mul_ediv_left _ _ (by omega), Int.ediv_eq_zero_of_lt (by omega) (by omega)]; omega
  have hone : n % d = 0 ↔ d = 1 := by
    constructor
    · intro h0
      have hdv : d ∣ n := Int.dvd_of_emod_eq_zero h0
      have := Nat.gcd_eq_right (Int.natAbs_dvd_natAbs.2 hdv)
      omega
    · intro h; subst h; omega
  unfold cmpQ floorQ ceilQ
  rw [if_pos hv, if_pos hv, if_pos ⟨validQ_of _, hv⟩, if_pos ⟨hv, validQ_of _⟩, cmpZ_le, cmpZ_le, hc]
  have hm := Int.mul_comm (n / d) d
  refine ⟨by omega, ?_, ?_, ?_, ?_⟩
  · split
    · omega
    · rw [Int.add_mul]; omega
  · split <;> omega
  · split <;> omega
  · rw [← hone]; split <;> omega
end Go.Proofs.Ytofgjcfiinmimaa.wid

/- The order of rational numbers: transitivity, sums. No condition beyond valid numbers. -/
namespace Go.Proofs.Ytofgjcfiinmimaa.wid
open Go.RowKit
set_option linter.unusedVariables false
theorem cmpQ_le {n d m e : Int} (hv : validQ n d = true) (hu : validQ m e = true) : cmpQ n d m e ≤ 0 ↔ n * e ≤ m * d := by
  rw [show cmpQ n d m e = cmpZ (n * e) (m * d) from if_pos ⟨hv, hu⟩, cmpZ_le]
theorem q_trans {n d m e k f : Int} (hd : 1 ≤ d) (he : 1 ≤ e) (hf : 1 ≤ f) (h : n * e ≤ m * d) (h2 : m * f ≤ k * e) : n * f ≤ k * d := by
  have h3 := Int.mul_le_mul_of_nonneg_right h (show 0 ≤ f by omega)
  have h4 := Int.mul_le_mul_of_nonneg_right h2 (show 0 ≤ d by omega)
  have h5 : (n * f) * e ≤ (k * d) * e := by
    have e1 : n * e * f = n * f * e := Int.mul_right_comm ..
    have e2 : m * d * f = m * f * d := Int.mul_right_comm ..
    have e3 : k * e * d = k * d * e := Int.mul_right_comm ..
    omega
  exact Int.le_of_mul_le_mul_right h5 (by omega)
theorem valid_pos {n d : Int} (hv : validQ n d = true) : 1 ≤ d := (validQ_iff.1 hv).1
theorem cmpQ_trans {n d m e k f : Int} (hv : validQ n d = true) (hu : validQ m e = true) (ht : validQ k f = true) (h : cmpQ n d m e ≤ 0) (h2 : cmpQ m e k f ≤ 0) : cmpQ n d k f ≤ 0 :=
  (cmpQ_le hv ht).2 (q_trans (valid_pos hv) (valid_pos hu) (valid_pos ht) ((cmpQ_le hv hu).1 h) ((cmpQ_le hu ht).1 h2))
theorem cmpQ_refl (n d : Int) : cmpQ n d n d = 0 := by
  have := cmpQ_anti n d n d
  omega
theorem q_add {n d n' d' m e m' e' : Int} (hd : 1 ≤ d) (hd' : 1 ≤ d') (he : 1 ≤ e) (he' : 1 ≤ e') (h : n * d' ≤ n' * d) (h2 : m * e' ≤ m' * e) :
    (n * e + m * d) * (d' * e') ≤ (n' * e' + m' * d') * (d * e) := by
  have p1 : 0 ≤ e * e' := Int.mul_nonneg (by omega) (by omega)
  have p2 : 0 ≤ d * d' := Int.mul_nonneg (by omega) (by omega)
  have h3 := Int.mul_le_mul_of_nonneg_right h p1
  have h4 := Int.mul_le_mul_of_nonneg_right h2 p2
  have e1 : (n * e + m * d) * (d' * e') = n * d' * (e * e') + m * e' * (d * d') := by
    rw [Int.add_mul]
    rw [show n * e * (d' * e') = n * d' * (e * e') by ac_rfl, show m * d * (d' * e') = m * e' * (d * d') by ac_rfl]
  have e2 : (n' * e' + m' * d') * (d * e) = n' * d * (e * e') + m' * e * (d * d') := by
    rw [Int.add_mul]
    rw [show n' * e' * (d * e) = n' * d * (e * e') by ac_rfl, show m' * d' * (d * e) = m' * e * (d * d') by ac_rfl]
  omega
theorem sum_facts {n d m e : Int} (hv : validQ n d = true) (hu : validQ m e = true) (h : sumOk n d m e false = true) :
    validQ (sumN n d m e false) (sumD n d m e false) = true ∧ sumN n d m e false * (d * e) = (n * e + m * d) * sumD n d m e false ∧ 1 ≤ d * e ∧ I64 (sumN n d m e false) ∧ I64 (sumD n d m e false) := by
  obtain ⟨e1, e2, e3⟩ := sum_yes (minus := false) hv hu
  rw [e3] at h
  rw [e1, e2]
  have p : 1 ≤ d * e := by
    have := Int.mul_pos (show 0 < d by have := valid_pos hv; omega) (show 0 < e by have := valid_pos hu; omega)
    omega
  obtain ⟨q1, q2, q3, q4⟩ := red_cross p h
  exact ⟨q2, q1, p, q3, q4⟩
theorem sum_le {n d n' d' m e m' e' : Int} (hv : validQ n d = true) (hv' : validQ n' d' = true) (hu : validQ m e = true) (hu' : validQ m' e' = true)
    (h : cmpQ n d n' d' ≤ 0) (h2 : cmpQ m e m' e' ≤ 0) (k : sumOk n d m e false = true) (k' : sumOk n' d' m' e' false = true) :
    cmpQ (sumN n d m e false) (sumD n d m e false) (sumN n' d' m' e' false) (sumD n' d' m' e' false) ≤ 0 := by
  obtain ⟨f1, f2, f3, _, _⟩ := sum_facts hv hu k
  obtain ⟨g1, g2, g3, _, _⟩ := sum_facts hv' hu' k'
  have hq := q_add (valid_pos hv) (valid_pos hv') (valid_pos hu) (valid_pos hu') ((cmpQ_le hv hv').1 h) ((cmpQ_le hu hu').1 h2)
  refine (cmpQ_le f1 g1).2 ?_
  refine q_trans (valid_pos f1) g3 (valid_pos g1) (q_trans (valid_pos f1) f3 g3 (by omega) hq) ?_
  omega
theorem holdB_iff {a0 a1 b0 b1 c0 c1 n d : Int} : holdB a0 a1 b0 b1 c0 c1 n d = true ↔ validQ a0 a1 = true ∧ validQ b0 b1 = true ∧ validQ c0 c1 = true ∧ cmpQ a0 a1 b0 b1 ≤ 0 ∧ cmpQ b0 b1 c0 c1 ≤ 0 ∧ validQ n d = true ∧ cmpQ a0 a1 n d ≤ 0 ∧ cmpQ n d c0 c1 ≤ 0 := by
  unfold holdB validB
  simp only [Bool.and_eq_true, decide_eq_true_eq]
  constructor
  · rintro ⟨⟨⟨⟨⟨⟨⟨a, b⟩, c⟩, d⟩, e⟩, f⟩, g⟩, h⟩; exact ⟨a, b, c, d, e, f, g, h⟩
  · rintro ⟨a, b, c, d, e, f, g, h⟩; exact ⟨⟨⟨⟨⟨⟨⟨a, b⟩, c⟩, d⟩, e⟩, f⟩, g⟩, h⟩
/-- Of two numbers the lesser one, and the greater one. -/
def lesP (n d m e : Int) : Bool := decide (cmpQ n d m e ≤ 0)
def mosP (n d m e : Int) : Bool := decide (0 ≤ cmpQ n d m e)
def pk (b : Bool) (x y : Int) : Int := if b = true then x else y
/-- What meets: low, high, first estimate, estimate. -/
theorem pk_yes {x y : Int} : pk true x y = x := rfl
theorem pk_no {x y : Int} : pk false x y = y := rfl
theorem I64.pk {b : Bool} {x y : Int} (hx : I64 x) (hy : I64 y) : I64 (pk b x y) := by cases b <;> assumption
theorem mos_facts {n d m e : Int} (hv : validQ n d = true) (hu : validQ m e = true) :
    validQ (pk (mosP n d m e) n m) (pk (mosP n d m e) d e) = true ∧ cmpQ n d (pk (mosP n d m e) n m) (pk (mosP n d m e) d e) ≤ 0 ∧ cmpQ m e (pk (mosP n d m e) n m) (pk (mosP n d m e) d e) ≤ 0 ∧
    (∀ k f, cmpQ n d k f ≤ 0 → cmpQ m e k f ≤ 0 → cmpQ (pk (mosP n d m e) n m) (pk (mosP n d m e) d e) k f ≤ 0) := by
  have ha := cmpQ_anti n d m e
  by_cases h : 0 ≤ cmpQ n d m e
  · rw [show mosP n d m e = true from decide_eq_true h]
    simp only [pk_yes]
    exact ⟨hv, by rw [cmpQ_refl]; omega, by omega, fun k f h1 h2 => h1⟩
  · rw [show mosP n d m e = false from decide_eq_false h]
    simp only [pk_no]
    exact ⟨hu, by omega, by rw [cmpQ_refl]; omega, fun k f h1 h2 => h2⟩
theorem les_facts {n d m e : Int} (hv : validQ n d = true) (hu : validQ m e = true) :
    validQ (pk (lesP n d m e) n m) (pk (lesP n d m e) d e) = true ∧ cmpQ (pk (lesP n d m e) n m) (pk (lesP n d m e) d e) n d ≤ 0 ∧ cmpQ (pk (lesP n d m e) n m) (pk (lesP n d m e) d e) m e ≤ 0 ∧
    (∀ k f, cmpQ k f n d ≤ 0 → cmpQ k f m e ≤ 0 → cmpQ k f (pk (lesP n d m e) n m) (pk (lesP n d m e) d e) ≤ 0) := by
  have ha := cmpQ_anti n d m e
  by_cases h : cmpQ n d m e ≤ 0
  · rw [show lesP n d m e = true from decide_eq_true h]
    simp only [pk_yes]
    exact ⟨hv, by rw [cmpQ_refl]; omega, by omega, fun k f h1 h2 => h1⟩
  · rw [show lesP n d m e = false from decide_eq_false h]
    simp only [pk_no]
    exact ⟨hu, by omega, by rw [cmpQ_refl]; omega, fun k f h1 h2 => h2⟩
end Go.Proofs.Ytofgjcfiinmimaa.wid
