/- Contracts of Mul and Div of rational numbers. -/
import Derived.Test.YtnohkjalglogaaaMg13
import Derived.Deep.DeepCutAuto
namespace Go.Proofs.Ytnohkjalglogaaa.wid
open Go.RowKit Go.Proofs.Ytnohkjalglogaaa.mem Go.Proofs.Ytnohkjalglogaaa.gro
set_option linter.unusedVariables false
def mulQN (n d m e : Int) : Int := if validQ n d = true ∧ validQ m e = true then rN (n * m) (d * e) else 0
def mulQD (n d m e : Int) : Int := if validQ n d = true ∧ validQ m e = true then rD (n * m) (d * e) else 0
def mulQOk (n d m e : Int) : Bool := validQ n d && validQ m e && rOk (n * m) (d * e)
def dv (n m e : Int) : Int := (if m < 0 then -n else n) * e
def divQN (n d m e : Int) : Int := if validQ n d = true ∧ validQ m e = true ∧ m ≠ 0 then rN (dv n m e) (d * m) else 0
def divQD (n d m e : Int) : Int := if validQ n d = true ∧ validQ m e = true ∧ m ≠ 0 then rD (dv n m e) (d * m) else 0
def divQOk (n d m e : Int) : Bool := validQ n d && validQ m e && decide (m ≠ 0) && rOk (dv n m e) (d * m)
theorem mul_yes {n d m e : Int} (hv : validQ n d = true) (hu : validQ m e = true) : mulQN n d m e = rN (n * m) (d * e) ∧ mulQD n d m e = rD (n * m) (d * e) ∧ mulQOk n d m e = rOk (n * m) (d * e) := by
  unfold mulQN mulQD mulQOk
  rw [if_pos ⟨hv, hu⟩, if_pos ⟨hv, hu⟩, hv, hu]
  exact ⟨rfl, rfl, rfl⟩
theorem mul_no {n d m e : Int} (h : ¬ (validQ n d = true ∧ validQ m e = true)) : mulQN n d m e = 0 ∧ mulQD n d m e = 0 ∧ mulQOk n d m e = false := by
  unfold mulQN mulQD mulQOk
  rw [if_neg h, if_neg h]
  refine ⟨rfl, rfl, ?_⟩
  cases h1 : validQ n d <;> cases h2 : validQ m e <;> simp_all
theorem div_yes {n d m e : Int} (hv : validQ n d = true) (hu : validQ m e = true) (hm : m ≠ 0) : divQN n d m e = rN (dv n m e) (d * m) ∧ divQD n d m e = rD (dv n m e) (d * m) ∧ divQOk n d m e = rOk (dv n m e) (d * m) := by
  unfold divQN divQD divQOk
  rw [if_pos ⟨hv, hu, hm⟩, if_pos ⟨hv, hu, hm⟩, hv, hu, decide_eq_true hm]
  exact ⟨rfl, rfl, rfl⟩
theorem div_no {n d m e : Int} (h : ¬ (validQ n d = true ∧ validQ m e = true ∧ m ≠ 0)) : divQN n d m e = 0 ∧ divQD n d m e = 0 ∧ divQOk n d m e = false := by
  unfold divQN divQD divQOk
  rw [if_neg h, if_neg h]
  refine ⟨rfl, rfl, ?_⟩
  cases h1 : validQ n d <;> cases h2 : validQ m e <;> simp_all
theorem mul_flag {n m : Int} (h : n * m ≠ 0) : (!(decide (n < 0) == decide (m < 0))) = decide (n * m < 0) := by
  rcases Int.lt_trichotomy n 0 with a | a | a <;> rcases Int.lt_trichotomy m 0 with b | b | b
  · have := Int.mul_pos_of_neg_of_neg a b
    simp [a, b]; omega
  · subst b; simp at h
  · have := Int.mul_neg_of_neg_of_pos a b
    simp [a, this]; omega
  · subst a; simp at h
  · subst a; simp at h
  · subst a; simp at h
  · have := Int.mul_neg_of_pos_of_neg a b
    simp [b, this]; omega
  · subst b; simp at h
  · have := Int.mul_pos a b
    rw [decide_eq_false (by omega), decide_eq_false (by omega), decide_eq_false (by omega)]; rfl
theorem div_flag {n m e : Int} (he : 1 ≤ e) (hm : m ≠ 0) (h : dv n m e ≠ 0) : (!(decide (n < 0) == decide (m < 0))) = decide (dv n m e < 0) := by
  unfold dv at *
  have hz : (if m < 0 then -n else n) ≠ 0 := by intro h0; rw [h0] at h; simp at h
  obtain ⟨p1, p2⟩ := @sign_mul_pos (if m < 0 then -n else n) e he
  simp only [p1]
  clear p1 p2 h
  by_cases hc : m < 0
  · simp only [if_pos hc] at hz ⊢
    by_cases ha : n < 0
    · rw [decide_eq_true ha, decide_eq_true hc, decide_eq_false (by omega)]; rfl
    · rw [decide_eq_false ha, decide_eq_true hc, decide_eq_true (by omega)]; rfl
  · simp only [if_neg hc] at hz ⊢
    rw [decide_eq_false hc]
    by_cases ha : n < 0
    · rw [decide_eq_true ha]; rfl
    · rw [decide_eq_false ha]; rfl
theorem dv_abs (n m e : Int) : (dv n m e).natAbs = n.natAbs * e.natAbs := by
  unfold dv; rw [Int.natAbs_mul]; split <;> simp
theorem mul_zero_iff {n m : Int} : n * m = 0 ↔ n.natAbs * m.natAbs = 0 := by rw [← Int.natAbs_mul]; omega
theorem prod_any {F : FuncId} (hP : ∀ (x y : Int), 0 ≤ x → x ≤ 18446744073709551615 → 0 ≤ y → y ≤ 18446744073709551615 → ∀ W : World, Calls Try.prog F #[.int .u64 x, .int .u64 y] W fun e w' => e = .returned (Value.agg #[Value.int IntKind.u64 (hi (x.toNat * y.toNat)), Value.int IntKind.u64 (lo (x.toNat * y.toNat))]) ∧ Below W.heap.size W w')
    (n m : Int) (hn : I64 n) (hm : I64 m) (W : World) : Calls Try.prog F #[.int .u64 n.natAbs, .int .u64 m.natAbs] W fun x w' => x = .returned (Value.agg #[Value.int IntKind.u64 (hi (n.natAbs * m.natAbs)), Value.int IntKind.u64 (lo (n.natAbs * m.natAbs))]) ∧ Below W.heap.size W w' := by
  have := hP n.natAbs m.natAbs (by omega) (by unfold I64 at hn; omega) (by omega) (by unfold I64 at hm; omega) W
  rwa [Int.toNat_natCast, Int.toNat_natCast] at this
theorem prod_by {F : FuncId} (hP : ∀ (x y : Int), 0 ≤ x → x ≤ 18446744073709551615 → 0 ≤ y → y ≤ 18446744073709551615 → ∀ W : World, Calls Try.prog F #[.int .u64 x, .int .u64 y] W fun e w' => e = .returned (Value.agg #[Value.int IntKind.u64 (hi (x.toNat * y.toNat)), Value.int IntKind.u64 (lo (x.toNat * y.toNat))]) ∧ Below W.heap.size W w')
    (d m : Int) (hd : I64 d) (hm : I64 m) (hd1 : 1 ≤ d) (W : World) : Calls Try.prog F #[.int .u64 d, .int .u64 m.natAbs] W fun x w' => x = .returned (Value.agg #[Value.int IntKind.u64 (hi ((d * m).natAbs)), Value.int IntKind.u64 (lo ((d * m).natAbs))]) ∧ Below W.heap.size W w' := by
  have := hP d m.natAbs (by omega) (by unfold I64 at hd; omega) (by omega) (by unfold I64 at hm; omega) W
  rwa [Int.toNat_natCast, show d.toNat = d.natAbs by omega, ← Int.natAbs_mul] at this
end Go.Proofs.Ytnohkjalglogaaa.wid
