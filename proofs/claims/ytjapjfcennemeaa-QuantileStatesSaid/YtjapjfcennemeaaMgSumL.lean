/- Red; RedR; SumL: texts in one. -/
import Derived.Test.YtjapjfcennemeaaMgRat
import Derived.Deep.Cut
set_option linter.unusedVariables false
set_option linter.unusedSimpArgs false
/- Contracts of reduced, in the code and in the reference. -/
namespace Go.Proofs.Ytjapjfcennemeaa.wid
open Go.RowKit Go.Proofs.Ytjapjfcennemeaa.mem Go.Proofs.Ytjapjfcennemeaa.gro
set_option linter.unusedVariables false
def rp (n d : Nat) : Nat := n / Nat.gcd n d
def rq (n d : Nat) : Nat := d / Nat.gcd n d
def fitsP (neg : Bool) (p q : Nat) : Bool := decide (q < 9223372036854775808) && (decide (p < 9223372036854775808) || (decide (p = 9223372036854775808) && neg))
def redOk (neg : Bool) (n d : Nat) : Bool := fitsP neg (rp n d) (rq n d)
def redN (neg : Bool) (n d : Nat) : Int := if redOk neg n d = true then (if neg = true then -(rp n d : Int) else rp n d) else 0
def redD (neg : Bool) (n d : Nat) : Int := if redOk neg n d = true then rq n d else 0
theorem red_no {neg : Bool} {n d : Nat} (h : redOk neg n d = false) : redN neg n d = 0 ∧ redD neg n d = 0 := by unfold redN redD; rw [h]; exact ⟨rfl, rfl⟩
theorem red_yes {neg : Bool} {n d : Nat} (h : redOk neg n d = true) : redN neg n d = (if neg = true then -(rp n d : Int) else rp n d) ∧ redD neg n d = rq n d := by unfold redN redD; rw [h]; exact ⟨rfl, rfl⟩
theorem ret_red {a b c d : Int} {x y : Bool} (h1 : a = c) (h2 : b = d) (h3 : x = y) : Ending.returned (.tuple #[(Value.agg #[Value.int IntKind.i64 (a), Value.int IntKind.i64 ( b)]), .bool x]) = .returned (.tuple #[(Value.agg #[Value.int IntKind.i64 (c), Value.int IntKind.i64 ( d)]), .bool y]) := by rw [h1, h2, h3]
end Go.Proofs.Ytjapjfcennemeaa.wid

/- Contract of reduced in the reference. -/
namespace Go.Proofs.Ytjapjfcennemeaa.wid
open Go.RowKit Go.Proofs.Ytjapjfcennemeaa.mem Go.Proofs.Ytjapjfcennemeaa.gro
set_option linter.unusedVariables false
end Go.Proofs.Ytjapjfcennemeaa.wid

/- Sums of fractions as integers; what reduced makes of them. -/
namespace Go.Proofs.Ytjapjfcennemeaa.wid
open Go.RowKit
set_option linter.unusedVariables false
def rN (N D : Int) : Int := redN (decide (N < 0)) N.natAbs D.natAbs
def rD (N D : Int) : Int := redD (decide (N < 0)) N.natAbs D.natAbs
def rOk (N D : Int) : Bool := redOk (decide (N < 0)) N.natAbs D.natAbs
theorem red_sign {f : Bool} {N D : Int} (h : N ≠ 0 → f = decide (N < 0)) : redN f N.natAbs D.natAbs = rN N D ∧ redD f N.natAbs D.natAbs = rD N D ∧ redOk f N.natAbs D.natAbs = rOk N D := by
  by_cases h0 : N = 0
  · subst h0
    have hk : ∀ f, redOk f (0 : Int).natAbs D.natAbs = redOk false (0 : Int).natAbs D.natAbs := fun f => by
      unfold redOk fitsP rp; simp
    have hn : ∀ f, redN f (0 : Int).natAbs D.natAbs = redN false (0 : Int).natAbs D.natAbs := fun f => by
      unfold redN; rw [hk f]; unfold rp; simp
    have hd : ∀ f, redD f (0 : Int).natAbs D.natAbs = redD false (0 : Int).natAbs D.natAbs := fun f => by
      unfold redD; rw [hk f]
    unfold rN rD rOk
    rw [hn f, hd f, hk f, hn (decide ((0 : Int) < 0)), hd (decide ((0 : Int) < 0)), hk (decide ((0 : Int) < 0))]
    simp
  · rw [h h0]; exact ⟨rfl, rfl, rfl⟩
def sg (minus : Bool) (m : Int) : Int := if minus = true then -m else m
theorem sign_mul_pos {n e : Int} (he : 1 ≤ e) : (n * e < 0 ↔ n < 0) ∧ (n * e = 0 ↔ n = 0) := by
  rcases Int.lt_trichotomy n 0 with h | h | h
  · have := Int.mul_neg_of_neg_of_pos h (show 0 < e by omega)
    omega
  · subst h; simp
  · have := Int.mul_pos h (show 0 < e by omega)
    omega
theorem sum_cases {n d m e : Int} {minus : Bool} (hd : 1 ≤ d) (he : 1 ≤ e) (N : Int) (hN : N = n * e + sg minus m * d) :
    let fm := decide (n < 0)
    let fn := !(decide (m < 0) == minus)
    let X := n.natAbs * e.natAbs
    let Y := m.natAbs * d.natAbs
    (fm = fn → N.natAbs = X + Y ∧ (N ≠ 0 → fm = decide (N < 0))) ∧ (fm ≠ fn → Y ≤ X → N.natAbs = X - Y ∧ (N ≠ 0 → fm = decide (N < 0))) ∧ (fm ≠ fn → X < Y → N.natAbs = Y - X ∧ (N ≠ 0 → fn = decide (N < 0))) := by
  intro fm fn X Y
  have hX : X = (n * e).natAbs := (Int.natAbs_mul n e).symm
  have hs : (sg minus m).natAbs = m.natAbs := by unfold sg; split <;> simp
  have hY : Y = (sg minus m * d).natAbs := by rw [Int.natAbs_mul, hs]
  obtain ⟨p1, p2⟩ := @sign_mul_pos n e he
  obtain ⟨q1, q2⟩ := @sign_mul_pos (sg minus m) d hd
  have hfn : sg minus m ≠ 0 → fn = decide (sg minus m < 0) := by
    intro h
    show (!(decide (m < 0) == minus)) = _
    cases minus
    · simp [sg]
    · have hm : m ≠ 0 := by intro h0; exact h (by simp [sg, h0])
      by_cases h1 : m < 0
      · simp [sg, h1]; omega
      · simp [sg, h1]; omega
  have hfm : fm = decide (n < 0) := rfl
  generalize hP : n * e = P at *
  generalize hQ : sg minus m * d = Q at *
  generalize hM : sg minus m = M at *
  clear_value X Y fm fn
  subst hX hY hN hfm
  by_cases hM0 : M = 0
  · have hQ0 : Q = 0 := q2.2 hM0
    subst hQ0
    refine ⟨fun h => ⟨by simp, fun h0 => by simp [← p1]⟩, fun h hl => ⟨by simp, fun h0 => by simp [← p1]⟩, fun h hl => ?_⟩
    simp at hl
  · rw [hfn hM0]
    refine ⟨fun h => ?_, fun h hl => ?_, fun h hl => ?_⟩
    · rw [decide_eq_decide] at h
      refine ⟨by omega, fun h0 => ?_⟩
      rw [decide_eq_decide]; omega
    · have h' : ¬ ((n < 0) ↔ (M < 0)) := fun h2 => h (decide_eq_decide.2 h2)
      refine ⟨by omega, fun h0 => ?_⟩
      rw [decide_eq_decide]; omega
    · have h' : ¬ ((n < 0) ↔ (M < 0)) := fun h2 => h (decide_eq_decide.2 h2)
      refine ⟨by omega, fun h0 => ?_⟩
      rw [decide_eq_decide]; omega
end Go.Proofs.Ytjapjfcennemeaa.wid
