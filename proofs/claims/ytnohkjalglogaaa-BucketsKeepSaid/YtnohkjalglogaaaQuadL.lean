/- Numbers of four words: their digits, products with a word, order. No condition. -/
import Derived.Test.YtnohkjalglogaaaWideL
namespace Go.Proofs.Ytnohkjalglogaaa.wid
set_option linter.unusedVariables false
def q0 (V : Nat) : Nat := V % 18446744073709551616
def q1 (V : Nat) : Nat := V / 18446744073709551616 % 18446744073709551616
def q2 (V : Nat) : Nat := V / 18446744073709551616 / 18446744073709551616 % 18446744073709551616
def q3 (V : Nat) : Nat := V / 18446744073709551616 / 18446744073709551616 / 18446744073709551616 % 18446744073709551616
theorem q0_lt (V : Nat) : q0 V < 18446744073709551616 := Nat.mod_lt _ (by decide)
theorem q1_lt (V : Nat) : q1 V < 18446744073709551616 := Nat.mod_lt _ (by decide)
theorem q2_lt (V : Nat) : q2 V < 18446744073709551616 := Nat.mod_lt _ (by decide)
theorem q3_lt (V : Nat) : q3 V < 18446744073709551616 := Nat.mod_lt _ (by decide)
theorem q_step (V n c : Nat) : (V * n + c) % 18446744073709551616 = ((V % 18446744073709551616) * n + c) % 18446744073709551616 ∧
    (V * n + c) / 18446744073709551616 = (V / 18446744073709551616) * n + ((V % 18446744073709551616) * n + c) / 18446744073709551616 := by
  have h : V * n = 18446744073709551616 * ((V / 18446744073709551616) * n) + (V % 18446744073709551616) * n := by
    rw [← Nat.mul_assoc, ← Nat.add_mul, Nat.div_add_mod]
  rw [h]
  generalize V / 18446744073709551616 * n = P
  generalize V % 18446744073709551616 * n = Q
  omega
/-- The carries of a product. -/
def cy1 (V n : Nat) : Nat := q0 V * n / 18446744073709551616
def cy2 (V n : Nat) : Nat := (q1 V * n + cy1 V n) / 18446744073709551616
def cy3 (V n : Nat) : Nat := (q2 V * n + cy2 V n) / 18446744073709551616
theorem q_mul (V n : Nat) : q0 (V * n) = q0 V * n % 18446744073709551616 ∧ q1 (V * n) = (q1 V * n + cy1 V n) % 18446744073709551616 ∧
    q2 (V * n) = (q2 V * n + cy2 V n) % 18446744073709551616 ∧ q3 (V * n) = (q3 V * n + cy3 V n) % 18446744073709551616 := by
  have a := q_step V n 0
  simp only [Nat.add_zero] at a
  have b := q_step (V / 18446744073709551616) n (cy1 V n)
  have c := q_step (V / 18446744073709551616 / 18446744073709551616) n (cy2 V n)
  have d := q_step (V / 18446744073709551616 / 18446744073709551616 / 18446744073709551616) n (cy3 V n)
  have a2 : V * n / 18446744073709551616 = V / 18446744073709551616 * n + cy1 V n := a.2
  have b2 : (V / 18446744073709551616 * n + cy1 V n) / 18446744073709551616 = V / 18446744073709551616 / 18446744073709551616 * n + cy2 V n := b.2
  have c2 : (V / 18446744073709551616 / 18446744073709551616 * n + cy2 V n) / 18446744073709551616 = V / 18446744073709551616 / 18446744073709551616 / 18446744073709551616 * n + cy3 V n := c.2
  refine ⟨a.1, ?_, ?_, ?_⟩
  · show V * n / 18446744073709551616 % 18446744073709551616 = _
    rw [a2]; exact b.1
  · show V * n / 18446744073709551616 / 18446744073709551616 % 18446744073709551616 = _
    rw [a2, b2]; exact c.1
  · show V * n / 18446744073709551616 / 18446744073709551616 / 18446744073709551616 % 18446744073709551616 = _
    rw [a2, b2, c2]; exact d.1
theorem cy_bd {x n c : Nat} (hx : x < 18446744073709551616) (hn : n < 18446744073709551616) (hc : c < 18446744073709551616) : (x * n + c) / 18446744073709551616 < 18446744073709551616 := by
  have : x * n ≤ 18446744073709551615 * 18446744073709551615 := Nat.mul_le_mul (by omega) (by omega)
  omega
theorem cy1_lt {V n : Nat} (hn : n < 18446744073709551616) : cy1 V n < 18446744073709551616 := by
  have := cy_bd (q0_lt V) hn (show 0 < 18446744073709551616 by decide)
  exact this
theorem cy2_lt {V n : Nat} (hn : n < 18446744073709551616) : cy2 V n < 18446744073709551616 := cy_bd (q1_lt V) hn (cy1_lt hn)
theorem cy3_lt {V n : Nat} (hn : n < 18446744073709551616) : cy3 V n < 18446744073709551616 := cy_bd (q2_lt V) hn (cy2_lt hn)
/-- One digit of a product, as the machine makes it. -/
theorem cy_word {x n c p : Nat} (hx : x < 18446744073709551616) (hn : n < 18446744073709551616) (hc : c < 18446744073709551616) (hp : p = x * n) :
    (lo p + (c : Int)) % 18446744073709551616 = (((x * n + c) % 18446744073709551616 : Nat) : Int) ∧ hi p + (lo p + (c : Int)) / 18446744073709551616 = (((x * n + c) / 18446744073709551616 : Nat) : Int) := by
  subst hp
  unfold hi lo
  omega
/-- A number of four words. -/
theorem q_eq {V U : Nat} (hV : V < 115792089237316195423570985008687907853269984665640564039457584007913129639936) (hU : U < 115792089237316195423570985008687907853269984665640564039457584007913129639936) :
    (q3 V ≠ q3 U → (V < U ↔ q3 V < q3 U) ∧ V ≠ U) ∧ (q3 V = q3 U → q2 V ≠ q2 U → (V < U ↔ q2 V < q2 U) ∧ V ≠ U) ∧ (q3 V = q3 U → q2 V = q2 U → q1 V ≠ q1 U → (V < U ↔ q1 V < q1 U) ∧ V ≠ U) ∧
    (q3 V = q3 U → q2 V = q2 U → q1 V = q1 U → q0 V ≠ q0 U → (V < U ↔ q0 V < q0 U) ∧ V ≠ U) ∧ (q3 V = q3 U → q2 V = q2 U → q1 V = q1 U → q0 V = q0 U → V = U) := by
  unfold q0 q1 q2 q3
  refine ⟨?_, ?_, ?_, ?_, ?_⟩ <;> omega
theorem q_wide (d : Nat) (hd : d < 340282366920938463463374607431768211456) : (q0 d : Int) = lo d ∧ (q1 d : Int) = hi d ∧ q2 d = 0 ∧ q3 d = 0 := by
  unfold q0 q1 q2 q3 lo hi
  omega
end Go.Proofs.Ytnohkjalglogaaa.wid
