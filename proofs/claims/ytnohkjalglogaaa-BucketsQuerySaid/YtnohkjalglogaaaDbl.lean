/- Doubling and subtracting numbers of 128 bits, word by word. -/
import Derived.Test.YtnohkjalglogaaaWide
import Derived.Test.YtnohkjalglogaaaBits
namespace Go.Proofs.Ytnohkjalglogaaa.wid
open Go.RowKit Go.Proofs.Ytnohkjalglogaaa.mem Go.Proofs.Ytnohkjalglogaaa.gro
set_option linter.unusedVariables false
theorem or_even {x b : Nat} (hb : b < 2) : (2 * x) ||| b = 2 * x + b := by
  have := Nat.shiftLeft_add_eq_or_of_lt (i := 1) (b := b) (by omega) x
  rw [Nat.shiftLeft_eq, Nat.pow_one] at this
  rw [Nat.mul_comm 2 x]; omega
theorem or_bit {x b : Int} (h0 : 0 ≤ x) (h1 : 2 * x < 18446744073709551616) (b0 : 0 ≤ b) (b1 : b < 2) : bits BinOp.or IntKind.u64 (2 * x) b = 2 * x + b := by
  obtain ⟨x, rfl⟩ := Int.eq_ofNat_of_zero_le h0
  obtain ⟨b, rfl⟩ := Int.eq_ofNat_of_zero_le b0
  rw [show (2 : Int) * (x : Int) = ((2 * x : Nat) : Int) by omega, u64_or_nat _ _ (by omega) (by omega), or_even (by omega)]
  omega
/-- The upper and the lower word of twice a number and a bit. -/
theorem dbl_hi {a : Nat} (ha : a < 340282366920938463463374607431768211456) (b : Nat) (hb : b < 2) : bits BinOp.or IntKind.u64 (IntKind.u64.wrap (hi a * 2)) (lo a / 9223372036854775808) = hi ((2 * a + b) % 340282366920938463463374607431768211456) := by
  rw [IntKind.wrap_u64]
  have h1 := hi_bd ha
  have h2 := lo_bd a
  rw [show hi a * 2 % 18446744073709551616 = 2 * (hi a % 9223372036854775808) by omega, or_bit (by omega) (by omega) (by omega) (by omega)]
  unfold hi lo; omega
theorem dbl_lo {a : Nat} (b : Nat) (hb : b < 2) : bits BinOp.or IntKind.u64 (IntKind.u64.wrap (lo a * 2)) (b : Int) = lo ((2 * a + b) % 340282366920938463463374607431768211456) := by
  rw [IntKind.wrap_u64]
  have h2 := lo_bd a
  rw [show lo a * 2 % 18446744073709551616 = 2 * (lo a % 9223372036854775808) by omega, or_bit (by omega) (by omega) (by omega) (by omega)]
  unfold lo; omega
theorem dbl_lo0 {a : Nat} : IntKind.u64.wrap (lo a * 2) = lo ((2 * a) % 340282366920938463463374607431768211456) := by
  rw [IntKind.wrap_u64]; unfold lo; omega
theorem top_bit {a : Nat} (ha : a < 340282366920938463463374607431768211456) : hi a / 9223372036854775808 = ((2 * a / 340282366920938463463374607431768211456 : Nat) : Int) := by unfold hi; omega
/-- The difference, word by word. -/
theorem sub_lo {r b : Nat} (hb : b ≤ r) : (lo (r % 340282366920938463463374607431768211456) - lo b - 0) % 18446744073709551616 = lo (r - b) := by unfold lo; omega
theorem sub_hi {r b : Nat} (hb : b ≤ r) (hd : r - b < 340282366920938463463374607431768211456) :
    (hi (r % 340282366920938463463374607431768211456) - hi b - (if lo (r % 340282366920938463463374607431768211456) < lo b + 0 then 1 else 0)) % 18446744073709551616 = hi (r - b) := by
  unfold hi lo; split <;> omega
/-- A step of long division. -/
theorem div_step {A b t : Nat} (hb : 0 < b) (ht : t < 2) :
    (b ≤ 2 * (A % b) + t → (2 * A + t) / b = 2 * (A / b) + 1 ∧ (2 * A + t) % b = 2 * (A % b) + t - b) ∧
    (2 * (A % b) + t < b → (2 * A + t) / b = 2 * (A / b) ∧ (2 * A + t) % b = 2 * (A % b) + t) := by
  have h1 := Nat.div_add_mod A b
  have h2 := Nat.mod_lt A hb
  generalize A % b = r at *
  generalize A / b = q at *
  have e1 : b * (2 * q) = 2 * (b * q) := Nat.mul_left_comm _ _ _
  constructor
  · intro h
    refine (Nat.div_mod_unique hb).2 ⟨?_, by omega⟩
    rw [Nat.mul_add, Nat.mul_one, e1]; omega
  · intro h
    refine (Nat.div_mod_unique hb).2 ⟨?_, h⟩
    rw [e1]; omega
theorem shift_bit (a i : Nat) : 2 * (a / 2 ^ (i + 1)) + a / 2 ^ i % 2 = a / 2 ^ i := by
  rw [Nat.pow_succ, ← Nat.div_div_eq_div_mul]; omega
theorem or_one {x : Int} (h0 : 0 ≤ x) (h1 : x ≤ 18446744073709551615) (he : x % 2 = 0) : bits BinOp.or IntKind.u64 x 1 = x + 1 := by
  have := or_bit (x := x / 2) (b := 1) (by omega) (by omega) (by omega) (by omega)
  rwa [show 2 * (x / 2) = x by omega] at this
theorem lo_odd (q : Nat) (hq : 2 * q < 340282366920938463463374607431768211456) : bits BinOp.or IntKind.u64 (lo (2 * q)) 1 = lo (2 * q + 1) := by
  have h := lo_bd (2 * q)
  rw [or_one h.1 h.2 (by unfold lo; omega)]
  unfold lo; omega
theorem hi_odd (q : Nat) : hi (2 * q) = hi (2 * q + 1) := by unfold hi; omega
theorem dbl_hi' {a : Nat} (ha : 2 * a < 340282366920938463463374607431768211456) (b : Nat) (hb : b < 2) : bits BinOp.or IntKind.u64 (hi a * 2) (lo a / 9223372036854775808) = hi (2 * a + b) := by
  have h1 : 0 ≤ hi a ∧ hi a ≤ 9223372036854775807 := by unfold hi; omega
  have h2 := lo_bd a
  rw [Int.mul_comm, or_bit (by omega) (by omega) (by omega) (by omega)]
  unfold hi lo; omega
theorem dbl_lo' {a : Nat} (b : Nat) (hb : b < 2) : bits BinOp.or IntKind.u64 (IntKind.u64.wrap (lo a * 2)) (b : Int) = lo (2 * a + b) := by
  rw [dbl_lo b hb]; unfold lo; omega
theorem dbl_lo0' {a : Nat} : IntKind.u64.wrap (lo a * 2) = lo (2 * a) := by
  rw [IntKind.wrap_u64]; unfold lo; omega
/-- The difference of r less the 129th digit. -/
theorem dif_lo {r b D : Nat} (hD : D = r % 340282366920938463463374607431768211456) (hb : b ≤ r) : (lo D - lo b) % 18446744073709551616 = lo (r - b) := by subst hD; unfold lo; omega
theorem dif_hi {r b D : Nat} (hD : D = r % 340282366920938463463374607431768211456) (hb : b ≤ r) (hd : r - b < 340282366920938463463374607431768211456) :
    (lo D < lo b → (hi D - hi b - 1) % 18446744073709551616 = hi (r - b)) ∧ (¬ lo D < lo b → (hi D - hi b) % 18446744073709551616 = hi (r - b)) := by
  subst hD; unfold hi lo; constructor <;> intro h <;> omega
theorem bits_spec (x : Nat) : ∀ f, x < 2 ^ f → x < 2 ^ Lib.bitLenAux f x := by
  intro f
  induction f generalizing x with
  | zero => intro h; simpa [Lib.bitLenAux] using h
  | succ f ih =>
    intro h
    have := ih (x / 2) (by rw [Nat.pow_succ] at h; omega)
    simp only [Lib.bitLenAux]
    split
    · omega
    · rw [Nat.add_comm, Nat.pow_succ]; omega
end Go.Proofs.Ytnohkjalglogaaa.wid
