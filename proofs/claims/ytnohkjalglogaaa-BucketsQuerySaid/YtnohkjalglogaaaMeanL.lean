/- The mean of two integers by bits. No program in sight. -/
import Derived.Test.YtnohkjalglogaaaMem
namespace Go.Proofs.Ytnohkjalglogaaa.wid
open Go
theorem nat_mean : ∀ (k m n : Nat), m < k → m + n = 2 * (m &&& n) + (m ^^^ n)
  | 0, m, n, h => absurd h (Nat.not_lt_zero _)
  | k + 1, m, n, h => by
    by_cases h0 : m = 0
    · subst h0; simp
    · have ih := nat_mean k (m / 2) (n / 2) (by omega)
      have a1 : (m &&& n) / 2 = m / 2 &&& n / 2 := Nat.and_div_two
      have a2 : (m ^^^ n) / 2 = m / 2 ^^^ n / 2 := Nat.xor_div_two
      have a3 : (m &&& n) % 2 = 1 ↔ m % 2 = 1 ∧ n % 2 = 1 := Nat.and_mod_two_eq_one
      have a4 : (m ^^^ n) % 2 = 1 ↔ ¬(m % 2 = 1 ↔ n % 2 = 1) := Nat.xor_mod_two_eq_one
      rw [← a1, ← a2] at ih
      omega
theorem wrap_toInt (v : BitVec 64) : IntKind.i64.wrap (v.toNat : Int) = v.toInt := by
  have := v.isLt
  rw [BitVec.toInt_eq_toNat_cond]
  simp [IntKind.wrap, IntKind.bits, IntKind.signed]
  split <;> omega
theorem bits_sum {x y : Int} (hx : -9223372036854775808 ≤ x ∧ x ≤ 9223372036854775807) (hy : -9223372036854775808 ≤ y ∧ y ≤ 9223372036854775807) :
    x + y = 2 * bits .and .i64 x y + bits .xor .i64 x y := by
  have e1 : bits .and .i64 x y = (BitVec.ofInt 64 x &&& BitVec.ofInt 64 y).toInt := wrap_toInt _
  have e2 : bits .xor .i64 x y = (BitVec.ofInt 64 x ^^^ BitVec.ofInt 64 y).toInt := wrap_toInt _
  have f1 : (BitVec.ofInt 64 x).toInt = x := BitVec.toInt_ofInt_eq_self (by omega) (by omega) (by omega)
  have f2 : (BitVec.ofInt 64 y).toInt = y := BitVec.toInt_ofInt_eq_self (by omega) (by omega) (by omega)
  rw [e1, e2]
  generalize BitVec.ofInt 64 x = a at *
  generalize BitVec.ofInt 64 y = b at *
  have g := nat_mean (a.toNat + 1) a.toNat b.toNat (by omega)
  rw [← f1, ← f2]
  have m1 := BitVec.toInt_eq_msb_cond a
  have m2 := BitVec.toInt_eq_msb_cond b
  have m3 := BitVec.toInt_eq_msb_cond (a &&& b)
  have m4 := BitVec.toInt_eq_msb_cond (a ^^^ b)
  rw [BitVec.msb_and] at m3
  rw [BitVec.msb_xor] at m4
  rw [BitVec.toNat_and] at m3
  rw [BitVec.toNat_xor] at m4
  rw [m1, m2, m3, m4]
  cases a.msb <;> cases b.msb <;> simp <;> omega
theorem bits_mean {x y : Int} (hx : -9223372036854775808 ≤ x ∧ x ≤ 9223372036854775807) (hy : -9223372036854775808 ≤ y ∧ y ≤ 9223372036854775807) :
    bits .and .i64 x y + bits .xor .i64 x y / 2 = (x + y) / 2 := by
  have := bits_sum hx hy
  omega
end Go.Proofs.Ytnohkjalglogaaa.wid
