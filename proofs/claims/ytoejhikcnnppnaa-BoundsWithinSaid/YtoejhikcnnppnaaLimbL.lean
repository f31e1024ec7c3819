/- Numbers of four words made of eight halves: products by rows. No condition. -/
import Derived.Test.YtoejhikcnnppnaaQuadL
import Derived.Test.YtoejhikcnnppnaaArith
namespace Go.Proofs.Ytoejhikcnnppnaa.wid
open Go.RowKit
set_option linter.unusedVariables false
def e0 (V : Nat) : Nat := V % 4294967296
def e1 (V : Nat) : Nat := V / 4294967296 % 4294967296
def e2 (V : Nat) : Nat := V / 4294967296 / 4294967296 % 4294967296
def e3 (V : Nat) : Nat := V / 4294967296 / 4294967296 / 4294967296 % 4294967296
theorem e0_lt (V : Nat) : e0 V < 4294967296 := Nat.mod_lt _ (by decide)
theorem e1_lt (V : Nat) : e1 V < 4294967296 := Nat.mod_lt _ (by decide)
theorem e2_lt (V : Nat) : e2 V < 4294967296 := Nat.mod_lt _ (by decide)
theorem e3_lt (V : Nat) : e3 V < 4294967296 := Nat.mod_lt _ (by decide)
theorem e_step (x S Y c : Nat) : (S + x * Y + c) % 4294967296 = (S % 4294967296 + x * (Y % 4294967296) + c) % 4294967296 ∧
    (S + x * Y + c) / 4294967296 = S / 4294967296 + x * (Y / 4294967296) + (S % 4294967296 + x * (Y % 4294967296) + c) / 4294967296 := by
  have h : x * Y = 4294967296 * (x * (Y / 4294967296)) + x * (Y % 4294967296) := by
    rw [Nat.mul_left_comm, ← Nat.mul_add, Nat.div_add_mod]
  rw [h]
  generalize x * (Y / 4294967296) = P
  generalize x * (Y % 4294967296) = Q
  omega
/-- One row: its sums. -/
def rt0 (x S Y : Nat) : Nat := e0 S + x * e0 Y + 0
def rt1 (x S Y : Nat) : Nat := e1 S + x * e1 Y + rt0 x S Y / 4294967296
def rt2 (x S Y : Nat) : Nat := e2 S + x * e2 Y + rt1 x S Y / 4294967296
def rt3 (x S Y : Nat) : Nat := e3 S + x * e3 Y + rt2 x S Y / 4294967296
/-- What is left of the number when its lowest half is final. -/
def rS (x S Y : Nat) : Nat := (S + x * Y) / 4294967296
theorem rt_bd {s x y c : Nat} (hs : s < 4294967296) (hx : x < 4294967296) (hy : y < 4294967296) (hc : c < 4294967296) : s + x * y + c < 18446744073709551616 ∧ (s + x * y + c) / 4294967296 < 4294967296 := by
  have : x * y ≤ 4294967295 * 4294967295 := Nat.mul_le_mul (by omega) (by omega)
  omega
theorem rt_lt {x S Y : Nat} (hx : x < 4294967296) : rt0 x S Y < 18446744073709551616 ∧ rt1 x S Y < 18446744073709551616 ∧ rt2 x S Y < 18446744073709551616 ∧ rt3 x S Y < 18446744073709551616 ∧ rt3 x S Y / 4294967296 < 4294967296 := by
  have a := rt_bd (e0_lt S) hx (e0_lt Y) (show 0 < 4294967296 by decide)
  have b := rt_bd (e1_lt S) hx (e1_lt Y) a.2
  have c := rt_bd (e2_lt S) hx (e2_lt Y) b.2
  have d := rt_bd (e3_lt S) hx (e3_lt Y) c.2
  exact ⟨a.1, b.1, c.1, d.1, d.2⟩
theorem row_facts {x S Y : Nat} (hx : x < 4294967296) (hS : S < 340282366920938463463374607431768211456) (hY : Y < 340282366920938463463374607431768211456) :
    rt0 x S Y % 4294967296 = (S + x * Y) % 4294967296 ∧ rt1 x S Y % 4294967296 = e0 (rS x S Y) ∧ rt2 x S Y % 4294967296 = e1 (rS x S Y) ∧ rt3 x S Y % 4294967296 = e2 (rS x S Y) ∧ rt3 x S Y / 4294967296 = e3 (rS x S Y) ∧ rS x S Y < 340282366920938463463374607431768211456 := by
  have a := e_step x S Y 0
  have b := e_step x (S / 4294967296) (Y / 4294967296) (rt0 x S Y / 4294967296)
  have c := e_step x (S / 4294967296 / 4294967296) (Y / 4294967296 / 4294967296) (rt1 x S Y / 4294967296)
  have d := e_step x (S / 4294967296 / 4294967296 / 4294967296) (Y / 4294967296 / 4294967296 / 4294967296) (rt2 x S Y / 4294967296)
  have hb := (rt_lt (x := x) (S := S) (Y := Y) hx).2.2.2.2
  have a2 : rS x S Y = S / 4294967296 + x * (Y / 4294967296) + rt0 x S Y / 4294967296 := a.2
  have b2 : (S / 4294967296 + x * (Y / 4294967296) + rt0 x S Y / 4294967296) / 4294967296 = S / 4294967296 / 4294967296 + x * (Y / 4294967296 / 4294967296) + rt1 x S Y / 4294967296 := b.2
  have c2 : (S / 4294967296 / 4294967296 + x * (Y / 4294967296 / 4294967296) + rt1 x S Y / 4294967296) / 4294967296 = S / 4294967296 / 4294967296 / 4294967296 + x * (Y / 4294967296 / 4294967296 / 4294967296) + rt2 x S Y / 4294967296 := c.2
  have d2 : (S / 4294967296 / 4294967296 / 4294967296 + x * (Y / 4294967296 / 4294967296 / 4294967296) + rt2 x S Y / 4294967296) / 4294967296 = S / 4294967296 / 4294967296 / 4294967296 / 4294967296 + x * (Y / 4294967296 / 4294967296 / 4294967296 / 4294967296) + rt3 x S Y / 4294967296 := d.2
  have zS : S / 4294967296 / 4294967296 / 4294967296 / 4294967296 = 0 := by omega
  have zY : Y / 4294967296 / 4294967296 / 4294967296 / 4294967296 = 0 := by omega
  rw [zS, zY, Nat.mul_zero] at d2
  simp only [Nat.zero_add] at d2
  refine ⟨a.1.symm, ?_, ?_, ?_, ?_, ?_⟩
  · unfold e0; rw [a2]; exact b.1.symm
  · unfold e1; rw [a2, b2]; exact c.1.symm
  · unfold e2; rw [a2, b2, c2]; exact d.1.symm
  · unfold e3; rw [a2, b2, c2, d2, Nat.mod_eq_of_lt hb]
  · rw [← a2] at b2
    rw [← b2] at c2
    rw [← c2] at d2
    omega
/-- The product out of its rows. -/
theorem rows_mul {X Y S1 S2 S3 S4 : Nat} (hX : X < 340282366920938463463374607431768211456) (h1 : S1 = rS (e0 X) 0 Y) (h2 : S2 = rS (e1 X) S1 Y) (h3 : S3 = rS (e2 X) S2 Y) (h4 : S4 = rS (e3 X) S3 Y) (hS : S4 < 340282366920938463463374607431768211456) :
    q0 (X * Y) = (0 + e0 X * Y) % 4294967296 + 4294967296 * ((S1 + e1 X * Y) % 4294967296) ∧ q1 (X * Y) = (S2 + e2 X * Y) % 4294967296 + 4294967296 * ((S3 + e3 X * Y) % 4294967296) ∧ q2 (X * Y) = e0 S4 + 4294967296 * e1 S4 ∧ q3 (X * Y) = e2 S4 + 4294967296 * e3 S4 := by
  have hm : X * Y = e0 X * Y + 4294967296 * (e1 X * Y) + 18446744073709551616 * (e2 X * Y) + 79228162514264337593543950336 * (e3 X * Y) := by
    rw [← Nat.mul_assoc, ← Nat.mul_assoc, ← Nat.mul_assoc, ← Nat.add_mul, ← Nat.add_mul, ← Nat.add_mul]
    congr 1
    unfold e0 e1 e2 e3
    omega
  rw [hm]
  unfold rS at h1 h2 h3 h4
  generalize e0 X * Y = P0 at *
  generalize e1 X * Y = P1 at *
  generalize e2 X * Y = P2 at *
  generalize e3 X * Y = P3 at *
  clear hm hX
  have k1 : P0 = 4294967296 * S1 + (0 + P0) % 4294967296 := by omega
  have k2 : S1 + P1 = 4294967296 * S2 + (S1 + P1) % 4294967296 := by omega
  have k3 : S2 + P2 = 4294967296 * S3 + (S2 + P2) % 4294967296 := by omega
  have k4 : S3 + P3 = 4294967296 * S4 + (S3 + P3) % 4294967296 := by omega
  have b1 : (0 + P0) % 4294967296 < 4294967296 := Nat.mod_lt _ (by decide)
  have b2 : (S1 + P1) % 4294967296 < 4294967296 := Nat.mod_lt _ (by decide)
  have b3 : (S2 + P2) % 4294967296 < 4294967296 := Nat.mod_lt _ (by decide)
  have b4 : (S3 + P3) % 4294967296 < 4294967296 := Nat.mod_lt _ (by decide)
  generalize (0 + P0) % 4294967296 = z0 at *
  generalize (S1 + P1) % 4294967296 = z1 at *
  generalize (S2 + P2) % 4294967296 = z2 at *
  generalize (S3 + P3) % 4294967296 = z3 at *
  clear h1 h2 h3 h4
  have hT : P0 + 4294967296 * P1 + 18446744073709551616 * P2 + 79228162514264337593543950336 * P3 = z0 + 4294967296 * z1 + 18446744073709551616 * z2 + 79228162514264337593543950336 * z3 + 340282366920938463463374607431768211456 * S4 := by omega
  rw [hT]
  clear k1 k2 k3 k4 hT
  unfold q0 q1 q2 q3 e0 e1 e2 e3
  omega
theorem step_word {s x y c t : Nat} (ht : t = s + x * y + c) (h : t < 18446744073709551616) :
    IntKind.u64.wrap ((x : Int) * (y : Int)) = ((x * y : Nat) : Int) ∧ IntKind.u64.wrap ((s : Int) + ((x * y : Nat) : Int)) = ((s + x * y : Nat) : Int) ∧ IntKind.u64.wrap (((s + x * y : Nat) : Int) + (c : Int)) = (t : Int) ∧
    bits .and .u64 (t : Int) 4294967295 = ((t % 4294967296 : Nat) : Int) ∧ (t : Int) / 4294967296 = ((t / 4294967296 : Nat) : Int) := by
  refine ⟨?_, ?_, ?_, maskN t h, divN t⟩
  · rw [mulN]; exact wrapN _ (by omega)
  · rw [addN]; exact wrapN _ (by omega)
  · rw [addN, ← ht]; exact wrapN _ h
theorem or_word {a b : Nat} (ha : a < 4294967296) (hb : b < 4294967296) : IntKind.u64.wrap ((b : Int) * 4294967296) = ((4294967296 * b : Nat) : Int) ∧ bits .or .u64 (a : Int) ((4294967296 * b : Nat) : Int) = ((a + 4294967296 * b : Nat) : Int) := by
  constructor
  · rw [show (b : Int) * 4294967296 = ((4294967296 * b : Nat) : Int) by omega]; exact wrapN _ (by omega)
  · rw [u64_or (a : Int) ((4294967296 * b : Nat) : Int) (by omega) (by omega) (by omega) (by omega), Int.toNat_natCast, Int.toNat_natCast]
    have := Nat.two_pow_add_eq_or_of_lt (i := 32) (b := a) ha b
    rw [Nat.or_comm, ← this, Nat.add_comm]
theorem half_word {a : Nat} (ha : a < 340282366920938463463374607431768211456) : bits .and .u64 (lo a) 4294967295 = (e0 a : Nat) ∧ lo a / 4294967296 = (e1 a : Nat) ∧ bits .and .u64 (hi a) 4294967295 = (e2 a : Nat) ∧ hi a / 4294967296 = (e3 a : Nat) := by
  unfold lo hi
  rw [maskN _ (by omega), maskN _ (by omega), divN, divN]
  unfold e0 e1 e2 e3
  omega
end Go.Proofs.Ytoejhikcnnppnaa.wid
