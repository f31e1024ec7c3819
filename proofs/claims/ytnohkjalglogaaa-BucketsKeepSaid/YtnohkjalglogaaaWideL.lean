/- Numbers of 128 bits as two words. No program. -/
namespace Go.Proofs.Ytnohkjalglogaaa.wid
def hi (n : Nat) : Int := ((n / 18446744073709551616 : Nat) : Int)
def lo (n : Nat) : Int := ((n % 18446744073709551616 : Nat) : Int)
theorem hi_bd {n : Nat} (h : n < 340282366920938463463374607431768211456) : 0 ≤ hi n ∧ hi n ≤ 18446744073709551615 := by unfold hi; omega
theorem lo_bd (n : Nat) : 0 ≤ lo n ∧ lo n ≤ 18446744073709551615 := by unfold lo; omega
theorem hi_lo (n : Nat) : hi n * 18446744073709551616 + lo n = n := by unfold hi lo; omega
theorem wide_of {h l : Int} (h0 : 0 ≤ h) (l0 : 0 ≤ l) (l1 : l ≤ 18446744073709551615) : hi (h * 18446744073709551616 + l).toNat = h ∧ lo (h * 18446744073709551616 + l).toNat = l := by unfold hi lo; omega
theorem hi_small {n : Nat} (h : n ≤ 18446744073709551615) : hi n = 0 := by unfold hi; omega
theorem lo_small {n : Nat} (h : n ≤ 18446744073709551615) : lo n = n := by unfold lo; omega
theorem hi_of {x : Int} (h0 : 0 ≤ x) (h1 : x ≤ 18446744073709551615) : hi x.toNat = 0 := hi_small (by omega)
theorem lo_of {x : Int} (h0 : 0 ≤ x) (h1 : x ≤ 18446744073709551615) : lo x.toNat = x := by rw [lo_small (by omega)]; omega
theorem hi_zero : hi 0 = 0 := rfl
theorem lo_zero : lo 0 = 0 := rfl
theorem eq_of {a b : Nat} (h : hi a = hi b) (l : lo a = lo b) : a = b := by unfold hi at h; unfold lo at l; omega
theorem zero_iff (a : Nat) : (hi a = 0 ∧ lo a = 0) ↔ a = 0 := ⟨fun h => eq_of h.1 h.2, fun h => by subst h; exact ⟨rfl, rfl⟩⟩
theorem lt_iff (a b : Nat) : (hi a < hi b ∨ hi a = hi b ∧ lo a < lo b) ↔ a < b := by unfold hi lo; omega
end Go.Proofs.Ytnohkjalglogaaa.wid
