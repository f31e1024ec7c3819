/- What the statements on rational numbers need of integers. -/
import Derived.Test.YtoejhikcnnppnaaRat2
namespace Go.Proofs.Ytoejhikcnnppnaa.wid
open Go.RowKit
theorem cmpZ_anti (X Y : Int) : cmpZ Y X = -cmpZ X Y := by unfold cmpZ; repeat' (first | omega | split)
theorem cmpZ_bd (X Y : Int) : -1 ≤ cmpZ X Y ∧ cmpZ X Y ≤ 1 := by unfold cmpZ; repeat' (first | omega | split)
theorem cmpQ_anti (n d m e : Int) : cmpQ m e n d = -cmpQ n d m e := by
  unfold cmpQ
  by_cases h : validQ n d = true ∧ validQ m e = true
  · rw [if_pos h, if_pos ⟨h.2, h.1⟩, cmpZ_anti]
  · rw [if_neg h, if_neg (fun h' => h ⟨h'.2, h'.1⟩)]; rfl
theorem cmpQ_bd (n d m e : Int) : -1 ≤ cmpQ n d m e ∧ cmpQ n d m e ≤ 1 := by
  unfold cmpQ
  split
  · exact cmpZ_bd _ _
  · omega
theorem cmpZ_le {X Y : Int} : cmpZ X Y ≤ 0 ↔ X ≤ Y := by unfold cmpZ; split <;> (try split) <;> omega
theorem validQ_of (n : Int) : validQ n 1 = true := by simp [validQ]
theorem floor_facts {n d : Int} (hv : validQ n d = true) : cmpQ (floorQ n d) 1 n d ≤ 0 ∧ cmpQ n d (ceilQ n d) 1 ≤ 0 ∧ floorQ n d ≤ ceilQ n d ∧ ceilQ n d ≤ floorQ n d + 1 ∧ (ceilQ n d = floorQ n d ↔ d = 1) := by
  obtain ⟨hd, hg⟩ := validQ_iff.1 hv
  have h1 := Int.mul_ediv_add_emod n d
  have h2 := Int.emod_nonneg n (show d ≠ 0 by omega)
  have h3 := Int.emod_lt_of_pos n (show 0 < d by omega)
  have hc : -((-n) / d) = if n % d = 0 then n / d else n / d + 1 := by
    split
    · rename_i h0
      have : -n = d * (-(n / d)) := by rw [Int.mul_neg]; omega
      rw [this, Int.mul_ediv_cancel_left _ (by omega)]; omega
    · have : -n = (d - n % d) + d * (-(n / d) - 1) := by rw [Int.mul_sub, Int.mul_neg]; omega
      rw [this, Int.add_mul_ediv_left _ _ (by omega), Int.ediv_eq_zero_of_lt (by omega) (by omega)]; omega
  have hone : n % d = 0 ↔ d = 1 := by
    constructor
    · intro h0
      have hdv : d ∣ n := Int.dvd_of_emod_eq_zero h0
      have := Nat.gcd_eq_right (Int.natAbs_dvd_natAbs.2 hdv)
      omega
    · intro h; subst h; omega
  unfold cmpQ floorQ ceilQ
  rw [if_pos hv, if_pos hv, if_pos ⟨validQ_of _, hv⟩, if_pos ⟨hv, validQ_of _⟩, cmpZ_le, cmpZ_le, hc]
  have hm := Int.mul_comm (n / d) d
  refine ⟨by omega, ?_, ?_, ?_, ?_⟩
  · split
    · omega
    · rw [Int.add_mul]; omega
  · split <;> omega
  · split <;> omega
  · rw [← hone]; split <;> omega
end Go.Proofs.Ytoejhikcnnppnaa.wid
