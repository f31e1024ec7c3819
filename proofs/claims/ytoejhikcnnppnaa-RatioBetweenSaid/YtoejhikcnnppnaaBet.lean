/- Floors and ceilings fit. -/
import Derived.Test.YtoejhikcnnppnaaRatL
import Derived.Test.YtoejhikcnnppnaaMake
namespace Go.Proofs.Ytoejhikcnnppnaa.wid
open Go.RowKit
theorem ediv_bd {m d L U : Int} (hd : 1 ≤ d) (h1 : L ≤ m) (h2 : m ≤ U) (hL : L ≤ 0) (hU : 0 ≤ U) : L ≤ m / d ∧ m / d ≤ U := by
  have e := Int.mul_ediv_add_emod m d
  have r0 := Int.emod_nonneg m (show d ≠ 0 by omega)
  have r1 := Int.emod_lt_of_pos m (show 0 < d by omega)
  generalize m / d = q at *
  generalize m % d = r at *
  constructor
  · by_cases hq : 0 ≤ q
    · omega
    · have h3 : d * (q + 1) ≤ 1 * (q + 1) := Int.mul_le_mul_of_nonpos_right hd (by omega)
      rw [Int.mul_add] at h3
      omega
  · by_cases hq : 0 ≤ q
    · have h3 : 1 * q ≤ d * q := Int.mul_le_mul_of_nonneg_right hd hq
      omega
    · omega
theorem floor_bd {n d : Int} (hn : I64 n) : I64 (floorQ n d) := by
  unfold floorQ
  split
  · rename_i hv
    exact ediv_bd (validQ_iff.1 hv).1 hn.1 hn.2 (by omega) (by omega)
  · unfold I64; omega
theorem ceil_bd {n d : Int} (hn : I64 n) : I64 (ceilQ n d) := by
  unfold ceilQ
  split
  · rename_i hv
    have := @ediv_bd (-n) d (-9223372036854775807) 9223372036854775808 (validQ_iff.1 hv).1 (by unfold I64 at hn; omega) (by unfold I64 at hn; omega) (by omega) (by omega)
    unfold I64; omega
  · unfold I64; omega
end Go.Proofs.Ytoejhikcnnppnaa.wid
