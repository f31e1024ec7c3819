/- Narrow intervals stay narrow. -/
import Derived.Test.YtoejhikcnnppnaaWithin
namespace Go.Proofs.Ytoejhikcnnppnaa.wid
open Go.RowKit
set_option linter.unusedVariables false
theorem with_narrow {a0 a1 a2 a3 a4 a5 k j n d m e : Int} (h : withB a0 a1 a2 a3 a4 a5 k n d = true) (hj : 1 ≤ j) (hjk : j ≤ k) (hu : validQ m e = true) (hc : cmpQ n d m e ≤ 0) : withB a0 a1 a2 a3 a4 a5 j m e = true := by
  unfold withB at h ⊢
  simp only [Bool.and_eq_true, decide_eq_true_eq] at h ⊢
  obtain ⟨⟨⟨⟨hb, hv⟩, hk⟩, hn⟩, hw⟩ := h
  have hB := hb
  unfold validB at hB
  simp only [Bool.and_eq_true, decide_eq_true_eq] at hB
  obtain ⟨⟨⟨⟨v0, v2⟩, v4⟩, c1⟩, c2⟩ := hB
  have hle : a0 * a5 ≤ a4 * a1 := (cmpQ_le v0 v4).1 (cmpQ_trans v0 v2 v4 c1 c2)
  have hnm := (cmpQ_le hv hu).1 hc
  have pd := valid_pos hv
  have pe := valid_pos hu
  have pD : 1 ≤ a1 * a5 := by
    have := Int.mul_pos (show 0 < a1 by have := valid_pos v0; omega) (show 0 < a5 by have := valid_pos v4; omega)
    omega
  have hm : 0 ≤ m := by
    have h1 : 0 ≤ n * e := Int.mul_nonneg hn (by omega)
    rcases Int.lt_or_le m 0 with h2 | h2
    · have := Int.mul_neg_of_neg_of_pos h2 (show 0 < d by omega)
      omega
    · exact h2
  have hW : 0 ≤ a4 * a1 - a0 * a5 := by omega
  generalize a4 * a1 - a0 * a5 = W at *
  have h3 := q_trans pD pd pe hw hnm
  have h4 := Int.mul_le_mul_of_nonneg_right (Int.mul_le_mul_of_nonneg_right hjk hW) (show 0 ≤ e by omega)
  exact ⟨⟨⟨⟨hb, hu⟩, hj⟩, hm⟩, by omega⟩
end Go.Proofs.Ytoejhikcnnppnaa.wid
