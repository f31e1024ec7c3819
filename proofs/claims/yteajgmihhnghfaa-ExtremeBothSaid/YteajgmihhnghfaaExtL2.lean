/- Facts that a state in order gives. No program. -/
import Derived.Test.YteajgmihhnghfaaExtV
namespace Go.Proofs.Yteajgmihhnghfaa.ext
open Go.Proofs.Yteajgmihhnghfaa.buk (at_)
set_option linter.unusedVariables false
theorem okAt_iff {m : Bool} {v o : Int} {xs : L2} {i : Nat} : okAt m v o xs i = true ↔ clk.liveB o v (at_ xs i).1 = true ∧ valB (at_ xs i).2 = true ∧ (0 < i → (at_ xs (i - 1)).1 < (at_ xs i).1 ∧ key m (at_ xs i).2 < key m (at_ xs (i - 1)).2) := by
  unfold okAt
  rw [Bool.and_eq_true, Bool.and_eq_true, Bool.or_eq_true, Bool.and_eq_true, decide_eq_true_iff, decide_eq_true_iff, decide_eq_true_iff, and_assoc]
  constructor
  · rintro ⟨h1, h2, h3⟩
    exact ⟨h1, h2, fun h => by rcases h3 with h3 | h3; omega; exact h3⟩
  · rintro ⟨h1, h2, h3⟩
    refine ⟨h1, h2, ?_⟩
    by_cases h : i = 0
    · exact .inl h
    · exact .inr (h3 (by omega))
theorem valE_facts {m : Bool} {v p o : Int} {xs : L2} (h : valE m v p o xs = true) : (0 ≤ o ∧ o ≤ 16777216) ∧ (1 ≤ v ∧ v ≤ 1048576) ∧ ∀ q ∈ xs, 0 ≤ q.1 ∧ q.1 ≤ o := by
  obtain ⟨h1, h2, h3⟩ := valE_iff.1 h
  obtain ⟨a, b, c⟩ := mayB_iff.1 h1
  refine ⟨c, a, fun q hq => ?_⟩
  obtain ⟨i, hi, rfl⟩ := mem_at hq
  have := clk.live_iff.1 (okAt_iff.1 (h3 i hi)).1
  omega
theorem valE_good {m : Bool} {v p o : Int} {xs : L2} (h : valE m v p o xs = true) : Good m xs := by
  obtain ⟨h1, h2, h3⟩ := valE_iff.1 h
  have step : ∀ d i j, j = i + d + 1 → j < xs.length → (at_ xs i).1 < (at_ xs j).1 ∧ key m (at_ xs j).2 < key m (at_ xs i).2 := by
    intro d
    induction d with
    | zero =>
      intro i j e hj
      have := (okAt_iff.1 (h3 j hj)).2.2 (by omega)
      rwa [show j - 1 = i by omega] at this
    | succ d ih =>
      intro i j e hj
      have a := ih i (j - 1) (by omega) (by omega)
      have b := (okAt_iff.1 (h3 j hj)).2.2 (by omega)
      omega
  refine List.pairwise_iff_getElem.2 (fun i j hi hj hij => ?_)
  have := step (j - i - 1) i j (by omega) hj
  rw [at_eq hi, at_eq hj] at this
  exact this
theorem valE_cap' {m : Bool} {v p o : Int} {xs : L2} (h : valE m v p o xs = true) : (xs.length : Int) ≤ p := (valE_iff.1 h).2.1
theorem good_valE {m : Bool} {v p o : Int} {xs : L2} (hm : mayB v p o = true) (hp : (xs.length : Int) ≤ p) (hg : Good m xs) (hl : ∀ q ∈ xs, clk.liveB o v q.1 = true ∧ valB q.2 = true) : valE m v p o xs = true := by
  refine valE_iff.2 ⟨hm, hp, fun i hi => okAt_iff.2 ⟨(hl _ (at_mem hi)).1, (hl _ (at_mem hi)).2, fun h => ?_⟩⟩
  have := List.pairwise_iff_getElem.1 hg (i - 1) i (by omega) hi (by omega)
  rw [at_eq hi, at_eq (show i - 1 < xs.length by omega)]
  exact this
theorem live_late {o v tt : Int} {q : Int × Int} (h : 0 ≤ q.1 ∧ q.1 ≤ o) (ho : 0 ≤ o ∧ o ≤ 16777216) (hv : 1 ≤ v ∧ v ≤ 1048576) (h1 : ¬ tt < o) (h2 : ¬ 16777216 < tt) : clk.liveB tt v q.1 = !decide (q.1 < tt - v + 1) := by
  by_cases hc : q.1 < tt - v + 1
  · rw [decide_eq_true hc, clk.live_iff0.2 (by omega)]; rfl
  · rw [decide_eq_false hc, clk.live_iff.2 (by omega)]; rfl
end Go.Proofs.Yteajgmihhnghfaa.ext
