/- What Add computes is what the reference computes. No program. -/
import Derived.Test.YteajgmihhnghfaaExtB
import Derived.Test.YteajgmihhnghfaaExtL2
namespace Go.Proofs.Yteajgmihhnghfaa.ext
open Go.Proofs.Yteajgmihhnghfaa.buk (at_)
set_option linter.unusedVariables false
theorem popN_le (m : Bool) (x : Int) (xs : L2) : ∀ n, popN m x xs n ≤ n
  | 0 => Nat.le_refl _
  | n + 1 => by
    unfold popN
    by_cases h : key m (at_ xs n).2 ≤ key m x
    · rw [if_pos h]; have := popN_le m x xs n; omega
    · rw [if_neg h]; exact Nat.le_refl _
theorem popN_hi {m : Bool} {x : Int} {xs : L2} : ∀ {n i}, popN m x xs n ≤ i → i < n → key m (at_ xs i).2 ≤ key m x
  | 0, i, _, h => absurd h (by omega)
  | n + 1, i, h1, h2 => by
    unfold popN at h1
    by_cases h : key m (at_ xs n).2 ≤ key m x
    · rw [if_pos h] at h1
      by_cases e : i = n
      · rw [e]; exact h
      · exact popN_hi h1 (by omega)
    · rw [if_neg h] at h1; omega
theorem popN_lo {m : Bool} {x : Int} {xs : L2} : ∀ {n}, 0 < popN m x xs n → ¬ key m (at_ xs (popN m x xs n - 1)).2 ≤ key m x
  | 0, h => absurd h (by unfold popN; omega)
  | n + 1, h1 => by
    unfold popN at h1 ⊢
    by_cases h : key m (at_ xs n).2 ≤ key m x
    · rw [if_pos h] at h1 ⊢; exact popN_lo h1
    · rw [if_neg h]; simp only [Nat.add_sub_cancel]; exact h
theorem take_last {xs : L2} {k : Nat} (h0 : 0 < k) (hk : k ≤ xs.length) : (xs.take k).getLast? = some (at_ xs (k - 1)) := by
  rw [List.getLast?_eq_getElem?, List.length_take, Nat.min_eq_left hk, List.getElem?_take_of_lt (by omega), List.getElem?_eq_getElem (by omega), at_eq (by omega)]
theorem add_kept {m : Bool} {xs : L2} {o x : Int} (hg : Good m xs) (ht : ∀ q ∈ xs, q.1 ≤ o) : IsKept m (xs ++ [(o, x)]) (addL m x o xs) := by
  obtain ⟨K, hK⟩ : ∃ K, popN m x xs xs.length = K := ⟨_, rfl⟩
  have hle := popN_le m x xs xs.length
  rw [hK] at hle
  have key := kept_snoc (m := m) (xs := xs) (k := xs.take K) (r := xs.drop K) (t := o) (v := x) hg (List.take_append_drop _ _).symm ht (fun q hq => by
    obtain ⟨i, hi, rfl⟩ := mem_at hq
    rw [List.length_drop] at hi
    have e : at_ (xs.drop K) i = at_ xs (K + i) := by simp [at_, List.getElem?_drop]
    rw [e]
    exact popN_hi (n := xs.length) (by omega) (by omega)) (fun q hq => by
    by_cases h0 : 0 < K
    · rw [take_last h0 hle] at hq
      injection hq with hq
      subst hq
      have := popN_lo (m := m) (x := x) (xs := xs) (n := xs.length) (by omega)
      rw [hK] at this
      omega
    · obtain rfl : K = 0 := by omega
      simp at hq)
  have e : addL m x o xs = if xs.take K = [] ∨ ∀ q, (xs.take K).getLast? = some q → q.1 < o then xs.take K ++ [(o, x)] else xs.take K := by
    unfold addL pushB
    rw [hK]
    by_cases h0 : 0 < K
    · have hne : xs.take K ≠ [] := fun h => by
        have : (xs.take K).length = 0 := by rw [h]; rfl
        rw [List.length_take] at this; omega
      by_cases h1 : (at_ xs (K - 1)).1 < o
      · rw [if_pos (by rw [decide_eq_true h1, Bool.or_true]), if_pos (.inr (fun q hq => by rw [take_last h0 hle] at hq; injection hq with hq; rw [← hq]; exact h1))]
      · rw [if_neg (by rw [decide_eq_false h1, decide_eq_false (by omega)]; decide), if_neg (fun h => by
          rcases h with h | h
          · exact hne h
          · exact h1 (h _ (take_last h0 hle)))]
    · obtain rfl : K = 0 := by omega
      rw [if_pos (by rfl), if_pos (.inl (by simp))]
  rw [e]
  exact key
theorem add_law {m : Bool} {v p o x : Int} {xs : L2} {n : Nat} (h : valE m v p o xs = true) (hl : xs.length = n) : keptN m (xs ++ [(o, x)]) (n + 1) = addL m x o xs ∧ fullE m x o p xs = decide (p < (addL m x o xs).length) := by
  obtain ⟨_, _, hall⟩ := valE_facts h
  have hk := add_kept (m := m) (x := x) (o := o) (valE_good h) (fun q hq => (hall q hq).2)
  have e := kept_eq hk
  rw [List.length_append, hl] at e
  refine ⟨e, ?_⟩
  have hp := valE_cap' h
  have hle := popN_le m x xs xs.length
  unfold fullE addL
  cases hb : pushB m x o xs
  · rw [if_neg (by decide), Bool.false_and, eq_comm, decide_eq_false_iff_not, List.length_take]
    omega
  · rw [if_pos rfl, Bool.true_and, List.length_append, List.length_take, List.length_singleton]
    congr 1
    rw [eq_iff_iff]
    omega
theorem addL_len (m : Bool) (x o : Int) (xs : L2) : (addL m x o xs).length ≤ xs.length + 1 := by
  have := popN_le m x xs xs.length
  unfold addL
  split
  · rw [List.length_append, List.length_take, List.length_singleton]; omega
  · rw [List.length_take]; omega
end Go.Proofs.Yteajgmihhnghfaa.ext
