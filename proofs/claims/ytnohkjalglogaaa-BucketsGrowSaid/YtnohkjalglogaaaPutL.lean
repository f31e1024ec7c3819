/- The reference's insertion as lists. No program. -/
import Derived.Test.YtnohkjalglogaaaCasc
namespace Go.Proofs.Ytnohkjalglogaaa.buk
def firstTo (xs : L2) (l : Int) : Nat → Int
  | 0 => -1
  | i + 1 => if firstTo xs l i < 0 ∧ (at_ xs i).2 = l then i else firstTo xs l i
theorem firstTo_spec (xs : L2) (l : Nat) : ∀ i, i ≤ xs.length → (firstTo xs l i = -1 ∧ cnt (xs.take i) l = 0) ∨ ∃ b : Nat, firstTo xs l i = b ∧ b < i ∧ cnt (xs.take i) l ≤ i - b
  | 0, _ => .inl ⟨rfl, by simp [cnt]⟩
  | i + 1, h => by
    have hc := cnt_take (xs := xs) (k := i) (by omega) l
    rcases firstTo_spec xs l i (by omega) with ⟨h1, h2⟩ | ⟨b, h1, h2, h3⟩
    · by_cases hl : (at_ xs i).2 = l
      · right
        refine ⟨i, by simp [firstTo, h1, hl], by omega, ?_⟩
        rw [hc, if_pos hl]; omega
      · left
        refine ⟨by simp [firstTo, h1, hl], ?_⟩
        rw [hc, if_neg hl]; omega
    · right
      refine ⟨b, ?_, by omega, ?_⟩
      · simp only [firstTo, h1]; rw [if_neg (by omega)]
      · rw [hc]; split <;> omega
def putR (k : Nat) : Nat → L2 → Nat → L2
  | 0, xs, _ => xs
  | f + 1, xs, l => if cnt xs l ≤ k + 1 then xs else putR k f (joined xs (firstTo xs l xs.length).toNat l) (l + 1)
theorem putR_stop {k f : Nat} {xs : L2} {l : Nat} (h : cnt xs l ≤ k + 1) : putR k f xs l = xs := by
  cases f with
  | zero => rfl
  | succ f => simp [putR, h]
theorem putR_go {k f : Nat} {xs : L2} {l : Nat} (h : ¬ cnt xs l ≤ k + 1) : putR k (f + 1) xs l = putR k f (joined xs (firstTo xs l xs.length).toNat l) (l + 1) := by
  simp [putR, h]
def putC (xs : L2) (k : Nat) (t : Int) : L2 := putR k 31 (xs ++ [(t, 0)]) 0
end Go.Proofs.Ytnohkjalglogaaa.buk
