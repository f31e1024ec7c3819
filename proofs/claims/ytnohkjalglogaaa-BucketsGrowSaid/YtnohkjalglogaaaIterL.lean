/- Several insertions, as lists. No program. -/
import Derived.Test.YtnohkjalglogaaaKeepL
namespace Go.Proofs.Ytnohkjalglogaaa.buk
theorem iterIns_succ (k : Nat) (t : Int) (m : Nat) (xs : L2) : iterIns k t (m + 1) xs = insC (iterIns k t m xs) k t := by
  induction m generalizing xs with
  | zero => rfl
  | succ m ih => rw [iterIns, ih]; rfl
theorem iter_valid {k : Nat} {t : Int} (ht : 0 ≤ t ∧ t ≤ 16777216) : ∀ (m : Nat) (xs : L2), ValidP xs k → (0 < xs.length → tailT xs ≤ t) → wgt xs + m ≤ 1073741824 →
    ValidP (iterIns k t m xs) k ∧ (0 < (iterIns k t m xs).length → tailT (iterIns k t m xs) ≤ t) ∧ wgt (iterIns k t m xs) = wgt xs + m ∧ (0 < m → 0 < (iterIns k t m xs).length)
  | 0, xs, hv, hm, hw => ⟨hv, hm, rfl, fun h => absurd h (Nat.lt_irrefl 0)⟩
  | m + 1, xs, hv, hm, hw => by
    obtain ⟨a1, a2, a3, a4⟩ := insC_valid hv ht hm (by omega)
    obtain ⟨b1, b2, b3, b4⟩ := iter_valid ht m (insC xs k t) a1 (fun _ => by omega) (by omega)
    refine ⟨b1, b2, by rw [iterIns, b3, a2]; omega, fun _ => ?_⟩
    rw [iterIns]
    rcases Nat.eq_zero_or_pos m with h | h
    · subst h; exact a4
    · exact b4 h
def iterPut (k : Nat) (t : Int) : Nat → L2 → L2
  | 0, xs => xs
  | m + 1, xs => iterPut k t m (putC xs k t)
theorem iterPut_eq {k : Nat} (hk : 1 ≤ k) {t : Int} (ht : 0 ≤ t ∧ t ≤ 16777216) : ∀ (m : Nat) (xs : L2), ValidP xs k → (0 < xs.length → tailT xs ≤ t) → wgt xs + m ≤ 1073741824 → iterPut k t m xs = iterIns k t m xs
  | 0, _, _, _, _ => rfl
  | m + 1, xs, hv, hm, hw => by
    obtain ⟨a1, a2, a3, a4⟩ := insC_valid hv ht hm (by omega)
    rw [iterPut, iterIns, putC_eq hk hv.2.1 (by omega) t]
    exact iterPut_eq hk ht m _ a1 (fun _ => by omega) (by omega)
end Go.Proofs.Ytnohkjalglogaaa.buk
