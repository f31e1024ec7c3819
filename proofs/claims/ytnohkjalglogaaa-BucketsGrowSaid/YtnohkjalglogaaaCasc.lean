/- The cascade of an insertion, as the code makes it. No program. -/
import Derived.Test.YtnohkjalglogaaaBuk
namespace Go.Proofs.Ytnohkjalglogaaa.buk
/-- Where the run of level l that ends at position e begins. -/
def runB (xs : L2) (l : Int) : Nat → Nat
  | 0 => 0
  | b + 1 => if (at_ xs b).2 = l then runB xs l b else b + 1
theorem runB_le (xs : L2) (l : Int) (e : Nat) : runB xs l e ≤ e := by
  induction e with
  | zero => exact Nat.le_refl _
  | succ e ih => simp only [runB]; split <;> omega
def joined (xs : L2) (b : Nat) (l : Int) : L2 := xs.take b ++ ((at_ xs (b + 1)).1, l + 1) :: xs.drop (b + 2)
theorem joined_eq {xs : L2} {b : Nat} {l : Int} (h : b < xs.length) : (xs.set b ((at_ xs (b + 1)).1, l + 1)).take (b + 1) ++ (xs.set b ((at_ xs (b + 1)).1, l + 1)).drop (b + 2) = joined xs b l := by
  rw [List.take_set, List.drop_set_of_lt (by omega), List.take_succ_eq_append_getElem h, List.set_append_right _ _ (by rw [List.length_take]; omega)]
  have : b - (xs.take b).length = 0 := by rw [List.length_take]; omega
  rw [this, joined]
  simp
theorem joined_length {xs : L2} {b : Nat} {l : Int} (h : b + 1 < xs.length) : (joined xs b l).length = xs.length - 1 := by
  simp [joined]; omega
def casc (k : Nat) : Nat → L2 → Nat → Nat → L2
  | 0, xs, _, _ => xs
  | f + 1, xs, l, e => if e - runB xs l e < k + 2 then xs else casc k f (joined xs (runB xs l e) l) (l + 1) (runB xs l e + 1)
theorem casc_stop {k f : Nat} {xs : L2} {l e : Nat} (h : e - runB xs l e < k + 2) : casc k f xs l e = xs := by
  cases f with
  | zero => rfl
  | succ f => simp [casc, h]
theorem casc_go {k f : Nat} {xs : L2} {l e : Nat} (h : ¬ e - runB xs l e < k + 2) : casc k (f + 1) xs l e = casc k f (joined xs (runB xs l e) l) (l + 1) (runB xs l e + 1) := by
  simp [casc, h]
def insC (xs : L2) (k : Nat) (t : Int) : L2 := casc k (xs.length + 1) (xs ++ [(t, 0)]) 0 (xs.length + 1)
theorem casc_length (k : Nat) (hk : 1 ≤ k) : ∀ (f : Nat) (xs : L2) (l e : Nat), e ≤ xs.length → (casc k f xs l e).length ≤ xs.length
  | 0, _, _, _, _ => Nat.le_refl _
  | f + 1, xs, l, e, he => by
    by_cases h : e - runB xs l e < k + 2
    · rw [casc_stop h]; exact Nat.le_refl _
    · rw [casc_go h]
      have hb := runB_le xs l e
      have hj := joined_length (xs := xs) (b := runB xs l e) (l := l) (by omega)
      have := casc_length k hk f (joined xs (runB xs l e) l) (l + 1) (runB xs l e + 1) (by omega)
      omega
theorem insC_length (xs : L2) (k : Nat) (hk : 1 ≤ k) (t : Int) : (insC xs k t).length ≤ xs.length + 1 := by
  have := casc_length k hk (xs.length + 1) (xs ++ [(t, 0)]) 0 (xs.length + 1) (by simp)
  simpa [insC] using this
def iterIns (k : Nat) (t : Int) : Nat → L2 → L2
  | 0, xs => xs
  | m + 1, xs => iterIns k t m (insC xs k t)
theorem iterIns_length (k : Nat) (hk : 1 ≤ k) (t : Int) (m : Nat) (xs : L2) : (iterIns k t m xs).length ≤ xs.length + m := by
  induction m generalizing xs with
  | zero => exact Nat.le_refl _
  | succ m ih =>
    have h1 := ih (insC xs k t)
    have h2 := insC_length xs k hk t
    simp only [iterIns]; omega
end Go.Proofs.Ytnohkjalglogaaa.buk
