/- What comes back as a new slice of pairs: its block is new. -/
import Derived.Test.YteajgmihhnghfaaApp
namespace Go.Proofs.Yteajgmihhnghfaa.lst
open Go.RowKit Go.Proofs.Yteajgmihhnghfaa.mem
set_option linter.unusedVariables false
def NewF (ys : List (Int × Int)) (w : World) (e : Ending) (w' : World) : Prop :=
  ∃ A m c, e = .returned (.slice A m c) ∧ m ≤ c ∧ (c ≤ maxLen ∧ ∀ ad, A = some ad → w.heap.size ≤ ad.block) ∧ PRead w' w'.heap.size A m ys ∧ Below w.heap.size w w'
theorem own_new {w : World} {base : Nat} {e : TypeId} {size n c : Nat} {A : Option Addr} {xs : List Value} (h : w.ownsRow base e size (.slice A n c) n xs) : ∀ ad, A = some ad → base ≤ ad.block := by
  rintro ad rfl
  exact own_block_ge h ad.block rfl
theorem newF_of_own {w W w1 : World} {base : Nat} {e : TypeId} {v : Value} {n : Nat} {ys : List (Int × Int)} {xs : List Value} {row : Option Nat} (hb : Below w.heap.size w W) (hown : w1.ownsRow base e 2 v n xs) (hx : xs = pc ys)
    (hg : W.grownBy w1 row) (hr : ∀ k, row = some k → w.heap.size ≤ k) (hbase : w.heap.size ≤ base := by first | exact Nat.le_refl _ | omega | (simp; omega)) : NewF ys w (.returned v) w1 := by
  obtain ⟨A, c, rfl, h1, h2, h3⟩ := own_form hown
  subst hx
  exact ⟨A, n, c, rfl, h1, ⟨h2, fun ad h => Nat.le_trans hbase (own_new hown ad h)⟩, h3, hb.grown hg hb.size hr⟩
theorem newF_own {w w1 : World} {base : Nat} {e : TypeId} {v : Value} {n : Nat} {ys : List (Int × Int)} {xs : List Value} (hb : Below w.heap.size w w1) (hown : w1.ownsRow base e 2 v n xs) (hx : xs = pc ys)
    (hbase : w.heap.size ≤ base := by first | exact Nat.le_refl _ | omega | (simp; omega)) : NewF ys w (.returned v) w1 := by
  obtain ⟨A, c, rfl, h1, h2, h3⟩ := own_form hown
  subst hx
  exact ⟨A, n, c, rfl, h1, ⟨h2, fun ad h => Nat.le_trans hbase (own_new hown ad h)⟩, h3, hb⟩
theorem newF_nil (w w' : World) (hb : Below w.heap.size w w') : NewF [] w (.returned (.slice none 0 0)) w' := ⟨none, 0, 0, rfl, Nat.le_refl _, ⟨Nat.zero_le _, fun ad h => by cases h⟩, .nil_, hb⟩
/-- Its block is new, or below a bound. -/
def NewG (B : Nat) (ys : List (Int × Int)) (w : World) (e : Ending) (w' : World) : Prop :=
  ∃ A m c, e = .returned (.slice A m c) ∧ m ≤ c ∧ (c ≤ maxLen ∧ (0 < m → ∀ ad, A = some ad → w.heap.size ≤ ad.block ∨ ad.block < B)) ∧ PRead w' w'.heap.size A m ys ∧ Below w.heap.size w w'
theorem newG_nil (B : Nat) (w w' : World) (hb : Below w.heap.size w w') : NewG B [] w (.returned (.slice none 0 0)) w' := ⟨none, 0, 0, rfl, Nat.le_refl _, ⟨Nat.zero_le _, fun _ ad h => by cases h⟩, .nil_, hb⟩
end Go.Proofs.Yteajgmihhnghfaa.lst
