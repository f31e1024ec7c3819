/- Contracts of buckets.Expire and of its reference. -/
import Derived.Test.YteajgmihhnghfaaApp
import Derived.Deep.QuietTactic
import Derived.BigQuiet
import Derived.Deep.LoopGhost
import Derived.LoopTactic
import Derived.Outline
namespace Go.Proofs.Yteajgmihhnghfaa.lst
open Go.RowKit Go.Proofs.Yteajgmihhnghfaa.mem
set_option linter.unusedVariables false

def expireL (f : Int) (xs : List (Int × Int)) : List (Int × Int) := xs.dropWhile (fun p => decide (p.1 < f))

/-- A slice of pairs that is handed back: it lies in the world w', below its size. -/
def PSlice (w' : World) (ys : List (Int × Int)) (v : Value) : Prop := ∃ A m c, v = .slice A m c ∧ m ≤ c ∧ c ≤ maxLen ∧ PRead w' w'.heap.size A m ys

def ExpireR (xs : List (Int × Int)) (f : Int) (w : World) (B : Nat) (e : Ending) (w' : World) : Prop :=
  ∃ A m c, e = .returned (.slice A m c) ∧ m ≤ c ∧ c ≤ maxLen ∧ PRead w B A m (expireL f xs) ∧ w = w'

theorem expireL_le (f : Int) (xs : List (Int × Int)) : (expireL f xs).length ≤ xs.length := (List.dropWhile_sublist _).length_le
theorem expire_yes {f : Int} {ys : List (Int × Int)} (h : (ys[0]?.getD (0, 0)).1 < f) (h0 : 0 < ys.length) : expireL f (ys.drop 1) = expireL f ys := by
  cases ys with
  | nil => simp at h0
  | cons y ys => simp at h; simp [expireL, List.dropWhile, h]
theorem expire_no {f : Int} {ys : List (Int × Int)} (h : f ≤ (ys[0]?.getD (0, 0)).1) (h0 : 0 < ys.length) : expireL f ys = ys := by
  cases ys with
  | nil => simp at h0
  | cons y ys => simp at h; simp [expireL, List.dropWhile, show ¬ y.1 < f from by omega]

end Go.Proofs.Yteajgmihhnghfaa.lst
