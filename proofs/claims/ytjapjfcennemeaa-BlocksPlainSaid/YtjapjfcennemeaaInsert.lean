/- Contracts of buckets.may, Insert and InsertMany. -/
import Derived.Test.YtjapjfcennemeaaMgIns
import Derived.Test.YtjapjfcennemeaaValid
namespace Go.Proofs.Ytjapjfcennemeaa.lst
open Go.RowKit Go.Proofs.Ytjapjfcennemeaa.mem Go.Proofs.Ytjapjfcennemeaa.buk
set_option linter.unusedVariables false

def lastT (xs : List (Int × Int)) : Int := if xs.length = 0 then 0 else (at_ xs (xs.length - 1)).1
def mayB (xs : List (Int × Int)) (t : Int) : Bool := decide ((0 ≤ t ∧ t ≤ 16777216) ∧ lastT xs ≤ t)
theorem mayB_iff {xs : List (Int × Int)} {t : Int} : mayB xs t = true ↔ (0 ≤ t ∧ t ≤ 16777216) ∧ lastT xs ≤ t := by simp [mayB]
theorem mayB_f {xs : List (Int × Int)} {t : Int} (h : ¬ ((0 ≤ t ∧ t ≤ 16777216) ∧ lastT xs ≤ t)) : mayB xs t = false := by
  cases hb : mayB xs t with
  | false => rfl
  | true => exact absurd (mayB_iff.1 hb) h

open Classical in
noncomputable def insI (xs : List (Int × Int)) (k t : Int) : List (Int × Int) :=
  if validB xs k = true ∧ mayB xs t = true ∧ totalN xs < 1073741824 then insC xs k.toNat t else []
theorem insI_t {xs : List (Int × Int)} {k t : Int} (h : validB xs k = true ∧ mayB xs t = true ∧ totalN xs < 1073741824) : insI xs k t = insC xs k.toNat t := if_pos h
theorem insI_f {xs : List (Int × Int)} {k t : Int} (h : ¬ (validB xs k = true ∧ mayB xs t = true ∧ totalN xs < 1073741824)) : insI xs k t = [] := if_neg h
theorem newP_nil (w w' : World) (hb : Below w.heap.size w w') : NewP [] w (.returned (.slice none 0 0)) w' := ⟨none, 0, 0, rfl, Nat.le_refl _, Nat.zero_le _, .nil_, hb⟩

end Go.Proofs.Ytjapjfcennemeaa.lst
