/- Contracts of the references' Same over lists of pairs. -/
import Derived.Test.YteajgmihhnghfaaMem
import Derived.Deep.QuietTactic
import Derived.BigQuiet
import Derived.Deep.LoopGhost
import Derived.LoopTactic
import Derived.Outline
namespace Go.Proofs.Yteajgmihhnghfaa.lst
open Go.RowKit Go.Proofs.Yteajgmihhnghfaa.mem
set_option linter.unusedVariables false

theorem take_step {xs ys : List (Int × Int)} {k : Nat} (a1 : k < xs.length) (a2 : k < ys.length) (h : xs.take k = ys.take k) :
    (xs.take (k + 1) = ys.take (k + 1)) ↔ ((xs[k]?.getD (0, 0)).1 = (ys[k]?.getD (0, 0)).1 ∧ (xs[k]?.getD (0, 0)).2 = (ys[k]?.getD (0, 0)).2) := by
  rw [List.take_succ_eq_append_getElem a1, List.take_succ_eq_append_getElem a2, h, List.getElem?_eq_getElem a1, List.getElem?_eq_getElem a2, List.append_cancel_left_eq]
  simp [Prod.ext_iff]

end Go.Proofs.Yteajgmihhnghfaa.lst
