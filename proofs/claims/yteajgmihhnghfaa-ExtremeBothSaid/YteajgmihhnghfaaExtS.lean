/- Merging two deques in order that are not too long. -/
import Derived.Test.YteajgmihhnghfaaExtO
namespace Go.Proofs.Yteajgmihhnghfaa.ext
open Go.RowKit Go.Proofs.Yteajgmihhnghfaa.mem Go.Proofs.Yteajgmihhnghfaa.gro
set_option linter.unusedVariables false
theorem MergeE_ok {m : Bool} {v p o : Int} {A1 A2 : Option Addr} {n1 c1 n2 c2 : Nat} {xs ys : L2} {w : World} (h1 : PRead w w.heap.size A1 n1 xs) (hnc1 : n1 ≤ c1) (hcm1 : c1 ≤ maxLen) (hs1 : n1 ≤ 400) (h2 : PRead w w.heap.size A2 n2 ys) (hnc2 : n2 ≤ c2) (hcm2 : c2 ≤ maxLen) (hs2 : n2 ≤ 400) (hf1 : valE m v p o xs = true) (hf2 : valE m v p o ys = true) (hl : ((n1 : Int) + n2) ≤ p) :
    Calls Try.prog 29 #[.agg #[Value.bool m, Value.int IntKind.i64 v, Value.int IntKind.i64 p, Value.int IntKind.i64 o, Value.slice A1 n1 c1], .agg #[Value.bool m, Value.int IntKind.i64 v, Value.int IntKind.i64 p, Value.int IntKind.i64 o, Value.slice A2 n2 c2]] w (NewE m v p o (keptN m (xs ++ ys) (n1 + n2)) 0 w) := by
  have := Merge_f m v p o m v p o A1 n1 c1 xs A2 n2 c2 ys w h1 hnc1 hcm1 hs1 h2 hnc2 hcm2 hs2
  have hk := keptN_len m (xs ++ ys) (n1 + n2)
  have hmx : max p p = p := by omega
  rw [hmx, hf1, hf2, decide_eq_true (show m = m ∧ v = v ∧ o = o from ⟨rfl, rfl, rfl⟩), decide_eq_false (show ¬ p < ((keptN m (xs ++ ys) (n1 + n2)).length : Int) by omega), mgE_5] at this
  simpa only [kp_t, kb_t, lsK_t, Bool.true_and, Bool.not_false] using this
end Go.Proofs.Yteajgmihhnghfaa.ext
