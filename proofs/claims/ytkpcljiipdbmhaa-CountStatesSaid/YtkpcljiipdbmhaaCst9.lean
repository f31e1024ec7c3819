/- Lengths of lists of a law's states; the form of an answer. -/
import Derived.Test.YtkpcljiipdbmhaaCst3
import Derived.Test.YtkpcljiipdbmhaaMgOwn2
import Derived.Test.YtkpcljiipdbmhaaMgMany
import Derived.Test.YtkpcljiipdbmhaaRMany
namespace Go.Proofs.Ytkpcljiipdbmhaa.cst
open Go.RowKit Go.Proofs.Ytkpcljiipdbmhaa.mem Go.Proofs.Ytkpcljiipdbmhaa.lst
set_option linter.unusedVariables false
theorem ask_form (ft : Bool) (xs : List (Int × Int)) : ∃ m0 m1 m2 m3 m4 m5 : Int, askV ft xs = .agg #[.int .i64 m0, .int .i64 m1, .int .i64 m2, .int .i64 m3, .int .i64 m4, .int .i64 m5] := by
  cases ft
  · exact ⟨0, 0, 0, 0, 0, 0, rfl⟩
  · exact ⟨_, _, _, _, _, _, rfl⟩
theorem lsb_C {xs : List (Int × Int)} (n : Nat) (h : xs.length = n) (hs : n ≤ 300) (b : Bool) {k o : Int} : (lsK b (insI xs k o)).length ≤ 2000 := by
  have := insI_length xs k o
  unfold lsK; split <;> simp <;> omega
theorem lsb_S {xs : List (Int × Int)} (n : Nat) (h : xs.length = n) (hs : n ≤ 300) (b : Bool) {k o x : Int} : (lsK b (insM xs k o x)).length ≤ 2000 := by
  have := insM_length xs k o x
  unfold lsK; split <;> simp <;> omega
end Go.Proofs.Ytkpcljiipdbmhaa.cst
