/- Bounds of whole numbers are valid; bounds compared with themselves. -/
import Derived.Test.YtnohkjalglogaaaWholeR
import Derived.Test.YtnohkjalglogaaaExact
import Derived.Test.YtnohkjalglogaaaEql
namespace Go.Proofs.Ytnohkjalglogaaa.wid
open Go.RowKit Go.Proofs.Ytnohkjalglogaaa.mem Go.Proofs.Ytnohkjalglogaaa.gro
set_option linter.unusedVariables false
set_option linter.unusedSimpArgs false
theorem valid_one (x : Int) : validQ x 1 = true := validQ_iff.2 ⟨by omega, by simp⟩
theorem cmp_one {x y : Int} (h : x ≤ y) : cmpQ x 1 y 1 ≤ 0 := by
  unfold cmpQ cmpZ
  rw [if_pos ⟨valid_one x, valid_one y⟩, Int.mul_one, Int.mul_one]
  split
  · omega
  · split <;> omega
theorem whole_valid {x y : Int} (h : x ≤ y) : validB x 1 ((x + y) / 2) 1 y 1 = true := by
  unfold validB
  rw [valid_one, valid_one, valid_one, decide_eq_true (cmp_one (show x ≤ (x + y) / 2 by omega)), decide_eq_true (cmp_one (show (x + y) / 2 ≤ y by omega))]
  rfl
theorem bnd_eql (a b c d e f : Int) (w : World) : (binOp .eql 49 (Value.agg #[Value.int IntKind.i64 a, Value.int IntKind.i64 b, Value.int IntKind.i64 c, Value.int IntKind.i64 d, Value.int IntKind.i64 e, Value.int IntKind.i64 f]) (Value.agg #[Value.int IntKind.i64 a, Value.int IntKind.i64 b, Value.int IntKind.i64 c, Value.int IntKind.i64 d, Value.int IntKind.i64 e, Value.int IntKind.i64 f])).run Try.prog w = .ok (.bool true) w := by
  go_simp
end Go.Proofs.Ytnohkjalglogaaa.wid
