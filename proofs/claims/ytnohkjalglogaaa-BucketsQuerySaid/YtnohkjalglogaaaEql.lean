/- Structs of two numbers, compared. -/
import Derived.Test.YtnohkjalglogaaaWide
import Derived.Laws.StructEq
namespace Go.Proofs.Ytnohkjalglogaaa.wid
open Go.RowKit Go.Proofs.Ytnohkjalglogaaa.mem Go.Proofs.Ytnohkjalglogaaa.gro
set_option linter.unusedVariables false
set_option linter.unusedSimpArgs false
theorem wide_eql0 (p q r s : Int) (w : World) : (binOp .eql 68 (Value.agg #[Value.int IntKind.u64 p, Value.int IntKind.u64 q]) (Value.agg #[Value.int IntKind.u64 r, Value.int IntKind.u64 s])).run Try.prog w = .ok (.bool (decide (p = r ∧ q = s))) w := by
  by_cases h1 : p = r
  · subst h1
    by_cases h2 : q = s
    · subst h2
      go_simp
    · go_simp
  · go_simp
theorem ratio_eql0 (p q r s : Int) (w : World) : (binOp .eql 47 (Value.agg #[Value.int IntKind.i64 p, Value.int IntKind.i64 q]) (Value.agg #[Value.int IntKind.i64 r, Value.int IntKind.i64 s])).run Try.prog w = .ok (.bool (decide (p = r ∧ q = s))) w := by
  by_cases h1 : p = r
  · subst h1
    by_cases h2 : q = s
    · subst h2
      go_simp
    · go_simp
  · go_simp
theorem wide_neq0 (p q r s : Int) (w : World) : (binOp .neq 68 (Value.agg #[Value.int IntKind.u64 p, Value.int IntKind.u64 q]) (Value.agg #[Value.int IntKind.u64 r, Value.int IntKind.u64 s])).run Try.prog w = .ok (.bool (!decide (p = r ∧ q = s))) w := by
  by_cases h1 : p = r
  · subst h1
    by_cases h2 : q = s
    · subst h2
      go_simp
    · go_simp
  · go_simp
theorem ratio_neq0 (p q r s : Int) (w : World) : (binOp .neq 47 (Value.agg #[Value.int IntKind.i64 p, Value.int IntKind.i64 q]) (Value.agg #[Value.int IntKind.i64 r, Value.int IntKind.i64 s])).run Try.prog w = .ok (.bool (!decide (p = r ∧ q = s))) w := by
  by_cases h1 : p = r
  · subst h1
    by_cases h2 : q = s
    · subst h2
      go_simp
    · go_simp
  · go_simp
theorem wide_eql (a b : Nat) (w : World) : (binOp .eql 68 (Value.agg #[Value.int IntKind.u64 (hi (a)), Value.int IntKind.u64 (lo (a))]) (Value.agg #[Value.int IntKind.u64 (hi (b)), Value.int IntKind.u64 (lo (b))])).run Try.prog w = .ok (.bool (decide (a = b))) w := by
  rw [wide_eql0, decide_eq_decide.2 ⟨fun h => eq_of h.1 h.2, fun h => by subst h; exact ⟨rfl, rfl⟩⟩]
theorem wide_neq (a b : Nat) (w : World) : (binOp .neq 68 (Value.agg #[Value.int IntKind.u64 (hi (a)), Value.int IntKind.u64 (lo (a))]) (Value.agg #[Value.int IntKind.u64 (hi (b)), Value.int IntKind.u64 (lo (b))])).run Try.prog w = .ok (.bool (!decide (a = b))) w := by
  rw [wide_neq0, decide_eq_decide.2 ⟨fun h => eq_of h.1 h.2, fun h => by subst h; exact ⟨rfl, rfl⟩⟩]
end Go.Proofs.Ytnohkjalglogaaa.wid
