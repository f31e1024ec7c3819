/- Hold; Sum: texts in one. -/
import Derived.Test.YtnohkjalglogaaaBnd
import Derived.Test.YtnohkjalglogaaaMg6
import Derived.Test.YtnohkjalglogaaaSteady
import Derived.Deep.DeepCutAuto
/- Contracts of Holds of bounds. -/
namespace Go.Proofs.Ytnohkjalglogaaa.wid
open Go.RowKit Go.Proofs.Ytnohkjalglogaaa.mem Go.Proofs.Ytnohkjalglogaaa.gro
set_option linter.unusedVariables false
set_option linter.unusedSimpArgs false
def holdB (a0 a1 b0 b1 c0 c1 n d : Int) : Bool := validB a0 a1 b0 b1 c0 c1 && validQ n d && decide (cmpQ a0 a1 n d ≤ 0) && decide (cmpQ n d c0 c1 ≤ 0)
end Go.Proofs.Ytnohkjalglogaaa.wid

/- Contracts of the sums of rational numbers. -/
namespace Go.Proofs.Ytnohkjalglogaaa.wid
open Go.RowKit Go.Proofs.Ytnohkjalglogaaa.mem Go.Proofs.Ytnohkjalglogaaa.gro
set_option linter.unusedVariables false
def sumN (n d m e : Int) (minus : Bool) : Int := if validQ n d = true ∧ validQ m e = true then rN (n * e + sg minus m * d) (d * e) else 0
def sumD (n d m e : Int) (minus : Bool) : Int := if validQ n d = true ∧ validQ m e = true then rD (n * e + sg minus m * d) (d * e) else 0
def sumOk (n d m e : Int) (minus : Bool) : Bool := validQ n d && validQ m e && rOk (n * e + sg minus m * d) (d * e)
theorem sum_yes {n d m e : Int} {minus : Bool} (hv : validQ n d = true) (hu : validQ m e = true) : sumN n d m e minus = rN (n * e + sg minus m * d) (d * e) ∧ sumD n d m e minus = rD (n * e + sg minus m * d) (d * e) ∧ sumOk n d m e minus = rOk (n * e + sg minus m * d) (d * e) := by
  unfold sumN sumD sumOk
  rw [if_pos ⟨hv, hu⟩, if_pos ⟨hv, hu⟩, hv, hu]
  exact ⟨rfl, rfl, rfl⟩
theorem sum_no {n d m e : Int} {minus : Bool} (h : ¬ (validQ n d = true ∧ validQ m e = true)) : sumN n d m e minus = 0 ∧ sumD n d m e minus = 0 ∧ sumOk n d m e minus = false := by
  unfold sumN sumD sumOk
  rw [if_neg h, if_neg h]
  refine ⟨rfl, rfl, ?_⟩
  cases h1 : validQ n d <;> cases h2 : validQ m e <;> simp_all
theorem prod_at {F : FuncId} (hP : ∀ (x y : Int), 0 ≤ x → x ≤ 18446744073709551615 → 0 ≤ y → y ≤ 18446744073709551615 → ∀ W : World, Calls Try.prog F #[.int .u64 x, .int .u64 y] W fun e w' => e = .returned (Value.agg #[Value.int IntKind.u64 (hi (x.toNat * y.toNat)), Value.int IntKind.u64 (lo (x.toNat * y.toNat))]) ∧ Below W.heap.size W w')
    (n e : Int) (hn : I64 n) (he : I64 e) (he1 : 1 ≤ e) (W : World) : Calls Try.prog F #[.int .u64 n.natAbs, .int .u64 e] W fun x w' => x = .returned (Value.agg #[Value.int IntKind.u64 (hi (n.natAbs * e.natAbs)), Value.int IntKind.u64 (lo (n.natAbs * e.natAbs))]) ∧ Below W.heap.size W w' := by
  have := hP n.natAbs e (by omega) (by unfold I64 at hn; omega) (by omega) (by unfold I64 at he; omega) W
  rwa [Int.toNat_natCast, show e.toNat = e.natAbs by omega] at this
theorem prod_pos {F : FuncId} (hP : ∀ (x y : Int), 0 ≤ x → x ≤ 18446744073709551615 → 0 ≤ y → y ≤ 18446744073709551615 → ∀ W : World, Calls Try.prog F #[.int .u64 x, .int .u64 y] W fun e w' => e = .returned (Value.agg #[Value.int IntKind.u64 (hi (x.toNat * y.toNat)), Value.int IntKind.u64 (lo (x.toNat * y.toNat))]) ∧ Below W.heap.size W w')
    (d e : Int) (hd : I64 d) (he : I64 e) (hd1 : 1 ≤ d) (he1 : 1 ≤ e) (W : World) : Calls Try.prog F #[.int .u64 d, .int .u64 e] W fun x w' => x = .returned (Value.agg #[Value.int IntKind.u64 (hi ((d * e).natAbs)), Value.int IntKind.u64 (lo ((d * e).natAbs))]) ∧ Below W.heap.size W w' := by
  have := hP d e (by omega) (by unfold I64 at hd; omega) (by omega) (by unfold I64 at he; omega) W
  rwa [show d.toNat = d.natAbs by omega, show e.toNat = e.natAbs by omega, ← Int.natAbs_mul] at this
end Go.Proofs.Ytnohkjalglogaaa.wid
