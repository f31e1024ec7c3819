/- Contracts of reduced, in the code and in the reference. -/
import Derived.Test.YtnohkjalglogaaaRat
namespace Go.Proofs.Ytnohkjalglogaaa.wid
open Go.RowKit Go.Proofs.Ytnohkjalglogaaa.mem Go.Proofs.Ytnohkjalglogaaa.gro
set_option linter.unusedVariables false
def rp (n d : Nat) : Nat := n / Nat.gcd n d
def rq (n d : Nat) : Nat := d / Nat.gcd n d
def fitsP (neg : Bool) (p q : Nat) : Bool := decide (q < 9223372036854775808) && (decide (p < 9223372036854775808) || (decide (p = 9223372036854775808) && neg))
def redOk (neg : Bool) (n d : Nat) : Bool := fitsP neg (rp n d) (rq n d)
def redN (neg : Bool) (n d : Nat) : Int := if redOk neg n d = true then (if neg = true then -(rp n d : Int) else rp n d) else 0
def redD (neg : Bool) (n d : Nat) : Int := if redOk neg n d = true then rq n d else 0
theorem red_no {neg : Bool} {n d : Nat} (h : redOk neg n d = false) : redN neg n d = 0 ∧ redD neg n d = 0 := by unfold redN redD; rw [h]; exact ⟨rfl, rfl⟩
theorem red_yes {neg : Bool} {n d : Nat} (h : redOk neg n d = true) : redN neg n d = (if neg = true then -(rp n d : Int) else rp n d) ∧ redD neg n d = rq n d := by unfold redN redD; rw [h]; exact ⟨rfl, rfl⟩
theorem ret_red {a b c d : Int} {x y : Bool} (h1 : a = c) (h2 : b = d) (h3 : x = y) : Ending.returned (.tuple #[(Value.agg #[Value.int IntKind.i64 (a), Value.int IntKind.i64 ( b)]), .bool x]) = .returned (.tuple #[(Value.agg #[Value.int IntKind.i64 (c), Value.int IntKind.i64 ( d)]), .bool y]) := by rw [h1, h2, h3]
end Go.Proofs.Ytnohkjalglogaaa.wid
