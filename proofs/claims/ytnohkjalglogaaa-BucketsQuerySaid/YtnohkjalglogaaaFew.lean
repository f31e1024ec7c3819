/- Contract of the law's own few. -/
import Derived.Test.YtnohkjalglogaaaLst
namespace Go.Proofs.Ytnohkjalglogaaa.lst
open Go.RowKit Go.Proofs.Ytnohkjalglogaaa.mem
set_option maxHeartbeats 400000 in
theorem few_any (A : Option Addr) (n c : Nat) (w : World) (hn : n ≤ maxLen) :
    Calls Try.prog 12 #[.slice A n c] w fun e w' => e = .returned (.bool (decide (n ≤ 300))) ∧ w = w' := by
  have hn9 : n ≤ 9223372036854775807 := hn
  clear hn
  by_cases h : n ≤ 300
  · have HD : Hid (decide (n ≤ 300) = true) := decide_eq_true h
    go_enter Try.func12, Try.ntmps12
    go_wp2
    go_ret
    exact ⟨ret_bool (by rw [HD.out]; simp; omega), rfl⟩
  · have HD : Hid (decide (n ≤ 300) = false) := decide_eq_false h
    go_enter Try.func12, Try.ntmps12
    go_wp2
    go_ret
    exact ⟨ret_bool (by rw [HD.out]; simp; omega), rfl⟩
end Go.Proofs.Ytnohkjalglogaaa.lst
