/- Values as units: a list of items with values, each value so many ticks. No program. -/
import Derived.Test.YtofgjcfiinmimaaRunL
import Derived.Test.YtofgjcfiinmimaaMgRunO
namespace Go.Proofs.Ytofgjcfiinmimaa.cst
open Go.Proofs.Ytofgjcfiinmimaa.made (liveI)
set_option linter.unusedVariables false
def un (its : List (Int × Int)) : List Int := its.flatMap (fun q => List.replicate q.2.toNat q.1)
def sumV : List (Int × Int) → Int
  | [] => 0
  | q :: r => q.2 + sumV r
theorem un_snoc (its : List (Int × Int)) (t x : Int) : un (its ++ [(t, x)]) = un its ++ List.replicate x.toNat t := by simp [un]
theorem un_len {b : Nat} : ∀ {its : List (Int × Int)}, (∀ q ∈ its, 0 ≤ q.2 ∧ q.2 ≤ b) → (un its).length ≤ b * its.length
  | [], _ => by simp [un]
  | q :: r, h => by
    have h1 := h q List.mem_cons_self
    have h2 := un_len (its := r) (fun x hx => h x (List.mem_cons_of_mem _ hx))
    unfold un at h2 ⊢
    rw [List.flatMap_cons, List.length_append, List.length_replicate, List.length_cons, Nat.mul_add]
    omega
theorem sumV_append : ∀ (a b : List (Int × Int)), sumV (a ++ b) = sumV a + sumV b
  | [], b => by simp [sumV]
  | q :: r, b => by rw [List.cons_append, sumV, sumV, sumV_append r b]; omega
theorem sumV_take {its : List (Int × Int)} {i : Nat} (h : i < its.length) : sumV (its.take (i + 1)) = sumV (its.take i) + (buk.at_ its i).2 := by
  rw [List.take_succ_eq_append_getElem h, sumV_append, buk.at_, List.getElem?_eq_getElem h]
  simp [sumV]
theorem live_sum {now v : Int} : ∀ {its : List (Int × Int)}, (∀ q ∈ its, q.1 ≤ now ∧ 0 ≤ q.2) → sumV (liveI now v its) = (buk.liveN (now - v) (un its) : Int)
  | [], _ => rfl
  | q :: r, h => by
    have h1 := h q List.mem_cons_self
    have h2 := live_sum (v := v) (its := r) (fun x hx => h x (List.mem_cons_of_mem _ hx))
    have e : un (q :: r) = List.replicate q.2.toNat q.1 ++ un r := by simp [un]
    have e2 : buk.liveN (now - v) (List.replicate q.2.toNat q.1) = if now - v < q.1 then q.2.toNat else 0 := by
      unfold buk.liveN
      rw [List.countP_replicate]
      simp
    have e3 : buk.liveN (now - v) (un (q :: r)) = buk.liveN (now - v) (List.replicate q.2.toNat q.1) + buk.liveN (now - v) (un r) := by
      rw [e]; unfold buk.liveN; rw [List.countP_append]
    rw [e3, e2]
    unfold liveI at h2 ⊢
    by_cases hc : now - v < q.1
    · rw [List.filter_cons, if_pos (by simp [hc, h1.1]), if_pos hc, sumV, h2]
      omega
    · rw [List.filter_cons, if_neg (by simp [hc]), if_neg hc, h2]
      omega
theorem live_mem {now v : Int} {its : List (Int × Int)} {q : Int × Int} (h : q ∈ liveI now v its) : q ∈ its := by
  unfold liveI at h; exact (List.mem_filter.1 h).1
end Go.Proofs.Ytofgjcfiinmimaa.cst
