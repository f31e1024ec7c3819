/- Contract of the statements' own lists of items with values that are not negative. -/
import Derived.Test.YtjapjfcennemeaaItems
namespace Go.Proofs.Ytjapjfcennemeaa.made
open Go.RowKit Go.Proofs.Ytjapjfcennemeaa.mem
set_option linter.unusedVariables false
set_option linter.unusedSimpArgs false
theorem pc_set1 (ys : List (Int × Int)) (b : Nat) (y : Int) : (pc ys).set (b * 2 + 1) (.int .i64 y) = pc (ys.set b ((buk.at_ ys b).1, y)) := by
  induction ys generalizing b with
  | nil => simp [pc]
  | cons q ys ih =>
    cases b with
    | zero => simp [pc_cons, buk.at_]
    | succ b =>
      rw [pc_cons, show (b + 1) * 2 + 1 = b * 2 + 1 + 1 + 1 by omega, List.set_cons_succ, List.set_cons_succ, ih, List.set_cons_succ, pc_cons]
      simp [buk.at_]
theorem at_set {ys : List (Int × Int)} {b i : Nat} {p : Int × Int} (hb : b < ys.length) : buk.at_ (ys.set b p) i = if b = i then p else buk.at_ ys i := by
  unfold buk.at_
  rw [List.getElem?_set]
  by_cases h : b = i
  · subst h; rw [if_pos rfl, if_pos rfl, if_pos hb]; rfl
  · rw [if_neg h, if_neg h]
/-- The first k values are not negative, and at most m. -/
def MidOk (its : List (Int × Int)) (v m : Int) (k : Nat) : Prop := ∀ i, i < its.length → (0 ≤ (buk.at_ its i).1 ∧ (buk.at_ its i).1 ≤ (i + 1) * (2 * v + 1)) ∧ (-4096 ≤ (buk.at_ its i).2 ∧ (buk.at_ its i).2 ≤ 4096) ∧ (0 < i → (buk.at_ its (i - 1)).1 ≤ (buk.at_ its i).1) ∧ (i < k → 0 ≤ (buk.at_ its i).2 ∧ (buk.at_ its i).2 ≤ m)
theorem MidOk.start {its : List (Int × Int)} {v m : Int} (h : ItOk its v) : MidOk its v m 0 := fun i hi => ⟨(h i hi).1, (h i hi).2.1, (h i hi).2.2, fun h => by omega⟩
theorem MidOk.step {its : List (Int × Int)} {v m : Int} {k : Nat} (h : MidOk its v m k) (hk : k < its.length) {y : Int} (hy : 0 ≤ y ∧ y ≤ m) (hm : m ≤ 4096) : MidOk (its.set k ((buk.at_ its k).1, y)) v m (k + 1) := by
  intro i hi
  rw [List.length_set] at hi
  have e : ∀ j, (buk.at_ (its.set k ((buk.at_ its k).1, y)) j).1 = (buk.at_ its j).1 := fun j => by
    rw [at_set hk]; split
    · rename_i h; subst h; rfl
    · rfl
  obtain ⟨a, b, c, d⟩ := h i hi
  rw [e, e]
  refine ⟨a, ?_, c, fun hik => ?_⟩
  · rw [at_set hk]; split
    · exact ⟨by simp; omega, by simp; omega⟩
    · exact b
  · rw [at_set hk]; split
    · exact hy
    · rename_i hne; exact d (by omega)
/-- Ticks that ascend, and values in a range. -/
def Asc (its : List (Int × Int)) (lo hi : Int) : Prop := ∀ i, i < its.length → (0 ≤ (buk.at_ its i).1 ∧ (buk.at_ its i).1 ≤ 100000) ∧ (lo ≤ (buk.at_ its i).2 ∧ (buk.at_ its i).2 ≤ hi) ∧ (i + 1 < its.length → (buk.at_ its i).1 ≤ (buk.at_ its (i + 1)).1)
theorem tick_bd {its : List (Int × Int)} {v : Int} {i : Nat} (hi : i < its.length) (hl : its.length ≤ 1000) (hv : 1 ≤ v ∧ v ≤ 40) {t : Int} (h : t ≤ (i + 1) * (2 * v + 1)) : t ≤ 100000 := by
  have : ((i : Int) + 1) * (2 * v + 1) ≤ 1000 * 81 := Int.mul_le_mul (by omega) (by omega) (by omega) (by omega)
  omega
theorem ItOk.asc {its : List (Int × Int)} {v : Int} (h : ItOk its v) (hl : its.length ≤ 1000) (hv : 1 ≤ v ∧ v ≤ 40) : Asc its (-4096) 4096 := fun i hi => by
  obtain ⟨⟨a, b⟩, c, d⟩ := h i hi
  exact ⟨⟨a, tick_bd hi hl hv b⟩, c, fun h2 => (h (i + 1) h2).2.2 (by omega)⟩
theorem MidOk.asc {its : List (Int × Int)} {v m : Int} (h : MidOk its v m its.length) (hl : its.length ≤ 1000) (hv : 1 ≤ v ∧ v ≤ 40) : Asc its 0 m := fun i hi => by
  obtain ⟨⟨a, b⟩, _, c, d⟩ := h i hi
  exact ⟨⟨a, tick_bd hi hl hv b⟩, d hi, fun h2 => (h (i + 1) h2).2.2.1 (by omega)⟩
end Go.Proofs.Ytjapjfcennemeaa.made
