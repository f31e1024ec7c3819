/- Buk; Casc: texts in one. -/

set_option linter.unusedVariables false
set_option linter.unusedSimpArgs false
/- Plain facts on lists of buckets: order, counts. No program. -/
namespace Go.Proofs.Ytjapjfcennemeaa.buk
abbrev L2 := List (Int × Int)
def at_ (xs : L2) (i : Nat) : Int × Int := xs[i]?.getD (0, 0)
def ordAt (xs : L2) (i : Nat) : Prop := (0 ≤ (at_ xs i).1 ∧ (at_ xs i).1 ≤ 16777216) ∧ (0 ≤ (at_ xs i).2 ∧ (at_ xs i).2 ≤ 30) ∧ (0 < i → (at_ xs (i - 1)).1 ≤ (at_ xs i).1 ∧ (at_ xs i).2 ≤ (at_ xs (i - 1)).2)
def ordOk (xs : L2) (m : Nat) : Prop := ∀ i, i < m → ordAt xs i
theorem ordOk_zero (xs : L2) : ordOk xs 0 := fun i hi => absurd hi (Nat.not_lt_zero _)
theorem ordOk_succ {xs : L2} {k : Nat} (h : ordOk xs k) (hk : ordAt xs k) : ordOk xs (k + 1) := fun i hi => by
  rcases Nat.lt_or_ge i k with h1 | h1
  · exact h i h1
  · obtain rfl : i = k := by omega
    exact hk
theorem ordOk_not {xs : L2} {k m : Nat} (hk : k < m) (h : ¬ ordAt xs k) : ¬ ordOk xs m := fun h' => h (h' k hk)

def cnt (xs : L2) (l : Nat) : Nat := xs.countP (fun p => p.2 == (l : Int))
theorem cnt_nil (l : Nat) : cnt [] l = 0 := rfl
theorem cnt_append (xs ys : L2) (l : Nat) : cnt (xs ++ ys) l = cnt xs l + cnt ys l := by simp [cnt]
theorem cnt_cons (p : Int × Int) (xs : L2) (l : Nat) : cnt (p :: xs) l = cnt xs l + if p.2 = (l : Int) then 1 else 0 := by
  simp [cnt, List.countP_cons]
theorem cnt_take {xs : L2} {k : Nat} (h : k < xs.length) (l : Nat) : cnt (xs.take (k + 1)) l = cnt (xs.take k) l + if (at_ xs k).2 = (l : Int) then 1 else 0 := by
  rw [List.take_succ_eq_append_getElem h, cnt_append, cnt_cons, cnt_nil, at_, List.getElem?_eq_getElem h]; simp
theorem cnt_le (xs : L2) (l : Nat) : cnt xs l ≤ xs.length := List.countP_le_length

def levAt (xs : L2) (k : Int) (l : Nat) : Prop := (l : Int) ≤ (at_ xs 0).2 → (cnt xs l : Int) ≤ k + 1 ∧ ((l : Int) < (at_ xs 0).2 → k ≤ cnt xs l)
def levOk (xs : L2) (k : Int) (m : Nat) : Prop := ∀ l : Nat, l < m → levAt xs k l
def ValidP (xs : L2) (k : Int) : Prop := (1 ≤ k ∧ k ≤ 128) ∧ ordOk xs xs.length ∧ (0 < xs.length → levOk xs k 31)
open Classical in
noncomputable def validB (xs : L2) (k : Int) : Bool := decide (ValidP xs k)
theorem validB_t {xs : L2} {k : Int} (h : ValidP xs k) : validB xs k = true := by simp [validB, h]
theorem validB_f {xs : L2} {k : Int} (h : ¬ ValidP xs k) : validB xs k = false := by simp [validB, h]
theorem validB_iff {xs : L2} {k : Int} : validB xs k = true ↔ ValidP xs k := by simp [validB]
theorem levOk_zero (xs : L2) (k : Int) : levOk xs k 0 := fun i hi => absurd hi (Nat.not_lt_zero _)
theorem levOk_succ {xs : L2} {k : Int} {m : Nat} (h : levOk xs k m) (hm : levAt xs k m) : levOk xs k (m + 1) := fun i hi => by
  rcases Nat.lt_or_ge i m with h1 | h1
  · exact h i h1
  · obtain rfl : i = m := by omega
    exact hm
/-- The levels of a list in order do not rise. -/
theorem ord_le {xs : L2} (h : ordOk xs xs.length) : ∀ i, i < xs.length → (at_ xs i).2 ≤ (at_ xs 0).2 := by
  intro i
  induction i with
  | zero => intro _; exact Int.le_refl _
  | succ i ih =>
    intro hi
    have h1 := ih (by omega)
    have h2 := ((h (i + 1) hi).2.2 (by omega)).2
    simp only [Nat.add_sub_cancel] at h2
    omega
theorem cnt_high {xs : L2} (h : ordOk xs xs.length) {l : Nat} (hl : (at_ xs 0).2 < (l : Int)) : cnt xs l = 0 := by
  rw [cnt, List.countP_eq_zero]
  intro p hp
  obtain ⟨i, hi, rfl⟩ := List.mem_iff_getElem.1 hp
  have := ord_le h i hi
  simp only [at_, List.getElem?_eq_getElem hi, Option.getD_some] at this
  simp only [at_] at hl
  simp
  omega
end Go.Proofs.Ytjapjfcennemeaa.buk

/- The cascade of an insertion, as the code makes it. No program. -/
namespace Go.Proofs.Ytjapjfcennemeaa.buk
/-- Where the run of level l that ends at position e begins. -/
def runB (xs : L2) (l : Int) : Nat → Nat
  | 0 => 0
  | b + 1 => if (at_ xs b).2 = l then runB xs l b else b + 1
theorem runB_le (xs : L2) (l : Int) (e : Nat) : runB xs l e ≤ e := by
  induction e with
  | zero => exact Nat.le_refl _
  | succ e ih => simp only [runB]; split <;> omega
def joined (xs : L2) (b : Nat) (l : Int) : L2 := xs.take b ++ ((at_ xs (b + 1)).1, l + 1) :: xs.drop (b + 2)
theorem joined_eq {xs : L2} {b : Nat} {l : Int} (h : b < xs.length) : (xs.set b ((at_ xs (b + 1)).1, l + 1)).take (b + 1) ++ (xs.set b ((at_ xs (b + 1)).1, l + 1)).drop (b + 2) = joined xs b l := by
  rw [List.take_set, List.drop_set_of_lt (by omega), List.take_succ_eq_append_getElem h, List.set_append_right _ _ (by rw [List.length_take]; omega)]
  have : b - (xs.take b).length = 0 := by rw [List.length_take]; omega
  rw [this, joined]
  simp
theorem joined_length {xs : L2} {b : Nat} {l : Int} (h : b + 1 < xs.length) : (joined xs b l).length = xs.length - 1 := by
  simp [joined]; omega
def casc (k : Nat) : Nat → L2 → Nat → Nat → L2
  | 0, xs, _, _ => xs
  | f + 1, xs, l, e => if e - runB xs l e < k + 2 then xs else casc k f (joined xs (runB xs l e) l) (l + 1) (runB xs l e + 1)
theorem casc_stop {k f : Nat} {xs : L2} {l e : Nat} (h : e - runB xs l e < k + 2) : casc k f xs l e = xs := by
  cases f with
  | zero => rfl
  | succ f => simp [casc, h]
theorem casc_go {k f : Nat} {xs : L2} {l e : Nat} (h : ¬ e - runB xs l e < k + 2) : casc k (f + 1) xs l e = casc k f (joined xs (runB xs l e) l) (l + 1) (runB xs l e + 1) := by
  simp [casc, h]
def insC (xs : L2) (k : Nat) (t : Int) : L2 := casc k (xs.length + 1) (xs ++ [(t, 0)]) 0 (xs.length + 1)
theorem casc_length (k : Nat) (hk : 1 ≤ k) : ∀ (f : Nat) (xs : L2) (l e : Nat), e ≤ xs.length → (casc k f xs l e).length ≤ xs.length
  | 0, _, _, _, _ => Nat.le_refl _
  | f + 1, xs, l, e, he => by
    by_cases h : e - runB xs l e < k + 2
    · rw [casc_stop h]; exact Nat.le_refl _
    · rw [casc_go h]
      have hb := runB_le xs l e
      have hj := joined_length (xs := xs) (b := runB xs l e) (l := l) (by omega)
      have := casc_length k hk f (joined xs (runB xs l e) l) (l + 1) (runB xs l e + 1) (by omega)
      omega
theorem insC_length (xs : L2) (k : Nat) (hk : 1 ≤ k) (t : Int) : (insC xs k t).length ≤ xs.length + 1 := by
  have := casc_length k hk (xs.length + 1) (xs ++ [(t, 0)]) 0 (xs.length + 1) (by simp)
  simpa [insC] using this
def iterIns (k : Nat) (t : Int) : Nat → L2 → L2
  | 0, xs => xs
  | m + 1, xs => iterIns k t m (insC xs k t)
theorem iterIns_length (k : Nat) (hk : 1 ≤ k) (t : Int) (m : Nat) (xs : L2) : (iterIns k t m xs).length ≤ xs.length + m := by
  induction m generalizing xs with
  | zero => exact Nat.le_refl _
  | succ m ih =>
    have h1 := ih (insC xs k t)
    have h2 := insC_length xs k hk t
    simp only [iterIns]; omega
end Go.Proofs.Ytjapjfcennemeaa.buk
