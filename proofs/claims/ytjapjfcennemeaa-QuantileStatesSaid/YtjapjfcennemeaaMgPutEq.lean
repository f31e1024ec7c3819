/- PutL; PutEq: texts in one. -/
import Derived.Test.YtjapjfcennemeaaMgCasc
set_option linter.unusedVariables false
set_option linter.unusedSimpArgs false
/- The reference's insertion as lists. No program. -/
namespace Go.Proofs.Ytjapjfcennemeaa.buk
def firstTo (xs : L2) (l : Int) : Nat → Int
  | 0 => -1
  | i + 1 => if firstTo xs l i < 0 ∧ (at_ xs i).2 = l then i else firstTo xs l i
theorem firstTo_spec (xs : L2) (l : Nat) : ∀ i, i ≤ xs.length → (firstTo xs l i = -1 ∧ cnt (xs.take i) l = 0) ∨ ∃ b : Nat, firstTo xs l i = b ∧ b < i ∧ cnt (xs.take i) l ≤ i - b
  | 0, _ => .inl ⟨rfl, by simp [cnt]⟩
  | i + 1, h => by
    have hc := cnt_take (xs := xs) (k := i) (by omega) l
    rcases firstTo_spec xs l i (by omega) with ⟨h1, h2⟩ | ⟨b, h1, h2, h3⟩
    · by_cases hl : (at_ xs i).2 = l
      · right
        refine ⟨i, by simp [firstTo, h1, hl], by omega, ?_⟩
        rw [hc, if_pos hl]; omega
      · left
        refine ⟨by simp [firstTo, h1, hl], ?_⟩
        rw [hc, if_neg hl]; omega
    · right
      refine ⟨b, ?_, by omega, ?_⟩
      · simp only [firstTo, h1]; rw [if_neg (by omega)]
      · rw [hc]; split <;> omega
def putR (k : Nat) : Nat → L2 → Nat → L2
  | 0, xs, _ => xs
  | f + 1, xs, l => if cnt xs l ≤ k + 1 then xs else putR k f (joined xs (firstTo xs l xs.length).toNat l) (l + 1)
theorem putR_stop {k f : Nat} {xs : L2} {l : Nat} (h : cnt xs l ≤ k + 1) : putR k f xs l = xs := by
  cases f with
  | zero => rfl
  | succ f => simp [putR, h]
theorem putR_go {k f : Nat} {xs : L2} {l : Nat} (h : ¬ cnt xs l ≤ k + 1) : putR k (f + 1) xs l = putR k f (joined xs (firstTo xs l xs.length).toNat l) (l + 1) := by
  simp [putR, h]
def putC (xs : L2) (k : Nat) (t : Int) : L2 := putR k 31 (xs ++ [(t, 0)]) 0
end Go.Proofs.Ytjapjfcennemeaa.buk

/- The code's cascade and the reference's are the same for lists in order. No program. -/
namespace Go.Proofs.Ytjapjfcennemeaa.buk
structure St (xs : L2) (l e : Nat) : Prop where
  he : e ≤ xs.length
  hi : ∀ i, i < e → (l : Int) ≤ (at_ xs i).2
  lo : ∀ i, e ≤ i → i < xs.length → (at_ xs i).2 < (l : Int)
  ord : ∀ i, i + 1 < e → (at_ xs (i + 1)).2 ≤ (at_ xs i).2
theorem runB_run (xs : L2) (l : Int) : ∀ e, (∀ i, runB xs l e ≤ i → i < e → (at_ xs i).2 = l) ∧ (runB xs l e = 0 ∨ (at_ xs (runB xs l e - 1)).2 ≠ l)
  | 0 => ⟨fun i _ h => by omega, .inl rfl⟩
  | e + 1 => by
    obtain ⟨h1, h2⟩ := runB_run xs l e
    simp only [runB]
    by_cases h : (at_ xs e).2 = l
    · rw [if_pos h]
      refine ⟨fun i hi hlt => ?_, h2⟩
      rcases Nat.lt_or_ge i e with h3 | h3
      · exact h1 i hi h3
      · obtain rfl : i = e := by omega
        exact h
    · rw [if_neg h]
      exact ⟨fun i hi hlt => by omega, .inr (by simpa using h)⟩
theorem ord_ge {xs : L2} {e : Nat} (h : ∀ i, i + 1 < e → (at_ xs (i + 1)).2 ≤ (at_ xs i).2) : ∀ d i, i + d < e → (at_ xs (i + d)).2 ≤ (at_ xs i).2
  | 0, i, _ => Int.le_refl _
  | d + 1, i, hd => Int.le_trans (h (i + d) (by omega)) (ord_ge h d i (by omega))
theorem St.above {xs : L2} {l e : Nat} (h : St xs l e) {i : Nat} (hi : i < runB xs l e) : (l : Int) + 1 ≤ (at_ xs i).2 := by
  have hb := runB_le xs l e
  obtain ⟨_, h2⟩ := runB_run xs l e
  rcases h2 with h2 | h2
  · omega
  · have h3 := h.hi (runB xs l e - 1) (by omega)
    have h4 := ord_ge h.ord (runB xs l e - 1 - i) i (by omega)
    rw [show i + (runB xs l e - 1 - i) = runB xs l e - 1 by omega] at h4
    omega
theorem countP_zero_of {xs : L2} {l : Nat} (h : ∀ i, i < xs.length → (at_ xs i).2 ≠ (l : Int)) : cnt xs l = 0 := by
  rw [cnt, List.countP_eq_zero]
  intro p hp
  obtain ⟨i, hi, rfl⟩ := List.mem_iff_getElem.1 hp
  have := h i hi
  simpa [at_, List.getElem?_eq_getElem hi] using this
theorem countP_all_of {xs : L2} {l : Nat} (h : ∀ i, i < xs.length → (at_ xs i).2 = (l : Int)) : cnt xs l = xs.length := by
  rw [cnt, List.countP_eq_length]
  intro p hp
  obtain ⟨i, hi, rfl⟩ := List.mem_iff_getElem.1 hp
  have := h i hi
  simpa [at_, List.getElem?_eq_getElem hi] using this
theorem at_take {xs : L2} {b i : Nat} (h : i < b) : at_ (xs.take b) i = at_ xs i := by simp [at_, h]
theorem at_drop {xs : L2} {b i : Nat} : at_ (xs.drop b) i = at_ xs (b + i) := by simp [at_, List.getElem?_drop]
theorem St.cnt_eq {xs : L2} {l e : Nat} (h : St xs l e) : cnt xs l = e - runB xs l e := by
  have hb := runB_le xs l e
  obtain ⟨h1, _⟩ := runB_run xs l e
  have he := h.he
  have e1 : xs = xs.take (runB xs l e) ++ ((xs.drop (runB xs l e)).take (e - runB xs l e) ++ xs.drop e) := by
    have : (xs.drop (runB xs l e)).drop (e - runB xs l e) = xs.drop e := by rw [List.drop_drop]; congr 1; omega
    rw [← this, List.take_append_drop, List.take_append_drop]
  conv => lhs; rw [e1]
  rw [cnt_append, cnt_append]
  rw [countP_zero_of (xs := xs.take (runB xs l e)) (fun i hi => by
    rw [List.length_take] at hi
    rw [at_take (by omega)]
    have := h.above (i := i) (by omega)
    omega)]
  rw [countP_all_of (xs := (xs.drop (runB xs l e)).take (e - runB xs l e)) (fun i hi => by
    rw [List.length_take, List.length_drop] at hi
    rw [at_take (by omega), at_drop]
    exact h1 _ (by omega) (by omega))]
  rw [countP_zero_of (xs := xs.drop e) (fun i hi => by
    rw [List.length_drop] at hi
    rw [at_drop]
    have := h.lo (e + i) (by omega) (by omega)
    omega)]
  rw [List.length_take, List.length_drop]
  omega
theorem firstTo_none {xs : L2} {l : Int} : ∀ i, (∀ j, j < i → (at_ xs j).2 ≠ l) → firstTo xs l i = -1
  | 0, _ => rfl
  | i + 1, h => by
    have := firstTo_none i (fun j hj => h j (by omega))
    simp [firstTo, this, h i (by omega)]
theorem firstTo_at {xs : L2} {l : Int} {b : Nat} (h : ∀ j, j < b → (at_ xs j).2 ≠ l) (hb : (at_ xs b).2 = l) : ∀ d, firstTo xs l (b + 1 + d) = b
  | 0 => by simp [firstTo, firstTo_none b h, hb]
  | d + 1 => by
    have := firstTo_at h hb d
    rw [show b + 1 + (d + 1) = (b + 1 + d) + 1 by omega, firstTo, this, if_neg (by omega)]
theorem St.first_eq {xs : L2} {l e : Nat} (h : St xs l e) (hlt : runB xs l e < e) : firstTo xs l xs.length = runB xs l e := by
  obtain ⟨h1, _⟩ := runB_run xs l e
  have he := h.he
  have := firstTo_at (xs := xs) (l := l) (b := runB xs l e) (fun j hj => by have := h.above hj; omega) (h1 _ (Nat.le_refl _) hlt) (xs.length - (runB xs l e + 1))
  rwa [show runB xs l e + 1 + (xs.length - (runB xs l e + 1)) = xs.length by omega] at this
theorem at_joined {xs : L2} {b : Nat} {l : Int} (h : b + 1 < xs.length) (i : Nat) : at_ (joined xs b l) i = if i < b then at_ xs i else if i = b then ((at_ xs (b + 1)).1, l + 1) else at_ xs (i + 1) := by
  unfold joined
  have hl : (xs.take b).length = b := by rw [List.length_take]; omega
  by_cases h1 : i < b
  · rw [if_pos h1, at_, List.getElem?_append_left (by omega), List.getElem?_take, if_pos h1]; rfl
  · rw [if_neg h1, at_, List.getElem?_append_right (by omega), hl]
    by_cases h2 : i = b
    · subst h2; simp
    · rw [if_neg h2, show i - b = (i - b - 1) + 1 by omega, List.getElem?_cons_succ, List.getElem?_drop, at_, show b + 2 + (i - b - 1) = i + 1 by omega]
theorem St.next {xs : L2} {l e : Nat} (h : St xs l e) (hc : runB xs l e + 2 ≤ e) : St (joined xs (runB xs l e) l) (l + 1) (runB xs l e + 1) := by
  obtain ⟨h1, _⟩ := runB_run xs l e
  have he := h.he
  have hj := at_joined (xs := xs) (b := runB xs l e) (l := (l : Int)) (by omega)
  have hlen := joined_length (xs := xs) (b := runB xs l e) (l := (l : Int)) (by omega)
  have ha := fun i => @St.above xs l e h i
  generalize runB xs l e = b at *
  refine ⟨by omega, fun i hi => ?_, fun i h2 h3 => ?_, fun i hi => ?_⟩
  · rw [hj]
    by_cases h2 : i < b
    · rw [if_pos h2]; have := ha i h2; omega
    · rw [if_neg h2, if_pos (by omega)]; simp
  · rw [hj, if_neg (by omega), if_neg (by omega)]
    rcases Nat.lt_or_ge (i + 1) e with h4 | h4
    · have := h1 (i + 1) (by omega) h4; omega
    · have := h.lo (i + 1) h4 (by omega); omega
  · rw [hj, hj, if_pos (show i < b by omega)]
    by_cases h2 : i + 1 < b
    · rw [if_pos h2]; exact h.ord i (by omega)
    · rw [if_neg h2, if_pos (by omega)]
      have := ha i (by omega)
      simp; omega
def wgt : L2 → Nat
  | [] => 0
  | p :: r => 2 ^ p.2.toNat + wgt r
theorem wgt_append (xs ys : L2) : wgt (xs ++ ys) = wgt xs + wgt ys := by
  induction xs with
  | nil => simp [wgt]
  | cons p r ih => simp [wgt, ih]; omega
theorem wgt_cnt (xs : L2) (l : Nat) : cnt xs l * 2 ^ l ≤ wgt xs := by
  induction xs with
  | nil => simp [cnt, wgt]
  | cons p r ih =>
    rw [cnt_cons]
    simp only [wgt]
    split
    · rename_i hp
      rw [hp, Nat.add_mul]; simp; omega
    · rw [Nat.add_zero]; exact Nat.le_trans ih (Nat.le_add_left _ _)
theorem wgt_joined {xs : L2} {b l : Nat} (h : b + 1 < xs.length) (h1 : (at_ xs b).2 = (l : Int)) (h2 : (at_ xs (b + 1)).2 = (l : Int)) : wgt (joined xs b l) = wgt xs := by
  have e1 : xs = xs.take b ++ xs[b] :: xs[b + 1] :: xs.drop (b + 2) := by
    rw [← List.drop_eq_getElem_cons (by omega), ← List.drop_eq_getElem_cons (by omega), List.take_append_drop]
  simp only [at_, List.getElem?_eq_getElem (show b < xs.length by omega), Option.getD_some] at h1
  simp only [at_, List.getElem?_eq_getElem h, Option.getD_some] at h2
  conv => rhs; rw [e1]
  rw [joined, wgt_append, wgt_append]
  simp only [wgt, h1, h2]
  have : ((l : Int) + 1).toNat = l + 1 := by omega
  rw [this, Nat.pow_succ]
  simp; omega
theorem casc_put (k : Nat) (hk : 1 ≤ k) : ∀ (F f : Nat) (xs : L2) (l e : Nat), St xs l e → xs.length ≤ f → l + F = 31 → wgt xs ≤ 1073741824 → casc k f xs l e = putR k F xs l := by
  intro F
  induction F with
  | zero =>
    intro f xs l e hs hf hl hw
    have hc := hs.cnt_eq
    have h1 := wgt_cnt xs l
    obtain rfl : l = 31 := by omega
    have : cnt xs 31 = 0 := by
      rcases Nat.eq_zero_or_pos (cnt xs 31) with h | h
      · exact h
      · have := Nat.mul_le_mul_right (2 ^ 31) h
        omega
    rw [casc_stop (by omega)]
    rfl
  | succ F ih =>
    intro f xs l e hs hf hl hw
    have hc := hs.cnt_eq
    have hb := runB_le xs l e
    have he := hs.he
    by_cases hst : e - runB xs l e < k + 2
    · rw [casc_stop hst, putR_stop (by omega)]
    · obtain ⟨f, rfl⟩ : ∃ f', f = f' + 1 := ⟨f - 1, by omega⟩
      rw [casc_go hst, putR_go (by omega), hs.first_eq (by omega), Int.toNat_natCast]
      obtain ⟨h1, _⟩ := runB_run xs l e
      exact ih f _ (l + 1) _ (hs.next (by omega)) (by rw [joined_length (by omega)]; omega) (by omega)
        (by rw [wgt_joined (by omega) (h1 _ (Nat.le_refl _) (by omega)) (h1 _ (by omega) (by omega))]; exact hw)
theorem ord_St {xs : L2} (h : ordOk xs xs.length) (t : Int) : St (xs ++ [(t, 0)]) 0 (xs.length + 1) := by
  have ha : ∀ i, i < xs.length → at_ (xs ++ [(t, 0)]) i = at_ xs i := fun i hi => by simp [at_, List.getElem?_append_left hi]
  have hz : at_ (xs ++ [(t, 0)]) xs.length = (t, 0) := by simp [at_]
  refine ⟨by simp, fun i hi => ?_, fun i h1 h2 => by simp at h2; omega, fun i hi => ?_⟩
  · rcases Nat.lt_or_ge i xs.length with h1 | h1
    · rw [ha i h1]; exact (h i h1).2.1.1
    · obtain rfl : i = xs.length := by omega
      rw [hz]; simp
  · rcases Nat.lt_or_ge (i + 1) xs.length with h1 | h1
    · rw [ha _ h1, ha _ (by omega)]
      have := ((h (i + 1) h1).2.2 (by omega)).2
      simpa using this
    · have e : i + 1 = xs.length := by omega
      rw [e, hz, ha i (by omega)]
      exact (h i (by omega)).2.1.1
theorem putC_eq {xs : L2} {k : Nat} (hk : 1 ≤ k) (h : ordOk xs xs.length) (hw : wgt xs < 1073741824) (t : Int) : putC xs k t = insC xs k t := by
  rw [putC, insC]
  exact (casc_put k hk 31 _ _ 0 _ (ord_St h t) (by simp) rfl (by rw [wgt_append]; simp [wgt]; omega)).symm
end Go.Proofs.Ytjapjfcennemeaa.buk
