/- Buk, Casc, PutEq, KeepL, KeepM, WideL: proved here in one text, no conditions beyond those that each theorem states. -/

set_option linter.unusedVariables false
set_option linter.unusedSimpArgs false
section
namespace Go.Proofs.YtjapjfcennemeaaGreat.buk
abbrev L2 := List (Int × Int)
def at_ (xs : L2) (i : Nat) : Int × Int := xs[i]?.getD (0, 0)
def ordAt (xs : L2) (i : Nat) : Prop := (0 ≤ (at_ xs i).1 ∧ (at_ xs i).1 ≤ 16777216) ∧ (0 ≤ (at_ xs i).2 ∧ (at_ xs i).2 ≤ 30) ∧ (0 < i → (at_ xs (i - 1)).1 ≤ (at_ xs i).1 ∧ (at_ xs i).2 ≤ (at_ xs (i - 1)).2)
def ordOk (xs : L2) (m : Nat) : Prop := ∀ i, i < m → ordAt xs i
theorem ordOk_zero (xs : L2) : ordOk xs 0 := fun i hi => absurd hi (Nat.not_lt_zero _)
theorem ordOk_succ {xs : L2} {k : Nat} (h : ordOk xs k) (hk : ordAt xs k) : ordOk xs (k + 1) := fun i hi => by
  rcases Nat.lt_or_ge i k with h1 | h1
  · exact h i h1
  · obtain rfl : i = k := by omega
    exact hk
theorem ordOk_not {xs : L2} {k m : Nat} (hk : k < m) (h : ¬ ordAt xs k) : ¬ ordOk xs m := fun h' => h (h' k hk)
def cnt (xs : L2) (l : Nat) : Nat := xs.countP (fun p => p.2 == (l : Int))
theorem cnt_nil (l : Nat) : cnt [] l = 0 := rfl
theorem cnt_append (xs ys : L2) (l : Nat) : cnt (xs ++ ys) l = cnt xs l + cnt ys l := by simp [cnt]
theorem cnt_cons (p : Int × Int) (xs : L2) (l : Nat) : cnt (p :: xs) l = cnt xs l + if p.2 = (l : Int) then 1 else 0 := by
  simp [cnt, List.countP_cons]
theorem cnt_take {xs : L2} {k : Nat} (h : k < xs.length) (l : Nat) : cnt (xs.take (k + 1)) l = cnt (xs.take k) l + if (at_ xs k).2 = (l : Int) then 1 else 0 := by
  rw [List.take_succ_eq_append_getElem h, cnt_append, cnt_cons, cnt_nil, at_, List.getElem?_eq_getElem h]; simp
theorem cnt_le (xs : L2) (l : Nat) : cnt xs l ≤ xs.length := List.countP_le_length
def levAt (xs : L2) (k : Int) (l : Nat) : Prop := (l : Int) ≤ (at_ xs 0).2 → (cnt xs l : Int) ≤ k + 1 ∧ ((l : Int) < (at_ xs 0).2 → k ≤ cnt xs l)
def levOk (xs : L2) (k : Int) (m : Nat) : Prop := ∀ l : Nat, l < m → levAt xs k l
def ValidP (xs : L2) (k : Int) : Prop := (1 ≤ k ∧ k ≤ 128) ∧ ordOk xs xs.length ∧ (0 < xs.length → levOk xs k 31)
open Classical in
noncomputable def validB (xs : L2) (k : Int) : Bool := decide (ValidP xs k)
theorem validB_t {xs : L2} {k : Int} (h : ValidP xs k) : validB xs k = true := by simp [validB, h]
theorem validB_f {xs : L2} {k : Int} (h : ¬ ValidP xs k) : validB xs k = false := by simp [validB, h]
theorem validB_iff {xs : L2} {k : Int} : validB xs k = true ↔ ValidP xs k := by simp [validB]
theorem levOk_zero (xs : L2) (k : Int) : levOk xs k 0 := fun i hi => absurd hi (Nat.not_lt_zero _)
theorem levOk_succ {xs : L2} {k : Int} {m : Nat} (h : levOk xs k m) (hm : levAt xs k m) : levOk xs k (m + 1) := fun i hi => by
  rcases Nat.lt_or_ge i m with h1 | h1
  · exact h i h1
  · obtain rfl : i = m := by omega
    exact hm
theorem ord_le {xs : L2} (h : ordOk xs xs.length) : ∀ i, i < xs.length → (at_ xs i).2 ≤ (at_ xs 0).2 := by
  intro i
  induction i with
  | zero => intro _; exact Int.le_refl _
  | succ i ih =>
    intro hi
    have h1 := ih (by omega)
    have h2 := ((h (i + 1) hi).2.2 (by omega)).2
    simp only [Nat.add_sub_cancel] at h2
    omega
theorem cnt_high {xs : L2} (h : ordOk xs xs.length) {l : Nat} (hl : (at_ xs 0).2 < (l : Int)) : cnt xs l = 0 := by
  rw [cnt, List.countP_eq_zero]
  intro p hp
  obtain ⟨i, hi, rfl⟩ := List.mem_iff_getElem.1 hp
  have := ord_le h i hi
  simp only [at_, List.getElem?_eq_getElem hi, Option.getD_some] at this
  simp only [at_] at hl
  simp
  omega
end Go.Proofs.YtjapjfcennemeaaGreat.buk
end
section
namespace Go.Proofs.YtjapjfcennemeaaGreat.buk
def runB (xs : L2) (l : Int) : Nat → Nat
  | 0 => 0
  | b + 1 => if (at_ xs b).2 = l then runB xs l b else b + 1
theorem runB_le (xs : L2) (l : Int) (e : Nat) : runB xs l e ≤ e := by
  induction e with
  | zero => exact Nat.le_refl _
  | succ e ih => simp only [runB]; split <;> omega
def joined (xs : L2) (b : Nat) (l : Int) : L2 := xs.take b ++ ((at_ xs (b + 1)).1, l + 1) :: xs.drop (b + 2)
theorem joined_length {xs : L2} {b : Nat} {l : Int} (h : b + 1 < xs.length) : (joined xs b l).length = xs.length - 1 := by
  simp [joined]; omega
def casc (k : Nat) : Nat → L2 → Nat → Nat → L2
  | 0, xs, _, _ => xs
  | f + 1, xs, l, e => if e - runB xs l e < k + 2 then xs else casc k f (joined xs (runB xs l e) l) (l + 1) (runB xs l e + 1)
theorem casc_stop {k f : Nat} {xs : L2} {l e : Nat} (h : e - runB xs l e < k + 2) : casc k f xs l e = xs := by
  cases f with
  | zero => rfl
  | succ f => simp [casc, h]
theorem casc_go {k f : Nat} {xs : L2} {l e : Nat} (h : ¬ e - runB xs l e < k + 2) : casc k (f + 1) xs l e = casc k f (joined xs (runB xs l e) l) (l + 1) (runB xs l e + 1) := by
  simp [casc, h]
def insC (xs : L2) (k : Nat) (t : Int) : L2 := casc k (xs.length + 1) (xs ++ [(t, 0)]) 0 (xs.length + 1)
end Go.Proofs.YtjapjfcennemeaaGreat.buk
end
section
namespace Go.Proofs.YtjapjfcennemeaaGreat.buk
structure St (xs : L2) (l e : Nat) : Prop where
  he : e ≤ xs.length
  hi : ∀ i, i < e → (l : Int) ≤ (at_ xs i).2
  lo : ∀ i, e ≤ i → i < xs.length → (at_ xs i).2 < (l : Int)
  ord : ∀ i, i + 1 < e → (at_ xs (i + 1)).2 ≤ (at_ xs i).2
theorem runB_run (xs : L2) (l : Int) : ∀ e, (∀ i, runB xs l e ≤ i → i < e → (at_ xs i).2 = l) ∧ (runB xs l e = 0 ∨ (at_ xs (runB xs l e - 1)).2 ≠ l)
  | 0 => ⟨fun i _ h => by omega, .inl rfl⟩
  | e + 1 => by
    obtain ⟨h1, h2⟩ := runB_run xs l e
    simp only [runB]
    by_cases h : (at_ xs e).2 = l
    · rw [if_pos h]
      refine ⟨fun i hi hlt => ?_, h2⟩
      rcases Nat.lt_or_ge i e with h3 | h3
      · exact h1 i hi h3
      · obtain rfl : i = e := by omega
        exact h
    · rw [if_neg h]
      exact ⟨fun i hi hlt => by omega, .inr (by simpa using h)⟩
theorem ord_ge {xs : L2} {e : Nat} (h : ∀ i, i + 1 < e → (at_ xs (i + 1)).2 ≤ (at_ xs i).2) : ∀ d i, i + d < e → (at_ xs (i + d)).2 ≤ (at_ xs i).2
  | 0, i, _ => Int.le_refl _
  | d + 1, i, hd => Int.le_trans (h (i + d) (by omega)) (ord_ge h d i (by omega))
theorem St.above {xs : L2} {l e : Nat} (h : St xs l e) {i : Nat} (hi : i < runB xs l e) : (l : Int) + 1 ≤ (at_ xs i).2 := by
  have hb := runB_le xs l e
  obtain ⟨_, h2⟩ := runB_run xs l e
  rcases h2 with h2 | h2
  · omega
  · have h3 := h.hi (runB xs l e - 1) (by omega)
    have h4 := ord_ge h.ord (runB xs l e - 1 - i) i (by omega)
    rw [show i + (runB xs l e - 1 - i) = runB xs l e - 1 by omega] at h4
    omega
theorem countP_zero_of {xs : L2} {l : Nat} (h : ∀ i, i < xs.length → (at_ xs i).2 ≠ (l : Int)) : cnt xs l = 0 := by
  rw [cnt, List.countP_eq_zero]
  intro p hp
  obtain ⟨i, hi, rfl⟩ := List.mem_iff_getElem.1 hp
  have := h i hi
  simpa [at_, List.getElem?_eq_getElem hi] using this
theorem countP_all_of {xs : L2} {l : Nat} (h : ∀ i, i < xs.length → (at_ xs i).2 = (l : Int)) : cnt xs l = xs.length := by
  rw [cnt, List.countP_eq_length]
  intro p hp
  obtain ⟨i, hi, rfl⟩ := List.mem_iff_getElem.1 hp
  have := h i hi
  simpa [at_, List.getElem?_eq_getElem hi] using this
theorem at_take {xs : L2} {b i : Nat} (h : i < b) : at_ (xs.take b) i = at_ xs i := by simp [at_, h]
theorem at_drop {xs : L2} {b i : Nat} : at_ (xs.drop b) i = at_ xs (b + i) := by simp [at_, List.getElem?_drop]
theorem St.cnt_eq {xs : L2} {l e : Nat} (h : St xs l e) : cnt xs l = e - runB xs l e := by
  have hb := runB_le xs l e
  obtain ⟨h1, _⟩ := runB_run xs l e
  have he := h.he
  have e1 : xs = xs.take (runB xs l e) ++ ((xs.drop (runB xs l e)).take (e - runB xs l e) ++ xs.drop e) := by
    have : (xs.drop (runB xs l e)).drop (e - runB xs l e) = xs.drop e := by rw [List.drop_drop]; congr 1; omega
    rw [← this, List.take_append_drop, List.take_append_drop]
  conv => lhs; rw [e1]
  rw [cnt_append, cnt_append]
  rw [countP_zero_of (xs := xs.take (runB xs l e)) (fun i hi => by
    rw [List.length_take] at hi
    rw [at_take (by omega)]
    have := h.above (i := i) (by omega)
    omega)]
  rw [countP_all_of (xs := (xs.drop (runB xs l e)).take (e - runB xs l e)) (fun i hi => by
    rw [List.length_take, List.length_drop] at hi
    rw [at_take (by omega), at_drop]
    exact h1 _ (by omega) (by omega))]
  rw [countP_zero_of (xs := xs.drop e) (fun i hi => by
    rw [List.length_drop] at hi
    rw [at_drop]
    have := h.lo (e + i) (by omega) (by omega)
    omega)]
  rw [List.length_take, List.length_drop]
  omega
theorem at_joined {xs : L2} {b : Nat} {l : Int} (h : b + 1 < xs.length) (i : Nat) : at_ (joined xs b l) i = if i < b then at_ xs i else if i = b then ((at_ xs (b + 1)).1, l + 1) else at_ xs (i + 1) := by
  unfold joined
  have hl : (xs.take b).length = b := by rw [List.length_take]; omega
  by_cases h1 : i < b
  · rw [if_pos h1, at_, List.getElem?_append_left (by omega), List.getElem?_take, if_pos h1]; rfl
  · rw [if_neg h1, at_, List.getElem?_append_right (by omega), hl]
    by_cases h2 : i = b
    · subst h2; simp
    · rw [if_neg h2, show i - b = (i - b - 1) + 1 by omega, List.getElem?_cons_succ, List.getElem?_drop, at_, show b + 2 + (i - b - 1) = i + 1 by omega]
theorem St.next {xs : L2} {l e : Nat} (h : St xs l e) (hc : runB xs l e + 2 ≤ e) : St (joined xs (runB xs l e) l) (l + 1) (runB xs l e + 1) := by
  obtain ⟨h1, _⟩ := runB_run xs l e
  have he := h.he
  have hj := at_joined (xs := xs) (b := runB xs l e) (l := (l : Int)) (by omega)
  have hlen := joined_length (xs := xs) (b := runB xs l e) (l := (l : Int)) (by omega)
  have ha := fun i => @St.above xs l e h i
  generalize runB xs l e = b at *
  refine ⟨by omega, fun i hi => ?_, fun i h2 h3 => ?_, fun i hi => ?_⟩
  · rw [hj]
    by_cases h2 : i < b
    · rw [if_pos h2]; have := ha i h2; omega
    · rw [if_neg h2, if_pos (by omega)]; simp
  · rw [hj, if_neg (by omega), if_neg (by omega)]
    rcases Nat.lt_or_ge (i + 1) e with h4 | h4
    · have := h1 (i + 1) (by omega) h4; omega
    · have := h.lo (i + 1) h4 (by omega); omega
  · rw [hj, hj, if_pos (show i < b by omega)]
    by_cases h2 : i + 1 < b
    · rw [if_pos h2]; exact h.ord i (by omega)
    · rw [if_neg h2, if_pos (by omega)]
      have := ha i (by omega)
      simp; omega
def wgt : L2 → Nat
  | [] => 0
  | p :: r => 2 ^ p.2.toNat + wgt r
theorem wgt_append (xs ys : L2) : wgt (xs ++ ys) = wgt xs + wgt ys := by
  induction xs with
  | nil => simp [wgt]
  | cons p r ih => simp [wgt, ih]; omega
theorem wgt_cnt (xs : L2) (l : Nat) : cnt xs l * 2 ^ l ≤ wgt xs := by
  induction xs with
  | nil => simp [cnt, wgt]
  | cons p r ih =>
    rw [cnt_cons]
    simp only [wgt]
    split
    · rename_i hp
      rw [hp, Nat.add_mul]; simp; omega
    · rw [Nat.add_zero]; exact Nat.le_trans ih (Nat.le_add_left _ _)
theorem wgt_joined {xs : L2} {b l : Nat} (h : b + 1 < xs.length) (h1 : (at_ xs b).2 = (l : Int)) (h2 : (at_ xs (b + 1)).2 = (l : Int)) : wgt (joined xs b l) = wgt xs := by
  have e1 : xs = xs.take b ++ xs[b] :: xs[b + 1] :: xs.drop (b + 2) := by
    rw [← List.drop_eq_getElem_cons (by omega), ← List.drop_eq_getElem_cons (by omega), List.take_append_drop]
  simp only [at_, List.getElem?_eq_getElem (show b < xs.length by omega), Option.getD_some] at h1
  simp only [at_, List.getElem?_eq_getElem h, Option.getD_some] at h2
  conv => rhs; rw [e1]
  rw [joined, wgt_append, wgt_append]
  simp only [wgt, h1, h2]
  have : ((l : Int) + 1).toNat = l + 1 := by omega
  rw [this, Nat.pow_succ]
  simp; omega
theorem ord_St {xs : L2} (h : ordOk xs xs.length) (t : Int) : St (xs ++ [(t, 0)]) 0 (xs.length + 1) := by
  have ha : ∀ i, i < xs.length → at_ (xs ++ [(t, 0)]) i = at_ xs i := fun i hi => by simp [at_, List.getElem?_append_left hi]
  have hz : at_ (xs ++ [(t, 0)]) xs.length = (t, 0) := by simp [at_]
  refine ⟨by simp, fun i hi => ?_, fun i h1 h2 => by simp at h2; omega, fun i hi => ?_⟩
  · rcases Nat.lt_or_ge i xs.length with h1 | h1
    · rw [ha i h1]; exact (h i h1).2.1.1
    · obtain rfl : i = xs.length := by omega
      rw [hz]; simp
  · rcases Nat.lt_or_ge (i + 1) xs.length with h1 | h1
    · rw [ha _ h1, ha _ (by omega)]
      have := ((h (i + 1) h1).2.2 (by omega)).2
      simpa using this
    · have e : i + 1 = xs.length := by omega
      rw [e, hz, ha i (by omega)]
      exact (h i (by omega)).2.1.1
end Go.Proofs.YtjapjfcennemeaaGreat.buk
end
section
namespace Go.Proofs.YtjapjfcennemeaaGreat.buk
theorem cnt_joined {xs : L2} {b l : Nat} (h : b + 1 < xs.length) (h1 : (at_ xs b).2 = (l : Int)) (h2 : (at_ xs (b + 1)).2 = (l : Int)) (j : Nat) :
    cnt (joined xs b l) j + (if j = l then 2 else 0) = cnt xs j + (if j = l + 1 then 1 else 0) := by
  have e1 : xs = xs.take b ++ xs[b] :: xs[b + 1] :: xs.drop (b + 2) := by
    rw [← List.drop_eq_getElem_cons (by omega), ← List.drop_eq_getElem_cons (by omega), List.take_append_drop]
  simp only [at_, List.getElem?_eq_getElem (show b < xs.length by omega), Option.getD_some] at h1
  simp only [at_, List.getElem?_eq_getElem h, Option.getD_some] at h2
  conv => rhs; rw [e1]
  rw [joined, cnt_append, cnt_append, cnt_cons, cnt_cons, cnt_cons, h1, h2]
  have c1 : ((l : Int) + 1 = (j : Int)) ↔ j = l + 1 := by omega
  have c2 : ((l : Int) = (j : Int)) ↔ j = l := by omega
  simp only [c1, c2]
  split <;> split <;> omega
structure Inv (xs : L2) (k l e : Nat) : Prop where
  st : St xs l e
  ord : ordOk xs xs.length
  pos : 0 < e
  lvl : ∀ j : Nat, j ≠ l → (j : Int) ≤ (at_ xs 0).2 → cnt xs j ≤ k + 1 ∧ ((j : Int) < (at_ xs 0).2 → k ≤ cnt xs j)
  top : cnt xs l ≤ k + 2
  low : (l : Int) < (at_ xs 0).2 → k ≤ cnt xs l
  wg : wgt xs ≤ 1073741824
theorem ordAt_joined {xs : L2} {l e : Nat} (hs : St xs l e) (ho : ordOk xs xs.length) (hc : runB xs l e + 2 ≤ e) (hl : l ≤ 29) : ordOk (joined xs (runB xs l e) l) (joined xs (runB xs l e) l).length := by
  have he := hs.he
  obtain ⟨h1, _⟩ := runB_run xs l e
  have hj := at_joined (xs := xs) (b := runB xs l e) (l := (l : Int)) (by omega)
  have hlen := joined_length (xs := xs) (b := runB xs l e) (l := (l : Int)) (by omega)
  have ha := fun i => @St.above xs l e hs i
  have hb1 := h1 _ (Nat.le_refl _) (by omega)
  have hb2 := h1 (runB xs l e + 1) (by omega) (by omega)
  generalize runB xs l e = b at *
  intro i hi
  rw [hlen] at hi
  unfold ordAt
  rcases Nat.lt_trichotomy i b with h | h | h
  · rw [hj i, if_pos h]
    obtain ⟨o1, o2, o3⟩ := ho i (by omega)
    refine ⟨o1, o2, fun h0 => ?_⟩
    rw [hj (i - 1), if_pos (by omega)]
    exact o3 h0
  · subst h
    rw [hj i, if_neg (by omega), if_pos rfl]
    obtain ⟨p1, p2, p3⟩ := ho (i + 1) (by omega)
    refine ⟨p1, by simp; omega, fun h0 => ?_⟩
    rw [hj (i - 1), if_pos (by omega)]
    obtain ⟨q1, q2, q3⟩ := ho i (by omega)
    have r1 := (q3 h0).1
    have r2 := (p3 (by omega)).1
    have r3 := ha (i - 1) (by omega)
    simp only [Nat.add_sub_cancel] at r2
    exact ⟨Int.le_trans r1 r2, by simpa using r3⟩
  · rw [hj i, if_neg (by omega), if_neg (by omega)]
    obtain ⟨p1, p2, p3⟩ := ho (i + 1) (by omega)
    refine ⟨p1, p2, fun h0 => ?_⟩
    have r := p3 (by omega)
    simp only [Nat.add_sub_cancel] at r
    rcases Nat.lt_or_ge b (i - 1) with h2 | h2
    · rw [hj (i - 1), if_neg (by omega), if_neg (by omega), show i - 1 + 1 = i by omega]
      exact r
    · have e : i - 1 = b := by omega
      rw [e, hj b, if_neg (by omega), if_pos rfl]
      have e2 : i = b + 1 := by omega
      subst e2
      exact ⟨r.1, by have := r.2; rw [hb2] at this; simp; omega⟩
theorem Inv.next {xs : L2} {k l e : Nat} (hk : 1 ≤ k) (h : Inv xs k l e) (hc : ¬ e - runB xs l e < k + 2) : Inv (joined xs (runB xs l e) l) k (l + 1) (runB xs l e + 1) := by
  have he := h.st.he
  have hce := h.st.cnt_eq
  have hl29 : l ≤ 29 := by
    have hw := wgt_cnt xs l
    have hg := h.wg
    rcases Nat.lt_or_ge l 30 with h1 | h1
    · omega
    · have h2 : 2 ^ 30 ≤ 2 ^ l := Nat.pow_le_pow_right (by omega) h1
      have h3 : 3 * 2 ^ 30 ≤ cnt xs l * 2 ^ l := Nat.mul_le_mul (by omega) h2
      omega
  obtain ⟨h1, h0⟩ := runB_run xs l e
  have hb1 := h1 _ (Nat.le_refl _) (by omega)
  have hb2 := h1 (runB xs l e + 1) (by omega) (by omega)
  have hcj := cnt_joined (xs := xs) (b := runB xs l e) (l := l) (by omega) hb1 hb2
  have hj := at_joined (xs := xs) (b := runB xs l e) (l := (l : Int)) (by omega) 0
  have hab := fun i => @St.above xs l e h.st i
  have htop : (at_ (joined xs (runB xs l e) l) 0).2 = (at_ xs 0).2 ∧ (l : Int) < (at_ xs 0).2 ∨ (at_ (joined xs (runB xs l e) l) 0).2 = l + 1 ∧ (at_ xs 0).2 = l := by
    rw [hj]
    by_cases hz : 0 < runB xs l e
    · rw [if_pos hz]; exact .inl ⟨rfl, by have := hab 0 hz; omega⟩
    · rw [if_neg hz, if_pos (by omega)]
      have e0 : runB xs l e = 0 := by omega
      rw [e0] at hb1
      exact .inr ⟨rfl, hb1⟩
  have hlow := h.low
  have htp := h.top
  have hlv := h.lvl
  refine ⟨h.st.next (by omega), ordAt_joined h.st h.ord (by omega) hl29, by omega, fun j hj1 hj2 => ?_, ?_, fun hlt => ?_, by rw [wgt_joined (by omega) hb1 hb2]; exact h.wg⟩
  · have c := hcj j
    rw [if_neg hj1] at c
    by_cases ej : j = l
    · subst ej
      rw [if_pos rfl] at c
      refine ⟨by omega, fun _ => by omega⟩
    · rw [if_neg ej] at c
      rcases htop with ⟨t1, t2⟩ | ⟨t1, t2⟩
      · rw [t1] at hj2 ⊢
        have := hlv j ej hj2
        refine ⟨by omega, fun h4 => by have := this.2 h4; omega⟩
      · rw [t1] at hj2 ⊢
        have := hlv j ej (by omega)
        refine ⟨by omega, fun h4 => by have := this.2 (by omega); omega⟩
  · have c := hcj (l + 1)
    rw [if_neg (by omega), if_pos rfl] at c
    rcases htop with ⟨t1, t2⟩ | ⟨t1, t2⟩
    · have := hlv (l + 1) (by omega) (by omega)
      omega
    · have hz : cnt xs (l + 1) = 0 := cnt_high h.ord (by omega)
      omega
  · have c := hcj (l + 1)
    rw [if_neg (by omega), if_pos rfl] at c
    rcases htop with ⟨t1, t2⟩ | ⟨t1, t2⟩
    · rw [t1] at hlt
      have := (hlv (l + 1) (by omega) (by omega)).2 (by omega)
      omega
    · omega
theorem casc_inv {k : Nat} (hk : 1 ≤ k) : ∀ (f : Nat) (xs : L2) (l e : Nat), Inv xs k l e → xs.length ≤ f →
    ordOk (casc k f xs l e) (casc k f xs l e).length ∧ 0 < (casc k f xs l e).length ∧ wgt (casc k f xs l e) = wgt xs ∧
    (at_ (casc k f xs l e) ((casc k f xs l e).length - 1)).1 = (at_ xs (xs.length - 1)).1 ∧
    ∀ j : Nat, (j : Int) ≤ (at_ (casc k f xs l e) 0).2 → cnt (casc k f xs l e) j ≤ k + 1 ∧ ((j : Int) < (at_ (casc k f xs l e) 0).2 → k ≤ cnt (casc k f xs l e) j)
  | 0, xs, l, e, h, hf => by
    have := h.st.he; have := h.pos; omega
  | f + 1, xs, l, e, h, hf => by
    have he := h.st.he
    have hp := h.pos
    by_cases hst : e - runB xs l e < k + 2
    · rw [casc_stop hst]
      refine ⟨h.ord, by omega, rfl, rfl, fun j hj => ?_⟩
      by_cases ej : j = l
      · subst ej
        have := h.st.cnt_eq
        exact ⟨by omega, h.low⟩
      · exact h.lvl j ej hj
    · rw [casc_go hst]
      obtain ⟨h1, _⟩ := runB_run xs l e
      have hlen := joined_length (xs := xs) (b := runB xs l e) (l := (l : Int)) (by omega)
      have ih := casc_inv hk f _ (l + 1) _ (h.next hk hst) (by omega)
      have hw := wgt_joined (xs := xs) (b := runB xs l e) (l := l) (by omega) (h1 _ (Nat.le_refl _) (by omega)) (h1 _ (by omega) (by omega))
      have hlast : (at_ (joined xs (runB xs l e) l) ((joined xs (runB xs l e) l).length - 1)).1 = (at_ xs (xs.length - 1)).1 := by
        rw [at_joined (by omega), hlen]
        rcases Nat.lt_or_ge (runB xs l e) (xs.length - 1 - 1) with h3 | h3
        · rw [if_neg (by omega), if_neg (by omega), show xs.length - 1 - 1 + 1 = xs.length - 1 by omega]
        · rw [if_neg (by omega), if_pos (by omega), show runB xs l e + 1 = xs.length - 1 by omega]
      exact ⟨ih.1, ih.2.1, ih.2.2.1.trans hw, ih.2.2.2.1.trans hlast, ih.2.2.2.2⟩
def tailT (xs : L2) : Int := (at_ xs (xs.length - 1)).1
theorem inv_start {xs : L2} {k : Nat} (hv : ValidP xs k) {t : Int} (ht : 0 ≤ t ∧ t ≤ 16777216) (hm : 0 < xs.length → tailT xs ≤ t) (hw : wgt xs < 1073741824) : Inv (xs ++ [(t, 0)]) k 0 (xs.length + 1) := by
  obtain ⟨⟨hk1, hk2⟩, ho, hl⟩ := hv
  have ha : ∀ i, i < xs.length → at_ (xs ++ [(t, 0)]) i = at_ xs i := fun i hi => by simp [at_, List.getElem?_append_left hi]
  have hz : at_ (xs ++ [(t, 0)]) xs.length = (t, 0) := by simp [at_]
  have hcn : ∀ j, cnt (xs ++ [(t, 0)]) j = cnt xs j + if j = 0 then 1 else 0 := fun j => by
    rw [cnt_append, cnt_cons, cnt_nil]
    by_cases e : j = 0
    · subst e; simp
    · rw [if_neg (by first | (simp; done) | (simp; omega)), if_neg e]
  have htop : 0 < xs.length → at_ (xs ++ [(t, 0)]) 0 = at_ xs 0 := fun h => ha 0 h
  have hlen : (xs ++ [(t, 0)]).length = xs.length + 1 := by simp
  refine ⟨ord_St ho t, fun i hi => ?_, by omega, fun j hj1 hj2 => ?_, ?_, fun hlt => ?_, by rw [wgt_append]; simp [wgt]; omega⟩
  · rw [hlen] at hi
    rcases Nat.lt_or_ge i xs.length with h1 | h1
    · obtain ⟨o1, o2, o3⟩ := ho i h1
      unfold ordAt
      rw [ha i h1]
      refine ⟨o1, o2, fun h0 => ?_⟩
      rw [ha (i - 1) (by omega)]
      exact o3 h0
    · obtain rfl : i = xs.length := by omega
      unfold ordAt
      rw [hz]
      refine ⟨ht, by simp, fun h0 => ?_⟩
      rw [ha _ (by omega)]
      exact ⟨hm h0, (ho _ (by omega)).2.1.1⟩
  · rw [hcn, if_neg hj1]
    rcases Nat.eq_zero_or_pos xs.length with h0 | h0
    · have e : xs = [] := List.eq_nil_of_length_eq_zero h0
      subst e
      simp [at_] at hj2
      omega
    · rw [htop h0] at hj2 ⊢
      have hd := (ho 0 h0).2.1.2
      have := hl h0 j (by omega) hj2
      exact ⟨by omega, fun h => by have := this.2 h; omega⟩
  · rw [hcn, if_pos rfl]
    rcases Nat.eq_zero_or_pos xs.length with h0 | h0
    · have e : xs = [] := List.eq_nil_of_length_eq_zero h0
      subst e
      simp [cnt_nil]
    · have := (hl h0 0 (by omega) (ho 0 h0).2.1.1).1
      omega
  · rw [hcn, if_pos rfl]
    rcases Nat.eq_zero_or_pos xs.length with h0 | h0
    · have e : xs = [] := List.eq_nil_of_length_eq_zero h0
      subst e
      simp [at_] at hlt
    · rw [htop h0] at hlt
      have := (hl h0 0 (by omega) (ho 0 h0).2.1.1).2 hlt
      omega
theorem insC_valid {xs : L2} {k : Nat} (hv : ValidP xs k) {t : Int} (ht : 0 ≤ t ∧ t ≤ 16777216) (hm : 0 < xs.length → tailT xs ≤ t) (hw : wgt xs < 1073741824) :
    ValidP (insC xs k t) k ∧ wgt (insC xs k t) = wgt xs + 1 ∧ tailT (insC xs k t) = t ∧ 0 < (insC xs k t).length := by
  have h := casc_inv (k := k) (by have := hv.1; omega) (xs.length + 1) _ 0 _ (inv_start hv ht hm hw) (by simp)
  have hz : (at_ (xs ++ [(t, 0)]) ((xs ++ [(t, 0)]).length - 1)).1 = t := by simp [at_]
  have hwg : wgt (xs ++ [(t, 0)]) = wgt xs + 1 := by rw [wgt_append]; simp [wgt]
  rw [hz, hwg] at h
  have e : insC xs k t = casc k (xs.length + 1) (xs ++ [(t, 0)]) 0 (xs.length + 1) := rfl
  rw [e]
  generalize casc k (xs.length + 1) (xs ++ [(t, 0)]) 0 (xs.length + 1) = zs at *
  obtain ⟨h1, h2, h3, h4, h5⟩ := h
  refine ⟨⟨hv.1, h1, fun _ j _ hj => ?_⟩, h3, h4, h2⟩
  have := h5 j hj
  exact ⟨by omega, fun h => by have := this.2 h; omega⟩
end Go.Proofs.YtjapjfcennemeaaGreat.buk
end
section
namespace Go.Proofs.YtjapjfcennemeaaGreat.buk
set_option linter.unusedVariables false
theorem ord_mono {xs : L2} (h : ordOk xs xs.length) : ∀ d a, a + d < xs.length → (at_ xs (a + d)).2 ≤ (at_ xs a).2 := by
  intro d
  induction d with
  | zero => intro a _; exact Int.le_refl _
  | succ d ih =>
    intro a hl
    have h1 := ih a (by omega)
    have h2 := ((h (a + (d + 1)) hl).2.2 (by omega)).2
    rw [show a + (d + 1) - 1 = a + d by omega] at h2
    omega
theorem cnt_take_zero {xs : L2} (h : ordOk xs xs.length) {i l : Nat} (hi : i < xs.length) (hl : (l : Int) < (at_ xs i).2) : cnt (xs.take i) l = 0 := by
  unfold cnt
  rw [List.countP_eq_zero]
  intro p hp
  obtain ⟨j, hj, rfl⟩ := List.getElem_of_mem hp
  rw [List.length_take] at hj
  rw [List.getElem_take]
  have h1 := ord_mono h (i - j) j (by omega)
  rw [show j + (i - j) = i by omega] at h1
  have e : at_ xs j = xs[j]'(by omega) := by simp [at_, List.getElem?_eq_getElem (show j < xs.length by omega)]
  rw [e] at h1
  simp
  omega
theorem drop_valid {xs : L2} {k : Int} (hv : ValidP xs k) (i : Nat) : ValidP (xs.drop i) k := by
  obtain ⟨hk, ho, hl⟩ := hv
  refine ⟨hk, fun j hj => ?_, fun hp l hl31 => ?_⟩
  · rw [List.length_drop] at hj
    have h := ho (i + j) (by omega)
    unfold ordAt
    rw [at_drop]
    refine ⟨h.1, h.2.1, fun hj0 => ?_⟩
    have h2 := h.2.2 (by omega)
    rw [at_drop, show i + (j - 1) = i + j - 1 by omega]
    exact h2
  · rw [List.length_drop] at hp
    have hlev := hl (by omega) l hl31
    have hc : cnt xs l = cnt (xs.take i) l + cnt (xs.drop i) l := by rw [← cnt_append, List.take_append_drop]
    have hle := ord_le ho i (by omega)
    unfold levAt at hlev ⊢
    rw [at_drop, Nat.add_zero]
    intro h1
    have h2 := hlev (by omega)
    refine ⟨by omega, fun h3 => ?_⟩
    have hz := cnt_take_zero ho (show i < xs.length by omega) h3
    have h4 := h2.2 (by omega)
    omega
theorem wgt_drop (xs : L2) (i : Nat) : wgt (xs.drop i) ≤ wgt xs := by
  have h := wgt_append (xs.take i) (xs.drop i)
  rw [List.take_append_drop] at h
  omega
end Go.Proofs.YtjapjfcennemeaaGreat.buk
end
section
namespace Go.Proofs.YtjapjfcennemeaaGreat.wid
def hi (n : Nat) : Int := ((n / 18446744073709551616 : Nat) : Int)
def lo (n : Nat) : Int := ((n % 18446744073709551616 : Nat) : Int)
theorem hi_bd {n : Nat} (h : n < 340282366920938463463374607431768211456) : 0 ≤ hi n ∧ hi n ≤ 18446744073709551615 := by unfold hi; omega
theorem lo_bd (n : Nat) : 0 ≤ lo n ∧ lo n ≤ 18446744073709551615 := by unfold lo; omega
theorem hi_small {n : Nat} (h : n ≤ 18446744073709551615) : hi n = 0 := by unfold hi; omega
theorem lo_small {n : Nat} (h : n ≤ 18446744073709551615) : lo n = n := by unfold lo; omega
theorem hi_of {x : Int} (h0 : 0 ≤ x) (h1 : x ≤ 18446744073709551615) : hi x.toNat = 0 := hi_small (by omega)
theorem lo_of {x : Int} (h0 : 0 ≤ x) (h1 : x ≤ 18446744073709551615) : lo x.toNat = x := by rw [lo_small (by omega)]; omega
theorem hi_zero : hi 0 = 0 := rfl
theorem lo_zero : lo 0 = 0 := rfl
theorem eq_of {a b : Nat} (h : hi a = hi b) (l : lo a = lo b) : a = b := by unfold hi at h; unfold lo at l; omega
theorem zero_iff (a : Nat) : (hi a = 0 ∧ lo a = 0) ↔ a = 0 := ⟨fun h => eq_of h.1 h.2, fun h => by subst h; exact ⟨rfl, rfl⟩⟩
theorem lt_iff (a b : Nat) : (hi a < hi b ∨ hi a = hi b ∧ lo a < lo b) ↔ a < b := by unfold hi lo; omega
end Go.Proofs.YtjapjfcennemeaaGreat.wid
end
