/- KeepL; IterL; GrowL; KeepM: texts in one. -/
import Derived.Test.YtofgjcfiinmimaaMgPutEq
/- An insertion keeps a list in order. No program. -/
namespace Go.Proofs.Ytofgjcfiinmimaa.buk
theorem cnt_joined {xs : L2} {b l : Nat} (h : b + 1 < xs.length) (h1 : (at_ xs b).2 = (l : Int)) (h2 : (at_ xs (b + 1)).2 = (l : Int)) (j : Nat) :
    cnt (joined xs b l) j + (if j = l then 2 else 0) = cnt xs j + (if j = l + 1 then 1 else 0) := by
  have e1 : xs = xs.take b ++ xs[b] :: xs[b + 1] :: xs.drop (b + 2) := by
    rw [← List.drop_eq_getElem_cons (by omega), ← List.drop_eq_getElem_cons (by omega), List.take_append_drop]
  simp only [at_, List.getElem?_eq_getElem (show b < xs.length by omega), Option.getD_some] at h1
  simp only [at_, List.getElem?_eq_getElem h, Option.getD_some] at h2
  conv => rhs; rw [e1]
  rw [joined, cnt_append, cnt_append, cnt_cons, cnt_cons, cnt_cons, h1, h2]
  have c1 : ((l : Int) + 1 = (j : Int)) ↔ j = l + 1 := by omega
  have c2 : ((l : Int) = (j : Int)) ↔ j = l := by omega
  simp only [c1, c2]
  split <;> split <;> omega
/-- What the cascade keeps. -/
structure Inv (xs : L2) (k l e : Nat) : Prop where
  st : St xs l e
  ord : ordOk xs xs.length
  pos : 0 < e
  lvl : ∀ j : Nat, j ≠ l → (j : Int) ≤ (at_ xs 0).2 → cnt xs j ≤ k + 1 ∧ ((j : Int) < (at_ xs 0).2 → k ≤ cnt xs j)
  top : cnt xs l ≤ k + 2
  low : (l : Int) < (at_ xs 0).2 → k ≤ cnt xs l
  wg : wgt xs ≤ 1073741824
theorem ordAt_joined {xs : L2} {l e : Nat} (hs : St xs l e) (ho : ordOk xs xs.length) (hc : runB xs l e + 2 ≤ e) (hl : l ≤ 29) : ordOk (joined xs (runB xs l e) l) (joined xs (runB xs l e) l).length := by
  have he := hs.he
  obtain ⟨h1, _⟩ := runB_run xs l e
  have hj := at_joined (xs := xs) (b := runB xs l e) (l := (l : Int)) (by omega)
  have hlen := joined_length (xs := xs) (b := runB xs l e) (l := (l : Int)) (by omega)
  have ha := fun i => @St.above xs l e hs i
  have hb1 := h1 _ (Nat.le_refl _) (by omega)
  have hb2 := h1 (runB xs l e + 1) (by omega) (by omega)
  generalize runB xs l e = b at *
  intro i hi
  rw [hlen] at hi
  unfold ordAt
  rcases Nat.lt_trichotomy i b with h | h | h
  · rw [hj i, if_pos h]
    obtain ⟨o1, o2, o3⟩ := ho i (by omega)
    refine ⟨o1, o2, fun h0 => ?_⟩
    rw [hj (i - 1), if_pos (by omega)]
    exact o3 h0
  · subst h
    rw [hj i, if_neg (by omega), if_pos rfl]
    obtain ⟨p1, p2, p3⟩ := ho (i + 1) (by omega)
    refine ⟨p1, by simp; omega, fun h0 => ?_⟩
    rw [hj (i - 1), if_pos (by omega)]
    obtain ⟨q1, q2, q3⟩ := ho i (by omega)
    have r1 := (q3 h0).1
    have r2 := (p3 (by omega)).1
    have r3 := ha (i - 1) (by omega)
    simp only [Nat.add_sub_cancel] at r2
    exact ⟨Int.le_trans r1 r2, by simpa using r3⟩
  · rw [hj i, if_neg (by omega), if_neg (by omega)]
    obtain ⟨p1, p2, p3⟩ := ho (i + 1) (by omega)
    refine ⟨p1, p2, fun h0 => ?_⟩
    have r := p3 (by omega)
    simp only [Nat.add_sub_cancel] at r
    rcases Nat.lt_or_ge b (i - 1) with h2 | h2
    · rw [hj (i - 1), if_neg (by omega), if_neg (by omega), show i - 1 + 1 = i by omega]
      exact r
    · have e : i - 1 = b := by omega
      rw [e, hj b, if_neg (by omega), if_pos rfl]
      have e2 : i = b + 1 := by omega
      subst e2
      exact ⟨r.1, by have := r.2; rw [hb2] at this; simp; omega⟩
theorem Inv.next {xs : L2} {k l e : Nat} (hk : 1 ≤ k) (h : Inv xs k l e) (hc : ¬ e - runB xs l e < k + 2) : Inv (joined xs (runB xs l e) l) k (l + 1) (runB xs l e + 1) := by
  have he := h.st.he
  have hce := h.st.cnt_eq
  have hl29 : l ≤ 29 := by
    have hw := wgt_cnt xs l
    have hg := h.wg
    rcases Nat.lt_or_ge l 30 with h1 | h1
    · omega
    · have h2 : 2 ^ 30 ≤ 2 ^ l := Nat.pow_le_pow_right (by omega) h1
      have h3 : 3 * 2 ^ 30 ≤ cnt xs l * 2 ^ l := Nat.mul_le_mul (by omega) h2
      omega
  obtain ⟨h1, h0⟩ := runB_run xs l e
  have hb1 := h1 _ (Nat.le_refl _) (by omega)
  have hb2 := h1 (runB xs l e + 1) (by omega) (by omega)
  have hcj := cnt_joined (xs := xs) (b := runB xs l e) (l := l) (by omega) hb1 hb2
  have hj := at_joined (xs := xs) (b := runB xs l e) (l := (l : Int)) (by omega) 0
  have hab := fun i => @St.above xs l e h.st i
  have htop : (at_ (joined xs (runB xs l e) l) 0).2 = (at_ xs 0).2 ∧ (l : Int) < (at_ xs 0).2 ∨ (at_ (joined xs (runB xs l e) l) 0).2 = l + 1 ∧ (at_ xs 0).2 = l := by
    rw [hj]
    by_cases hz : 0 < runB xs l e
    · rw [if_pos hz]; exact .inl ⟨rfl, by have := hab 0 hz; omega⟩
    · rw [if_neg hz, if_pos (by omega)]
      have e0 : runB xs l e = 0 := by omega
      rw [e0] at hb1
      exact .inr ⟨rfl, hb1⟩
  have hlow := h.low
  have htp := h.top
  have hlv := h.lvl
  refine ⟨h.st.next (by omega), ordAt_joined h.st h.ord (by omega) hl29, by omega, fun j hj1 hj2 => ?_, ?_, fun hlt => ?_, by rw [wgt_joined (by omega) hb1 hb2]; exact h.wg⟩
  · have c := hcj j
    rw [if_neg hj1] at c
    by_cases ej : j = l
    · subst ej
      rw [if_pos rfl] at c
      refine ⟨by omega, fun _ => by omega⟩
    · rw [if_neg ej] at c
      rcases htop with ⟨t1, t2⟩ | ⟨t1, t2⟩
      · rw [t1] at hj2 ⊢
        have := hlv j ej hj2
        refine ⟨by omega, fun h4 => by have := this.2 h4; omega⟩
      · rw [t1] at hj2 ⊢
        have := hlv j ej (by omega)
        refine ⟨by omega, fun h4 => by have := this.2 (by omega); omega⟩
  · have c := hcj (l + 1)
    rw [if_neg (by omega), if_pos rfl] at c
    rcases htop with ⟨t1, t2⟩ | ⟨t1, t2⟩
    · have := hlv (l + 1) (by omega) (by omega)
      omega
    · have hz : cnt xs (l + 1) = 0 := cnt_high h.ord (by omega)
      omega
  · have c := hcj (l + 1)
    rw [if_neg (by omega), if_pos rfl] at c
    rcases htop with ⟨t1, t2⟩ | ⟨t1, t2⟩
    · rw [t1] at hlt
      have := (hlv (l + 1) (by omega) (by omega)).2 (by omega)
      omega
    · omega
/-- The end of the cascade: in order, every level allowed. -/
theorem casc_inv {k : Nat} (hk : 1 ≤ k) : ∀ (f : Nat) (xs : L2) (l e : Nat), Inv xs k l e → xs.length ≤ f →
    ordOk (casc k f xs l e) (casc k f xs l e).length ∧ 0 < (casc k f xs l e).length ∧ wgt (casc k f xs l e) = wgt xs ∧
    (at_ (casc k f xs l e) ((casc k f xs l e).length - 1)).1 = (at_ xs (xs.length - 1)).1 ∧
    ∀ j : Nat, (j : Int) ≤ (at_ (casc k f xs l e) 0).2 → cnt (casc k f xs l e) j ≤ k + 1 ∧ ((j : Int) < (at_ (casc k f xs l e) 0).2 → k ≤ cnt (casc k f xs l e) j)
  | 0, xs, l, e, h, hf => by
    have := h.st.he; have := h.pos; omega
  | f + 1, xs, l, e, h, hf => by
    have he := h.st.he
    have hp := h.pos
    by_cases hst : e - runB xs l e < k + 2
    · rw [casc_stop hst]
      refine ⟨h.ord, by omega, rfl, rfl, fun j hj => ?_⟩
      by_cases ej : j = l
      · subst ej
        have := h.st.cnt_eq
        exact ⟨by omega, h.low⟩
      · exact h.lvl j ej hj
    · rw [casc_go hst]
      obtain ⟨h1, _⟩ := runB_run xs l e
      have hlen := joined_length (xs := xs) (b := runB xs l e) (l := (l : Int)) (by omega)
      have ih := casc_inv hk f _ (l + 1) _ (h.next hk hst) (by omega)
      have hw := wgt_joined (xs := xs) (b := runB xs l e) (l := l) (by omega) (h1 _ (Nat.le_refl _) (by omega)) (h1 _ (by omega) (by omega))
      have hlast : (at_ (joined xs (runB xs l e) l) ((joined xs (runB xs l e) l).length - 1)).1 = (at_ xs (xs.length - 1)).1 := by
        rw [at_joined (by omega), hlen]
        rcases Nat.lt_or_ge (runB xs l e) (xs.length - 1 - 1) with h3 | h3
        · rw [if_neg (by omega), if_neg (by omega), show xs.length - 1 - 1 + 1 = xs.length - 1 by omega]
        · rw [if_neg (by omega), if_pos (by omega), show runB xs l e + 1 = xs.length - 1 by omega]
      exact ⟨ih.1, ih.2.1, ih.2.2.1.trans hw, ih.2.2.2.1.trans hlast, ih.2.2.2.2⟩
def tailT (xs : L2) : Int := (at_ xs (xs.length - 1)).1
theorem inv_start {xs : L2} {k : Nat} (hv : ValidP xs k) {t : Int} (ht : 0 ≤ t ∧ t ≤ 16777216) (hm : 0 < xs.length → tailT xs ≤ t) (hw : wgt xs < 1073741824) : Inv (xs ++ [(t, 0)]) k 0 (xs.length + 1) := by
  obtain ⟨⟨hk1, hk2⟩, ho, hl⟩ := hv
  have ha : ∀ i, i < xs.length → at_ (xs ++ [(t, 0)]) i = at_ xs i := fun i hi => by simp [at_, List.getElem?_append_left hi]
  have hz : at_ (xs ++ [(t, 0)]) xs.length = (t, 0) := by simp [at_]
  have hcn : ∀ j, cnt (xs ++ [(t, 0)]) j = cnt xs j + if j = 0 then 1 else 0 := fun j => by
    rw [cnt_append, cnt_cons, cnt_nil]
    by_cases e : j = 0
    · subst e; simp
    · rw [if_neg (by first | (simp; done) | (simp; omega)), if_neg e]
  have htop : 0 < xs.length → at_ (xs ++ [(t, 0)]) 0 = at_ xs 0 := fun h => ha 0 h
  have hlen : (xs ++ [(t, 0)]).length = xs.length + 1 := by simp
  refine ⟨ord_St ho t, fun i hi => ?_, by omega, fun j hj1 hj2 => ?_, ?_, fun hlt => ?_, by rw [wgt_append]; simp [wgt]; omega⟩
  · rw [hlen] at hi
    rcases Nat.lt_or_ge i xs.length with h1 | h1
    · obtain ⟨o1, o2, o3⟩ := ho i h1
      unfold ordAt
      rw [ha i h1]
      refine ⟨o1, o2, fun h0 => ?_⟩
      rw [ha (i - 1) (by omega)]
      exact o3 h0
    · obtain rfl : i = xs.length := by omega
      unfold ordAt
      rw [hz]
      refine ⟨ht, by simp, fun h0 => ?_⟩
      rw [ha _ (by omega)]
      exact ⟨hm h0, (ho _ (by omega)).2.1.1⟩
  · rw [hcn, if_neg hj1]
    rcases Nat.eq_zero_or_pos xs.length with h0 | h0
    · have e : xs = [] := List.eq_nil_of_length_eq_zero h0
      subst e
      simp [at_] at hj2
      omega
    · rw [htop h0] at hj2 ⊢
      have hd := (ho 0 h0).2.1.2
      have := hl h0 j (by omega) hj2
      exact ⟨by omega, fun h => by have := this.2 h; omega⟩
  · rw [hcn, if_pos rfl]
    rcases Nat.eq_zero_or_pos xs.length with h0 | h0
    · have e : xs = [] := List.eq_nil_of_length_eq_zero h0
      subst e
      simp [cnt_nil]
    · have := (hl h0 0 (by omega) (ho 0 h0).2.1.1).1
      omega
  · rw [hcn, if_pos rfl]
    rcases Nat.eq_zero_or_pos xs.length with h0 | h0
    · have e : xs = [] := List.eq_nil_of_length_eq_zero h0
      subst e
      simp [at_] at hlt
    · rw [htop h0] at hlt
      have := (hl h0 0 (by omega) (ho 0 h0).2.1.1).2 hlt
      omega
theorem insC_valid {xs : L2} {k : Nat} (hv : ValidP xs k) {t : Int} (ht : 0 ≤ t ∧ t ≤ 16777216) (hm : 0 < xs.length → tailT xs ≤ t) (hw : wgt xs < 1073741824) :
    ValidP (insC xs k t) k ∧ wgt (insC xs k t) = wgt xs + 1 ∧ tailT (insC xs k t) = t ∧ 0 < (insC xs k t).length := by
  have h := casc_inv (k := k) (by have := hv.1; omega) (xs.length + 1) _ 0 _ (inv_start hv ht hm hw) (by simp)
  have hz : (at_ (xs ++ [(t, 0)]) ((xs ++ [(t, 0)]).length - 1)).1 = t := by simp [at_]
  have hwg : wgt (xs ++ [(t, 0)]) = wgt xs + 1 := by rw [wgt_append]; simp [wgt]
  rw [hz, hwg] at h
  have e : insC xs k t = casc k (xs.length + 1) (xs ++ [(t, 0)]) 0 (xs.length + 1) := rfl
  rw [e]
  generalize casc k (xs.length + 1) (xs ++ [(t, 0)]) 0 (xs.length + 1) = zs at *
  obtain ⟨h1, h2, h3, h4, h5⟩ := h
  refine ⟨⟨hv.1, h1, fun _ j _ hj => ?_⟩, h3, h4, h2⟩
  have := h5 j hj
  exact ⟨by omega, fun h => by have := this.2 h; omega⟩
end Go.Proofs.Ytofgjcfiinmimaa.buk

/- Several insertions, as lists. No program. -/
namespace Go.Proofs.Ytofgjcfiinmimaa.buk
theorem iterIns_succ (k : Nat) (t : Int) (m : Nat) (xs : L2) : iterIns k t (m + 1) xs = insC (iterIns k t m xs) k t := by
  induction m generalizing xs with
  | zero => rfl
  | succ m ih => rw [iterIns, ih]; rfl
theorem iter_valid {k : Nat} {t : Int} (ht : 0 ≤ t ∧ t ≤ 16777216) : ∀ (m : Nat) (xs : L2), ValidP xs k → (0 < xs.length → tailT xs ≤ t) → wgt xs + m ≤ 1073741824 →
    ValidP (iterIns k t m xs) k ∧ (0 < (iterIns k t m xs).length → tailT (iterIns k t m xs) ≤ t) ∧ wgt (iterIns k t m xs) = wgt xs + m ∧ (0 < m → 0 < (iterIns k t m xs).length)
  | 0, xs, hv, hm, hw => ⟨hv, hm, rfl, fun h => absurd h (Nat.lt_irrefl 0)⟩
  | m + 1, xs, hv, hm, hw => by
    obtain ⟨a1, a2, a3, a4⟩ := insC_valid hv ht hm (by omega)
    obtain ⟨b1, b2, b3, b4⟩ := iter_valid ht m (insC xs k t) a1 (fun _ => by omega) (by omega)
    refine ⟨b1, b2, by rw [iterIns, b3, a2]; omega, fun _ => ?_⟩
    rw [iterIns]
    rcases Nat.eq_zero_or_pos m with h | h
    · subst h; exact a4
    · exact b4 h
def iterPut (k : Nat) (t : Int) : Nat → L2 → L2
  | 0, xs => xs
  | m + 1, xs => iterPut k t m (putC xs k t)
theorem iterPut_eq {k : Nat} (hk : 1 ≤ k) {t : Int} (ht : 0 ≤ t ∧ t ≤ 16777216) : ∀ (m : Nat) (xs : L2), ValidP xs k → (0 < xs.length → tailT xs ≤ t) → wgt xs + m ≤ 1073741824 → iterPut k t m xs = iterIns k t m xs
  | 0, _, _, _, _ => rfl
  | m + 1, xs, hv, hm, hw => by
    obtain ⟨a1, a2, a3, a4⟩ := insC_valid hv ht hm (by omega)
    rw [iterPut, iterIns, putC_eq hk hv.2.1 (by omega) t]
    exact iterPut_eq hk ht m _ a1 (fun _ => by omega) (by omega)
end Go.Proofs.Ytofgjcfiinmimaa.buk

/- The number of buckets of each level after so many insertions. No program. -/
namespace Go.Proofs.Ytofgjcfiinmimaa.buk
/-- So many arrivals at level l. -/
def arr (k : Nat) : Nat → Nat → Nat
  | 0, n => n
  | l + 1, n => arr k l ((n - k) / 2)
theorem arr_succ (k : Nat) : ∀ l n, arr k (l + 1) n = (arr k l n - k) / 2
  | 0, _ => rfl
  | l + 1, n => by rw [arr, arr_succ k l]; rfl
def cof (k n l : Nat) : Nat := arr k l n - 2 * arr k (l + 1) n
theorem cof_stay {k n l : Nat} (h : arr k l (n + 1) = arr k l n) : arr k (l + 1) (n + 1) = arr k (l + 1) n := by
  rw [arr_succ, arr_succ, h]
theorem cof_stays {k n l : Nat} (h : arr k l (n + 1) = arr k l n) : ∀ j, l ≤ j → arr k j (n + 1) = arr k j n := by
  intro j hj
  obtain ⟨d, rfl⟩ : ∃ d, j = l + d := ⟨j - l, by omega⟩
  clear hj
  induction d with
  | zero => exact h
  | succ d ih => exact cof_stay ih
structure GInv (xs : L2) (k n l e : Nat) : Prop where
  st : St xs l e
  lo : ∀ j, j < l → cnt xs j = cof k (n + 1) j
  at_ : cnt xs l = cof k n l + 1
  hi : ∀ j, l < j → cnt xs j = cof k n j
  up : arr k l (n + 1) = arr k l n + 1
theorem casc_cof {k : Nat} (hk : 1 ≤ k) (n : Nat) : ∀ (f : Nat) (xs : L2) (l e : Nat), GInv xs k n l e → xs.length ≤ f → ∀ j, cnt (casc k f xs l e) j = cof k (n + 1) j
  | 0, xs, l, e, h, hf => by
    have h1 := h.at_
    have h2 := cnt_le xs l
    omega
  | f + 1, xs, l, e, h, hf => by
    have hc := h.st.cnt_eq
    have hat := h.at_
    have hup := h.up
    have s1 := arr_succ k l n
    have s2 := arr_succ k l (n + 1)
    by_cases hst : e - runB xs l e < k + 2
    · rw [casc_stop hst]
      have hst2 : arr k (l + 1) (n + 1) = arr k (l + 1) n := by unfold cof at hat; omega
      intro j
      rcases Nat.lt_trichotomy j l with h1 | h1 | h1
      · exact h.lo j h1
      · subst h1
        rw [hat]; unfold cof at hat ⊢; omega
      · rw [h.hi j h1]
        unfold cof
        rw [cof_stays hst2 j h1, cof_stays hst2 (j + 1) (by omega)]
    · rw [casc_go hst]
      obtain ⟨h1, _⟩ := runB_run xs l e
      have he := h.st.he
      have hlen := joined_length (xs := xs) (b := runB xs l e) (l := (l : Int)) (by omega)
      have hcj := cnt_joined (xs := xs) (b := runB xs l e) (l := l) (by omega) (h1 _ (Nat.le_refl _) (by omega)) (h1 _ (by omega) (by omega))
      refine casc_cof hk n f _ (l + 1) _ ⟨h.st.next (by omega), fun j hj => ?_, ?_, fun j hj => ?_, ?_⟩ (by omega)
      · have c := hcj j
        rw [if_neg (show ¬ j = l + 1 by omega)] at c
        rcases Nat.lt_or_ge j l with h2 | h2
        · rw [if_neg (by omega)] at c
          have := h.lo j h2; omega
        · obtain rfl : j = l := by omega
          rw [if_pos rfl] at c
          unfold cof at hat ⊢; omega
      · have c := hcj (l + 1)
        rw [if_neg (by omega), if_pos rfl] at c
        have := h.hi (l + 1) (by omega)
        omega
      · have c := hcj j
        rw [if_neg (by omega), if_neg (by omega)] at c
        have := h.hi j (by omega)
        omega
      · unfold cof at hat; omega
theorem insC_cof {k : Nat} (hk : 1 ≤ k) {xs : L2} (ho : ordOk xs xs.length) {n : Nat} (h : ∀ j, cnt xs j = cof k n j) (t : Int) : ∀ j, cnt (insC xs k t) j = cof k (n + 1) j := by
  have hcn : ∀ j, cnt (xs ++ [(t, 0)]) j = cnt xs j + if j = 0 then 1 else 0 := fun j => by
    rw [cnt_append, cnt_cons, cnt_nil]
    by_cases e : j = 0
    · subst e; simp
    · rw [if_neg (by first | (simp; done) | (simp; omega)), if_neg e]
  refine casc_cof hk n _ _ 0 _ ⟨ord_St ho t, fun j hj => by omega, by rw [hcn, h, if_pos rfl], fun j hj => by rw [hcn, h, if_neg (by omega)]; rfl, rfl⟩ (by simp)
theorem arr_zero (k : Nat) : ∀ l, arr k l 0 = 0
  | 0 => rfl
  | l + 1 => by rw [arr_succ, arr_zero k l]; simp
theorem validP_nil {k : Nat} (hk : 1 ≤ k) (hk2 : k ≤ 128) : ValidP [] k := ⟨by omega, ordOk_zero _, fun h => by simp at h⟩
theorem grown_cof {k : Nat} (hk : 1 ≤ k) (hk2 : k ≤ 128) : ∀ n : Nat, n ≤ 1073741824 → ∀ j, cnt (iterIns k 0 n []) j = cof k n j
  | 0, _ => fun j => by simp [iterIns, cnt_nil, cof, arr_zero]
  | n + 1, hn => by
    rw [iterIns_succ]
    have hv := iter_valid (k := k) (t := 0) (by omega) n [] (validP_nil hk hk2) (fun h => by simp at h) (by simp [wgt]; omega)
    exact insC_cof hk hv.1.2.1 (grown_cof hk hk2 n (by omega)) 0
theorem cnt_pos {xs : L2} (h : ordOk xs xs.length) (hp : 0 < xs.length) : 0 < cnt xs (at_ xs 0).2.toNat := by
  have h0 := (h 0 hp).2.1.1
  rw [cnt, List.countP_pos_iff]
  refine ⟨xs[0], List.getElem_mem hp, ?_⟩
  simp only [at_, List.getElem?_eq_getElem hp, Option.getD_some] at h0 ⊢
  simp; omega
end Go.Proofs.Ytofgjcfiinmimaa.buk

/- Lists of buckets in order: suffixes, numbers of levels, how narrow they are. No program. -/
namespace Go.Proofs.Ytofgjcfiinmimaa.buk
set_option linter.unusedVariables false
theorem ord_mono {xs : L2} (h : ordOk xs xs.length) : ∀ d a, a + d < xs.length → (at_ xs (a + d)).2 ≤ (at_ xs a).2 := by
  intro d
  induction d with
  | zero => intro a _; exact Int.le_refl _
  | succ d ih =>
    intro a hl
    have h1 := ih a (by omega)
    have h2 := ((h (a + (d + 1)) hl).2.2 (by omega)).2
    rw [show a + (d + 1) - 1 = a + d by omega] at h2
    omega
theorem cnt_take_zero {xs : L2} (h : ordOk xs xs.length) {i l : Nat} (hi : i < xs.length) (hl : (l : Int) < (at_ xs i).2) : cnt (xs.take i) l = 0 := by
  unfold cnt
  rw [List.countP_eq_zero]
  intro p hp
  obtain ⟨j, hj, rfl⟩ := List.getElem_of_mem hp
  rw [List.length_take] at hj
  rw [List.getElem_take]
  have h1 := ord_mono h (i - j) j (by omega)
  rw [show j + (i - j) = i by omega] at h1
  have e : at_ xs j = xs[j]'(by omega) := by simp [at_, List.getElem?_eq_getElem (show j < xs.length by omega)]
  rw [e] at h1
  simp
  omega
theorem drop_valid {xs : L2} {k : Int} (hv : ValidP xs k) (i : Nat) : ValidP (xs.drop i) k := by
  obtain ⟨hk, ho, hl⟩ := hv
  refine ⟨hk, fun j hj => ?_, fun hp l hl31 => ?_⟩
  · rw [List.length_drop] at hj
    have h := ho (i + j) (by omega)
    unfold ordAt
    rw [at_drop]
    refine ⟨h.1, h.2.1, fun hj0 => ?_⟩
    have h2 := h.2.2 (by omega)
    rw [at_drop, show i + (j - 1) = i + j - 1 by omega]
    exact h2
  · rw [List.length_drop] at hp
    have hlev := hl (by omega) l hl31
    have hc : cnt xs l = cnt (xs.take i) l + cnt (xs.drop i) l := by rw [← cnt_append, List.take_append_drop]
    have hle := ord_le ho i (by omega)
    unfold levAt at hlev ⊢
    rw [at_drop, Nat.add_zero]
    intro h1
    have h2 := hlev (by omega)
    refine ⟨by omega, fun h3 => ?_⟩
    have hz := cnt_take_zero ho (show i < xs.length by omega) h3
    have h4 := h2.2 (by omega)
    omega
def sumTo (f : Nat → Nat) : Nat → Nat
  | 0 => 0
  | m + 1 => sumTo f m + f m
theorem sumTo_add (f g : Nat → Nat) : ∀ m, sumTo (fun l => f l + g l) m = sumTo f m + sumTo g m
  | 0 => rfl
  | m + 1 => by simp only [sumTo, sumTo_add f g m]; omega
theorem sumTo_zero {f : Nat → Nat} : ∀ m, (∀ l, l < m → f l = 0) → sumTo f m = 0
  | 0, _ => rfl
  | m + 1, h => by simp only [sumTo, sumTo_zero m (fun l hl => h l (by omega)), h m (by omega)]
theorem sumTo_one {c : Nat → Nat} {a : Nat} : ∀ m, a < m → sumTo (fun l => if a = l then c l else 0) m = c a
  | 0, h => by omega
  | m + 1, h => by
    simp only [sumTo]
    by_cases e : a = m
    · subst e
      rw [if_pos rfl, sumTo_zero a (fun l hl => if_neg (by omega)), Nat.zero_add]
    · rw [if_neg e, sumTo_one m (by omega), Nat.add_zero]
theorem sumTo_congr {f g : Nat → Nat} : ∀ m, (∀ l, l < m → f l = g l) → sumTo f m = sumTo g m
  | 0, _ => rfl
  | m + 1, h => by simp only [sumTo, sumTo_congr m (fun l hl => h l (by omega)), h m (by omega)]
theorem sumTo_le {f g : Nat → Nat} : ∀ m, (∀ l, l < m → f l ≤ g l) → sumTo f m ≤ sumTo g m
  | 0, _ => Nat.le_refl _
  | m + 1, h => by
    have h1 := sumTo_le m (fun l hl => h l (by omega))
    have h2 := h m (by omega)
    simp only [sumTo]; omega
theorem sumTo_mono {f : Nat → Nat} {a b : Nat} (h : a ≤ b) : sumTo f a ≤ sumTo f b := by
  induction b with
  | zero => have : a = 0 := by omega
            subst this; exact Nat.le_refl _
  | succ b ih =>
    by_cases e : a = b + 1
    · subst e; exact Nat.le_refl _
    · have := ih (by omega); simp only [sumTo]; omega
theorem sumTo_cut {f : Nat → Nat} {a : Nat} (b : Nat) (h : ∀ l, a ≤ l → f l = 0) : a ≤ b → sumTo f b = sumTo f a := by
  induction b with
  | zero => intro hb; have : a = 0 := by omega
            subst this; rfl
  | succ b ih =>
    intro hb
    by_cases e : a = b + 1
    · subst e; rfl
    · simp only [sumTo, ih (by omega), h b (by omega), Nat.add_zero]
theorem sumTo_pow (k : Nat) : ∀ m, sumTo (fun l => k * 2 ^ l) m + k = k * 2 ^ m
  | 0 => by simp [sumTo]
  | m + 1 => by
    have := sumTo_pow k m
    simp only [sumTo]
    rw [Nat.pow_succ, ← Nat.mul_assoc]
    omega
theorem sumTo_const (k : Nat) : ∀ m, sumTo (fun _ => k) m = k * m
  | 0 => rfl
  | m + 1 => by simp only [sumTo, sumTo_const k m, Nat.mul_succ]
theorem levels_sum : ∀ xs : L2, (∀ p ∈ xs, 0 ≤ p.2 ∧ p.2 ≤ 30) → xs.length = sumTo (cnt xs) 31 ∧ wgt xs = sumTo (fun l => cnt xs l * 2 ^ l) 31
  | [], _ => ⟨(sumTo_zero 31 (fun l _ => cnt_nil l)).symm, (sumTo_zero 31 (fun l _ => by rw [cnt_nil, Nat.zero_mul])).symm⟩
  | p :: r, h => by
    obtain ⟨i1, i2⟩ := levels_sum r (fun q hq => h q (List.mem_cons_of_mem _ hq))
    have hp := h p (List.mem_cons_self ..)
    have e : ∀ l, cnt (p :: r) l = cnt r l + (if p.2.toNat = l then 1 else 0) := fun l => by
      rw [cnt_cons]
      congr 1
      by_cases h1 : p.2 = (l : Int)
      · rw [if_pos h1, if_pos (by omega)]
      · rw [if_neg h1, if_neg (by omega)]
    constructor
    · rw [List.length_cons, i1, sumTo_congr 31 (fun l _ => e l), sumTo_add, sumTo_one (c := fun _ => 1) 31 (by omega)]
    · have e2 : ∀ l, cnt (p :: r) l * 2 ^ l = cnt r l * 2 ^ l + (if p.2.toNat = l then 2 ^ l else 0) := fun l => by
        rw [e l, Nat.add_mul]
        congr 1
        split <;> simp
      rw [sumTo_congr 31 (fun l _ => e2 l), sumTo_add, sumTo_one (c := fun l => 2 ^ l) 31 (by omega), ← i2]
      simp only [wgt]
      omega
theorem ord_levels {xs : L2} (h : ordOk xs xs.length) : ∀ p ∈ xs, 0 ≤ p.2 ∧ p.2 ≤ 30 := fun p hp => by
  obtain ⟨j, hj, rfl⟩ := List.getElem_of_mem hp
  have := (h j hj).2.1
  have e : at_ xs j = xs[j] := by simp [at_, List.getElem?_eq_getElem hj]
  rwa [e] at this
/-- The numbers of a list in order. -/
theorem keep_facts {xs : L2} {k : Nat} (hv : ValidP xs k) (hp : 0 < xs.length) (L : Nat) (hL : (at_ xs 0).2 = (L : Int)) :
    L ≤ 30 ∧ xs.length ≤ (k + 1) * (L + 1) ∧ 2 ^ L + k * 2 ^ L ≤ wgt xs + k ∧ 2 ^ L ≤ wgt xs := by
  obtain ⟨hk, ho, hl⟩ := hv
  obtain ⟨s1, s2⟩ := levels_sum xs (ord_levels ho)
  have hL30 : L ≤ 30 := by have := (ho 0 hp).2.1; omega
  have hz : ∀ l, L + 1 ≤ l → cnt xs l = 0 := fun l hl => cnt_high ho (by omega)
  have hc : 0 < cnt xs L := by have := cnt_pos ho hp; rwa [hL, Int.toNat_natCast] at this
  have hlev : ∀ l, l < L + 1 → (cnt xs l ≤ k + 1 ∧ (l < L → k ≤ cnt xs l)) := fun l hlt => by
    have := hl hp l (by omega) (by omega)
    exact ⟨by omega, fun h => by have := this.2 (by omega); omega⟩
  refine ⟨hL30, ?_, ?_, ?_⟩
  · rw [s1, sumTo_cut 31 hz (by omega), ← sumTo_const]
    exact sumTo_le _ (fun l h => (hlev l h).1)
  · have h1 : sumTo (fun l => k * 2 ^ l) L ≤ sumTo (fun l => cnt xs l * 2 ^ l) L := sumTo_le _ (fun l h => Nat.mul_le_mul_right _ ((hlev l (by omega)).2 h))
    have h2 := sumTo_pow k L
    have h3 : sumTo (fun l => cnt xs l * 2 ^ l) (L + 1) ≤ sumTo (fun l => cnt xs l * 2 ^ l) 31 := sumTo_mono (by omega)
    have h4 : 1 * 2 ^ L ≤ cnt xs L * 2 ^ L := Nat.mul_le_mul_right _ hc
    have h5 : sumTo (fun l => cnt xs l * 2 ^ l) (L + 1) = sumTo (fun l => cnt xs l * 2 ^ l) L + cnt xs L * 2 ^ L := rfl
    rw [s2]
    omega
  · have h4 : 1 * 2 ^ L ≤ cnt xs L * 2 ^ L := Nat.mul_le_mul_right _ hc
    have := wgt_cnt xs L
    omega
theorem len_wgt : ∀ xs : L2, xs.length ≤ wgt xs
  | [] => Nat.le_refl _
  | p :: r => by
    have := len_wgt r
    have h : 0 < 2 ^ p.2.toNat := Nat.pow_pos (by omega)
    simp only [List.length_cons, wgt]
    omega
theorem wgt_drop (xs : L2) (i : Nat) : wgt (xs.drop i) ≤ wgt xs := by
  have h := wgt_append (xs.take i) (xs.drop i)
  rw [List.take_append_drop] at h
  omega
end Go.Proofs.Ytofgjcfiinmimaa.buk
