/- KeepL; KeepK: texts in one. -/
import Derived.Test.YtjapjfcennemeaaMgPutEq
import Derived.Test.YtjapjfcennemeaaMgPruV
import Derived.Test.YtjapjfcennemeaaMgBox3
set_option linter.unusedVariables false
set_option linter.unusedSimpArgs false
/- An insertion keeps a list in order. No program. -/
namespace Go.Proofs.Ytjapjfcennemeaa.buk
theorem cnt_joined {xs : L2} {b l : Nat} (h : b + 1 < xs.length) (h1 : (at_ xs b).2 = (l : Int)) (h2 : (at_ xs (b + 1)).2 = (l : Int)) (j : Nat) :
    cnt (joined xs b l) j + (if j = l then 2 else 0) = cnt xs j + (if j = l + 1 then 1 else 0) := by
  have e1 : xs = xs.take b ++ xs[b] :: xs[b + 1] :: xs.drop (b + 2) := by
    rw [← List.drop_eq_getElem_cons (by omega), ← List.drop_eq_getElem_cons (by omega), List.take_append_drop]
  simp only [at_, List.getElem?_eq_getElem (show b < xs.length by omega), Option.getD_some] at h1
  simp only [at_, List.getElem?_eq_getElem h, Option.getD_some] at h2
  conv => rhs; rw [e1]
  rw [joined, cnt_append, cnt_append, cnt_cons, cnt_cons, cnt_cons, h1, h2]
  have c1 : ((l : Int) + 1 = (j : Int)) ↔ j = l + 1 := by omega
  have c2 : ((l : Int) = (j : Int)) ↔ j = l := by omega
  simp only [c1, c2]
  split <;> split <;> omega
/-- What the cascade keeps. -/
structure Inv (xs : L2) (k l e : Nat) : Prop where
  st : St xs l e
  ord : ordOk xs xs.length
  pos : 0 < e
  lvl : ∀ j : Nat, j ≠ l → (j : Int) ≤ (at_ xs 0).2 → cnt xs j ≤ k + 1 ∧ ((j : Int) < (at_ xs 0).2 → k ≤ cnt xs j)
  top : cnt xs l ≤ k + 2
  low : (l : Int) < (at_ xs 0).2 → k ≤ cnt xs l
  wg : wgt xs ≤ 1073741824
theorem ordAt_joined {xs : L2} {l e : Nat} (hs : St xs l e) (ho : ordOk xs xs.length) (hc : runB xs l e + 2 ≤ e) (hl : l ≤ 29) : ordOk (joined xs (runB xs l e) l) (joined xs (runB xs l e) l).length := by
  have he := hs.he
  obtain ⟨h1, _⟩ := runB_run xs l e
  have hj := at_joined (xs := xs) (b := runB xs l e) (l := (l : Int)) (by omega)
  have hlen := joined_length (xs := xs) (b := runB xs l e) (l := (l : Int)) (by omega)
  have ha := fun i => @St.above xs l e hs i
  have hb1 := h1 _ (Nat.le_refl _) (by omega)
  have hb2 := h1 (runB xs l e + 1) (by omega) (by omega)
  generalize runB xs l e = b at *
  intro i hi
  rw [hlen] at hi
  unfold ordAt
  rcases Nat.lt_trichotomy i b with h | h | h
  · rw [hj i, if_pos h]
    obtain ⟨o1, o2, o3⟩ := ho i (by omega)
    refine ⟨o1, o2, fun h0 => ?_⟩
    rw [hj (i - 1), if_pos (by omega)]
    exact o3 h0
  · subst h
    rw [hj i, if_neg (by omega), if_pos rfl]
    obtain ⟨p1, p2, p3⟩ := ho (i + 1) (by omega)
    refine ⟨p1, by simp; omega, fun h0 => ?_⟩
    rw [hj (i - 1), if_pos (by omega)]
    obtain ⟨q1, q2, q3⟩ := ho i (by omega)
    have r1 := (q3 h0).1
    have r2 := (p3 (by omega)).1
    have r3 := ha (i - 1) (by omega)
    simp only [Nat.add_sub_cancel] at r2
    exact ⟨Int.le_trans r1 r2, by simpa using r3⟩
  · rw [hj i, if_neg (by omega), if_neg (by omega)]
    obtain ⟨p1, p2, p3⟩ := ho (i + 1) (by omega)
    refine ⟨p1, p2, fun h0 => ?_⟩
    have r := p3 (by omega)
    simp only [Nat.add_sub_cancel] at r
    rcases Nat.lt_or_ge b (i - 1) with h2 | h2
    · rw [hj (i - 1), if_neg (by omega), if_neg (by omega), show i - 1 + 1 = i by omega]
      exact r
    · have e : i - 1 = b := by omega
      rw [e, hj b, if_neg (by omega), if_pos rfl]
      have e2 : i = b + 1 := by omega
      subst e2
      exact ⟨r.1, by have := r.2; rw [hb2] at this; simp; omega⟩
theorem Inv.next {xs : L2} {k l e : Nat} (hk : 1 ≤ k) (h : Inv xs k l e) (hc : ¬ e - runB xs l e < k + 2) : Inv (joined xs (runB xs l e) l) k (l + 1) (runB xs l e + 1) := by
  have he := h.st.he
  have hce := h.st.cnt_eq
  have hl29 : l ≤ 29 := by
    have hw := wgt_cnt xs l
    have hg := h.wg
    rcases Nat.lt_or_ge l 30 with h1 | h1
    · omega
    · have h2 : 2 ^ 30 ≤ 2 ^ l := Nat.pow_le_pow_right (by omega) h1
      have h3 : 3 * 2 ^ 30 ≤ cnt xs l * 2 ^ l := Nat.mul_le_mul (by omega) h2
      omega
  obtain ⟨h1, h0⟩ := runB_run xs l e
  have hb1 := h1 _ (Nat.le_refl _) (by omega)
  have hb2 := h1 (runB xs l e + 1) (by omega) (by omega)
  have hcj := cnt_joined (xs := xs) (b := runB xs l e) (l := l) (by omega) hb1 hb2
  have hj := at_joined (xs := xs) (b := runB xs l e) (l := (l : Int)) (by omega) 0
  have hab := fun i => @St.above xs l e h.st i
  have htop : (at_ (joined xs (runB xs l e) l) 0).2 = (at_ xs 0).2 ∧ (l : Int) < (at_ xs 0).2 ∨ (at_ (joined xs (runB xs l e) l) 0).2 = l + 1 ∧ (at_ xs 0).2 = l := by
    rw [hj]
    by_cases hz : 0 < runB xs l e
    · rw [if_pos hz]; exact .inl ⟨rfl, by have := hab 0 hz; omega⟩
    · rw [if_neg hz, if_pos (by omega)]
      have e0 : runB xs l e = 0 := by omega
      rw [e0] at hb1
      exact .inr ⟨rfl, hb1⟩
  have hlow := h.low
  have htp := h.top
  have hlv := h.lvl
  refine ⟨h.st.next (by omega), ordAt_joined h.st h.ord (by omega) hl29, by omega, fun j hj1 hj2 => ?_, ?_, fun hlt => ?_, by rw [wgt_joined (by omega) hb1 hb2]; exact h.wg⟩
  · have c := hcj j
    rw [if_neg hj1] at c
    by_cases ej : j = l
    · subst ej
      rw [if_pos rfl] at c
      refine ⟨by omega, fun _ => by omega⟩
    · rw [if_neg ej] at c
      rcases htop with ⟨t1, t2⟩ | ⟨t1, t2⟩
      · rw [t1] at hj2 ⊢
        have := hlv j ej hj2
        refine ⟨by omega, fun h4 => by have := this.2 h4; omega⟩
      · rw [t1] at hj2 ⊢
        have := hlv j ej (by omega)
        refine ⟨by omega, fun h4 => by have := this.2 (by omega); omega⟩
  · have c := hcj (l + 1)
    rw [if_neg (by omega), if_pos rfl] at c
    rcases htop with ⟨t1, t2⟩ | ⟨t1, t2⟩
    · have := hlv (l + 1) (by omega) (by omega)
      omega
    · have hz : cnt xs (l + 1) = 0 := cnt_high h.ord (by omega)
      omega
  · have c := hcj (l + 1)
    rw [if_neg (by omega), if_pos rfl] at c
    rcases htop with ⟨t1, t2⟩ | ⟨t1, t2⟩
    · rw [t1] at hlt
      have := (hlv (l + 1) (by omega) (by omega)).2 (by omega)
      omega
    · omega
/-- The end of the cascade: in order, every level allowed. -/
theorem casc_inv {k : Nat} (hk : 1 ≤ k) : ∀ (f : Nat) (xs : L2) (l e : Nat), Inv xs k l e → xs.length ≤ f →
    ordOk (casc k f xs l e) (casc k f xs l e).length ∧ 0 < (casc k f xs l e).length ∧ wgt (casc k f xs l e) = wgt xs ∧
    (at_ (casc k f xs l e) ((casc k f xs l e).length - 1)).1 = (at_ xs (xs.length - 1)).1 ∧
    ∀ j : Nat, (j : Int) ≤ (at_ (casc k f xs l e) 0).2 → cnt (casc k f xs l e) j ≤ k + 1 ∧ ((j : Int) < (at_ (casc k f xs l e) 0).2 → k ≤ cnt (casc k f xs l e) j)
  | 0, xs, l, e, h, hf => by
    have := h.st.he; have := h.pos; omega
  | f + 1, xs, l, e, h, hf => by
    have he := h.st.he
    have hp := h.pos
    by_cases hst : e - runB xs l e < k + 2
    · rw [casc_stop hst]
      refine ⟨h.ord, by omega, rfl, rfl, fun j hj => ?_⟩
      by_cases ej : j = l
      · subst ej
        have := h.st.cnt_eq
        exact ⟨by omega, h.low⟩
      · exact h.lvl j ej hj
    · rw [casc_go hst]
      obtain ⟨h1, _⟩ := runB_run xs l e
      have hlen := joined_length (xs := xs) (b := runB xs l e) (l := (l : Int)) (by omega)
      have ih := casc_inv hk f _ (l + 1) _ (h.next hk hst) (by omega)
      have hw := wgt_joined (xs := xs) (b := runB xs l e) (l := l) (by omega) (h1 _ (Nat.le_refl _) (by omega)) (h1 _ (by omega) (by omega))
      have hlast : (at_ (joined xs (runB xs l e) l) ((joined xs (runB xs l e) l).length - 1)).1 = (at_ xs (xs.length - 1)).1 := by
        rw [at_joined (by omega), hlen]
        rcases Nat.lt_or_ge (runB xs l e) (xs.length - 1 - 1) with h3 | h3
        · rw [if_neg (by omega), if_neg (by omega), show xs.length - 1 - 1 + 1 = xs.length - 1 by omega]
        · rw [if_neg (by omega), if_pos (by omega), show runB xs l e + 1 = xs.length - 1 by omega]
      exact ⟨ih.1, ih.2.1, ih.2.2.1.trans hw, ih.2.2.2.1.trans hlast, ih.2.2.2.2⟩
def tailT (xs : L2) : Int := (at_ xs (xs.length - 1)).1
theorem inv_start {xs : L2} {k : Nat} (hv : ValidP xs k) {t : Int} (ht : 0 ≤ t ∧ t ≤ 16777216) (hm : 0 < xs.length → tailT xs ≤ t) (hw : wgt xs < 1073741824) : Inv (xs ++ [(t, 0)]) k 0 (xs.length + 1) := by
  obtain ⟨⟨hk1, hk2⟩, ho, hl⟩ := hv
  have ha : ∀ i, i < xs.length → at_ (xs ++ [(t, 0)]) i = at_ xs i := fun i hi => by simp [at_, List.getElem?_append_left hi]
  have hz : at_ (xs ++ [(t, 0)]) xs.length = (t, 0) := by simp [at_]
  have hcn : ∀ j, cnt (xs ++ [(t, 0)]) j = cnt xs j + if j = 0 then 1 else 0 := fun j => by
    rw [cnt_append, cnt_cons, cnt_nil]
    by_cases e : j = 0
    · subst e; simp
    · rw [if_neg (by first | (simp; done) | (simp; omega)), if_neg e]
  have htop : 0 < xs.length → at_ (xs ++ [(t, 0)]) 0 = at_ xs 0 := fun h => ha 0 h
  have hlen : (xs ++ [(t, 0)]).length = xs.length + 1 := by simp
  refine ⟨ord_St ho t, fun i hi => ?_, by omega, fun j hj1 hj2 => ?_, ?_, fun hlt => ?_, by rw [wgt_append]; simp [wgt]; omega⟩
  · rw [hlen] at hi
    rcases Nat.lt_or_ge i xs.length with h1 | h1
    · obtain ⟨o1, o2, o3⟩ := ho i h1
      unfold ordAt
      rw [ha i h1]
      refine ⟨o1, o2, fun h0 => ?_⟩
      rw [ha (i - 1) (by omega)]
      exact o3 h0
    · obtain rfl : i = xs.length := by omega
      unfold ordAt
      rw [hz]
      refine ⟨ht, by simp, fun h0 => ?_⟩
      rw [ha _ (by omega)]
      exact ⟨hm h0, (ho _ (by omega)).2.1.1⟩
  · rw [hcn, if_neg hj1]
    rcases Nat.eq_zero_or_pos xs.length with h0 | h0
    · have e : xs = [] := List.eq_nil_of_length_eq_zero h0
      subst e
      simp [at_] at hj2
      omega
    · rw [htop h0] at hj2 ⊢
      have hd := (ho 0 h0).2.1.2
      have := hl h0 j (by omega) hj2
      exact ⟨by omega, fun h => by have := this.2 h; omega⟩
  · rw [hcn, if_pos rfl]
    rcases Nat.eq_zero_or_pos xs.length with h0 | h0
    · have e : xs = [] := List.eq_nil_of_length_eq_zero h0
      subst e
      simp [cnt_nil]
    · have := (hl h0 0 (by omega) (ho 0 h0).2.1.1).1
      omega
  · rw [hcn, if_pos rfl]
    rcases Nat.eq_zero_or_pos xs.length with h0 | h0
    · have e : xs = [] := List.eq_nil_of_length_eq_zero h0
      subst e
      simp [at_] at hlt
    · rw [htop h0] at hlt
      have := (hl h0 0 (by omega) (ho 0 h0).2.1.1).2 hlt
      omega
theorem insC_valid {xs : L2} {k : Nat} (hv : ValidP xs k) {t : Int} (ht : 0 ≤ t ∧ t ≤ 16777216) (hm : 0 < xs.length → tailT xs ≤ t) (hw : wgt xs < 1073741824) :
    ValidP (insC xs k t) k ∧ wgt (insC xs k t) = wgt xs + 1 ∧ tailT (insC xs k t) = t ∧ 0 < (insC xs k t).length := by
  have h := casc_inv (k := k) (by have := hv.1; omega) (xs.length + 1) _ 0 _ (inv_start hv ht hm hw) (by simp)
  have hz : (at_ (xs ++ [(t, 0)]) ((xs ++ [(t, 0)]).length - 1)).1 = t := by simp [at_]
  have hwg : wgt (xs ++ [(t, 0)]) = wgt xs + 1 := by rw [wgt_append]; simp [wgt]
  rw [hz, hwg] at h
  have e : insC xs k t = casc k (xs.length + 1) (xs ++ [(t, 0)]) 0 (xs.length + 1) := rfl
  rw [e]
  generalize casc k (xs.length + 1) (xs ++ [(t, 0)]) 0 (xs.length + 1) = zs at *
  obtain ⟨h1, h2, h3, h4, h5⟩ := h
  refine ⟨⟨hv.1, h1, fun _ j _ hj => ?_⟩, h3, h4, h2⟩
  have := h5 j hj
  exact ⟨by omega, fun h => by have := this.2 h; omega⟩
end Go.Proofs.Ytjapjfcennemeaa.buk

/- Plain: insertion keeps a list of blocks in order. No program. -/
namespace Go.Proofs.Ytjapjfcennemeaa.rnk
open Go.Proofs.Ytjapjfcennemeaa.mem Go.Proofs.Ytjapjfcennemeaa.buk
set_option linter.unusedVariables false
theorem path_gt {x y : L3} (hx : asc x) : ∀ s, s ≤ x.length + y.length → ∀ j' < (path x y s).2, ∀ i', (path x y s).1 ≤ i' → i' < x.length → (at3 y j').1 < (at3 x i').1
  | 0, _, j', h, _, _, _ => absurd h (by simp [path])
  | s + 1, hs, j', h, i', h1, h2 => by
    have ih := path_gt hx (y := y) s (by omega)
    rcases path_cases (x := x) (y := y) (s := s) (by omega) with ⟨g1, g2, _, g4⟩ | ⟨g1, g2, _, g4⟩
    · rw [g1] at h h1; exact ih j' h i' (by simp only at h1; omega) h2
    · rw [g1] at h h1
      simp only at h h1
      by_cases e : j' = (path x y s).2
      · have h3 := hx (path x y s).1 i' h1 h2
        have h4 := g4 (by omega)
        rw [e]; omega
      · exact ih j' (by omega) i' h1 h2
section
variable {a b : Int} {x y : L3}
theorem merge_first (hx : valR a x = true) (hy : valR b y = true) (hy0 : 0 < y.length) : (at3 (mergeL x y a b) 0).1 ≤ (at3 y 0).1 := by
  rw [merge_at (by omega)]
  rcases path_cases (x := x) (y := y) (s := 0) (by omega) with ⟨_, _, g3, g4⟩ | ⟨_, _, g3, _⟩
  · rw [g3]; exact g4 hy0
  · rw [g3]; exact Int.le_refl _
theorem merge_last (hx : valR a x = true) (hy : valR b y = true) (hy0 : 0 < y.length) : (at3 y (y.length - 1)).1 ≤ (at3 (mergeL x y a b) ((mergeL x y a b).length - 1)).1 := by
  rw [merge_len, merge_at (by omega)]
  have he := path_end (x := x) (y := y)
  rw [show x.length + y.length = x.length + y.length - 1 + 1 by omega] at he
  rcases path_cases (x := x) (y := y) (s := x.length + y.length - 1) (by omega) with ⟨g1, g2, g3, _⟩ | ⟨g1, g2, g3, _⟩
  · rw [g3]
    rw [g1] at he
    have e2 := congrArg Prod.snd he
    simp only at e2
    exact Int.le_of_lt (path_gt (asc_of_val hx) (x.length + y.length - 1) (by omega) (y.length - 1) (by omega) _ (Nat.le_refl _) g2)
  · rw [g3]
    rw [g1] at he
    have e2 := congrArg Prod.snd he
    simp only at e2
    rw [show (path x y (x.length + y.length - 1)).2 = y.length - 1 by omega]
    exact Int.le_refl _
end
theorem val_len {N : Int} {es : L3} (h : valR N es = true) : (es.length : Int) ≤ N := by
  obtain ⟨⟨a1, a2, a3⟩, a4, a5⟩ := valR_iff.1 h
  have H : ∀ i, i < es.length → (i : Int) + 1 ≤ (at3 es i).2.1 := by
    intro i
    induction i with
    | zero => intro hi; have := (a4 0 hi).1; omega
    | succ i ih => intro hi; have := ih (by omega); have := min_lt h (show i < i + 1 by omega) hi; omega
  by_cases h0 : 0 < es.length
  · have h1 := H (es.length - 1) (by omega)
    have h2 := (a5 h0).2
    omega
  · omega
theorem allowTo_zero {b : Int} : ∀ m, (∀ j < m, ¬ b + 1 < 2 ^ j) → allowTo b m = 0
  | 0, _ => rfl
  | m + 1, h => by unfold allowTo; rw [if_neg (h m (by omega))]; exact allowTo_zero m (fun j hj => h j (by omega))
theorem pow_le {i j : Nat} (h : i ≤ j) : (2 : Int) ^ i ≤ 2 ^ j := by
  obtain ⟨d, rfl⟩ : ∃ d, j = i + d := ⟨j - i, by omega⟩
  rw [Int.pow_add]
  have h1 : (0 : Int) < 2 ^ i := Int.pow_pos (by omega)
  have h2 : (0 : Int) < 2 ^ d := Int.pow_pos (by omega)
  have := Int.mul_le_mul_of_nonneg_left (show (1 : Int) ≤ 2 ^ d by omega) (show (0 : Int) ≤ 2 ^ i by omega)
  omega
structure BOkP (b : Int) (x : K5) : Prop where
  val : valR x.2.2.2.1 x.2.2.2.2 = true
  num : x.2.2.2.1 = 2 ^ x.2.2.1.toNat
  len : (x.2.2.2.2.length : Int) ≤ b + 1
  gap : gapTo x.2.2.2.2 (x.2.2.2.2.length - 1) - 1 ≤ allowed x.2.2.1 b
  lo : -4096 ≤ (at3 x.2.2.2.2 0).1
  hi : (at3 x.2.2.2.2 (x.2.2.2.2.length - 1)).1 ≤ 4096
  llo : (at3 x.2.2.2.2 0).1 ≤ x.2.1
  lhi : x.2.1 ≤ (at3 x.2.2.2.2 (x.2.2.2.2.length - 1)).1
  pos : 0 < x.2.2.2.2.length
theorem blkOk_iff {b : Int} {x : K5} : blkOk b x = true ↔ BOkP b x := by
  have hp : valR x.2.2.2.1 x.2.2.2.2 = true → x.2.2.2.1 = 2 ^ x.2.2.1.toNat → 0 < x.2.2.2.2.length := fun h1 h2 => by
    obtain ⟨⟨a1, a2, a3⟩, _⟩ := valR_iff.1 h1
    have h3 : (0 : Int) < 2 ^ x.2.2.1.toNat := Int.pow_pos (by omega)
    rcases Nat.eq_zero_or_pos x.2.2.2.2.length with e | e
    · have := a3.1 e; omega
    · exact e
  unfold blkOk
  simp only [Bool.and_eq_true, decide_eq_true_eq]
  constructor
  · rintro ⟨⟨⟨⟨h1, h2⟩, h3⟩, h4⟩, ⟨⟨h5, h6⟩, h7⟩, h8⟩
    have h9 := hp h1 h2
    unfold gapR at h4
    rw [if_pos ⟨h1, h9⟩] at h4
    exact ⟨h1, h2, h3, h4, h5, h6, h7, h8, h9⟩
  · rintro ⟨h1, h2, h3, h4, h5, h6, h7, h8, h9⟩
    refine ⟨⟨⟨⟨h1, h2⟩, h3⟩, ?_⟩, ⟨⟨h5, h6⟩, h7⟩, h8⟩
    unfold gapR
    rw [if_pos ⟨h1, h9⟩]
    exact h4
theorem pruL_first {N b : Int} {es : L3} (h : valR N es = true) (hb : 1 ≤ b) : at3 (pruL N b es) 0 = at3 es 0 ∧ at3 (pruL N b es) ((pruL N b es).length - 1) = at3 es (es.length - 1) := by
  by_cases hl : (es.length : Int) ≤ b + 1
  · unfold pruL; rw [if_pos hl]; exact ⟨rfl, rfl⟩
  · have := pru_valid h hb hl; exact ⟨this.first, this.last⟩
theorem two_eq {b : Int} {x y : K5} (hb : 1 ≤ b ∧ b ≤ 65536) (hx : valR x.2.2.2.1 x.2.2.2.2 = true) (hy : valR y.2.2.2.1 y.2.2.2.2 = true) (hs : x.2.2.2.1 + y.2.2.2.1 ≤ 1099511627776) :
    twoR b x y = (x.2.2.2.1 + y.2.2.2.1, pruL (x.2.2.2.1 + y.2.2.2.1) b (mergeL x.2.2.2.2 y.2.2.2.2 x.2.2.2.1 y.2.2.2.1)) := by
  have h1 : mrgP x.2.2.2.1 x.2.2.2.2 y.2.2.2.1 y.2.2.2.2 = (x.2.2.2.1 + y.2.2.2.1, mergeL x.2.2.2.2 y.2.2.2.2 x.2.2.2.1 y.2.2.2.1) := by
    unfold mrgP
    rw [if_pos (by unfold mrgOk; rw [hx, hy]; simpa using hs)]
  unfold twoR
  rw [h1]
  unfold pruP
  rw [if_pos (by unfold pruOk; rw [merge_valid hx hy hs]; simpa using hb)]
theorem two_ok {b : Int} {x y : K5} {l : Nat} (hb : 1 ≤ b ∧ b ≤ 65536) (hl : l ≤ 29) (hx : BOkP b x) (hy : BOkP b y) (ex : x.2.2.1 = l) (ey : y.2.2.1 = l) : BOkP b (y.1, y.2.1, (l : Int) + 1, (twoR b x y).1, (twoR b x y).2) := by
  have nx := hx.num
  have ny := hy.num
  rw [ex, Int.toNat_natCast] at nx
  rw [ey, Int.toNat_natCast] at ny
  have gx := hx.gap
  have gy := hy.gap
  rw [ex] at gx
  rw [ey] at gy
  have hal : ∀ m : Nat, m ≤ 30 → allowed (m : Int) b = allowTo b (m + 1) := fun m hm => by
    unfold allowed; rw [if_pos ⟨by omega, hb.1, hb.2⟩, Int.toNat_natCast]
  rw [hal l (by omega)] at gx gy
  have hp : (2 : Int) ^ (l + 1) = 2 ^ l + 2 ^ l := by rw [Int.pow_succ]; omega
  have hp1 : (0 : Int) < 2 ^ l := Int.pow_pos (by omega)
  have hp2 : (2 : Int) ^ (l + 1) ≤ 2 ^ 30 := pow_le (by omega)
  have hp3 : (2 : Int) ^ 30 = 1073741824 := by decide
  have hs : x.2.2.2.1 + y.2.2.2.1 = 2 ^ (l + 1) := by rw [nx, ny, hp]
  have hle : x.2.2.2.1 + y.2.2.2.1 ≤ 1099511627776 := by omega
  rw [two_eq hb hx.val hy.val hle, hs]
  have hv := merge_valid hx.val hy.val hle
  have hg := merge_gap hx.val hy.val
  have h1 := merge_first hx.val hy.val hy.pos
  have h2 := merge_last hx.val hy.val hy.pos
  have hml := merge_len x.2.2.2.2 y.2.2.2.2 x.2.2.2.1 y.2.2.2.1
  have hvl := val_len hv
  have hbd : ∀ s, s < x.2.2.2.2.length + y.2.2.2.2.length → -4096 ≤ (at3 (mergeL x.2.2.2.2 y.2.2.2.2 x.2.2.2.1 y.2.2.2.1) s).1 ∧ (at3 (mergeL x.2.2.2.2 y.2.2.2.2 x.2.2.2.1 y.2.2.2.1) s).1 ≤ 4096 := fun s hs => by
    rw [merge_at hs]
    refine nxt_bd (fun i hi => ?_) (fun i hi => ?_) hs
    · have a1 := asc_of_val hx.val 0 i (by omega) hi
      have a2 := asc_of_val hx.val i (x.2.2.2.2.length - 1) (by omega) (by omega)
      have := hx.lo; have := hx.hi; omega
    · have a1 := asc_of_val hy.val 0 i (by omega) hi
      have a2 := asc_of_val hy.val i (y.2.2.2.2.length - 1) (by omega) (by omega)
      have := hy.lo; have := hy.hi; omega
  have hb0 := hbd 0 (by have := hy.pos; omega)
  have hb1 := hbd ((mergeL x.2.2.2.2 y.2.2.2.2 x.2.2.2.1 y.2.2.2.1).length - 1) (by have := hy.pos; omega)
  rw [hs] at hv hvl
  have hy0 := hy.pos
  have hyl := hy.llo
  have hyh := hy.lhi
  generalize mergeL x.2.2.2.2 y.2.2.2.2 x.2.2.2.1 y.2.2.2.1 = M at *
  obtain ⟨f1, f2⟩ := pruL_first (b := b) hv hb.1
  have hpl := pruL_le (b := b) hv hb.1
  have hpv := pruL_valid (b := b) hv hb.1
  refine ⟨hpv, ?_, hpl, ?_, ?_, ?_, ?_, ?_, ?_⟩
  · show (2 : Int) ^ (l + 1) = 2 ^ ((l : Int) + 1).toNat
    rw [show ((l : Int) + 1).toNat = l + 1 by omega]
  · show gapTo (pruL (2 ^ (l + 1)) b M) ((pruL (2 ^ (l + 1)) b M).length - 1) - 1 ≤ allowed ((l : Int) + 1) b
    rw [show (l : Int) + 1 = ((l + 1 : Nat) : Int) by omega, hal (l + 1) (by omega)]
    have hu : allowTo b (l + 1 + 1) = if b + 1 < 2 ^ (l + 1) then 2 * allowTo b (l + 1) + ceilD (2 ^ (l + 1) - 1) b else allowTo b (l + 1) := rfl
    rw [hu]
    split
    · have := pruL_gap hv hb.1 (by omega); omega
    · rename_i hn
      have e : pruL (2 ^ (l + 1)) b M = M := by unfold pruL; rw [if_pos (by omega)]
      rw [e]
      have hz : allowTo b (l + 1) = 0 := allowTo_zero _ (fun j hj h => hn (by have := pow_le (show j ≤ l + 1 by omega); omega))
      omega
  · show -4096 ≤ (at3 (pruL (2 ^ (l + 1)) b M) 0).1
    rw [f1]; exact hb0.1
  · show (at3 (pruL (2 ^ (l + 1)) b M) ((pruL (2 ^ (l + 1)) b M).length - 1)).1 ≤ 4096
    rw [f2]; exact hb1.2
  · show (at3 (pruL (2 ^ (l + 1)) b M) 0).1 ≤ y.2.1
    rw [f1]; omega
  · show y.2.1 ≤ (at3 (pruL (2 ^ (l + 1)) b M) ((pruL (2 ^ (l + 1)) b M).length - 1)).1
    rw [f2]; omega
  · show 0 < (pruL (2 ^ (l + 1)) b M).length
    obtain ⟨⟨_, _, a3⟩, _⟩ := valR_iff.1 hpv
    rcases Nat.eq_zero_or_pos (pruL (2 ^ (l + 1)) b M).length with e | e
    · have := a3.1 e; omega
    · exact e
theorem one_ok {b t v : Int} (hb : 1 ≤ b ∧ b ≤ 65536) (hv : -4096 ≤ v ∧ v ≤ 4096) : BOkP b (t, v, 0, 1, [(v, 1, 1)]) := by
  have h1 : valR 1 [(v, 1, 1)] = true := by
    refine valR_iff.2 ⟨⟨by omega, by omega, by simp⟩, fun i hi => ?_, fun _ => ⟨rfl, rfl⟩⟩
    have hi2 : i = 0 := by simp at hi; exact hi
    subst hi2
    exact ⟨⟨Int.le_refl _, Int.le_refl _, Int.le_refl _⟩, fun h => absurd h (by omega)⟩
  refine ⟨h1, rfl, ?_, ?_, hv.1, hv.2, Int.le_refl _, Int.le_refl _, by simp⟩
  · simp; omega
  · have h2 := (allowTo_bd hb.1 1).1
    unfold allowed
    rw [if_pos ⟨by simp, hb.1, hb.2⟩]
    show (1 : Int) - 1 ≤ allowTo b 1
    omega
theorem atK_joinK {b : Int} {xs : List K5} {s : Nat} {l : Int} (h : s + 1 < xs.length) (i : Nat) : atK (joinK b xs s l) i = if i < s then atK xs i else if i = s then bothK b xs s l else atK xs (i + 1) := by
  unfold joinK
  have hl : (xs.take s).length = s := by rw [List.length_take]; omega
  by_cases h1 : i < s
  · rw [if_pos h1, atK, List.getElem?_append_left (by omega), List.getElem?_take, if_pos h1]; rfl
  · rw [if_neg h1, atK, List.getElem?_append_right (by omega), hl]
    by_cases h2 : i = s
    · subst h2; simp
    · rw [if_neg h2, show i - s = (i - s - 1) + 1 by omega, List.getElem?_cons_succ, List.getElem?_drop, atK, show s + 2 + (i - s - 1) = i + 1 by omega]
/-- Every block fits its level. -/
def allOk (b : Int) (xs : List K5) : Prop := ∀ i < xs.length, BOkP b (atK xs i)
theorem casc_ok {k : Nat} {b : Int} (hb : 1 ≤ b ∧ b ≤ 65536) (hk : 1 ≤ k) : ∀ (f : Nat) (xs : List K5) (l e : Nat), Inv (plainK xs) k l e → allOk b xs → allOk b (cascK k b f xs l e)
  | 0, xs, l, e, _, h => h
  | f + 1, xs, l, e, hi, h => by
    by_cases hst : e - runK xs l e < k + 2
    · rw [cascK_stop hst]; exact h
    · rw [cascK_go hst]
      have hn := hi.next hk (by rw [runK_plain]; exact hst)
      rw [runK_plain, joinK_plain b] at hn
      have he := hi.st.he
      rw [plainK_length] at he
      obtain ⟨h1, _⟩ := runB_run (plainK xs) l e
      rw [runK_plain] at h1
      have hlen : runK xs l e + 1 < xs.length := by omega
      have l1 := h1 (runK xs l e) (Nat.le_refl _) (by omega)
      have l2 := h1 (runK xs l e + 1) (by omega) (by omega)
      rw [at_plainK] at l1 l2
      simp only at l1 l2
      have hlv := (hn.ord (runK xs l e) (by rw [plainK_length, joinK_length hlen]; omega)).2.1.2
      rw [at_plainK, atK_joinK hlen, if_neg (by omega), if_pos rfl] at hlv
      have hl29 : l ≤ 29 := by
        have : (l : Int) + 1 ≤ 30 := hlv
        omega
      refine casc_ok hb hk f _ (l + 1) _ hn (fun i hi2 => ?_)
      rw [joinK_length hlen] at hi2
      rw [atK_joinK hlen]
      by_cases h3 : i < runK xs l e
      · rw [if_pos h3]; exact h i (by omega)
      · rw [if_neg h3]
        by_cases h4 : i = runK xs l e
        · rw [if_pos h4]
          exact two_ok hb hl29 (h _ (by omega)) (h _ hlen) l1 l2
        · rw [if_neg h4]; exact h _ (by omega)
theorem wgt_tot {xs : L2} (h : ordOk xs xs.length) : wgt xs = lst.totalN xs := by
  induction xs with
  | nil => rfl
  | cons p r ih =>
    have h0 := (h 0 (by simp)).2.1
    have hr : ordOk r r.length := fun i hi => by
      have h1 := h (i + 1) (by simp; omega)
      have e : ∀ j, at_ (p :: r) (j + 1) = at_ r j := fun j => by simp [at_]
      unfold ordAt at h1 ⊢
      rw [e, Nat.add_sub_cancel] at h1
      refine ⟨h1.1, h1.2.1, fun hi0 => ?_⟩
      obtain ⟨j, rfl⟩ : ∃ j, i = j + 1 := ⟨i - 1, by omega⟩
      have := h1.2.2 (by omega)
      rw [e] at this
      exact this
    have e : at_ (p :: r) 0 = p := rfl
    rw [e] at h0
    simp only [wgt, lst.totalN, ih hr]
    unfold lst.wt
    rw [if_pos h0]
theorem insKC_ok {xs : List K5} {k b t v : Int} (hm : mayK xs k b t v = true) : validK (insKC xs k.toNat b t v) k b = true ∧ totalK (insKC xs k.toNat b t v) = totalK xs + 1 ∧ lastK (insKC xs k.toNat b t v) = t ∧ 0 < (insKC xs k.toNat b t v).length := by
  unfold mayK at hm
  simp only [Bool.and_eq_true, decide_eq_true_eq] at hm
  obtain ⟨⟨⟨h1, h2, h3⟩, h4⟩, h5⟩ := hm
  obtain ⟨hb, hv, ha⟩ := validK_iff.1 h1
  have hvp := validB_iff.1 hv
  have hk := hvp.1
  obtain ⟨kk, rfl⟩ := Int.eq_ofNat_of_zero_le (show 0 ≤ k by omega)
  rw [Int.toNat_natCast]
  have hw : wgt (plainK xs) = totalK xs := wgt_tot hvp.2.1
  have hlt : 0 < (plainK xs).length → tailT (plainK xs) ≤ t := fun h0 => by
    rw [plainK_length] at h0
    unfold lastK at h3
    rw [if_neg (by omega)] at h3
    unfold tailT
    rw [at_plainK, plainK_length]
    exact h3
  obtain ⟨g1, g2, g3, g4⟩ := insC_valid hvp h2 hlt (by omega)
  rw [insKC_plain xs kk b t v] at g1 g2 g3 g4
  rw [plainK_length] at g4
  refine ⟨validK_iff.2 ⟨hb, validB_t g1, fun i hi => blkOk_iff.2 ?_⟩, ?_, ?_, g4⟩
  · have hst := inv_start hvp h2 hlt (by omega)
    have e : plainK (xs ++ [(t, v, 0, 1, [(v, 1, 1)])]) = plainK xs ++ [(t, 0)] := by rw [plainK_append]; rfl
    rw [← e, plainK_length] at hst
    refine casc_ok hb (by omega) _ _ _ _ hst (fun j hj => ?_) i hi
    by_cases hj2 : j < xs.length
    · have : atK (xs ++ [(t, v, 0, 1, [(v, 1, 1)])]) j = atK xs j := by simp [atK, List.getElem?_append_left hj2]
      rw [this]; exact blkOk_iff.1 (ha j hj2)
    · have e2 : j = xs.length := by simp at hj; omega
      have : atK (xs ++ [(t, v, 0, 1, [(v, 1, 1)])]) j = (t, v, 0, 1, [(v, 1, 1)]) := by rw [e2]; simp [atK]
      rw [this]; exact one_ok hb h4
  · have := wgt_tot g1.2.1
    unfold totalK at *
    omega
  · unfold lastK
    rw [if_neg (by omega)]
    unfold tailT at g3
    rw [at_plainK, plainK_length] at g3
    exact g3
end Go.Proofs.Ytjapjfcennemeaa.rnk
