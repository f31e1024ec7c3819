/- IterL; GrowL: texts in one. -/
import Derived.Test.YtnohkjalglogaaaKeepL
/- Several insertions, as lists. No program. -/
namespace Go.Proofs.Ytnohkjalglogaaa.buk
theorem iterIns_succ (k : Nat) (t : Int) (m : Nat) (xs : L2) : iterIns k t (m + 1) xs = insC (iterIns k t m xs) k t := by
  induction m generalizing xs with
  | zero => rfl
  | succ m ih => rw [iterIns, ih]; rfl
theorem iter_valid {k : Nat} {t : Int} (ht : 0 ≤ t ∧ t ≤ 16777216) : ∀ (m : Nat) (xs : L2), ValidP xs k → (0 < xs.length → tailT xs ≤ t) → wgt xs + m ≤ 1073741824 →
    ValidP (iterIns k t m xs) k ∧ (0 < (iterIns k t m xs).length → tailT (iterIns k t m xs) ≤ t) ∧ wgt (iterIns k t m xs) = wgt xs + m ∧ (0 < m → 0 < (iterIns k t m xs).length)
  | 0, xs, hv, hm, hw => ⟨hv, hm, rfl, fun h => absurd h (Nat.lt_irrefl 0)⟩
  | m + 1, xs, hv, hm, hw => by
    obtain ⟨a1, a2, a3, a4⟩ := insC_valid hv ht hm (by omega)
    obtain ⟨b1, b2, b3, b4⟩ := iter_valid ht m (insC xs k t) a1 (fun _ => by omega) (by omega)
    refine ⟨b1, b2, by rw [iterIns, b3, a2]; omega, fun _ => ?_⟩
    rw [iterIns]
    rcases Nat.eq_zero_or_pos m with h | h
    · subst h; exact a4
    · exact b4 h
def iterPut (k : Nat) (t : Int) : Nat → L2 → L2
  | 0, xs => xs
  | m + 1, xs => iterPut k t m (putC xs k t)
theorem iterPut_eq {k : Nat} (hk : 1 ≤ k) {t : Int} (ht : 0 ≤ t ∧ t ≤ 16777216) : ∀ (m : Nat) (xs : L2), ValidP xs k → (0 < xs.length → tailT xs ≤ t) → wgt xs + m ≤ 1073741824 → iterPut k t m xs = iterIns k t m xs
  | 0, _, _, _, _ => rfl
  | m + 1, xs, hv, hm, hw => by
    obtain ⟨a1, a2, a3, a4⟩ := insC_valid hv ht hm (by omega)
    rw [iterPut, iterIns, putC_eq hk hv.2.1 (by omega) t]
    exact iterPut_eq hk ht m _ a1 (fun _ => by omega) (by omega)
end Go.Proofs.Ytnohkjalglogaaa.buk

/- The number of buckets of each level after so many insertions. No program. -/
namespace Go.Proofs.Ytnohkjalglogaaa.buk
/-- So many arrivals at level l. -/
def arr (k : Nat) : Nat → Nat → Nat
  | 0, n => n
  | l + 1, n => arr k l ((n - k) / 2)
theorem arr_succ (k : Nat) : ∀ l n, arr k (l + 1) n = (arr k l n - k) / 2
  | 0, _ => rfl
  | l + 1, n => by rw [arr, arr_succ k l]; rfl
def cof (k n l : Nat) : Nat := arr k l n - 2 * arr k (l + 1) n
theorem cof_stay {k n l : Nat} (h : arr k l (n + 1) = arr k l n) : arr k (l + 1) (n + 1) = arr k (l + 1) n := by
  rw [arr_succ, arr_succ, h]
theorem cof_stays {k n l : Nat} (h : arr k l (n + 1) = arr k l n) : ∀ j, l ≤ j → arr k j (n + 1) = arr k j n := by
  intro j hj
  obtain ⟨d, rfl⟩ : ∃ d, j = l + d := ⟨j - l, by omega⟩
  clear hj
  induction d with
  | zero => exact h
  | succ d ih => exact cof_stay ih
structure GInv (xs : L2) (k n l e : Nat) : Prop where
  st : St xs l e
  lo : ∀ j, j < l → cnt xs j = cof k (n + 1) j
  at_ : cnt xs l = cof k n l + 1
  hi : ∀ j, l < j → cnt xs j = cof k n j
  up : arr k l (n + 1) = arr k l n + 1
theorem casc_cof {k : Nat} (hk : 1 ≤ k) (n : Nat) : ∀ (f : Nat) (xs : L2) (l e : Nat), GInv xs k n l e → xs.length ≤ f → ∀ j, cnt (casc k f xs l e) j = cof k (n + 1) j
  | 0, xs, l, e, h, hf => by
    have h1 := h.at_
    have h2 := cnt_le xs l
    omega
  | f + 1, xs, l, e, h, hf => by
    have hc := h.st.cnt_eq
    have hat := h.at_
    have hup := h.up
    have s1 := arr_succ k l n
    have s2 := arr_succ k l (n + 1)
    by_cases hst : e - runB xs l e < k + 2
    · rw [casc_stop hst]
      have hst2 : arr k (l + 1) (n + 1) = arr k (l + 1) n := by unfold cof at hat; omega
      intro j
      rcases Nat.lt_trichotomy j l with h1 | h1 | h1
      · exact h.lo j h1
      · subst h1
        rw [hat]; unfold cof at hat ⊢; omega
      · rw [h.hi j h1]
        unfold cof
        rw [cof_stays hst2 j h1, cof_stays hst2 (j + 1) (by omega)]
    · rw [casc_go hst]
      obtain ⟨h1, _⟩ := runB_run xs l e
      have he := h.st.he
      have hlen := joined_length (xs := xs) (b := runB xs l e) (l := (l : Int)) (by omega)
      have hcj := cnt_joined (xs := xs) (b := runB xs l e) (l := l) (by omega) (h1 _ (Nat.le_refl _) (by omega)) (h1 _ (by omega) (by omega))
      refine casc_cof hk n f _ (l + 1) _ ⟨h.st.next (by omega), fun j hj => ?_, ?_, fun j hj => ?_, ?_⟩ (by omega)
      · have c := hcj j
        rw [if_neg (show ¬ j = l + 1 by omega)] at c
        rcases Nat.lt_or_ge j l with h2 | h2
        · rw [if_neg (by omega)] at c
          have := h.lo j h2; omega
        · obtain rfl : j = l := by omega
          rw [if_pos rfl] at c
          unfold cof at hat ⊢; omega
      · have c := hcj (l + 1)
        rw [if_neg (by omega), if_pos rfl] at c
        have := h.hi (l + 1) (by omega)
        omega
      · have c := hcj j
        rw [if_neg (by omega), if_neg (by omega)] at c
        have := h.hi j (by omega)
        omega
      · unfold cof at hat; omega
theorem insC_cof {k : Nat} (hk : 1 ≤ k) {xs : L2} (ho : ordOk xs xs.length) {n : Nat} (h : ∀ j, cnt xs j = cof k n j) (t : Int) : ∀ j, cnt (insC xs k t) j = cof k (n + 1) j := by
  have hcn : ∀ j, cnt (xs ++ [(t, 0)]) j = cnt xs j + if j = 0 then 1 else 0 := fun j => by
    rw [cnt_append, cnt_cons, cnt_nil]
    by_cases e : j = 0
    · subst e; simp
    · rw [if_neg (by first | (simp; done) | (simp; omega)), if_neg e]
  refine casc_cof hk n _ _ 0 _ ⟨ord_St ho t, fun j hj => by omega, by rw [hcn, h, if_pos rfl], fun j hj => by rw [hcn, h, if_neg (by omega)]; rfl, rfl⟩ (by simp)
theorem arr_zero (k : Nat) : ∀ l, arr k l 0 = 0
  | 0 => rfl
  | l + 1 => by rw [arr_succ, arr_zero k l]; simp
theorem validP_nil {k : Nat} (hk : 1 ≤ k) (hk2 : k ≤ 128) : ValidP [] k := ⟨by omega, ordOk_zero _, fun h => by simp at h⟩
theorem grown_cof {k : Nat} (hk : 1 ≤ k) (hk2 : k ≤ 128) : ∀ n : Nat, n ≤ 1073741824 → ∀ j, cnt (iterIns k 0 n []) j = cof k n j
  | 0, _ => fun j => by simp [iterIns, cnt_nil, cof, arr_zero]
  | n + 1, hn => by
    rw [iterIns_succ]
    have hv := iter_valid (k := k) (t := 0) (by omega) n [] (validP_nil hk hk2) (fun h => by simp at h) (by simp [wgt]; omega)
    exact insC_cof hk hv.1.2.1 (grown_cof hk hk2 n (by omega)) 0
theorem cnt_pos {xs : L2} (h : ordOk xs xs.length) (hp : 0 < xs.length) : 0 < cnt xs (at_ xs 0).2.toNat := by
  have h0 := (h 0 hp).2.1.1
  rw [cnt, List.countP_pos_iff]
  refine ⟨xs[0], List.getElem_mem hp, ?_⟩
  simp only [at_, List.getElem?_eq_getElem hp, Option.getD_some] at h0 ⊢
  simp; omega
end Go.Proofs.Ytnohkjalglogaaa.buk
