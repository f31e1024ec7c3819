/- RepL; IterL; GrowL; KeepM; RunB; SurL: texts in one. -/
import Derived.Test.YtjapjfcennemeaaMgKeepK
import Derived.Test.YtjapjfcennemeaaMgBLaw
set_option linter.unusedVariables false
set_option linter.unusedSimpArgs false
/- Plain: what a summary says of the values that it stands for; merging and pruning keep it. No program. -/
namespace Go.Proofs.Ytjapjfcennemeaa.rnk
open Go.Proofs.Ytjapjfcennemeaa.mem Go.Proofs.Ytjapjfcennemeaa.buk
set_option linter.unusedVariables false
/-- How many values are not greater, how many are less. -/
def rk (M : List Int) (v : Int) : Int := ((M.countP fun x => decide (x ≤ v) : Nat) : Int)
def bl (M : List Int) (v : Int) : Int := ((M.countP fun x => decide (x < v) : Nat) : Int)
theorem rk_app (M N : List Int) (v : Int) : rk (M ++ N) v = rk M v + rk N v := by simp [rk]
theorem bl_app (M N : List Int) (v : Int) : bl (M ++ N) v = bl M v + bl N v := by simp [bl]
theorem rk_nn (M : List Int) (v : Int) : 0 ≤ rk M v := Int.natCast_nonneg _
theorem bl_nn (M : List Int) (v : Int) : 0 ≤ bl M v := Int.natCast_nonneg _
theorem rk_le (M : List Int) (v : Int) : rk M v ≤ M.length := Int.ofNat_le.2 List.countP_le_length
theorem bl_le (M : List Int) (v : Int) : bl M v ≤ M.length := Int.ofNat_le.2 List.countP_le_length
theorem rk_mono (M : List Int) {u v : Int} (h : u ≤ v) : rk M u ≤ rk M v :=
  Int.ofNat_le.2 (List.countP_mono_left fun x _ hx => by simp at hx ⊢; omega)
theorem bl_mono (M : List Int) {u v : Int} (h : u ≤ v) : bl M u ≤ bl M v :=
  Int.ofNat_le.2 (List.countP_mono_left fun x _ hx => by simp at hx ⊢; omega)
theorem rk_bl (M : List Int) {u v : Int} (h : u < v) : rk M u ≤ bl M v :=
  Int.ofNat_le.2 (List.countP_mono_left fun x _ hx => by simp at hx ⊢; omega)
theorem bl_rk (M : List Int) (v : Int) : bl M v ≤ rk M v :=
  Int.ofNat_le.2 (List.countP_mono_left fun x _ hx => by simp at hx ⊢; omega)
theorem bl_mem : ∀ {M : List Int} {v : Int}, v ∈ M → bl M v + 1 ≤ rk M v
  | x :: M, v, h => by
    have h1 : bl (x :: M) v = bl [x] v + bl M v := bl_app [x] M v
    have h2 : rk (x :: M) v = rk [x] v + rk M v := rk_app [x] M v
    have h3 := bl_rk M v
    have h4 := bl_rk [x] v
    rcases List.mem_cons.1 h with rfl | h
    · have : bl [v] v = 0 := by simp [bl]
      have : rk [v] v = 1 := by simp [rk]
      omega
    · have := bl_mem h
      omega
/-- The summary stands for these values. -/
def Stands (M : List Int) (N : Int) (es : L3) : Prop := (M.length : Int) = N ∧ ∀ i < es.length, (at3 es i).1 ∈ M ∧ (at3 es i).2.1 ≤ rk M (at3 es i).1 ∧ bl M (at3 es i).1 + 1 ≤ (at3 es i).2.2
theorem Stands.nil : Stands [] 0 [] := ⟨rfl, fun i h => absurd h (Nat.not_lt_zero _)⟩
theorem Stands.one (v : Int) : Stands [v] 1 [(v, 1, 1)] := ⟨rfl, fun i h => by
  have : i = 0 := by simpa using h
  subst this
  have e : at3 [(v, (1 : Int), (1 : Int))] 0 = (v, 1, 1) := rfl
  rw [e]
  have h1 : bl [v] v = 0 := by simp [bl]
  have h2 : rk [v] v = 1 := by simp [rk]
  refine ⟨by simp, ?_, ?_⟩ <;> simp only <;> omega⟩
theorem Stands.swap {M1 M2 : List Int} {N : Int} {es : L3} (h : Stands (M1 ++ M2) N es) : Stands (M2 ++ M1) N es :=
  ⟨by have := h.1; simp at this ⊢; omega, fun i hi => by
    obtain ⟨h1, h2, h3⟩ := h.2 i hi
    rw [rk_app] at h2 ⊢
    rw [bl_app] at h3 ⊢
    exact ⟨by simp at h1 ⊢; exact h1.symm, by omega, by omega⟩⟩
/-- What was taken is not greater than what comes next, and that is not greater than what is left. -/
theorem nxt_mono' {x y : L3} (hx : asc x) (hy : asc y) {s : Nat} : ∀ d, s + d < x.length + y.length → nxt x y s ≤ nxt x y (s + d)
  | 0, _ => Int.le_refl _
  | d + 1, h => Int.le_trans (nxt_mono' hx hy d (by omega)) (nxt_mono hx hy (s := s + d) h)
theorem path_nxt {x y : L3} : ∀ s, s ≤ x.length + y.length → (∀ i < (path x y s).1, ∃ r < s, nxt x y r = (at3 x i).1) ∧ (∀ j < (path x y s).2, ∃ r < s, nxt x y r = (at3 y j).1)
  | 0, _ => ⟨fun i h => absurd h (Nat.not_lt_zero _), fun i h => absurd h (Nat.not_lt_zero _)⟩
  | s + 1, hs => by
    obtain ⟨h1, h2⟩ := path_nxt (x := x) (y := y) s (by omega)
    rcases path_cases (x := x) (y := y) (s := s) (by omega) with ⟨g1, g2, g3, _⟩ | ⟨g1, g2, g3, _⟩
    · rw [g1]
      refine ⟨fun i hi => ?_, fun j hj => ?_⟩
      · simp only at hi
        by_cases e : i = (path x y s).1
        · exact ⟨s, by omega, by rw [e]; exact g3⟩
        · obtain ⟨r, hr, e2⟩ := h1 i (by omega); exact ⟨r, by omega, e2⟩
      · obtain ⟨r, hr, e2⟩ := h2 j hj; exact ⟨r, by omega, e2⟩
    · rw [g1]
      refine ⟨fun i hi => ?_, fun j hj => ?_⟩
      · obtain ⟨r, hr, e2⟩ := h1 i hi; exact ⟨r, by omega, e2⟩
      · simp only at hj
        by_cases e : j = (path x y s).2
        · exact ⟨s, by omega, by rw [e]; exact g3⟩
        · obtain ⟨r, hr, e2⟩ := h2 j (by omega); exact ⟨r, by omega, e2⟩
section
variable {a b : Int} {x y : L3} {M1 M2 M : List Int} {N : Int} {es : L3}
theorem taken_le (hx : asc x) (hy : asc y) {s : Nat} (hs : s < x.length + y.length) : (∀ i < (path x y (s + 1)).1, (at3 x i).1 ≤ nxt x y s) ∧ (∀ j < (path x y (s + 1)).2, (at3 y j).1 ≤ nxt x y s) := by
  obtain ⟨h1, h2⟩ := path_nxt (x := x) (y := y) (s + 1) (by omega)
  refine ⟨fun i hi => ?_, fun j hj => ?_⟩
  · obtain ⟨r, hr, e⟩ := h1 i hi
    have := nxt_mono' hx hy (s := r) (s - r) (by omega)
    rw [show r + (s - r) = s by omega] at this
    omega
  · obtain ⟨r, hr, e⟩ := h2 j hj
    have := nxt_mono' hx hy (s := r) (s - r) (by omega)
    rw [show r + (s - r) = s by omega] at this
    omega
theorem left_ge (hx : asc x) (hy : asc y) {s : Nat} (hs : s < x.length + y.length) : ((path x y s).1 < x.length → nxt x y s ≤ (at3 x (path x y s).1).1) ∧ ((path x y s).2 < y.length → nxt x y s ≤ (at3 y (path x y s).2).1) := by
  rcases path_cases hs with ⟨g1, g2, g3, g4⟩ | ⟨g1, g2, g3, g4⟩
  · exact ⟨fun _ => by rw [g3]; exact Int.le_refl _, fun h => by rw [g3]; exact g4 h⟩
  · exact ⟨fun h => by rw [g3]; exact Int.le_of_lt (g4 h), fun _ => by rw [g3]; exact Int.le_refl _⟩
theorem Stands.lw_rk (h : Stands M1 a x) {i : Nat} (hi : i ≤ x.length) {v : Int} (hv : ∀ j < i, (at3 x j).1 ≤ v) : lw x i ≤ rk M1 v := by
  unfold lw
  split
  · have h1 := (h.2 (i - 1) (by omega)).2.1
    have := rk_mono M1 (hv (i - 1) (by omega))
    omega
  · exact rk_nn _ _
theorem Stands.bl_up (h : Stands M1 a x) {i : Nat} {v : Int} (hv : i < x.length → v ≤ (at3 x i).1) : bl M1 v ≤ up x a i := by
  unfold up
  split
  · rename_i hi
    have h1 := (h.2 i hi).2.2
    have := bl_mono M1 (hv hi)
    omega
  · have := bl_le M1 v; have := h.1; omega
theorem Stands.merge (h1 : Stands M1 a x) (h2 : Stands M2 b y) (hx : asc x) (hy : asc y) : Stands (M1 ++ M2) (a + b) (mergeL x y a b) := by
  refine ⟨by have := h1.1; have := h2.1; simp; omega, fun s hs => ?_⟩
  rw [merge_len] at hs
  rw [merge_at hs]
  obtain ⟨t1, t2⟩ := taken_le hx hy hs
  obtain ⟨l1, l2⟩ := left_ge hx hy hs
  obtain ⟨p1, p2, p3⟩ := path_le (x := x) (y := y) (s + 1) (by omega)
  have e1 := h1.lw_rk p1 t1
  have e2 := h2.lw_rk p2 t2
  have e3 := h1.bl_up l1
  have e4 := h2.bl_up l2
  simp only
  rw [rk_app, bl_app]
  refine ⟨?_, by omega, by omega⟩
  rcases path_cases hs with ⟨g1, g2, g3, g4⟩ | ⟨g1, g2, g3, g4⟩
  · rw [g3]; exact List.mem_append_left _ (h1.2 _ g2).1
  · rw [g3]; exact List.mem_append_right _ (h2.2 _ g2).1
theorem pruTo_mem {N b : Int} {es : L3} (h : 0 < es.length) : ∀ i, ∀ k < (pruTo N b es i).2.2.length, ∃ j < es.length, at3 (pruTo N b es i).2.2 k = at3 es j
  | 0, k, hk => absurd hk (by simp [pruTo])
  | i + 1, k, hk => by
    have ih := pruTo_mem (N := N) (b := b) h i
    obtain ⟨h1, h2⟩ := pruTo_lt (N := N) (b := b) h i
    rcases hp : pruTo N b es i with ⟨l, s, o⟩
    rw [hp] at ih h1 h2
    simp only at ih h1
    by_cases e : (place es (tgt N b i) s : Int) = l
    · rw [pruTo_same hp e] at hk ⊢; exact ih k hk
    · rw [pruTo_new hp e] at hk ⊢
      simp only [List.length_append, List.length_singleton] at hk ⊢
      by_cases e2 : k < o.length
      · rw [at3_app e2]; exact ih k e2
      · obtain rfl : k = o.length := by omega
        rw [at3_end]
        exact ⟨_, (place_lt h1).2, rfl⟩
theorem Stands.prune (h : Stands M N es) (h0 : 0 < es.length) (b : Int) : Stands M N (pruL N b es) := by
  unfold pruL
  split
  · exact h
  · refine ⟨h.1, fun k hk => ?_⟩
    obtain ⟨j, hj, e⟩ := pruTo_mem h0 _ k hk
    rw [e]
    exact h.2 j hj
/-- The rank of a value, from the last entry that is not greater and the first one that is. -/
theorem Stands.ranks (h : Stands M N es) {v : Int} {i : Nat} (hi : i ≤ es.length) (h1 : ∀ j < i, (at3 es j).1 ≤ v) (h2 : i < es.length → v < (at3 es i).1) : lw es i ≤ rk M v ∧ rk M v ≤ up es N i := by
  refine ⟨h.lw_rk hi h1, ?_⟩
  unfold up
  split
  · rename_i hl
    have h3 := (h.2 i hl).2.2
    have := rk_bl M (h2 hl)
    omega
  · have := rk_le M v; have := h.1; omega
end
end Go.Proofs.Ytjapjfcennemeaa.rnk

/- Several insertions, as lists. No program. -/
namespace Go.Proofs.Ytjapjfcennemeaa.buk
theorem iterIns_succ (k : Nat) (t : Int) (m : Nat) (xs : L2) : iterIns k t (m + 1) xs = insC (iterIns k t m xs) k t := by
  induction m generalizing xs with
  | zero => rfl
  | succ m ih => rw [iterIns, ih]; rfl
theorem iter_valid {k : Nat} {t : Int} (ht : 0 ≤ t ∧ t ≤ 16777216) : ∀ (m : Nat) (xs : L2), ValidP xs k → (0 < xs.length → tailT xs ≤ t) → wgt xs + m ≤ 1073741824 →
    ValidP (iterIns k t m xs) k ∧ (0 < (iterIns k t m xs).length → tailT (iterIns k t m xs) ≤ t) ∧ wgt (iterIns k t m xs) = wgt xs + m ∧ (0 < m → 0 < (iterIns k t m xs).length)
  | 0, xs, hv, hm, hw => ⟨hv, hm, rfl, fun h => absurd h (Nat.lt_irrefl 0)⟩
  | m + 1, xs, hv, hm, hw => by
    obtain ⟨a1, a2, a3, a4⟩ := insC_valid hv ht hm (by omega)
    obtain ⟨b1, b2, b3, b4⟩ := iter_valid ht m (insC xs k t) a1 (fun _ => by omega) (by omega)
    refine ⟨b1, b2, by rw [iterIns, b3, a2]; omega, fun _ => ?_⟩
    rw [iterIns]
    rcases Nat.eq_zero_or_pos m with h | h
    · subst h; exact a4
    · exact b4 h
def iterPut (k : Nat) (t : Int) : Nat → L2 → L2
  | 0, xs => xs
  | m + 1, xs => iterPut k t m (putC xs k t)
theorem iterPut_eq {k : Nat} (hk : 1 ≤ k) {t : Int} (ht : 0 ≤ t ∧ t ≤ 16777216) : ∀ (m : Nat) (xs : L2), ValidP xs k → (0 < xs.length → tailT xs ≤ t) → wgt xs + m ≤ 1073741824 → iterPut k t m xs = iterIns k t m xs
  | 0, _, _, _, _ => rfl
  | m + 1, xs, hv, hm, hw => by
    obtain ⟨a1, a2, a3, a4⟩ := insC_valid hv ht hm (by omega)
    rw [iterPut, iterIns, putC_eq hk hv.2.1 (by omega) t]
    exact iterPut_eq hk ht m _ a1 (fun _ => by omega) (by omega)
end Go.Proofs.Ytjapjfcennemeaa.buk

/- The number of buckets of each level after so many insertions. No program. -/
namespace Go.Proofs.Ytjapjfcennemeaa.buk
/-- So many arrivals at level l. -/
def arr (k : Nat) : Nat → Nat → Nat
  | 0, n => n
  | l + 1, n => arr k l ((n - k) / 2)
theorem arr_succ (k : Nat) : ∀ l n, arr k (l + 1) n = (arr k l n - k) / 2
  | 0, _ => rfl
  | l + 1, n => by rw [arr, arr_succ k l]; rfl
def cof (k n l : Nat) : Nat := arr k l n - 2 * arr k (l + 1) n
theorem cof_stay {k n l : Nat} (h : arr k l (n + 1) = arr k l n) : arr k (l + 1) (n + 1) = arr k (l + 1) n := by
  rw [arr_succ, arr_succ, h]
theorem cof_stays {k n l : Nat} (h : arr k l (n + 1) = arr k l n) : ∀ j, l ≤ j → arr k j (n + 1) = arr k j n := by
  intro j hj
  obtain ⟨d, rfl⟩ : ∃ d, j = l + d := ⟨j - l, by omega⟩
  clear hj
  induction d with
  | zero => exact h
  | succ d ih => exact cof_stay ih
structure GInv (xs : L2) (k n l e : Nat) : Prop where
  st : St xs l e
  lo : ∀ j, j < l → cnt xs j = cof k (n + 1) j
  at_ : cnt xs l = cof k n l + 1
  hi : ∀ j, l < j → cnt xs j = cof k n j
  up : arr k l (n + 1) = arr k l n + 1
theorem casc_cof {k : Nat} (hk : 1 ≤ k) (n : Nat) : ∀ (f : Nat) (xs : L2) (l e : Nat), GInv xs k n l e → xs.length ≤ f → ∀ j, cnt (casc k f xs l e) j = cof k (n + 1) j
  | 0, xs, l, e, h, hf => by
    have h1 := h.at_
    have h2 := cnt_le xs l
    omega
  | f + 1, xs, l, e, h, hf => by
    have hc := h.st.cnt_eq
    have hat := h.at_
    have hup := h.up
    have s1 := arr_succ k l n
    have s2 := arr_succ k l (n + 1)
    by_cases hst : e - runB xs l e < k + 2
    · rw [casc_stop hst]
      have hst2 : arr k (l + 1) (n + 1) = arr k (l + 1) n := by unfold cof at hat; omega
      intro j
      rcases Nat.lt_trichotomy j l with h1 | h1 | h1
      · exact h.lo j h1
      · subst h1
        rw [hat]; unfold cof at hat ⊢; omega
      · rw [h.hi j h1]
        unfold cof
        rw [cof_stays hst2 j h1, cof_stays hst2 (j + 1) (by omega)]
    · rw [casc_go hst]
      obtain ⟨h1, _⟩ := runB_run xs l e
      have he := h.st.he
      have hlen := joined_length (xs := xs) (b := runB xs l e) (l := (l : Int)) (by omega)
      have hcj := cnt_joined (xs := xs) (b := runB xs l e) (l := l) (by omega) (h1 _ (Nat.le_refl _) (by omega)) (h1 _ (by omega) (by omega))
      refine casc_cof hk n f _ (l + 1) _ ⟨h.st.next (by omega), fun j hj => ?_, ?_, fun j hj => ?_, ?_⟩ (by omega)
      · have c := hcj j
        rw [if_neg (show ¬ j = l + 1 by omega)] at c
        rcases Nat.lt_or_ge j l with h2 | h2
        · rw [if_neg (by omega)] at c
          have := h.lo j h2; omega
        · obtain rfl : j = l := by omega
          rw [if_pos rfl] at c
          unfold cof at hat ⊢; omega
      · have c := hcj (l + 1)
        rw [if_neg (by omega), if_pos rfl] at c
        have := h.hi (l + 1) (by omega)
        omega
      · have c := hcj j
        rw [if_neg (by omega), if_neg (by omega)] at c
        have := h.hi j (by omega)
        omega
      · unfold cof at hat; omega
theorem insC_cof {k : Nat} (hk : 1 ≤ k) {xs : L2} (ho : ordOk xs xs.length) {n : Nat} (h : ∀ j, cnt xs j = cof k n j) (t : Int) : ∀ j, cnt (insC xs k t) j = cof k (n + 1) j := by
  have hcn : ∀ j, cnt (xs ++ [(t, 0)]) j = cnt xs j + if j = 0 then 1 else 0 := fun j => by
    rw [cnt_append, cnt_cons, cnt_nil]
    by_cases e : j = 0
    · subst e; simp
    · rw [if_neg (by first | (simp; done) | (simp; omega)), if_neg e]
  refine casc_cof hk n _ _ 0 _ ⟨ord_St ho t, fun j hj => by omega, by rw [hcn, h, if_pos rfl], fun j hj => by rw [hcn, h, if_neg (by omega)]; rfl, rfl⟩ (by simp)
theorem arr_zero (k : Nat) : ∀ l, arr k l 0 = 0
  | 0 => rfl
  | l + 1 => by rw [arr_succ, arr_zero k l]; simp
theorem validP_nil {k : Nat} (hk : 1 ≤ k) (hk2 : k ≤ 128) : ValidP [] k := ⟨by omega, ordOk_zero _, fun h => by simp at h⟩
theorem grown_cof {k : Nat} (hk : 1 ≤ k) (hk2 : k ≤ 128) : ∀ n : Nat, n ≤ 1073741824 → ∀ j, cnt (iterIns k 0 n []) j = cof k n j
  | 0, _ => fun j => by simp [iterIns, cnt_nil, cof, arr_zero]
  | n + 1, hn => by
    rw [iterIns_succ]
    have hv := iter_valid (k := k) (t := 0) (by omega) n [] (validP_nil hk hk2) (fun h => by simp at h) (by simp [wgt]; omega)
    exact insC_cof hk hv.1.2.1 (grown_cof hk hk2 n (by omega)) 0
theorem cnt_pos {xs : L2} (h : ordOk xs xs.length) (hp : 0 < xs.length) : 0 < cnt xs (at_ xs 0).2.toNat := by
  have h0 := (h 0 hp).2.1.1
  rw [cnt, List.countP_pos_iff]
  refine ⟨xs[0], List.getElem_mem hp, ?_⟩
  simp only [at_, List.getElem?_eq_getElem hp, Option.getD_some] at h0 ⊢
  simp; omega
end Go.Proofs.Ytjapjfcennemeaa.buk

/- Lists of buckets in order: suffixes, numbers of levels, how narrow they are. No program. -/
namespace Go.Proofs.Ytjapjfcennemeaa.buk
set_option linter.unusedVariables false
theorem ord_mono {xs : L2} (h : ordOk xs xs.length) : ∀ d a, a + d < xs.length → (at_ xs (a + d)).2 ≤ (at_ xs a).2 := by
  intro d
  induction d with
  | zero => intro a _; exact Int.le_refl _
  | succ d ih =>
    intro a hl
    have h1 := ih a (by omega)
    have h2 := ((h (a + (d + 1)) hl).2.2 (by omega)).2
    rw [show a + (d + 1) - 1 = a + d by omega] at h2
    omega
theorem cnt_take_zero {xs : L2} (h : ordOk xs xs.length) {i l : Nat} (hi : i < xs.length) (hl : (l : Int) < (at_ xs i).2) : cnt (xs.take i) l = 0 := by
  unfold cnt
  rw [List.countP_eq_zero]
  intro p hp
  obtain ⟨j, hj, rfl⟩ := List.getElem_of_mem hp
  rw [List.length_take] at hj
  rw [List.getElem_take]
  have h1 := ord_mono h (i - j) j (by omega)
  rw [show j + (i - j) = i by omega] at h1
  have e : at_ xs j = xs[j]'(by omega) := by simp [at_, List.getElem?_eq_getElem (show j < xs.length by omega)]
  rw [e] at h1
  simp
  omega
theorem drop_valid {xs : L2} {k : Int} (hv : ValidP xs k) (i : Nat) : ValidP (xs.drop i) k := by
  obtain ⟨hk, ho, hl⟩ := hv
  refine ⟨hk, fun j hj => ?_, fun hp l hl31 => ?_⟩
  · rw [List.length_drop] at hj
    have h := ho (i + j) (by omega)
    unfold ordAt
    rw [at_drop]
    refine ⟨h.1, h.2.1, fun hj0 => ?_⟩
    have h2 := h.2.2 (by omega)
    rw [at_drop, show i + (j - 1) = i + j - 1 by omega]
    exact h2
  · rw [List.length_drop] at hp
    have hlev := hl (by omega) l hl31
    have hc : cnt xs l = cnt (xs.take i) l + cnt (xs.drop i) l := by rw [← cnt_append, List.take_append_drop]
    have hle := ord_le ho i (by omega)
    unfold levAt at hlev ⊢
    rw [at_drop, Nat.add_zero]
    intro h1
    have h2 := hlev (by omega)
    refine ⟨by omega, fun h3 => ?_⟩
    have hz := cnt_take_zero ho (show i < xs.length by omega) h3
    have h4 := h2.2 (by omega)
    omega
def sumTo (f : Nat → Nat) : Nat → Nat
  | 0 => 0
  | m + 1 => sumTo f m + f m
theorem sumTo_add (f g : Nat → Nat) : ∀ m, sumTo (fun l => f l + g l) m = sumTo f m + sumTo g m
  | 0 => rfl
  | m + 1 => by simp only [sumTo, sumTo_add f g m]; omega
theorem sumTo_zero {f : Nat → Nat} : ∀ m, (∀ l, l < m → f l = 0) → sumTo f m = 0
  | 0, _ => rfl
  | m + 1, h => by simp only [sumTo, sumTo_zero m (fun l hl => h l (by omega)), h m (by omega)]
theorem sumTo_one {c : Nat → Nat} {a : Nat} : ∀ m, a < m → sumTo (fun l => if a = l then c l else 0) m = c a
  | 0, h => by omega
  | m + 1, h => by
    simp only [sumTo]
    by_cases e : a = m
    · subst e
      rw [if_pos rfl, sumTo_zero a (fun l hl => if_neg (by omega)), Nat.zero_add]
    · rw [if_neg e, sumTo_one m (by omega), Nat.add_zero]
theorem sumTo_congr {f g : Nat → Nat} : ∀ m, (∀ l, l < m → f l = g l) → sumTo f m = sumTo g m
  | 0, _ => rfl
  | m + 1, h => by simp only [sumTo, sumTo_congr m (fun l hl => h l (by omega)), h m (by omega)]
theorem sumTo_le {f g : Nat → Nat} : ∀ m, (∀ l, l < m → f l ≤ g l) → sumTo f m ≤ sumTo g m
  | 0, _ => Nat.le_refl _
  | m + 1, h => by
    have h1 := sumTo_le m (fun l hl => h l (by omega))
    have h2 := h m (by omega)
    simp only [sumTo]; omega
theorem sumTo_mono {f : Nat → Nat} {a b : Nat} (h : a ≤ b) : sumTo f a ≤ sumTo f b := by
  induction b with
  | zero => have : a = 0 := by omega
            subst this; exact Nat.le_refl _
  | succ b ih =>
    by_cases e : a = b + 1
    · subst e; exact Nat.le_refl _
    · have := ih (by omega); simp only [sumTo]; omega
theorem sumTo_cut {f : Nat → Nat} {a : Nat} (b : Nat) (h : ∀ l, a ≤ l → f l = 0) : a ≤ b → sumTo f b = sumTo f a := by
  induction b with
  | zero => intro hb; have : a = 0 := by omega
            subst this; rfl
  | succ b ih =>
    intro hb
    by_cases e : a = b + 1
    · subst e; rfl
    · simp only [sumTo, ih (by omega), h b (by omega), Nat.add_zero]
theorem sumTo_pow (k : Nat) : ∀ m, sumTo (fun l => k * 2 ^ l) m + k = k * 2 ^ m
  | 0 => by simp [sumTo]
  | m + 1 => by
    have := sumTo_pow k m
    simp only [sumTo]
    rw [Nat.pow_succ, ← Nat.mul_assoc]
    omega
theorem sumTo_const (k : Nat) : ∀ m, sumTo (fun _ => k) m = k * m
  | 0 => rfl
  | m + 1 => by simp only [sumTo, sumTo_const k m, Nat.mul_succ]
theorem levels_sum : ∀ xs : L2, (∀ p ∈ xs, 0 ≤ p.2 ∧ p.2 ≤ 30) → xs.length = sumTo (cnt xs) 31 ∧ wgt xs = sumTo (fun l => cnt xs l * 2 ^ l) 31
  | [], _ => ⟨(sumTo_zero 31 (fun l _ => cnt_nil l)).symm, (sumTo_zero 31 (fun l _ => by rw [cnt_nil, Nat.zero_mul])).symm⟩
  | p :: r, h => by
    obtain ⟨i1, i2⟩ := levels_sum r (fun q hq => h q (List.mem_cons_of_mem _ hq))
    have hp := h p (List.mem_cons_self ..)
    have e : ∀ l, cnt (p :: r) l = cnt r l + (if p.2.toNat = l then 1 else 0) := fun l => by
      rw [cnt_cons]
      congr 1
      by_cases h1 : p.2 = (l : Int)
      · rw [if_pos h1, if_pos (by omega)]
      · rw [if_neg h1, if_neg (by omega)]
    constructor
    · rw [List.length_cons, i1, sumTo_congr 31 (fun l _ => e l), sumTo_add, sumTo_one (c := fun _ => 1) 31 (by omega)]
    · have e2 : ∀ l, cnt (p :: r) l * 2 ^ l = cnt r l * 2 ^ l + (if p.2.toNat = l then 2 ^ l else 0) := fun l => by
        rw [e l, Nat.add_mul]
        congr 1
        split <;> simp
      rw [sumTo_congr 31 (fun l _ => e2 l), sumTo_add, sumTo_one (c := fun l => 2 ^ l) 31 (by omega), ← i2]
      simp only [wgt]
      omega
theorem ord_levels {xs : L2} (h : ordOk xs xs.length) : ∀ p ∈ xs, 0 ≤ p.2 ∧ p.2 ≤ 30 := fun p hp => by
  obtain ⟨j, hj, rfl⟩ := List.getElem_of_mem hp
  have := (h j hj).2.1
  have e : at_ xs j = xs[j] := by simp [at_, List.getElem?_eq_getElem hj]
  rwa [e] at this
/-- The numbers of a list in order. -/
theorem keep_facts {xs : L2} {k : Nat} (hv : ValidP xs k) (hp : 0 < xs.length) (L : Nat) (hL : (at_ xs 0).2 = (L : Int)) :
    L ≤ 30 ∧ xs.length ≤ (k + 1) * (L + 1) ∧ 2 ^ L + k * 2 ^ L ≤ wgt xs + k ∧ 2 ^ L ≤ wgt xs := by
  obtain ⟨hk, ho, hl⟩ := hv
  obtain ⟨s1, s2⟩ := levels_sum xs (ord_levels ho)
  have hL30 : L ≤ 30 := by have := (ho 0 hp).2.1; omega
  have hz : ∀ l, L + 1 ≤ l → cnt xs l = 0 := fun l hl => cnt_high ho (by omega)
  have hc : 0 < cnt xs L := by have := cnt_pos ho hp; rwa [hL, Int.toNat_natCast] at this
  have hlev : ∀ l, l < L + 1 → (cnt xs l ≤ k + 1 ∧ (l < L → k ≤ cnt xs l)) := fun l hlt => by
    have := hl hp l (by omega) (by omega)
    exact ⟨by omega, fun h => by have := this.2 (by omega); omega⟩
  refine ⟨hL30, ?_, ?_, ?_⟩
  · rw [s1, sumTo_cut 31 hz (by omega), ← sumTo_const]
    exact sumTo_le _ (fun l h => (hlev l h).1)
  · have h1 : sumTo (fun l => k * 2 ^ l) L ≤ sumTo (fun l => cnt xs l * 2 ^ l) L := sumTo_le _ (fun l h => Nat.mul_le_mul_right _ ((hlev l (by omega)).2 h))
    have h2 := sumTo_pow k L
    have h3 : sumTo (fun l => cnt xs l * 2 ^ l) (L + 1) ≤ sumTo (fun l => cnt xs l * 2 ^ l) 31 := sumTo_mono (by omega)
    have h4 : 1 * 2 ^ L ≤ cnt xs L * 2 ^ L := Nat.mul_le_mul_right _ hc
    have h5 : sumTo (fun l => cnt xs l * 2 ^ l) (L + 1) = sumTo (fun l => cnt xs l * 2 ^ l) L + cnt xs L * 2 ^ L := rfl
    rw [s2]
    omega
  · have h4 : 1 * 2 ^ L ≤ cnt xs L * 2 ^ L := Nat.mul_le_mul_right _ hc
    have := wgt_cnt xs L
    omega
theorem len_wgt : ∀ xs : L2, xs.length ≤ wgt xs
  | [] => Nat.le_refl _
  | p :: r => by
    have := len_wgt r
    have h : 0 < 2 ^ p.2.toNat := Nat.pow_pos (by omega)
    simp only [List.length_cons, wgt]
    omega
theorem wgt_drop (xs : L2) (i : Nat) : wgt (xs.drop i) ≤ wgt xs := by
  have h := wgt_append (xs.take i) (xs.drop i)
  rw [List.take_append_drop] at h
  omega
end Go.Proofs.Ytjapjfcennemeaa.buk

/- Plain: blocks and the items that they stand for, along a stream. No program. -/
namespace Go.Proofs.Ytjapjfcennemeaa.rnk
open Go.Proofs.Ytjapjfcennemeaa.mem Go.Proofs.Ytjapjfcennemeaa.buk
set_option linter.unusedVariables false
abbrev Its := List (Int × Int)
def RepK : List K5 → Its → Prop
  | [], s => s = []
  | x :: r, s => ∃ g u, s = g ++ u ∧ g.length = 2 ^ x.2.2.1.toNat ∧ g.getLast? = some (x.1, x.2.1) ∧ Stands (g.map Prod.snd) x.2.2.2.1 x.2.2.2.2 ∧ RepK r u
theorem RepK.append {xs ys : List K5} : ∀ {s u : Its}, RepK xs s → RepK ys u → RepK (xs ++ ys) (s ++ u) := by
  induction xs with
  | nil => intro s u h1 h2; obtain rfl : s = [] := h1; exact h2
  | cons p r ih =>
    intro s u h1 h2
    obtain ⟨g, v, rfl, a, b, d, c⟩ := h1
    exact ⟨g, v ++ u, List.append_assoc .., a, b, d, ih c h2⟩
theorem RepK.split {xs ys : List K5} : ∀ {s : Its}, RepK (xs ++ ys) s → ∃ t1 t2, s = t1 ++ t2 ∧ RepK xs t1 ∧ RepK ys t2 := by
  induction xs with
  | nil => intro s h; exact ⟨[], s, rfl, rfl, h⟩
  | cons p r ih =>
    intro s h
    obtain ⟨g, u, rfl, a, b, d, c⟩ := h
    obtain ⟨t1, t2, rfl, h1, h2⟩ := ih c
    exact ⟨g ++ t1, t2, (List.append_assoc ..).symm, ⟨g, t1, rfl, a, b, d, h1⟩, h2⟩
theorem RepK.snoc {xs : List K5} {s : Its} (h : RepK xs s) (t v : Int) : RepK (xs ++ [(t, v, 0, 1, [(v, 1, 1)])]) (s ++ [(t, v)]) :=
  h.append ⟨[(t, v)], [], rfl, rfl, rfl, Stands.one v, rfl⟩
theorem pow30 {l : Nat} (h : l ≤ 30) : (0 : Int) < 2 ^ l ∧ (2 : Int) ^ l ≤ 1073741824 := by
  have h1 : (0 : Int) < 2 ^ l := Int.pow_pos (by omega)
  have h2 : (2 : Int) ^ l ≤ 2 ^ 30 := pow_le h
  have h3 : (2 : Int) ^ 30 = 1073741824 := by decide
  omega
theorem RepK.join {b : Int} {p q : K5} {l : Nat} (hb : 1 ≤ b ∧ b ≤ 65536) (hl : l ≤ 29) (hp : BOkP b p) (hq : BOkP b q) (ep : p.2.2.1 = (l : Int)) (eq : q.2.2.1 = (l : Int)) {r : List K5} {s : Its} (h : RepK (p :: q :: r) s) : RepK ((q.1, q.2.1, (l : Int) + 1, (twoR b p q).1, (twoR b p q).2) :: r) s := by
  obtain ⟨g, u, rfl, a1, b1, d1, g2, u2, rfl, a2, b2, d2, c⟩ := h
  have np := hp.num
  have nq := hq.num
  rw [ep, Int.toNat_natCast] at np
  rw [eq, Int.toNat_natCast] at nq
  have h30 := pow30 (show l ≤ 30 by omega)
  have hle : p.2.2.2.1 + q.2.2.2.1 ≤ 1099511627776 := by omega
  rw [two_eq hb hp.val hq.val hle]
  refine ⟨g ++ g2, u2, (List.append_assoc ..).symm, ?_, ?_, ?_, c⟩
  · rw [List.length_append, a1, a2, ep, eq]
    simp only [Int.toNat_natCast]
    rw [show ((l : Int) + 1).toNat = l + 1 by omega, Nat.pow_succ]
    omega
  · rw [List.getLast?_append, b2]; rfl
  · rw [List.map_append]
    exact (d1.merge d2 (asc_of_val hp.val) (asc_of_val hq.val)).prune (by rw [merge_len]; have := hp.pos; omega) b
theorem atK_eq {xs : List K5} {i : Nat} (h : i < xs.length) : atK xs i = xs[i] := by simp [atK, List.getElem?_eq_getElem h]
theorem two_ofK {xs : List K5} {b : Nat} (h : b + 1 < xs.length) : xs = xs.take b ++ (atK xs b :: atK xs (b + 1) :: xs.drop (b + 2)) := by
  rw [atK_eq h, atK_eq (show b < xs.length by omega)]
  conv => lhs; rw [← List.take_append_drop b xs]
  rw [List.drop_eq_getElem_cons (show b < xs.length by omega), List.drop_eq_getElem_cons h]
theorem casc_rep {k : Nat} {b : Int} (hb : 1 ≤ b ∧ b ≤ 65536) (hk : 1 ≤ k) : ∀ (f : Nat) (xs : List K5) (l e : Nat), Inv (plainK xs) k l e → allOk b xs → ∀ s, RepK xs s → RepK (cascK k b f xs l e) s
  | 0, xs, l, e, _, _, s, h => h
  | f + 1, xs, l, e, hi, ha, s, h => by
    by_cases hst : e - runK xs l e < k + 2
    · rw [cascK_stop hst]; exact h
    · rw [cascK_go hst]
      have hn := hi.next hk (by rw [runK_plain]; exact hst)
      rw [runK_plain, joinK_plain b] at hn
      have he := hi.st.he
      rw [plainK_length] at he
      obtain ⟨h1, _⟩ := runB_run (plainK xs) l e
      rw [runK_plain] at h1
      have hlen : runK xs l e + 1 < xs.length := by omega
      have l1 := h1 (runK xs l e) (Nat.le_refl _) (by omega)
      have l2 := h1 (runK xs l e + 1) (by omega) (by omega)
      rw [at_plainK] at l1 l2
      simp only at l1 l2
      have hlv := (hn.ord (runK xs l e) (by rw [plainK_length, joinK_length hlen]; omega)).2.1.2
      rw [at_plainK, atK_joinK hlen, if_neg (by omega), if_pos rfl] at hlv
      have hl29 : l ≤ 29 := by
        have : (l : Int) + 1 ≤ 30 := hlv
        omega
      refine casc_rep hb hk f _ (l + 1) _ hn (fun i hi2 => ?_) s ?_
      · rw [joinK_length hlen] at hi2
        rw [atK_joinK hlen]
        by_cases h3 : i < runK xs l e
        · rw [if_pos h3]; exact ha i (by omega)
        · rw [if_neg h3]
          by_cases h4 : i = runK xs l e
          · rw [if_pos h4]
            exact two_ok hb hl29 (ha _ (by omega)) (ha _ hlen) l1 l2
          · rw [if_neg h4]; exact ha _ (by omega)
      · rw [two_ofK hlen] at h
        obtain ⟨t1, t2, rfl, a, c⟩ := h.split
        exact a.append (c.join hb hl29 (ha _ (by omega)) (ha _ hlen) l1 l2)
theorem ins_rep {xs : List K5} {k b t v : Int} (hm : mayK xs k b t v = true) {s : Its} (h : RepK xs s) : RepK (insKC xs k.toNat b t v) (s ++ [(t, v)]) := by
  obtain ⟨h1, h2, h3, h4, h5⟩ := mayK_iff2.1 hm
  obtain ⟨hb, hv, ha⟩ := validK_iff.1 h1
  have hvp := validB_iff.1 hv
  have hk := hvp.1
  obtain ⟨kk, rfl⟩ := Int.eq_ofNat_of_zero_le (show 0 ≤ k by omega)
  rw [Int.toNat_natCast]
  have hw : wgt (plainK xs) = totalK xs := wgt_tot hvp.2.1
  have hlt : 0 < (plainK xs).length → tailT (plainK xs) ≤ t := fun h0 => by
    rw [plainK_length] at h0
    unfold lastK at h3
    rw [if_neg (by omega)] at h3
    unfold tailT
    rw [at_plainK, plainK_length]
    exact h3
  have hst := inv_start hvp h2 hlt (by omega)
  have e : plainK (xs ++ [(t, v, 0, 1, [(v, 1, 1)])]) = plainK xs ++ [(t, 0)] := by rw [plainK_append]; rfl
  rw [← e, plainK_length] at hst
  refine casc_rep hb (by omega) _ _ _ _ hst (fun j hj => ?_) _ (h.snoc t v)
  by_cases hj2 : j < xs.length
  · have : atK (xs ++ [(t, v, 0, 1, [(v, 1, 1)])]) j = atK xs j := by simp [atK, List.getElem?_append_left hj2]
    rw [this]; exact blkOk_iff.1 (ha j hj2)
  · have e2 : j = xs.length := by simp at hj; omega
    have : atK (xs ++ [(t, v, 0, 1, [(v, 1, 1)])]) j = (t, v, 0, 1, [(v, 1, 1)]) := by rw [e2]; simp [atK]
    rw [this]; exact one_ok hb h4
end Go.Proofs.Ytjapjfcennemeaa.rnk

/- Plain: the summary of the items that are certainly live; blocks by expiry. No program. -/
namespace Go.Proofs.Ytjapjfcennemeaa.rnk
open Go.Proofs.Ytjapjfcennemeaa.mem Go.Proofs.Ytjapjfcennemeaa.buk
set_option linter.unusedVariables false
/-- Summaries merged one after the other, with the error. -/
def sureF (p : Int × L3) : List K5 → (Int × L3) × Int
  | [] => (p, 0)
  | x :: r => if mrgE p.1 p.2 x.2.2.2.1 x.2.2.2.2 = 0 then sureF (mrgP p.1 p.2 x.2.2.2.1 x.2.2.2.2) r else ((0, []), mrgE p.1 p.2 x.2.2.2.1 x.2.2.2.2)
def okS (x : K5) : Bool := valR x.2.2.2.1 x.2.2.2.2 && decide (0 ≤ x.2.2.1 ∧ x.2.2.1 ≤ 30)
def okTo (xs : List K5) : Nat → Bool
  | 0 => true
  | i + 1 => okTo xs i && okS (atK xs i)
theorem okTo_iff {xs : List K5} : ∀ n, okTo xs n = true ↔ ∀ i < n, okS (atK xs i) = true
  | 0 => ⟨fun _ i h => absurd h (by omega), fun _ => rfl⟩
  | n + 1 => by
    unfold okTo
    rw [Bool.and_eq_true, okTo_iff n]
    constructor
    · rintro ⟨h1, h2⟩ i hi
      by_cases e : i = n
      · rw [e]; exact h2
      · exact h1 i (by omega)
    · intro h; exact ⟨fun i hi => h i (by omega), h n (by omega)⟩
theorem okTo_succ {xs : List K5} {i : Nat} (h : okTo xs i = true) (h2 : okS (atK xs i) = true) : okTo xs (i + 1) = true := by unfold okTo; rw [h, h2]; rfl
theorem okTo_not {xs : List K5} {i : Nat} (h : okS (atK xs i) = false) {n : Nat} (hi : i < n) : okTo xs n = false := by
  rw [Bool.eq_false_iff]; intro h2; rw [(okTo_iff n).1 h2 i hi] at h; cases h
def first1 (x : K5) : Int × L3 := if x.2.2.1 = 0 then (x.2.2.2.1, x.2.2.2.2) else (1, [(x.2.1, 1, 1)])
def sureK (xs : List K5) : (Int × L3) × Int := if okTo xs xs.length = true then (match xs with | [] => ((0, []), 0) | x :: r => sureF (first1 x) r) else ((0, []), 2)
theorem mrgE_t' {a b : Int} {x y : L3} (h1 : valR a x = true) (h2 : valR b y = true) : mrgE a x b y = if a + b ≤ 1099511627776 then 0 else 5 := by unfold mrgE; rw [if_pos ⟨h1, h2⟩]
theorem mrgP_t' {a b : Int} {x y : L3} (h1 : valR a x = true) (h2 : valR b y = true) (h3 : a + b ≤ 1099511627776) : mrgP a x b y = (a + b, mergeL x y a b) := by unfold mrgP; rw [if_pos (by unfold mrgOk; rw [h1, h2]; simpa using h3)]
/-- The reference begins with nothing. -/
theorem sure_ref {x : K5} {r : List K5} (h : valR (first1 x).1 (first1 x).2 = true) : sureF (0, []) (((0 : Int), x.2.1, (0 : Int), first1 x) :: r) = sureF (first1 x) r := by
  have h0 : valR 0 [] = true := valR_iff.2 ⟨⟨by omega, by omega, by simp⟩, fun i hi => absurd hi (Nat.not_lt_zero _), fun h => absurd h (Nat.lt_irrefl _)⟩
  have hN := (valR_iff.1 h).1
  show (if mrgE 0 [] (first1 x).1 (first1 x).2 = 0 then sureF (mrgP 0 [] (first1 x).1 (first1 x).2) r else _) = _
  rw [mrgE_t' h0 h, if_pos (by omega)]
  show sureF (mrgP 0 [] (first1 x).1 (first1 x).2) r = _
  rw [mrgP_t' h0 h (by omega), mergeL_nil_left, Int.zero_add]
theorem val_one (v : Int) : valR 1 [(v, 1, 1)] = true := by
  refine valR_iff.2 ⟨⟨by omega, by omega, by simp⟩, fun i hi => ?_, fun _ => ⟨rfl, rfl⟩⟩
  have hi2 : i = 0 := by simp at hi; exact hi
  subst hi2
  exact ⟨⟨Int.le_refl _, Int.le_refl _, Int.le_refl _⟩, fun h => absurd h (by omega)⟩
/-- What the later blocks' summaries may err by. -/
def slack (b : Int) : List K5 → Int
  | [] => 0
  | x :: r => allowed x.2.2.1 b + slack b r
def numK : List K5 → Int
  | [] => 0
  | x :: r => x.2.2.2.1 + numK r
theorem sureF_stands {b : Int} : ∀ (xs : List K5) (N : Int) (es : L3) (M : List Int) (s : Its), (∀ x ∈ xs, BOkP b x) → RepK xs s → valR N es = true → 0 < es.length → Stands M N es → N + numK xs ≤ 1099511627776 → (∀ x ∈ xs, 0 ≤ x.2.2.2.1) →
    ∃ es', sureF (N, es) xs = ((N + numK xs, es'), 0) ∧ valR (N + numK xs) es' = true ∧ 0 < es'.length ∧ Stands (M ++ s.map Prod.snd) (N + numK xs) es' ∧ gapTo es' (es'.length - 1) - 1 ≤ (gapTo es (es.length - 1) - 1) + slack b xs
  | [], N, es, M, s, _, hr, hv, h0, hs, _, _ => by
    obtain rfl : s = [] := hr
    exact ⟨es, by simp [sureF, numK], by simpa [numK] using hv, h0, by simpa [numK] using hs, by simp [slack]⟩
  | x :: r, N, es, M, s, ha, hr, hv, h0, hs, hN, hp => by
    obtain ⟨g, u, rfl, a, bb, d, c⟩ := hr
    have hx := ha x (List.mem_cons_self ..)
    have e1 : numK (x :: r) = x.2.2.2.1 + numK r := rfl
    have hnn : ∀ r : List K5, (∀ x ∈ r, 0 ≤ x.2.2.2.1) → 0 ≤ numK r := by
      intro r
      induction r with
      | nil => intro _; exact Int.le_refl _
      | cons y r ih => intro h; have := ih (fun z hz => h z (List.mem_cons_of_mem _ hz)); have := h y (List.mem_cons_self ..); show 0 ≤ y.2.2.2.1 + numK r; omega
    have hr0 := hnn r (fun z hz => hp z (List.mem_cons_of_mem _ hz))
    have hle : N + x.2.2.2.1 ≤ 1099511627776 := by omega
    have hm := merge_valid hv hx.val hle
    have hg := merge_gap hv hx.val
    obtain ⟨es', f1, f2, f3, f4, f5⟩ := sureF_stands r (N + x.2.2.2.1) (mergeL es x.2.2.2.2 N x.2.2.2.1) (M ++ g.map Prod.snd) u (fun z hz => ha z (List.mem_cons_of_mem _ hz)) c hm (by rw [merge_len]; omega) (hs.merge d (asc_of_val hv) (asc_of_val hx.val)) (by omega) (fun z hz => hp z (List.mem_cons_of_mem _ hz))
    refine ⟨es', ?_, ?_, f3, ?_, ?_⟩
    · show (if mrgE N es x.2.2.2.1 x.2.2.2.2 = 0 then sureF (mrgP N es x.2.2.2.1 x.2.2.2.2) r else _) = _
      rw [mrgE_t' hv hx.val, if_pos hle, if_pos rfl, mrgP_t' hv hx.val hle, f1, e1, Int.add_assoc]
    · rw [e1, ← Int.add_assoc]; exact f2
    · rw [e1, ← Int.add_assoc, List.map_append, ← List.append_assoc]; exact f4
    · have : slack b (x :: r) = allowed x.2.2.1 b + slack b r := rfl
      have := hx.gap
      omega
theorem num_wgt {b : Int} : ∀ {xs : List K5}, (∀ x ∈ xs, BOkP b x) → numK xs = (wgt (plainK xs) : Int)
  | [], _ => rfl
  | x :: r, h => by
    have h1 := num_wgt (xs := r) (fun z hz => h z (List.mem_cons_of_mem _ hz))
    have h2 := (h x (List.mem_cons_self ..)).num
    show x.2.2.2.1 + numK r = ((2 ^ x.2.2.1.toNat + wgt (plainK r) : Nat) : Int)
    rw [h1, h2]; simp
theorem all_mem {b : Int} {xs : List K5} (h : ∀ i < xs.length, blkOk b (atK xs i) = true) : ∀ x ∈ xs, BOkP b x := fun x hx => by
  obtain ⟨i, hi, rfl⟩ := List.mem_iff_getElem.1 hx
  have := blkOk_iff.1 (h i hi)
  rwa [atK_eq hi] at this
/-- The first block's summary, or its last item alone. -/
theorem sure_valid {b k : Int} {x : K5} {r : List K5} {s : Its} (hv : validK (x :: r) k b = true) (hr : RepK (x :: r) s) (ht : totalK (x :: r) ≤ 1000000) :
    ∃ g u N es, s = g ++ u ∧ g.length = 2 ^ x.2.2.1.toNat ∧ g.getLast? = some (x.1, x.2.1) ∧ RepK r u ∧ (0 ≤ x.2.2.1 ∧ x.2.2.1 ≤ 30) ∧ sureK (x :: r) = ((N, es), 0) ∧ valR N es = true ∧ 0 < es.length ∧ Stands ([x.2.1] ++ u.map Prod.snd) N es ∧ N = 1 + numK r ∧ gapTo es (es.length - 1) - 1 ≤ slack b r := by
  obtain ⟨hb, hvb, ha⟩ := validK_iff.1 hv
  have hp := validB_iff.1 hvb
  have hA := all_mem ha
  obtain ⟨g, u, rfl, a, bb, d, c⟩ := hr
  have hx := hA x (List.mem_cons_self ..)
  have hlev : ∀ y ∈ x :: r, 0 ≤ y.2.2.1 ∧ y.2.2.1 ≤ 30 := fun y hy => by
    have := ord_levels hp.2.1 (y.1, y.2.2.1) (by unfold plainK; exact List.mem_map.2 ⟨y, hy, rfl⟩)
    exact this
  have hl := hlev x (List.mem_cons_self ..)
  have hok : okTo (x :: r) (x :: r).length = true := (okTo_iff _).2 fun i hi => by
    have h1 := blkOk_iff.1 (ha i hi)
    have h2 := hlev (atK (x :: r) i) (by rw [atK_eq hi]; exact List.getElem_mem hi)
    unfold okS
    rw [h1.val]
    simpa using h2
  have hnum : numK (x :: r) = (wgt (plainK (x :: r)) : Int) := num_wgt hA
  have hnn : ∀ y ∈ x :: r, 0 ≤ y.2.2.2.1 := fun y hy => (valR_iff.1 (hA y hy).val).1.1
  have hw : (wgt (plainK (x :: r)) : Int) ≤ 1000000 := by
    have := wgt_tot hp.2.1
    unfold totalK at ht
    omega
  have e1 : numK (x :: r) = x.2.2.2.1 + numK r := rfl
  have hx0 := hnn x (List.mem_cons_self ..)
  have hx1 : 1 ≤ x.2.2.2.1 := by have := hx.num; have := Int.pow_pos (n := (2 : Int)) (m := x.2.2.1.toNat) (by omega); omega
  have key : ∃ es0, first1 x = (1, es0) ∧ valR 1 es0 = true ∧ 0 < es0.length ∧ Stands [x.2.1] 1 es0 ∧ gapTo es0 (es0.length - 1) = 1 := by
    unfold first1
    split
    · rename_i h0
      have h1 := hx.num
      rw [h0] at h1
      have h1' : x.2.2.2.1 = 1 := h1
      have hv1 := hx.val
      rw [h1'] at hv1 d
      have hlen := val_len hv1
      have hl1 : x.2.2.2.2.length = 1 := by have := hx.pos; omega
      have hg1 : g.length = 1 := by rw [a, h0]; rfl
      obtain ⟨q, rfl⟩ := List.length_eq_one_iff.1 hg1
      have hq : q = (x.1, x.2.1) := by simpa using bb
      subst hq
      exact ⟨_, by rw [h1'], hv1, hx.pos, d, by rw [hl1]; rfl⟩
    · exact ⟨_, rfl, val_one _, by simp, Stands.one _, rfl⟩
  obtain ⟨es0, k1, k2, k3, k4, k5⟩ := key
  obtain ⟨es', f1, f2, f3, f4, f5⟩ := sureF_stands r 1 es0 [x.2.1] u (fun z hz => hA z (List.mem_cons_of_mem _ hz)) c k2 k3 k4 (by omega) (fun z hz => hnn z (List.mem_cons_of_mem _ hz))
  refine ⟨g, u, 1 + numK r, es', rfl, a, bb, c, hl, ?_, f2, f3, f4, rfl, by omega⟩
  unfold sureK
  rw [if_pos hok]
  show sureF (first1 x) r = _
  rw [k1]; exact f1
end Go.Proofs.Ytjapjfcennemeaa.rnk
