/- Merging two deques from the newest item on. No program. -/
import Derived.Test.YteajgmihhnghfaaExtF
namespace Go.Proofs.Yteajgmihhnghfaa.ext
open Go.Proofs.Yteajgmihhnghfaa.buk (at_)
set_option linter.unusedVariables false
structure MInv (m : Bool) (xs ys : L2) (I J : Nat) (back : L2) : Prop where
  kept : IsKept m (xs.drop I ++ ys.drop J) back.reverse
  ord : ∀ r ∈ xs.take I ++ ys.take J, ∀ c ∈ xs.drop I ++ ys.drop J, r.1 ≤ c.1 ∧ (r.1 = c.1 → key m r.2 ≤ key m c.2)
theorem MInv.swap {m : Bool} {xs ys back : L2} {I J : Nat} (h : MInv m xs ys I J back) : MInv m ys xs J I back :=
  ⟨h.kept.perm (fun x => by rw [List.mem_append, List.mem_append, Or.comm]), fun r hr c hc => h.ord r (by rw [List.mem_append] at hr ⊢; exact hr.symm) c (by rw [List.mem_append] at hc ⊢; exact hc.symm)⟩
theorem MInv.start (m : Bool) (xs ys : L2) : MInv m xs ys xs.length ys.length [] := by
  refine ⟨?_, fun r _ c hc => ?_⟩
  · rw [List.drop_length, List.drop_length]
    exact ⟨List.Pairwise.nil, fun x => ⟨fun h => absurd h List.not_mem_nil, fun h => absurd h.1 List.not_mem_nil⟩⟩
  · rw [List.drop_length, List.drop_length] at hc
    exact absurd hc List.not_mem_nil
def pushM (m : Bool) (back : L2) (x : Int × Int) : L2 := if back.length = 0 then [x] else if key m x.2 ≤ key m (at_ back (back.length - 1)).2 then back else back ++ [x]
theorem pushM_len (m : Bool) (back : L2) (x : Int × Int) : (pushM m back x).length ≤ back.length + 1 := by
  unfold pushM
  split
  · simp
  · split
    · omega
    · simp
theorem pushM_nil {m : Bool} {back : L2} {x : Int × Int} (h : back.length = 0) : pushM m back x = [x] := if_pos h
theorem pushM_no {m : Bool} {back : L2} {x : Int × Int} (h : ¬ back.length = 0) (h2 : key m x.2 ≤ key m (at_ back (back.length - 1)).2) : pushM m back x = back := by unfold pushM; rw [if_neg h, if_pos h2]
theorem pushM_yes {m : Bool} {back : L2} {x : Int × Int} (h : ¬ back.length = 0) (h2 : ¬ key m x.2 ≤ key m (at_ back (back.length - 1)).2) : pushM m back x = back ++ [x] := by unfold pushM; rw [if_neg h, if_neg h2]
theorem good_at {m : Bool} {xs : L2} (h : Good m xs) {i j : Nat} (hij : i < j) (hj : j < xs.length) : (at_ xs i).1 < (at_ xs j).1 := by
  rw [at_eq (by omega), at_eq hj]
  exact (List.pairwise_iff_getElem.1 h i j (by omega) hj hij).1
theorem mem_take_at {xs : L2} {k : Nat} {r : Int × Int} (h : r ∈ xs.take k) : ∃ i, i < k ∧ i < xs.length ∧ at_ xs i = r := by
  obtain ⟨i, hi, e⟩ := mem_at h
  rw [List.length_take] at hi
  exact ⟨i, by omega, by omega, by rw [← e]; simp [at_, show i < k by omega]⟩
theorem MInv.stepA {m : Bool} {xs ys back : L2} {I J : Nat} (hx : Good m xs) (hy : Good m ys) (h : MInv m xs ys I J back) (h0 : 0 < I) (hI : I ≤ xs.length) (hJ : J ≤ ys.length)
    (hc : J = 0 ∨ (at_ ys (J - 1)).1 < (at_ xs (I - 1)).1 ∨ ((at_ xs (I - 1)).1 = (at_ ys (J - 1)).1 ∧ key m (at_ ys (J - 1)).2 ≤ key m (at_ xs (I - 1)).2)) : MInv m xs ys (I - 1) J (pushM m back (at_ xs (I - 1))) := by
  obtain ⟨i, rfl⟩ : ∃ i, I = i + 1 := ⟨I - 1, by omega⟩
  simp only [Nat.add_sub_cancel] at hc ⊢
  have ed : xs.drop i = at_ xs i :: xs.drop (i + 1) := by rw [at_eq (by omega)]; exact List.drop_eq_getElem_cons (by omega)
  have et : xs.take (i + 1) = xs.take i ++ [at_ xs i] := by rw [at_eq (by omega)]; exact List.take_succ_eq_append_getElem (by omega)
  have hmem : at_ xs i ∈ xs.take (i + 1) ++ ys.take J := by rw [et]; simp
  refine ⟨?_, fun r hr c hcc => ?_⟩
  · have hk := kept_cons h.kept (h.ord _ hmem)
    have e : (pushM m back (at_ xs i)).reverse = if ∃ y, back.reverse.head? = some y ∧ key m (at_ xs i).2 ≤ key m y.2 then back.reverse else at_ xs i :: back.reverse := by
      rw [List.head?_reverse]
      by_cases hb : back.length = 0
      · have : back = [] := List.eq_nil_of_length_eq_zero hb
        subst this
        rw [pushM_nil rfl, if_neg (by rintro ⟨y, h, _⟩; simp at h)]
        rfl
      · have hl : back.getLast? = some (at_ back (back.length - 1)) := by
          have := take_last (xs := back) (k := back.length) (by omega) (Nat.le_refl _)
          rwa [List.take_length] at this
        by_cases hq : key m (at_ xs i).2 ≤ key m (at_ back (back.length - 1)).2
        · rw [pushM_no hb hq, if_pos ⟨_, hl, hq⟩]
        · rw [pushM_yes hb hq, if_neg (by rintro ⟨y, h, h2⟩; rw [hl] at h; injection h with h; subst h; exact hq h2)]
          simp
    rw [e]
    refine hk.perm (fun z => ?_)
    rw [ed]
    simp
  · rw [ed] at hcc
    have hcc2 : c = at_ xs i ∨ c ∈ xs.drop (i + 1) ++ ys.drop J := by simpa using hcc
    rcases hcc2 with e | e
    · subst e
      rcases List.mem_append.1 hr with h1 | h1
      · obtain ⟨k, hk, hk2, rfl⟩ := mem_take_at h1
        have := good_at hx (i := k) (j := i) hk (by omega)
        exact ⟨by omega, fun e => by omega⟩
      · obtain ⟨k, hk, hk2, rfl⟩ := mem_take_at h1
        have hlast : (at_ ys k).1 ≤ (at_ ys (J - 1)).1 ∧ ((at_ ys k).1 = (at_ ys (J - 1)).1 → k = J - 1) := by
          by_cases e : k = J - 1
          · subst e; exact ⟨Int.le_refl _, fun _ => rfl⟩
          · have := good_at hy (i := k) (j := J - 1) (by omega) (by omega)
            exact ⟨by omega, fun e => by omega⟩
        rcases hc with hc | hc | hc
        · omega
        · exact ⟨by omega, fun e => by omega⟩
        · refine ⟨by omega, fun e => ?_⟩
          have := hlast.2 (by omega)
          subst this
          exact hc.2
    · refine h.ord r ?_ c e
      rw [et]
      rcases List.mem_append.1 hr with h1 | h1
      · exact List.mem_append_left _ (List.mem_append_left _ h1)
      · exact List.mem_append_right _ h1
theorem MInv.stepB {m : Bool} {xs ys back : L2} {I J : Nat} (hx : Good m xs) (hy : Good m ys) (h : MInv m xs ys I J back) (h0 : 0 < J) (hI : I ≤ xs.length) (hJ : J ≤ ys.length)
    (hc : I = 0 ∨ (at_ xs (I - 1)).1 < (at_ ys (J - 1)).1 ∨ ((at_ ys (J - 1)).1 = (at_ xs (I - 1)).1 ∧ key m (at_ xs (I - 1)).2 ≤ key m (at_ ys (J - 1)).2)) : MInv m xs ys I (J - 1) (pushM m back (at_ ys (J - 1))) :=
  (MInv.stepA hy hx h.swap h0 hJ hI hc).swap
theorem MInv.fin {m : Bool} {xs ys back : L2} {n1 n2 : Nat} (h : MInv m xs ys 0 0 back) (h1 : xs.length = n1) (h2 : ys.length = n2) : keptN m (xs ++ ys) (n1 + n2) = back.reverse := by
  have e := kept_eq h.kept
  simp only [List.drop_zero, List.length_append, h1, h2] at e
  exact e
theorem back_step {back : L2} {K : Nat} (h0 : 0 < K) (hK : K ≤ back.length) : (back.drop (K - 1)).reverse = (back.drop K).reverse ++ [at_ back (K - 1)] := by
  obtain ⟨k, rfl⟩ : ∃ k, K = k + 1 := ⟨K - 1, by omega⟩
  simp only [Nat.add_sub_cancel]
  rw [List.drop_eq_getElem_cons (show k < back.length by omega), List.reverse_cons, at_eq (by omega)]
def mgE (f1 f2 eq fu : Bool) : Int := if f1 = true then (if f2 = true then (if eq = true then (if fu = true then 5 else 0) else 1) else 2) else 2
theorem mgE_1 (b c d : Bool) : mgE false b c d = 2 := rfl
theorem mgE_2 (c d : Bool) : mgE true false c d = 2 := rfl
theorem mgE_3 (d : Bool) : mgE true true false d = 1 := rfl
theorem mgE_4 : mgE true true true true = 5 := rfl
theorem mgE_5 : mgE true true true false = 0 := rfl
end Go.Proofs.Yteajgmihhnghfaa.ext
