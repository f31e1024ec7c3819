/- The reference's list of the items that no other one rules out, as it is computed. No program. -/
import Derived.Test.YteajgmihhnghfaaExtL
import Derived.Test.YteajgmihhnghfaaBuk
namespace Go.Proofs.Yteajgmihhnghfaa.ext
open Go.Proofs.Yteajgmihhnghfaa.buk (at_)
set_option linter.unusedVariables false
theorem at_eq {xs : L2} {i : Nat} (h : i < xs.length) : at_ xs i = xs[i] := by simp [at_, List.getElem?_eq_getElem h]
theorem at_mem {xs : L2} {i : Nat} (h : i < xs.length) : at_ xs i ∈ xs := by rw [at_eq h]; exact List.getElem_mem h
theorem mem_at {xs : L2} {x : Int × Int} (h : x ∈ xs) : ∃ i, i < xs.length ∧ at_ xs i = x := by
  obtain ⟨i, hi, e⟩ := List.mem_iff_getElem.1 h
  exact ⟨i, hi, by rw [at_eq hi, e]⟩
def rul (m : Bool) (xs : L2) (i j : Nat) : Bool := decide (i ≠ j ∧ (at_ xs i).1 ≤ (at_ xs j).1 ∧ key m (at_ xs i).2 ≤ key m (at_ xs j).2 ∧ (at_ xs i ≠ at_ xs j ∨ j < i))
def keepTo (m : Bool) (xs : L2) (i : Nat) : Nat → Bool
  | 0 => true
  | n + 1 => if rul m xs i n = true then false else keepTo m xs i n
def kpos (t : Int) (out : L2) : Nat → Nat
  | 0 => 0
  | k + 1 => if t < (at_ out k).1 then kpos t out k else k + 1
def insT (out : L2) (x : Int × Int) : L2 := out.take (kpos x.1 out out.length) ++ x :: out.drop (kpos x.1 out out.length)
def keptN (m : Bool) (xs : L2) : Nat → L2
  | 0 => []
  | i + 1 => if keepTo m xs i xs.length = true then insT (keptN m xs i) (at_ xs i) else keptN m xs i
theorem keepTo_iff {m : Bool} {xs : L2} {i : Nat} : ∀ {n : Nat}, keepTo m xs i n = true ↔ ∀ j < n, rul m xs i j = false
  | 0 => ⟨fun _ j h => absurd h (by omega), fun _ => rfl⟩
  | n + 1 => by
    unfold keepTo
    by_cases h : rul m xs i n = true
    · rw [if_pos h]
      constructor
      · intro h; exact absurd h (by decide)
      · intro h2; rw [h2 n (by omega)] at h; exact h
    · rw [if_neg h, keepTo_iff]
      constructor
      · intro h2 j hj
        by_cases e : j = n
        · rw [e]; simpa using h
        · exact h2 j (by omega)
      · intro h2 j hj; exact h2 j (by omega)
theorem kpos_le (t : Int) (out : L2) : ∀ n, kpos t out n ≤ n
  | 0 => Nat.le_refl _
  | k + 1 => by
    unfold kpos
    by_cases h : t < (at_ out k).1
    · rw [if_pos h]; have := kpos_le t out k; omega
    · rw [if_neg h]; exact Nat.le_refl _
theorem kpos_hi {t : Int} {out : L2} : ∀ {n j}, kpos t out n ≤ j → j < n → t < (at_ out j).1
  | 0, j, _, h => absurd h (by omega)
  | k + 1, j, h1, h2 => by
    unfold kpos at h1
    by_cases h : t < (at_ out k).1
    · rw [if_pos h] at h1
      by_cases e : j = k
      · rw [e]; exact h
      · exact kpos_hi h1 (by omega)
    · rw [if_neg h] at h1; omega
theorem kpos_lo {t : Int} {out : L2} : ∀ {n}, 0 < kpos t out n → (at_ out (kpos t out n - 1)).1 ≤ t
  | 0, h => absurd h (by unfold kpos; omega)
  | k + 1, h1 => by
    unfold kpos at h1 ⊢
    by_cases h : t < (at_ out k).1
    · rw [if_pos h] at h1 ⊢; exact kpos_lo h1
    · rw [if_neg h]; simp only [Nat.add_sub_cancel]; omega
theorem insT_len (out : L2) (x : Int × Int) : (insT out x).length = out.length + 1 := by
  have := kpos_le x.1 out out.length
  unfold insT
  simp only [List.length_append, List.length_take, List.length_cons, List.length_drop]
  omega
theorem keptN_len (m : Bool) (xs : L2) : ∀ i, (keptN m xs i).length ≤ i
  | 0 => Nat.le_refl _
  | i + 1 => by
    have := keptN_len m xs i
    unfold keptN
    by_cases h : keepTo m xs i xs.length = true
    · rw [if_pos h, insT_len]; omega
    · rw [if_neg h]; omega
theorem insT_mem {out : L2} {x z : Int × Int} : z ∈ insT out x ↔ z = x ∨ z ∈ out := by
  unfold insT
  rw [List.mem_append, List.mem_cons]
  constructor
  · rintro (h | h | h)
    · exact .inr (List.mem_of_mem_take h)
    · exact .inl h
    · exact .inr (List.mem_of_mem_drop h)
  · rintro (h | h)
    · exact .inr (.inl h)
    · have : z ∈ out.take (kpos x.1 out out.length) ++ out.drop (kpos x.1 out out.length) := by rw [List.take_append_drop]; exact h
      rcases List.mem_append.1 this with h | h
      · exact .inl h
      · exact .inr (.inr h)
theorem insT_asc {out : L2} {x : Int × Int} (h : out.Pairwise (fun a b => a.1 < b.1)) (hx : ∀ z ∈ out, z.1 ≠ x.1) : (insT out x).Pairwise (fun a b => a.1 < b.1) := by
  have hk := kpos_le x.1 out out.length
  have hasc : ∀ i j, i < j → j < out.length → (at_ out i).1 < (at_ out j).1 := fun i j hi hj => by
    rw [at_eq (by omega), at_eq hj]
    exact List.pairwise_iff_getElem.1 h i j (by omega) hj hi
  have lo : ∀ z ∈ out.take (kpos x.1 out out.length), z.1 < x.1 := by
    intro z hz
    obtain ⟨i, hi, rfl⟩ := mem_at hz
    rw [List.length_take] at hi
    have e : at_ (out.take (kpos x.1 out out.length)) i = at_ out i := by simp [at_, show i < kpos x.1 out out.length by omega]
    rw [e]
    have h1 := kpos_lo (t := x.1) (out := out) (n := out.length) (by omega)
    have h2 : (at_ out i).1 ≠ x.1 := hx _ (at_mem (by omega))
    by_cases e2 : i = kpos x.1 out out.length - 1
    · rw [← e2] at h1; omega
    · have := hasc i (kpos x.1 out out.length - 1) (by omega) (by omega)
      omega
  have hi : ∀ z ∈ out.drop (kpos x.1 out out.length), x.1 < z.1 := by
    intro z hz
    obtain ⟨i, hi, rfl⟩ := mem_at hz
    rw [List.length_drop] at hi
    have e : at_ (out.drop (kpos x.1 out out.length)) i = at_ out (kpos x.1 out out.length + i) := by simp [at_, List.getElem?_drop]
    rw [e]
    exact kpos_hi (Nat.le_add_right _ _) (by omega)
  unfold insT
  refine List.pairwise_append.2 ⟨h.sublist (List.take_sublist _ _), List.pairwise_cons.2 ⟨hi, h.sublist (List.drop_sublist _ _)⟩, fun a ha b hb => ?_⟩
  rcases List.mem_cons.1 hb with e | e
  · rw [e]; exact lo a ha
  · have := lo a ha; have := hi b e; omega
theorem rul_iff {m : Bool} {xs : L2} {i j : Nat} : rul m xs i j = true ↔ i ≠ j ∧ dom m (at_ xs i) (at_ xs j) ∧ (at_ xs i ≠ at_ xs j ∨ j < i) := by
  unfold rul dom
  rw [decide_eq_true_iff, and_assoc]
/-- Of equal items the first one stays. -/
theorem first_of {xs : L2} {x : Int × Int} (h : x ∈ xs) : ∃ i, i < xs.length ∧ at_ xs i = x ∧ ∀ j < i, at_ xs j ≠ x := by
  obtain ⟨i, hi, e⟩ := mem_at h
  induction i using Nat.strongRecOn with
  | _ i ih =>
    by_cases hc : ∃ j, j < i ∧ at_ xs j = x
    · obtain ⟨j, hj, e2⟩ := hc
      exact ih j hj (by omega) e2
    · exact ⟨i, hi, e, fun j hj e2 => hc ⟨j, hj, e2⟩⟩
theorem keptN_kept (m : Bool) (xs : L2) : IsKept m xs (keptN m xs xs.length) := by
  have key : ∀ n, n ≤ xs.length → (keptN m xs n).Pairwise (fun a b => a.1 < b.1) ∧ ∀ x, x ∈ keptN m xs n ↔ ∃ i, i < n ∧ at_ xs i = x ∧ keepTo m xs i xs.length = true := by
    intro n
    induction n with
    | zero => intro _; exact ⟨List.Pairwise.nil, fun x => ⟨fun h => absurd h List.not_mem_nil, fun ⟨i, h, _⟩ => absurd h (by omega)⟩⟩
    | succ n ih =>
      intro hn
      obtain ⟨h1, h2⟩ := ih (by omega)
      unfold keptN
      by_cases hk : keepTo m xs n xs.length = true
      · rw [if_pos hk]
        constructor
        · refine insT_asc h1 (fun z hz e => ?_)
          obtain ⟨i, hi, rfl, hki⟩ := (h2 z).1 hz
          rw [keepTo_iff] at hk hki
          have r1 := hki n (by omega)
          have r2 := hk i (by omega)
          by_cases hd : at_ xs i = at_ xs n
          · have : rul m xs n i = true := rul_iff.2 ⟨by omega, by rw [hd]; exact dom.rfl' _, .inr hi⟩
            rw [this] at r2; exact absurd r2 (by decide)
          · rcases Int.le_total (ext.key m (at_ xs i).2) (ext.key m (at_ xs n).2) with hle | hle
            · have : rul m xs i n = true := rul_iff.2 ⟨by omega, ⟨by omega, hle⟩, .inl hd⟩
              rw [this] at r1; exact absurd r1 (by decide)
            · have : rul m xs n i = true := rul_iff.2 ⟨by omega, ⟨by omega, hle⟩, .inr hi⟩
              rw [this] at r2; exact absurd r2 (by decide)
        · intro x
          rw [insT_mem, h2 x]
          constructor
          · rintro (rfl | ⟨i, hi, e, hki⟩)
            · exact ⟨n, by omega, rfl, hk⟩
            · exact ⟨i, by omega, e, hki⟩
          · rintro ⟨i, hi, e, hki⟩
            by_cases hin : i = n
            · subst hin; exact .inl e.symm
            · exact .inr ⟨i, by omega, e, hki⟩
      · rw [if_neg hk]
        refine ⟨h1, fun x => ?_⟩
        rw [h2 x]
        constructor
        · rintro ⟨i, hi, e⟩; exact ⟨i, by omega, e⟩
        · rintro ⟨i, hi, e, hki⟩
          by_cases hin : i = n
          · subst hin; exact absurd hki hk
          · exact ⟨i, by omega, e, hki⟩
  obtain ⟨h1, h2⟩ := key xs.length (Nat.le_refl _)
  refine ⟨h1, fun x => ?_⟩
  rw [h2 x]
  constructor
  · rintro ⟨i, hi, rfl, hk⟩
    rw [keepTo_iff] at hk
    refine ⟨at_mem hi, fun y hy d => ?_⟩
    obtain ⟨j, hj, rfl⟩ := mem_at hy
    by_cases e : at_ xs j = at_ xs i
    · exact e
    · have : rul m xs i j = true := rul_iff.2 ⟨fun h => e (by rw [h]), d, .inl (fun h => e h.symm)⟩
      rw [hk j hj] at this; exact absurd this (by decide)
  · rintro ⟨hx, hd⟩
    obtain ⟨i, hi, rfl, hf⟩ := first_of hx
    refine ⟨i, hi, rfl, keepTo_iff.2 (fun j hj => ?_)⟩
    by_cases hr : rul m xs i j = true
    · obtain ⟨h3, h4, h5⟩ := rul_iff.1 hr
      have := hd _ (at_mem hj) h4
      rcases h5 with h5 | h5
      · exact absurd this.symm h5
      · exact absurd this (hf j h5)
    · simpa using hr
theorem kept_eq {m : Bool} {xs out : L2} (h : IsKept m xs out) : keptN m xs xs.length = out := (keptN_kept m xs).uniq h
end Go.Proofs.Yteajgmihhnghfaa.ext
