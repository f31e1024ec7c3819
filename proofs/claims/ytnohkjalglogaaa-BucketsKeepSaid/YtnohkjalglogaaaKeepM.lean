/- Lists of buckets in order: suffixes, numbers of levels, how narrow they are. No program. -/
import Derived.Test.YtnohkjalglogaaaKeepL
import Derived.Test.YtnohkjalglogaaaMg2
namespace Go.Proofs.Ytnohkjalglogaaa.buk
set_option linter.unusedVariables false
theorem ord_mono {xs : L2} (h : ordOk xs xs.length) : ∀ d a, a + d < xs.length → (at_ xs (a + d)).2 ≤ (at_ xs a).2 := by
  intro d
  induction d with
  | zero => intro a _; exact Int.le_refl _
  | succ d ih =>
    intro a hl
    have h1 := ih a (by omega)
    have h2 := ((h (a + (d + 1)) hl).2.2 (by omega)).2
    rw [show a + (d + 1) - 1 = a + d by omega] at h2
    omega
theorem cnt_take_zero {xs : L2} (h : ordOk xs xs.length) {i l : Nat} (hi : i < xs.length) (hl : (l : Int) < (at_ xs i).2) : cnt (xs.take i) l = 0 := by
  unfold cnt
  rw [List.countP_eq_zero]
  intro p hp
  obtain ⟨j, hj, rfl⟩ := List.getElem_of_mem hp
  rw [List.length_take] at hj
  rw [List.getElem_take]
  have h1 := ord_mono h (i - j) j (by omega)
  rw [show j + (i - j) = i by omega] at h1
  have e : at_ xs j = xs[j]'(by omega) := by simp [at_, List.getElem?_eq_getElem (show j < xs.length by omega)]
  rw [e] at h1
  simp
  omega
theorem drop_valid {xs : L2} {k : Int} (hv : ValidP xs k) (i : Nat) : ValidP (xs.drop i) k := by
  obtain ⟨hk, ho, hl⟩ := hv
  refine ⟨hk, fun j hj => ?_, fun hp l hl31 => ?_⟩
  · rw [List.length_drop] at hj
    have h := ho (i + j) (by omega)
    unfold ordAt
    rw [at_drop]
    refine ⟨h.1, h.2.1, fun hj0 => ?_⟩
    have h2 := h.2.2 (by omega)
    rw [at_drop, show i + (j - 1) = i + j - 1 by omega]
    exact h2
  · rw [List.length_drop] at hp
    have hlev := hl (by omega) l hl31
    have hc : cnt xs l = cnt (xs.take i) l + cnt (xs.drop i) l := by rw [← cnt_append, List.take_append_drop]
    have hle := ord_le ho i (by omega)
    unfold levAt at hlev ⊢
    rw [at_drop, Nat.add_zero]
    intro h1
    have h2 := hlev (by omega)
    refine ⟨by omega, fun h3 => ?_⟩
    have hz := cnt_take_zero ho (show i < xs.length by omega) h3
    have h4 := h2.2 (by omega)
    omega
def sumTo (f : Nat → Nat) : Nat → Nat
  | 0 => 0
  | m + 1 => sumTo f m + f m
theorem sumTo_add (f g : Nat → Nat) : ∀ m, sumTo (fun l => f l + g l) m = sumTo f m + sumTo g m
  | 0 => rfl
  | m + 1 => by simp only [sumTo, sumTo_add f g m]; omega
theorem sumTo_zero {f : Nat → Nat} : ∀ m, (∀ l, l < m → f l = 0) → sumTo f m = 0
  | 0, _ => rfl
  | m + 1, h => by simp only [sumTo, sumTo_zero m (fun l hl => h l (by omega)), h m (by omega)]
theorem sumTo_one {c : Nat → Nat} {a : Nat} : ∀ m, a < m → sumTo (fun l => if a = l then c l else 0) m = c a
  | 0, h => by omega
  | m + 1, h => by
    simp only [sumTo]
    by_cases e : a = m
    · subst e
      rw [if_pos rfl, sumTo_zero a (fun l hl => if_neg (by omega)), Nat.zero_add]
    · rw [if_neg e, sumTo_one m (by omega), Nat.add_zero]
theorem sumTo_congr {f g : Nat → Nat} : ∀ m, (∀ l, l < m → f l = g l) → sumTo f m = sumTo g m
  | 0, _ => rfl
  | m + 1, h => by simp only [sumTo, sumTo_congr m (fun l hl => h l (by omega)), h m (by omega)]
theorem sumTo_le {f g : Nat → Nat} : ∀ m, (∀ l, l < m → f l ≤ g l) → sumTo f m ≤ sumTo g m
  | 0, _ => Nat.le_refl _
  | m + 1, h => by
    have h1 := sumTo_le m (fun l hl => h l (by omega))
    have h2 := h m (by omega)
    simp only [sumTo]; omega
theorem sumTo_mono {f : Nat → Nat} {a b : Nat} (h : a ≤ b) : sumTo f a ≤ sumTo f b := by
  induction b with
  | zero => have : a = 0 := by omega
            subst this; exact Nat.le_refl _
  | succ b ih =>
    by_cases e : a = b + 1
    · subst e; exact Nat.le_refl _
    · have := ih (by omega); simp only [sumTo]; omega
theorem sumTo_cut {f : Nat → Nat} {a : Nat} (b : Nat) (h : ∀ l, a ≤ l → f l = 0) : a ≤ b → sumTo f b = sumTo f a := by
  induction b with
  | zero => intro hb; have : a = 0 := by omega
            subst this; rfl
  | succ b ih =>
    intro hb
    by_cases e : a = b + 1
    · subst e; rfl
    · simp only [sumTo, ih (by omega), h b (by omega), Nat.add_zero]
theorem sumTo_pow (k : Nat) : ∀ m, sumTo (fun l => k * 2 ^ l) m + k = k * 2 ^ m
  | 0 => by simp [sumTo]
  | m + 1 => by
    have := sumTo_pow k m
    simp only [sumTo]
    rw [Nat.pow_succ, ← Nat.mul_assoc]
    omega
theorem sumTo_const (k : Nat) : ∀ m, sumTo (fun _ => k) m = k * m
  | 0 => rfl
  | m + 1 => by simp only [sumTo, sumTo_const k m, Nat.mul_succ]
theorem levels_sum : ∀ xs : L2, (∀ p ∈ xs, 0 ≤ p.2 ∧ p.2 ≤ 30) → xs.length = sumTo (cnt xs) 31 ∧ wgt xs = sumTo (fun l => cnt xs l * 2 ^ l) 31
  | [], _ => ⟨(sumTo_zero 31 (fun l _ => cnt_nil l)).symm, (sumTo_zero 31 (fun l _ => by rw [cnt_nil, Nat.zero_mul])).symm⟩
  | p :: r, h => by
    obtain ⟨i1, i2⟩ := levels_sum r (fun q hq => h q (List.mem_cons_of_mem _ hq))
    have hp := h p (List.mem_cons_self ..)
    have e : ∀ l, cnt (p :: r) l = cnt r l + (if p.2.toNat = l then 1 else 0) := fun l => by
      rw [cnt_cons]
      congr 1
      by_cases h1 : p.2 = (l : Int)
      · rw [if_pos h1, if_pos (by omega)]
      · rw [if_neg h1, if_neg (by omega)]
    constructor
    · rw [List.length_cons, i1, sumTo_congr 31 (fun l _ => e l), sumTo_add, sumTo_one (c := fun _ => 1) 31 (by omega)]
    · have e2 : ∀ l, cnt (p :: r) l * 2 ^ l = cnt r l * 2 ^ l + (if p.2.toNat = l then 2 ^ l else 0) := fun l => by
        rw [e l, Nat.add_mul]
        congr 1
        split <;> simp
      rw [sumTo_congr 31 (fun l _ => e2 l), sumTo_add, sumTo_one (c := fun l => 2 ^ l) 31 (by omega), ← i2]
      simp only [wgt]
      omega
theorem ord_levels {xs : L2} (h : ordOk xs xs.length) : ∀ p ∈ xs, 0 ≤ p.2 ∧ p.2 ≤ 30 := fun p hp => by
  obtain ⟨j, hj, rfl⟩ := List.getElem_of_mem hp
  have := (h j hj).2.1
  have e : at_ xs j = xs[j] := by simp [at_, List.getElem?_eq_getElem hj]
  rwa [e] at this
/-- The numbers of a list in order. -/
theorem keep_facts {xs : L2} {k : Nat} (hv : ValidP xs k) (hp : 0 < xs.length) (L : Nat) (hL : (at_ xs 0).2 = (L : Int)) :
    L ≤ 30 ∧ xs.length ≤ (k + 1) * (L + 1) ∧ 2 ^ L + k * 2 ^ L ≤ wgt xs + k ∧ 2 ^ L ≤ wgt xs := by
  obtain ⟨hk, ho, hl⟩ := hv
  obtain ⟨s1, s2⟩ := levels_sum xs (ord_levels ho)
  have hL30 : L ≤ 30 := by have := (ho 0 hp).2.1; omega
  have hz : ∀ l, L + 1 ≤ l → cnt xs l = 0 := fun l hl => cnt_high ho (by omega)
  have hc : 0 < cnt xs L := by have := cnt_pos ho hp; rwa [hL, Int.toNat_natCast] at this
  have hlev : ∀ l, l < L + 1 → (cnt xs l ≤ k + 1 ∧ (l < L → k ≤ cnt xs l)) := fun l hlt => by
    have := hl hp l (by omega) (by omega)
    exact ⟨by omega, fun h => by have := this.2 (by omega); omega⟩
  refine ⟨hL30, ?_, ?_, ?_⟩
  · rw [s1, sumTo_cut 31 hz (by omega), ← sumTo_const]
    exact sumTo_le _ (fun l h => (hlev l h).1)
  · have h1 : sumTo (fun l => k * 2 ^ l) L ≤ sumTo (fun l => cnt xs l * 2 ^ l) L := sumTo_le _ (fun l h => Nat.mul_le_mul_right _ ((hlev l (by omega)).2 h))
    have h2 := sumTo_pow k L
    have h3 : sumTo (fun l => cnt xs l * 2 ^ l) (L + 1) ≤ sumTo (fun l => cnt xs l * 2 ^ l) 31 := sumTo_mono (by omega)
    have h4 : 1 * 2 ^ L ≤ cnt xs L * 2 ^ L := Nat.mul_le_mul_right _ hc
    have h5 : sumTo (fun l => cnt xs l * 2 ^ l) (L + 1) = sumTo (fun l => cnt xs l * 2 ^ l) L + cnt xs L * 2 ^ L := rfl
    rw [s2]
    omega
  · have h4 : 1 * 2 ^ L ≤ cnt xs L * 2 ^ L := Nat.mul_le_mul_right _ hc
    have := wgt_cnt xs L
    omega
theorem len_wgt : ∀ xs : L2, xs.length ≤ wgt xs
  | [] => Nat.le_refl _
  | p :: r => by
    have := len_wgt r
    have h : 0 < 2 ^ p.2.toNat := Nat.pow_pos (by omega)
    simp only [List.length_cons, wgt]
    omega
theorem wgt_drop (xs : L2) (i : Nat) : wgt (xs.drop i) ≤ wgt xs := by
  have h := wgt_append (xs.take i) (xs.drop i)
  rw [List.take_append_drop] at h
  omega
end Go.Proofs.Ytnohkjalglogaaa.buk
