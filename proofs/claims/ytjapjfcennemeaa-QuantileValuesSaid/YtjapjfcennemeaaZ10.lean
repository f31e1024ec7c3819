/- GrowL, KeepM, WideL, QuadL: proved here in one text, no conditions beyond those that each theorem states. -/
import Derived.Test.YtjapjfcennemeaaZ5
set_option linter.unusedVariables false
set_option linter.unusedSimpArgs false
section
namespace Go.Proofs.Ytjapjfcennemeaa.buk
theorem cnt_pos {xs : L2} (h : ordOk xs xs.length) (hp : 0 < xs.length) : 0 < cnt xs (at_ xs 0).2.toNat := by
  have h0 := (h 0 hp).2.1.1
  rw [cnt, List.countP_pos_iff]
  refine ⟨xs[0], List.getElem_mem hp, ?_⟩
  simp only [at_, List.getElem?_eq_getElem hp, Option.getD_some] at h0 ⊢
  simp; omega
end Go.Proofs.Ytjapjfcennemeaa.buk
end
section
namespace Go.Proofs.Ytjapjfcennemeaa.buk
set_option linter.unusedVariables false
theorem ord_mono {xs : L2} (h : ordOk xs xs.length) : ∀ d a, a + d < xs.length → (at_ xs (a + d)).2 ≤ (at_ xs a).2 := by
  intro d
  induction d with
  | zero => intro a _; exact Int.le_refl _
  | succ d ih =>
    intro a hl
    have h1 := ih a (by omega)
    have h2 := ((h (a + (d + 1)) hl).2.2 (by omega)).2
    rw [show a + (d + 1) - 1 = a + d by omega] at h2
    omega
theorem cnt_take_zero {xs : L2} (h : ordOk xs xs.length) {i l : Nat} (hi : i < xs.length) (hl : (l : Int) < (at_ xs i).2) : cnt (xs.take i) l = 0 := by
  unfold cnt
  rw [List.countP_eq_zero]
  intro p hp
  obtain ⟨j, hj, rfl⟩ := List.getElem_of_mem hp
  rw [List.length_take] at hj
  rw [List.getElem_take]
  have h1 := ord_mono h (i - j) j (by omega)
  rw [show j + (i - j) = i by omega] at h1
  have e : at_ xs j = xs[j]'(by omega) := by simp [at_, List.getElem?_eq_getElem (show j < xs.length by omega)]
  rw [e] at h1
  simp
  omega
theorem drop_valid {xs : L2} {k : Int} (hv : ValidP xs k) (i : Nat) : ValidP (xs.drop i) k := by
  obtain ⟨hk, ho, hl⟩ := hv
  refine ⟨hk, fun j hj => ?_, fun hp l hl31 => ?_⟩
  · rw [List.length_drop] at hj
    have h := ho (i + j) (by omega)
    unfold ordAt
    rw [at_drop]
    refine ⟨h.1, h.2.1, fun hj0 => ?_⟩
    have h2 := h.2.2 (by omega)
    rw [at_drop, show i + (j - 1) = i + j - 1 by omega]
    exact h2
  · rw [List.length_drop] at hp
    have hlev := hl (by omega) l hl31
    have hc : cnt xs l = cnt (xs.take i) l + cnt (xs.drop i) l := by rw [← cnt_append, List.take_append_drop]
    have hle := ord_le ho i (by omega)
    unfold levAt at hlev ⊢
    rw [at_drop, Nat.add_zero]
    intro h1
    have h2 := hlev (by omega)
    refine ⟨by omega, fun h3 => ?_⟩
    have hz := cnt_take_zero ho (show i < xs.length by omega) h3
    have h4 := h2.2 (by omega)
    omega
def sumTo (f : Nat → Nat) : Nat → Nat
  | 0 => 0
  | m + 1 => sumTo f m + f m
theorem sumTo_add (f g : Nat → Nat) : ∀ m, sumTo (fun l => f l + g l) m = sumTo f m + sumTo g m
  | 0 => rfl
  | m + 1 => by simp only [sumTo, sumTo_add f g m]; omega
theorem sumTo_zero {f : Nat → Nat} : ∀ m, (∀ l, l < m → f l = 0) → sumTo f m = 0
  | 0, _ => rfl
  | m + 1, h => by simp only [sumTo, sumTo_zero m (fun l hl => h l (by omega)), h m (by omega)]
theorem sumTo_one {c : Nat → Nat} {a : Nat} : ∀ m, a < m → sumTo (fun l => if a = l then c l else 0) m = c a
  | 0, h => by omega
  | m + 1, h => by
    simp only [sumTo]
    by_cases e : a = m
    · subst e
      rw [if_pos rfl, sumTo_zero a (fun l hl => if_neg (by omega)), Nat.zero_add]
    · rw [if_neg e, sumTo_one m (by omega), Nat.add_zero]
theorem sumTo_congr {f g : Nat → Nat} : ∀ m, (∀ l, l < m → f l = g l) → sumTo f m = sumTo g m
  | 0, _ => rfl
  | m + 1, h => by simp only [sumTo, sumTo_congr m (fun l hl => h l (by omega)), h m (by omega)]
theorem sumTo_le {f g : Nat → Nat} : ∀ m, (∀ l, l < m → f l ≤ g l) → sumTo f m ≤ sumTo g m
  | 0, _ => Nat.le_refl _
  | m + 1, h => by
    have h1 := sumTo_le m (fun l hl => h l (by omega))
    have h2 := h m (by omega)
    simp only [sumTo]; omega
theorem sumTo_mono {f : Nat → Nat} {a b : Nat} (h : a ≤ b) : sumTo f a ≤ sumTo f b := by
  induction b with
  | zero => have : a = 0 := by omega
            subst this; exact Nat.le_refl _
  | succ b ih =>
    by_cases e : a = b + 1
    · subst e; exact Nat.le_refl _
    · have := ih (by omega); simp only [sumTo]; omega
theorem sumTo_cut {f : Nat → Nat} {a : Nat} (b : Nat) (h : ∀ l, a ≤ l → f l = 0) : a ≤ b → sumTo f b = sumTo f a := by
  induction b with
  | zero => intro hb; have : a = 0 := by omega
            subst this; rfl
  | succ b ih =>
    intro hb
    by_cases e : a = b + 1
    · subst e; rfl
    · simp only [sumTo, ih (by omega), h b (by omega), Nat.add_zero]
theorem sumTo_pow (k : Nat) : ∀ m, sumTo (fun l => k * 2 ^ l) m + k = k * 2 ^ m
  | 0 => by simp [sumTo]
  | m + 1 => by
    have := sumTo_pow k m
    simp only [sumTo]
    rw [Nat.pow_succ, ← Nat.mul_assoc]
    omega
theorem sumTo_const (k : Nat) : ∀ m, sumTo (fun _ => k) m = k * m
  | 0 => rfl
  | m + 1 => by simp only [sumTo, sumTo_const k m, Nat.mul_succ]
theorem levels_sum : ∀ xs : L2, (∀ p ∈ xs, 0 ≤ p.2 ∧ p.2 ≤ 30) → xs.length = sumTo (cnt xs) 31 ∧ wgt xs = sumTo (fun l => cnt xs l * 2 ^ l) 31
  | [], _ => ⟨(sumTo_zero 31 (fun l _ => cnt_nil l)).symm, (sumTo_zero 31 (fun l _ => by rw [cnt_nil, Nat.zero_mul])).symm⟩
  | p :: r, h => by
    obtain ⟨i1, i2⟩ := levels_sum r (fun q hq => h q (List.mem_cons_of_mem _ hq))
    have hp := h p (List.mem_cons_self ..)
    have e : ∀ l, cnt (p :: r) l = cnt r l + (if p.2.toNat = l then 1 else 0) := fun l => by
      rw [cnt_cons]
      congr 1
      by_cases h1 : p.2 = (l : Int)
      · rw [if_pos h1, if_pos (by omega)]
      · rw [if_neg h1, if_neg (by omega)]
    constructor
    · rw [List.length_cons, i1, sumTo_congr 31 (fun l _ => e l), sumTo_add, sumTo_one (c := fun _ => 1) 31 (by omega)]
    · have e2 : ∀ l, cnt (p :: r) l * 2 ^ l = cnt r l * 2 ^ l + (if p.2.toNat = l then 2 ^ l else 0) := fun l => by
        rw [e l, Nat.add_mul]
        congr 1
        split <;> simp
      rw [sumTo_congr 31 (fun l _ => e2 l), sumTo_add, sumTo_one (c := fun l => 2 ^ l) 31 (by omega), ← i2]
      simp only [wgt]
      omega
theorem ord_levels {xs : L2} (h : ordOk xs xs.length) : ∀ p ∈ xs, 0 ≤ p.2 ∧ p.2 ≤ 30 := fun p hp => by
  obtain ⟨j, hj, rfl⟩ := List.getElem_of_mem hp
  have := (h j hj).2.1
  have e : at_ xs j = xs[j] := by simp [at_, List.getElem?_eq_getElem hj]
  rwa [e] at this
theorem keep_facts {xs : L2} {k : Nat} (hv : ValidP xs k) (hp : 0 < xs.length) (L : Nat) (hL : (at_ xs 0).2 = (L : Int)) :
    L ≤ 30 ∧ xs.length ≤ (k + 1) * (L + 1) ∧ 2 ^ L + k * 2 ^ L ≤ wgt xs + k ∧ 2 ^ L ≤ wgt xs := by
  obtain ⟨hk, ho, hl⟩ := hv
  obtain ⟨s1, s2⟩ := levels_sum xs (ord_levels ho)
  have hL30 : L ≤ 30 := by have := (ho 0 hp).2.1; omega
  have hz : ∀ l, L + 1 ≤ l → cnt xs l = 0 := fun l hl => cnt_high ho (by omega)
  have hc : 0 < cnt xs L := by have := cnt_pos ho hp; rwa [hL, Int.toNat_natCast] at this
  have hlev : ∀ l, l < L + 1 → (cnt xs l ≤ k + 1 ∧ (l < L → k ≤ cnt xs l)) := fun l hlt => by
    have := hl hp l (by omega) (by omega)
    exact ⟨by omega, fun h => by have := this.2 (by omega); omega⟩
  refine ⟨hL30, ?_, ?_, ?_⟩
  · rw [s1, sumTo_cut 31 hz (by omega), ← sumTo_const]
    exact sumTo_le _ (fun l h => (hlev l h).1)
  · have h1 : sumTo (fun l => k * 2 ^ l) L ≤ sumTo (fun l => cnt xs l * 2 ^ l) L := sumTo_le _ (fun l h => Nat.mul_le_mul_right _ ((hlev l (by omega)).2 h))
    have h2 := sumTo_pow k L
    have h3 : sumTo (fun l => cnt xs l * 2 ^ l) (L + 1) ≤ sumTo (fun l => cnt xs l * 2 ^ l) 31 := sumTo_mono (by omega)
    have h4 : 1 * 2 ^ L ≤ cnt xs L * 2 ^ L := Nat.mul_le_mul_right _ hc
    have h5 : sumTo (fun l => cnt xs l * 2 ^ l) (L + 1) = sumTo (fun l => cnt xs l * 2 ^ l) L + cnt xs L * 2 ^ L := rfl
    rw [s2]
    omega
  · have h4 : 1 * 2 ^ L ≤ cnt xs L * 2 ^ L := Nat.mul_le_mul_right _ hc
    have := wgt_cnt xs L
    omega
theorem len_wgt : ∀ xs : L2, xs.length ≤ wgt xs
  | [] => Nat.le_refl _
  | p :: r => by
    have := len_wgt r
    have h : 0 < 2 ^ p.2.toNat := Nat.pow_pos (by omega)
    simp only [List.length_cons, wgt]
    omega
theorem wgt_drop (xs : L2) (i : Nat) : wgt (xs.drop i) ≤ wgt xs := by
  have h := wgt_append (xs.take i) (xs.drop i)
  rw [List.take_append_drop] at h
  omega
end Go.Proofs.Ytjapjfcennemeaa.buk
end
section
namespace Go.Proofs.Ytjapjfcennemeaa.wid
def hi (n : Nat) : Int := ((n / 18446744073709551616 : Nat) : Int)
def lo (n : Nat) : Int := ((n % 18446744073709551616 : Nat) : Int)
theorem hi_bd {n : Nat} (h : n < 340282366920938463463374607431768211456) : 0 ≤ hi n ∧ hi n ≤ 18446744073709551615 := by unfold hi; omega
theorem lo_bd (n : Nat) : 0 ≤ lo n ∧ lo n ≤ 18446744073709551615 := by unfold lo; omega
theorem hi_small {n : Nat} (h : n ≤ 18446744073709551615) : hi n = 0 := by unfold hi; omega
theorem lo_small {n : Nat} (h : n ≤ 18446744073709551615) : lo n = n := by unfold lo; omega
theorem hi_of {x : Int} (h0 : 0 ≤ x) (h1 : x ≤ 18446744073709551615) : hi x.toNat = 0 := hi_small (by omega)
theorem lo_of {x : Int} (h0 : 0 ≤ x) (h1 : x ≤ 18446744073709551615) : lo x.toNat = x := by rw [lo_small (by omega)]; omega
theorem hi_zero : hi 0 = 0 := rfl
theorem lo_zero : lo 0 = 0 := rfl
theorem eq_of {a b : Nat} (h : hi a = hi b) (l : lo a = lo b) : a = b := by unfold hi at h; unfold lo at l; omega
theorem zero_iff (a : Nat) : (hi a = 0 ∧ lo a = 0) ↔ a = 0 := ⟨fun h => eq_of h.1 h.2, fun h => by subst h; exact ⟨rfl, rfl⟩⟩
theorem lt_iff (a b : Nat) : (hi a < hi b ∨ hi a = hi b ∧ lo a < lo b) ↔ a < b := by unfold hi lo; omega
end Go.Proofs.Ytjapjfcennemeaa.wid
end
section
namespace Go.Proofs.Ytjapjfcennemeaa.wid
set_option linter.unusedVariables false
def q0 (V : Nat) : Nat := V % 18446744073709551616
def q1 (V : Nat) : Nat := V / 18446744073709551616 % 18446744073709551616
def q2 (V : Nat) : Nat := V / 18446744073709551616 / 18446744073709551616 % 18446744073709551616
def q3 (V : Nat) : Nat := V / 18446744073709551616 / 18446744073709551616 / 18446744073709551616 % 18446744073709551616
theorem q0_lt (V : Nat) : q0 V < 18446744073709551616 := Nat.mod_lt _ (by decide)
theorem q1_lt (V : Nat) : q1 V < 18446744073709551616 := Nat.mod_lt _ (by decide)
theorem q2_lt (V : Nat) : q2 V < 18446744073709551616 := Nat.mod_lt _ (by decide)
theorem q3_lt (V : Nat) : q3 V < 18446744073709551616 := Nat.mod_lt _ (by decide)
theorem q_step (V n c : Nat) : (V * n + c) % 18446744073709551616 = ((V % 18446744073709551616) * n + c) % 18446744073709551616 ∧
    (V * n + c) / 18446744073709551616 = (V / 18446744073709551616) * n + ((V % 18446744073709551616) * n + c) / 18446744073709551616 := by
  have h : V * n = 18446744073709551616 * ((V / 18446744073709551616) * n) + (V % 18446744073709551616) * n := by
    rw [← Nat.mul_assoc, ← Nat.add_mul, Nat.div_add_mod]
  rw [h]
  generalize V / 18446744073709551616 * n = P
  generalize V % 18446744073709551616 * n = Q
  omega
def cy1 (V n : Nat) : Nat := q0 V * n / 18446744073709551616
def cy2 (V n : Nat) : Nat := (q1 V * n + cy1 V n) / 18446744073709551616
def cy3 (V n : Nat) : Nat := (q2 V * n + cy2 V n) / 18446744073709551616
theorem q_mul (V n : Nat) : q0 (V * n) = q0 V * n % 18446744073709551616 ∧ q1 (V * n) = (q1 V * n + cy1 V n) % 18446744073709551616 ∧
    q2 (V * n) = (q2 V * n + cy2 V n) % 18446744073709551616 ∧ q3 (V * n) = (q3 V * n + cy3 V n) % 18446744073709551616 := by
  have a := q_step V n 0
  simp only [Nat.add_zero] at a
  have b := q_step (V / 18446744073709551616) n (cy1 V n)
  have c := q_step (V / 18446744073709551616 / 18446744073709551616) n (cy2 V n)
  have d := q_step (V / 18446744073709551616 / 18446744073709551616 / 18446744073709551616) n (cy3 V n)
  have a2 : V * n / 18446744073709551616 = V / 18446744073709551616 * n + cy1 V n := a.2
  have b2 : (V / 18446744073709551616 * n + cy1 V n) / 18446744073709551616 = V / 18446744073709551616 / 18446744073709551616 * n + cy2 V n := b.2
  have c2 : (V / 18446744073709551616 / 18446744073709551616 * n + cy2 V n) / 18446744073709551616 = V / 18446744073709551616 / 18446744073709551616 / 18446744073709551616 * n + cy3 V n := c.2
  refine ⟨a.1, ?_, ?_, ?_⟩
  · show V * n / 18446744073709551616 % 18446744073709551616 = _
    rw [a2]; exact b.1
  · show V * n / 18446744073709551616 / 18446744073709551616 % 18446744073709551616 = _
    rw [a2, b2]; exact c.1
  · show V * n / 18446744073709551616 / 18446744073709551616 / 18446744073709551616 % 18446744073709551616 = _
    rw [a2, b2, c2]; exact d.1
theorem cy_bd {x n c : Nat} (hx : x < 18446744073709551616) (hn : n < 18446744073709551616) (hc : c < 18446744073709551616) : (x * n + c) / 18446744073709551616 < 18446744073709551616 := by
  have : x * n ≤ 18446744073709551615 * 18446744073709551615 := Nat.mul_le_mul (by omega) (by omega)
  omega
theorem cy1_lt {V n : Nat} (hn : n < 18446744073709551616) : cy1 V n < 18446744073709551616 := by
  have := cy_bd (q0_lt V) hn (show 0 < 18446744073709551616 by decide)
  exact this
theorem cy2_lt {V n : Nat} (hn : n < 18446744073709551616) : cy2 V n < 18446744073709551616 := cy_bd (q1_lt V) hn (cy1_lt hn)
theorem cy3_lt {V n : Nat} (hn : n < 18446744073709551616) : cy3 V n < 18446744073709551616 := cy_bd (q2_lt V) hn (cy2_lt hn)
theorem cy_word {x n c p : Nat} (hx : x < 18446744073709551616) (hn : n < 18446744073709551616) (hc : c < 18446744073709551616) (hp : p = x * n) :
    (lo p + (c : Int)) % 18446744073709551616 = (((x * n + c) % 18446744073709551616 : Nat) : Int) ∧ hi p + (lo p + (c : Int)) / 18446744073709551616 = (((x * n + c) / 18446744073709551616 : Nat) : Int) := by
  subst hp
  unfold hi lo
  omega
theorem q_eq {V U : Nat} (hV : V < 115792089237316195423570985008687907853269984665640564039457584007913129639936) (hU : U < 115792089237316195423570985008687907853269984665640564039457584007913129639936) :
    (q3 V ≠ q3 U → (V < U ↔ q3 V < q3 U) ∧ V ≠ U) ∧ (q3 V = q3 U → q2 V ≠ q2 U → (V < U ↔ q2 V < q2 U) ∧ V ≠ U) ∧ (q3 V = q3 U → q2 V = q2 U → q1 V ≠ q1 U → (V < U ↔ q1 V < q1 U) ∧ V ≠ U) ∧
    (q3 V = q3 U → q2 V = q2 U → q1 V = q1 U → q0 V ≠ q0 U → (V < U ↔ q0 V < q0 U) ∧ V ≠ U) ∧ (q3 V = q3 U → q2 V = q2 U → q1 V = q1 U → q0 V = q0 U → V = U) := by
  unfold q0 q1 q2 q3
  refine ⟨?_, ?_, ?_, ?_, ?_⟩ <;> omega
theorem q_wide (d : Nat) (hd : d < 340282366920938463463374607431768211456) : (q0 d : Int) = lo d ∧ (q1 d : Int) = hi d ∧ q2 d = 0 ∧ q3 d = 0 := by
  unfold q0 q1 q2 q3 lo hi
  omega
end Go.Proofs.Ytjapjfcennemeaa.wid
end
