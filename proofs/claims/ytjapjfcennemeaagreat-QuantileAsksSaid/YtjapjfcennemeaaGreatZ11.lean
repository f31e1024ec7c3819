/- PruV: proved here in one text, no conditions beyond those that each theorem states. -/
import Derived.Test.YtjapjfcennemeaaGreatZ10
import Derived.Test.YtjapjfcennemeaaGreatZ8
set_option linter.unusedVariables false
set_option linter.unusedSimpArgs false
namespace Go.Proofs.YtjapjfcennemeaaGreat.rnk
open Go.Proofs.YtjapjfcennemeaaGreat.mem
set_option linter.unusedVariables false
theorem forTo_min {es : L3} {r : Int} : ∀ n, forTo es r n ≤ n ∧ (0 < n → forTo es r n < n) ∧ ∀ i < n, far (at3 es (forTo es r n)) r ≤ far (at3 es i) r
  | 0 => ⟨Nat.le_refl _, fun h => h, fun i hi => absurd hi (by omega)⟩
  | n + 1 => by
    obtain ⟨h1, h2, h3⟩ := forTo_min (es := es) (r := r) n
    unfold forTo
    split
    · rename_i h
      refine ⟨by omega, fun _ => by omega, fun i hi => ?_⟩
      by_cases e : i = n
      · subst e; exact Int.le_refl _
      · have := h3 i (by omega); omega
    · rename_i h
      refine ⟨by omega, fun _ => by omega, fun i hi => ?_⟩
      by_cases e : i = n
      · subst e; omega
      · exact h3 i (by omega)
theorem forN_min {es : L3} {r : Int} (h0 : 0 < es.length) : forN es r < es.length ∧ ∀ i < es.length, far (at3 es (forN es r)) r ≤ far (at3 es i) r := by
  obtain ⟨h1, h2, h3⟩ := forTo_min (es := es) (r := r) es.length
  exact ⟨h2 h0, h3⟩
section
variable {N : Int} {es : L3}
theorem near_ex (h : valR N es = true) (h0 : 0 < es.length) {r : Int} (hr : 1 ≤ r) (hr2 : r ≤ N) : ∃ i < es.length, 2 * far (at3 es i) r ≤ gapTo es (es.length - 1) := by
  obtain ⟨_, h2, h3⟩ := valR_iff.1 h
  obtain ⟨h4, h5⟩ := h3 h0
  have hg := gap_one (x := es) (es.length - 1)
  have hl := h2 (es.length - 1) (by omega)
  have hf := h2 0 h0
  suffices H : ∀ n, n < es.length → 2 * r < (at3 es n).2.1 + (at3 es n).2.2 → ∃ i < es.length, 2 * far (at3 es i) r ≤ gapTo es (es.length - 1) by
    by_cases e : 2 * r < (at3 es (es.length - 1)).2.1 + (at3 es (es.length - 1)).2.2
    · exact H _ (by omega) e
    · refine ⟨es.length - 1, by omega, ?_⟩
      unfold far
      omega
  intro n
  induction n with
  | zero => intro _ h6; omega
  | succ n ih =>
    intro hn h6
    by_cases e : 2 * r < (at3 es n).2.1 + (at3 es n).2.2
    · exact ih (by omega) e
    · have h7 := gap_ge (x := es) (es.length - 1) (n + 1) (by omega) (by omega)
      rw [Nat.add_sub_cancel] at h7
      have h8 := h2 (n + 1) hn
      have h9 := h2 n (by omega)
      by_cases e2 : 2 * far (at3 es n) r ≤ gapTo es (es.length - 1)
      · exact ⟨n, by omega, e2⟩
      · refine ⟨n + 1, hn, ?_⟩
        unfold far at *
        omega
theorem near_for (h : valR N es = true) (h0 : 0 < es.length) {r : Int} (hr : 1 ≤ r) (hr2 : r ≤ N) : 2 * far (at3 es (forN es r)) r ≤ gapTo es (es.length - 1) := by
  obtain ⟨i, hi, h1⟩ := near_ex h h0 hr hr2
  have := (forN_min (r := r) h0).2 i hi
  omega
theorem min_lt (h : valR N es = true) {i j : Nat} (hij : i < j) (hj : j < es.length) : (at3 es i).2.1 < (at3 es j).2.1 ∧ (at3 es i).2.2 < (at3 es j).2.2 := by
  induction j with
  | zero => omega
  | succ j ih =>
    have h1 := strict_of_val h j hj
    by_cases e : i = j
    · subst e; exact h1
    · have := ih (by omega) (by omega); omega
theorem forN_first (h : valR N es = true) (h0 : 0 < es.length) : forN es 1 = 0 := by
  obtain ⟨h1, h2⟩ := forN_min (r := 1) h0
  obtain ⟨_, h3, h4⟩ := valR_iff.1 h
  have h5 := h2 0 h0
  have h6 := (h4 h0).1
  have h7 := (h3 0 h0).1
  rcases Nat.eq_zero_or_pos (forN es 1) with e | e
  · exact e
  · have := min_lt h e h1
    unfold far at h5
    omega
theorem forN_last (h : valR N es = true) (h0 : 0 < es.length) : forN es N = es.length - 1 := by
  obtain ⟨h1, h2⟩ := forN_min (r := N) h0
  obtain ⟨_, h3, h4⟩ := valR_iff.1 h
  have h5 := h2 (es.length - 1) (by omega)
  have h6 := (h4 h0).2
  have h7 := (h3 (es.length - 1) (by omega)).1
  rcases Nat.lt_or_ge (forN es N) (es.length - 1) with e | e
  · have := min_lt h e (by omega)
    unfold far at h5
    omega
  · omega
end
theorem ceilD_ge {a b : Int} (hb : 1 ≤ b) : a ≤ ceilD a b * b := by
  unfold ceilD
  have h1 := Int.emod_add_mul_ediv (a + b - 1) b
  have h2 := Int.emod_lt_of_pos (a + b - 1) (show 0 < b by omega)
  rw [Int.mul_comm] at h1
  generalize (a + b - 1) / b * b = q at *
  omega
theorem tgt_step {N b : Int} (hb : 1 ≤ b) (i : Nat) : tgt N b (i + 1) ≤ tgt N b i + ceilD (N - 1) b := by
  unfold tgt
  have h1 := ceilD_ge (a := N - 1) hb
  have h2 : ((i + 1 : Nat) : Int) * (N - 1) ≤ (i : Int) * (N - 1) + ceilD (N - 1) b * b := by
    rw [Int.natCast_add, Int.add_mul]; simp; omega
  have h3 := Int.ediv_le_ediv (show 0 < b by omega) h2
  rw [Int.add_mul_ediv_right _ _ (show b ≠ 0 by omega)] at h3
  omega
structure Kept (es : L3) (G : Int) (s : Nat) (o : L3) : Prop where
  pos : 0 < o.length
  first : at3 o 0 = at3 es 0
  last : at3 o (o.length - 1) = at3 es s
  ex : ∀ k < o.length, ∃ p < es.length, at3 o k = at3 es p
  step : ∀ k, k + 1 < o.length → ∃ p q, p < q ∧ q < es.length ∧ at3 o k = at3 es p ∧ at3 o (k + 1) = at3 es q ∧ (at3 es q).2.2 - (at3 es p).2.1 ≤ G
theorem at3_app {o : L3} {e : Int × Int × Int} {k : Nat} (h : k < o.length) : at3 (o ++ [e]) k = at3 o k := by simp [at3, List.getElem?_append_left h]
theorem at3_end {o : L3} {e : Int × Int × Int} : at3 (o ++ [e]) o.length = e := by simp [at3]
theorem Kept.snoc {es : L3} {G : Int} {s q : Nat} {o : L3} (h : Kept es G s o) (hs : s < q) (hq : q < es.length) (hg : (at3 es q).2.2 - (at3 es s).2.1 ≤ G) : Kept es G q (o ++ [at3 es q]) := by
  have h0 := h.pos
  refine ⟨by simp, by rw [at3_app h0]; exact h.first, by rw [List.length_append]; exact at3_end, fun k hk => ?_, fun k hk => ?_⟩
  · rw [List.length_append] at hk
    simp at hk
    by_cases e : k < o.length
    · rw [at3_app e]; exact h.ex k e
    · obtain rfl : k = o.length := by omega
      exact ⟨q, hq, at3_end⟩
  · rw [List.length_append] at hk
    simp at hk
    by_cases e : k + 1 < o.length
    · rw [at3_app e, at3_app (by omega)]; exact h.step k e
    · have e2 : k = o.length - 1 := by omega
      refine ⟨s, q, hs, hq, by rw [at3_app (by omega), e2]; exact h.last, ?_, hg⟩
      rw [show k + 1 = o.length by omega]; exact at3_end
theorem pru_kept {N b : Int} {es : L3} (h : valR N es = true) (h0 : 0 < es.length) (hN : 1 ≤ N) (hN2 : N ≤ 1099511627776) (hb : 1 ≤ b) : ∀ i : Nat, (i : Int) ≤ b → Kept es (gapTo es (es.length - 1) + ceilD (N - 1) b) (pruTo N b es (i + 1)).2.1 (pruTo N b es (i + 1)).2.2 ∧ (pruTo N b es (i + 1)).2.1 = forN es (tgt N b i)
  | 0, hi => by
    have h1 := (pru_eq (strict_of_val h) h0 hN hb 0).2.2.1
    have h2 : place es (tgt N b 0) 0 = forN es (tgt N b 0) := (place_for (strict_of_val h) (tgt N b 0) _ 0 rfl h0 (fun i hi => absurd hi (by omega))).1
    have h3 : tgt N b 0 = 1 := by simp [tgt]
    have h4 : pruTo N b es (0 + 1) = (((place es (tgt N b 0) 0 : Nat) : Int), place es (tgt N b 0) 0, [] ++ [at3 es (place es (tgt N b 0) 0)]) := pruTo_new (i := 0) rfl (by omega)
    rw [h4, h2, h3, forN_first h h0]
    refine ⟨⟨by simp, rfl, rfl, fun k hk => ⟨0, h0, ?_⟩, fun k hk => absurd hk (by simp)⟩, rfl⟩
    simp at hk; subst hk; rfl
  | i + 1, hi => by
    obtain ⟨h1, h2⟩ := pru_kept h h0 hN hN2 hb i (by omega)
    obtain ⟨_, h3, h4, _, _⟩ := pru_eq (strict_of_val h) h0 hN hb (i + 1)
    have h4' := (pru_eq (strict_of_val h) h0 hN hb (i + 1)).2.2.2.1 (by omega)
    rcases hp : pruTo N b es (i + 1) with ⟨l, s, o⟩
    rw [hp] at h1 h2 h3 h4 h4'
    simp only at h1 h2 h3 h4 h4'
    have h5 := (place_for (strict_of_val h) (tgt N b (i + 1)) _ s rfl h3 h4).1
    have h6 := place_lt (n := tgt N b (i + 1)) h3
    by_cases e : ((place es (tgt N b (i + 1)) s : Nat) : Int) = l
    · rw [pruTo_same hp e]
      have e2 : place es (tgt N b (i + 1)) s = s := by omega
      rw [e2] at h5 ⊢
      exact ⟨h1, h5⟩
    · rw [pruTo_new hp e]
      show Kept es (gapTo es (es.length - 1) + ceilD (N - 1) b) (place es (tgt N b (i + 1)) s) (o ++ [at3 es (place es (tgt N b (i + 1)) s)]) ∧ place es (tgt N b (i + 1)) s = forN es (tgt N b (i + 1))
      refine ⟨h1.snoc (by omega) h6.2 ?_, h5⟩
      have t1 := tgt_bd (i := i) hN hN2 hb (by omega)
      have t2 := tgt_bd (i := i + 1) hN hN2 hb hi
      have n1 := near_for h h0 t1.1 t1.2
      have n2 := near_for h h0 t2.1 t2.2
      have t3 := tgt_step (N := N) hb i
      rw [← h5] at n2
      rw [← h2] at n1
      unfold far at n1 n2
      omega
theorem kept_valid {N : Int} {es o : L3} {G : Int} (h : valR N es = true) (h0 : 0 < es.length) (hk : Kept es G (es.length - 1) o) : valR N o = true := by
  obtain ⟨⟨h1, h2, h3⟩, h4, h5⟩ := valR_iff.1 h
  have hp := hk.pos
  refine valR_iff.2 ⟨⟨h1, h2, ⟨fun e => by omega, fun e => by have := h3.2 e; omega⟩⟩, fun k hkl => ⟨?_, fun hk0 => ?_⟩, fun _ => ?_⟩
  · obtain ⟨p, hpl, e⟩ := hk.ex k hkl
    rw [e]; exact (h4 p hpl).1
  · obtain ⟨k, rfl⟩ : ∃ t, k = t + 1 := ⟨k - 1, by omega⟩
    rw [Nat.add_sub_cancel]
    obtain ⟨p, q, hpq, hq, e1, e2, _⟩ := hk.step k hkl
    rw [e1, e2]
    have := min_lt h hpq hq
    exact ⟨asc_of_val h p q (by omega) hq, this.1, this.2⟩
  · rw [hk.first, hk.last]; exact h5 h0
theorem kept_gap {N : Int} {es o : L3} {G : Int} {s : Nat} (hG : 1 ≤ G) (hk : Kept es G s o) : gapTo o (o.length - 1) ≤ G := by
  have hp := hk.pos
  refine gap_le hG _ fun i h0 hi => ?_
  obtain ⟨i, rfl⟩ : ∃ t, i = t + 1 := ⟨i - 1, by omega⟩
  rw [Nat.add_sub_cancel]
  obtain ⟨p, q, _, _, e1, e2, h⟩ := hk.step i (by omega)
  rw [e1, e2]; exact h
theorem pru_valid {N b : Int} {es : L3} (h : valR N es = true) (hb : 1 ≤ b) (hl : ¬ (es.length : Int) ≤ b + 1) : Kept es (gapTo es (es.length - 1) + ceilD (N - 1) b) (es.length - 1) (pruL N b es) := by
  obtain ⟨⟨a1, a2, a3⟩, a4, a5⟩ := valR_iff.1 h
  have h0 : 0 < es.length := by omega
  have hN : 1 ≤ N := by have : N ≠ 0 := fun e => by have := a3.2 e; omega
                        omega
  obtain ⟨h1, h2⟩ := pru_kept h h0 hN a2 hb b.toNat (by omega)
  have h3 : tgt N b b.toNat = N := by
    unfold tgt
    rw [show ((b.toNat : Nat) : Int) = b by omega, Int.mul_ediv_cancel_left _ (by omega)]
    omega
  rw [h3, forN_last h h0] at h2
  unfold pruL
  rw [if_neg hl]
  rw [h2] at h1
  exact h1
theorem pruL_valid {N b : Int} {es : L3} (h : valR N es = true) (hb : 1 ≤ b) : valR N (pruL N b es) = true := by
  by_cases hl : (es.length : Int) ≤ b + 1
  · unfold pruL; rw [if_pos hl]; exact h
  · exact kept_valid h (by omega) (pru_valid h hb hl)
theorem pruL_le {N b : Int} {es : L3} (h : valR N es = true) (hb : 1 ≤ b) : ((pruL N b es).length : Int) ≤ b + 1 := by
  by_cases hl : (es.length : Int) ≤ b + 1
  · unfold pruL; rw [if_pos hl]; exact hl
  · unfold pruL; rw [if_neg hl]
    have := (pruTo_lt (N := N) (b := b) (show 0 < es.length by omega) (b.toNat + 1)).2
    omega
theorem ceilD_nn {a b : Int} (ha : 0 ≤ a) (hb : 1 ≤ b) : 0 ≤ ceilD a b := Int.ediv_nonneg (by omega) (by omega)
theorem pruL_gap {N b : Int} {es : L3} (h : valR N es = true) (hb : 1 ≤ b) (hN : 1 ≤ N) : gapTo (pruL N b es) ((pruL N b es).length - 1) ≤ gapTo es (es.length - 1) + ceilD (N - 1) b := by
  have h1 := ceilD_nn (a := N - 1) (b := b) (by omega) hb
  have h2 := gap_one (x := es) (es.length - 1)
  by_cases hl : (es.length : Int) ≤ b + 1
  · unfold pruL; rw [if_pos hl]; omega
  · exact kept_gap (N := N) (by omega) (pru_valid h hb hl)
end Go.Proofs.YtjapjfcennemeaaGreat.rnk
