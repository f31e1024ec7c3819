/- MrgV: proved here in one text, no conditions beyond those that each theorem states. -/
import Derived.Test.YtjapjfcennemeaaGreatZ9
set_option linter.unusedVariables false
set_option linter.unusedSimpArgs false
namespace Go.Proofs.YtjapjfcennemeaaGreat.rnk
open Go.Proofs.YtjapjfcennemeaaGreat.mem
set_option linter.unusedVariables false
def lw (x : L3) (i : Nat) : Int := if 0 < i then (at3 x (i - 1)).2.1 else 0
def up (x : L3) (n : Int) (i : Nat) : Int := if i < x.length then (at3 x i).2.2 - 1 else n
theorem btw_up (e : Int × Int × Int) (o : L3) (i : Nat) (n : Int) : btw e o i n = (e.1, e.2.1 + lw o i, e.2.2 + up o n i) := rfl
def path (x y : L3) : Nat → Nat × Nat
  | 0 => (0, 0)
  | s + 1 => if takeX x y (path x y s).1 (path x y s).2 then ((path x y s).1 + 1, (path x y s).2) else ((path x y s).1, (path x y s).2 + 1)
theorem path_le {x y : L3} : ∀ s, s ≤ x.length + y.length → (path x y s).1 ≤ x.length ∧ (path x y s).2 ≤ y.length ∧ (path x y s).1 + (path x y s).2 = s
  | 0, _ => ⟨Nat.zero_le _, Nat.zero_le _, rfl⟩
  | s + 1, h => by
    obtain ⟨h1, h2, h3⟩ := path_le (x := x) (y := y) s (by omega)
    simp only [path]
    split
    · rename_i ht
      unfold takeX at ht
      simp only
      omega
    · rename_i ht
      unfold takeX at ht
      simp only
      omega
theorem mrg_at {x y : L3} {a b : Int} : ∀ f s, s + f = x.length + y.length → ∀ k < f, at3 (mrg x y a b f (path x y s).1 (path x y s).2) k = (if takeX x y (path x y (s + k)).1 (path x y (s + k)).2 then btw (at3 x (path x y (s + k)).1) y (path x y (s + k)).2 b else btw (at3 y (path x y (s + k)).2) x (path x y (s + k)).1 a)
  | 0, _, _, k, hk => absurd hk (by omega)
  | f + 1, s, hs, k, hk => by
    have ih := mrg_at (x := x) (y := y) (a := a) (b := b) f (s + 1) (by omega)
    by_cases h : takeX x y (path x y s).1 (path x y s).2
    · rw [mrg_x h]
      have e : path x y (s + 1) = ((path x y s).1 + 1, (path x y s).2) := by simp only [path]; rw [if_pos h]
      cases k with
      | zero => simp only [Nat.add_zero]; rw [if_pos h]; rfl
      | succ k =>
        have := ih k (by omega)
        rw [e] at this
        rw [show s + (k + 1) = s + 1 + k by omega]
        exact this
    · rw [mrg_y h]
      have e : path x y (s + 1) = ((path x y s).1, (path x y s).2 + 1) := by simp only [path]; rw [if_neg h]
      cases k with
      | zero => simp only [Nat.add_zero]; rw [if_neg h]; rfl
      | succ k =>
        have := ih k (by omega)
        rw [e] at this
        rw [show s + (k + 1) = s + 1 + k by omega]
        exact this
def nxt (x y : L3) (s : Nat) : Int := if takeX x y (path x y s).1 (path x y s).2 then (at3 x (path x y s).1).1 else (at3 y (path x y s).2).1
theorem path_cases {x y : L3} {s : Nat} (hs : s < x.length + y.length) : (path x y (s + 1) = ((path x y s).1 + 1, (path x y s).2) ∧ (path x y s).1 < x.length ∧ nxt x y s = (at3 x (path x y s).1).1 ∧ ((path x y s).2 < y.length → (at3 x (path x y s).1).1 ≤ (at3 y (path x y s).2).1)) ∨ (path x y (s + 1) = ((path x y s).1, (path x y s).2 + 1) ∧ (path x y s).2 < y.length ∧ nxt x y s = (at3 y (path x y s).2).1 ∧ ((path x y s).1 < x.length → (at3 y (path x y s).2).1 < (at3 x (path x y s).1).1)) := by
  obtain ⟨h1, h2, h3⟩ := path_le (x := x) (y := y) s (by omega)
  unfold nxt
  simp only [path]
  by_cases h : takeX x y (path x y s).1 (path x y s).2
  · left
    rw [if_pos h, if_pos h]
    unfold takeX at h
    refine ⟨rfl, by omega, rfl, fun h4 => ?_⟩
    rcases h with h | h
    · omega
    · exact h.2
  · right
    rw [if_neg h, if_neg h]
    unfold takeX at h
    refine ⟨rfl, by omega, rfl, fun h4 => ?_⟩
    omega
theorem merge_at {x y : L3} {a b : Int} {s : Nat} (hs : s < x.length + y.length) : at3 (mergeL x y a b) s = (nxt x y s, lw x (path x y (s + 1)).1 + lw y (path x y (s + 1)).2, up x a (path x y s).1 + up y b (path x y s).2 + 1) := by
  have h := mrg_at (x := x) (y := y) (a := a) (b := b) (x.length + y.length) 0 (by omega) s hs
  rw [Nat.zero_add] at h
  unfold mergeL
  rw [show (path x y 0).1 = 0 from rfl, show (path x y 0).2 = 0 from rfl] at h
  rw [h]
  unfold nxt
  have hp : path x y (s + 1) = if takeX x y (path x y s).1 (path x y s).2 then ((path x y s).1 + 1, (path x y s).2) else ((path x y s).1, (path x y s).2 + 1) := rfl
  have hc := path_cases hs
  by_cases ht : takeX x y (path x y s).1 (path x y s).2
  · rw [if_pos ht, if_pos ht, btw_up, hp, if_pos ht]
    have h4 : (path x y s).1 < x.length := by
      rcases hc with hc | hc
      · exact hc.2.1
      · rw [hp, if_pos ht] at hc
        have := congrArg Prod.fst hc.1
        simp at this
    simp only [lw, up, if_pos h4]
    rw [if_pos (show 0 < (path x y s).1 + 1 by omega), Nat.add_sub_cancel]
    refine Prod.ext rfl (Prod.ext rfl ?_)
    simp only
    omega
  · rw [if_neg ht, if_neg ht, btw_up, hp, if_neg ht]
    have h4 : (path x y s).2 < y.length := by
      rcases hc with hc | hc
      · rw [hp, if_neg ht] at hc
        have := congrArg Prod.fst hc.1
        simp at this
      · exact hc.2.1
    simp only [lw, up, if_pos h4]
    rw [if_pos (show 0 < (path x y s).2 + 1 by omega), Nat.add_sub_cancel]
    refine Prod.ext rfl (Prod.ext ?_ ?_)
    · simp only; omega
    · simp only; omega
section
variable {a : Int} {x : L3}
theorem lw_step (h : valR a x = true) {i : Nat} (hi : i < x.length) : lw x i < lw x (i + 1) := by
  have h2 := (valR_iff.1 h).2.1 i hi
  unfold lw
  rw [if_pos (Nat.succ_pos i), Nat.add_sub_cancel]
  split
  · rename_i h0; exact (h2.2 h0).2.1
  · omega
theorem up_step (h : valR a x = true) {i : Nat} (hi : i < x.length) : up x a i < up x a (i + 1) := by
  have h2 := (valR_iff.1 h).2.1 i hi
  unfold up
  rw [if_pos hi]
  split
  · rename_i h0; have := (((valR_iff.1 h).2.1 (i + 1) h0).2 (by omega)).2.2; rw [Nat.add_sub_cancel] at this; omega
  · omega
theorem lw_up (h : valR a x = true) {i : Nat} (hi : i ≤ x.length) : lw x i ≤ up x a i := by
  obtain ⟨⟨h0, _, h1⟩, h2, h3⟩ := valR_iff.1 h
  unfold lw up
  by_cases e : i < x.length
  · have h4 := h2 i e
    rw [if_pos e]
    split
    · rename_i h5; have := (h4.2 h5).2.1; omega
    · omega
  · rw [if_neg e]
    split
    · rename_i h5; have := (h2 (i - 1) (by omega)).1; omega
    · omega
theorem lw_end (h : valR a x = true) : lw x x.length = a := by
  obtain ⟨⟨h0, _, h1⟩, h2, h3⟩ := valR_iff.1 h
  unfold lw
  split
  · rename_i h5; exact (h3 h5).2
  · rename_i h5; rw [h1.1 (by omega)]
theorem up_zero (h : valR a x = true) : up x a 0 = 0 := by
  obtain ⟨⟨h0, _, h1⟩, h2, h3⟩ := valR_iff.1 h
  unfold up
  split
  · rename_i h5; have := (h3 h5).1; omega
  · rename_i h5; rw [h1.1 (by omega)]
theorem lw_nn (h : valR a x = true) {i : Nat} (hi : i ≤ x.length) : 0 ≤ lw x i := by
  obtain ⟨⟨h0, _, h1⟩, h2, h3⟩ := valR_iff.1 h
  unfold lw
  split
  · have := (h2 (i - 1) (by omega)).1; omega
  · omega
theorem up_le (h : valR a x = true) {i : Nat} (hi : i ≤ x.length) : up x a i ≤ a := by
  obtain ⟨⟨h0, _, h1⟩, h2, h3⟩ := valR_iff.1 h
  unfold up
  split
  · rename_i h4; have := (h2 i h4).1; omega
  · omega
theorem gap_le {g : Int} (hg : 1 ≤ g) : ∀ k, (∀ i, 0 < i → i ≤ k → (at3 x i).2.2 - (at3 x (i - 1)).2.1 ≤ g) → gapTo x k ≤ g
  | 0, _ => hg
  | k + 1, h => by
    have h1 := gap_le hg k (fun i h0 hi => h i h0 (by omega))
    have h2 := h (k + 1) (by omega) (Nat.le_refl _)
    rw [Nat.add_sub_cancel] at h2
    unfold gapTo
    omega
theorem gap_ge : ∀ k i, 0 < i → i ≤ k → (at3 x i).2.2 - (at3 x (i - 1)).2.1 ≤ gapTo x k
  | 0, i, h0, hi => absurd hi (by omega)
  | k + 1, i, h0, hi => by
    unfold gapTo
    by_cases e : i = k + 1
    · subst e; rw [Nat.add_sub_cancel]; omega
    · have := gap_ge k i h0 (by omega); omega
theorem gap_one : ∀ k, 1 ≤ gapTo x k
  | 0 => Int.le_refl _
  | k + 1 => by have := gap_one k; unfold gapTo; omega
theorem up_lw_gap (h : valR a x = true) {i : Nat} (hi : i ≤ x.length) : up x a i - lw x i ≤ gapTo x (x.length - 1) - 1 := by
  have h1 := gap_one (x := x) (x.length - 1)
  by_cases e0 : i = 0
  · subst e0; rw [up_zero h]; simp only [lw]; simp; omega
  by_cases e1 : i = x.length
  · subst e1; rw [lw_end h]; have := up_le h (Nat.le_refl _); omega
  · have := gap_ge (x := x) (x.length - 1) i (by omega) (by omega)
    unfold up lw
    rw [if_pos (by omega), if_pos (by omega)]
    omega
end
section
variable {a b : Int} {x y : L3}
theorem path_step (hx : valR a x = true) (hy : valR b y = true) {s : Nat} (hs : s < x.length + y.length) : lw x (path x y s).1 + lw y (path x y s).2 < lw x (path x y (s + 1)).1 + lw y (path x y (s + 1)).2 ∧ up x a (path x y s).1 + up y b (path x y s).2 < up x a (path x y (s + 1)).1 + up y b (path x y (s + 1)).2 := by
  rcases path_cases hs with ⟨h1, h2, _⟩ | ⟨h1, h2, _⟩
  · rw [h1]; have := lw_step hx h2; have := up_step hx h2; simp only; omega
  · rw [h1]; have := lw_step hy h2; have := up_step hy h2; simp only; omega
theorem nxt_mono (hx : asc x) (hy : asc y) {s : Nat} (hs : s + 1 < x.length + y.length) : nxt x y s ≤ nxt x y (s + 1) := by
  rcases path_cases (x := x) (y := y) (s := s) (by omega) with ⟨h1, h2, h3, h4⟩ | ⟨h1, h2, h3, h4⟩
  · rcases path_cases hs with ⟨g1, g2, g3, g4⟩ | ⟨g1, g2, g3, g4⟩
    · rw [h3, g3]; rw [h1] at g2 ⊢; exact hx _ _ (Nat.le_succ _) g2
    · rw [h3, g3]; rw [h1] at g2 ⊢; exact h4 g2
  · rcases path_cases hs with ⟨g1, g2, g3, g4⟩ | ⟨g1, g2, g3, g4⟩
    · rw [h3, g3]; rw [h1] at g2 ⊢; exact Int.le_of_lt (h4 g2)
    · rw [h3, g3]; rw [h1] at g2 ⊢; exact hy _ _ (Nat.le_succ _) g2
theorem merge_len (x y : L3) (a b : Int) : (mergeL x y a b).length = x.length + y.length := mrg_length _ _ _ _ _ _ _
theorem path_end : path x y (x.length + y.length) = (x.length, y.length) := by
  obtain ⟨h1, h2, h3⟩ := path_le (x := x) (y := y) _ (Nat.le_refl _)
  exact Prod.ext (by simp only; omega) (by simp only; omega)
theorem merge_valid (hx : valR a x = true) (hy : valR b y = true) (hab : a + b ≤ 1099511627776) : valR (a + b) (mergeL x y a b) = true := by
  obtain ⟨⟨ha0, _, ha1⟩, _⟩ := valR_iff.1 hx
  obtain ⟨⟨hb0, _, hb1⟩, _⟩ := valR_iff.1 hy
  refine valR_iff.2 ⟨⟨by omega, hab, ?_⟩, fun s hs => ?_, fun h0 => ?_⟩
  · rw [merge_len]; constructor
    · intro h; have := ha1.1 (by omega); have := hb1.1 (by omega); omega
    · intro h; have := ha1.2 (by omega); have := hb1.2 (by omega); omega
  · rw [merge_len] at hs
    rw [merge_at hs]
    obtain ⟨p1, p2, p3⟩ := path_le (x := x) (y := y) s (by omega)
    obtain ⟨p4, p5, p6⟩ := path_le (x := x) (y := y) (s + 1) (by omega)
    obtain ⟨q1, q2⟩ := path_step hx hy hs
    have n1 := lw_nn hx p1
    have n2 := lw_nn hy p2
    have n3 := lw_up hx p1
    have n4 := lw_up hy p2
    have n5 := up_le hx p4
    have n6 := up_le hy p5
    refine ⟨⟨by simp only; omega, ?_, by simp only; omega⟩, fun h0 => ?_⟩
    · simp only
      rcases path_cases hs with ⟨h1, h2, _⟩ | ⟨h1, h2, _⟩
      · rw [h1]
        have := (((valR_iff.1 hx).2.1 _ h2).1).2.1
        simp only [lw, up, if_pos h2] at n4 ⊢
        rw [if_pos (Nat.succ_pos _), Nat.add_sub_cancel]
        omega
      · rw [h1]
        have := (((valR_iff.1 hy).2.1 _ h2).1).2.1
        simp only [lw, up, if_pos h2] at n3 ⊢
        rw [if_pos (Nat.succ_pos ((path x y s).2)), Nat.add_sub_cancel]
        omega
    · obtain ⟨s, rfl⟩ : ∃ t, s = t + 1 := ⟨s - 1, by omega⟩
      rw [Nat.add_sub_cancel, merge_at (show s < x.length + y.length by omega)]
      obtain ⟨q3, q4⟩ := path_step hx hy (show s < x.length + y.length by omega)
      exact ⟨nxt_mono (asc_of_val hx) (asc_of_val hy) hs, q1, by simp only; omega⟩
  · rw [merge_len] at h0 ⊢
    rw [merge_at h0, merge_at (show x.length + y.length - 1 < x.length + y.length by omega), show x.length + y.length - 1 + 1 = x.length + y.length by omega, path_end]
    refine ⟨?_, ?_⟩
    · show up x a 0 + up y b 0 + 1 = 1
      rw [up_zero hx, up_zero hy]; rfl
    · show lw x x.length + lw y y.length = a + b
      rw [lw_end hx, lw_end hy]
theorem merge_gap (hx : valR a x = true) (hy : valR b y = true) : gapTo (mergeL x y a b) ((mergeL x y a b).length - 1) - 1 ≤ (gapTo x (x.length - 1) - 1) + (gapTo y (y.length - 1) - 1) := by
  have g1 := gap_one (x := x) (x.length - 1)
  have g2 := gap_one (x := y) (y.length - 1)
  have := gap_le (x := mergeL x y a b) (g := gapTo x (x.length - 1) + gapTo y (y.length - 1) - 1) (by omega) ((mergeL x y a b).length - 1) (fun i h0 hi => by
    rw [merge_len] at hi
    obtain ⟨i, rfl⟩ : ∃ t, i = t + 1 := ⟨i - 1, by omega⟩
    rw [Nat.add_sub_cancel, merge_at (show i < x.length + y.length by omega), merge_at (show i + 1 < x.length + y.length by omega)]
    obtain ⟨p1, p2, p3⟩ := path_le (x := x) (y := y) (i + 1) (by omega)
    have h1 := up_lw_gap hx p1
    have h2 := up_lw_gap hy p2
    simp only
    omega)
  omega
theorem nxt_bd {lo hi : Int} (hx : ∀ i < x.length, lo ≤ (at3 x i).1 ∧ (at3 x i).1 ≤ hi) (hy : ∀ i < y.length, lo ≤ (at3 y i).1 ∧ (at3 y i).1 ≤ hi) {s : Nat} (hs : s < x.length + y.length) : lo ≤ nxt x y s ∧ nxt x y s ≤ hi := by
  rcases path_cases hs with ⟨_, h2, h3, _⟩ | ⟨_, h2, h3, _⟩
  · rw [h3]; exact hx _ h2
  · rw [h3]; exact hy _ h2
end
end Go.Proofs.YtjapjfcennemeaaGreat.rnk
