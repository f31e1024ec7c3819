/- MrgR: proved here in one text, no conditions beyond those that each theorem states. -/
import Derived.Test.YtjapjfcennemeaaGreatZ6
set_option linter.unusedVariables false
set_option linter.unusedSimpArgs false
namespace Go.Proofs.YtjapjfcennemeaaGreat.rnk
open Go.Proofs.YtjapjfcennemeaaGreat.mem
set_option linter.unusedVariables false
def wlo (o : L3) (first : Bool) (v : Int) : Nat → Int
  | 0 => 0
  | j + 1 => if (at3 o j).1 < v ∨ (first = false ∧ (at3 o j).1 = v) then (at3 o j).2.1 else wlo o first v j
def whi (o : L3) (n : Int) (first : Bool) (v : Int) (m : Nat) : Nat → Int
  | 0 => n
  | d + 1 => if v < (at3 o (m - (d + 1))).1 ∨ (first = true ∧ (at3 o (m - (d + 1))).1 = v) then (at3 o (m - (d + 1))).2.2 - 1 else whi o n first v m d
def widE (o : L3) (n : Int) (first : Bool) (e : Int × Int × Int) : Int × Int × Int := (e.1, e.2.1 + wlo o first e.1 o.length, e.2.2 + whi o n first e.1 o.length o.length)
def widL (a o : L3) (n : Int) (first : Bool) : L3 := a.map (widE o n first)
theorem widL_at {a o : L3} {n : Int} {f : Bool} {i : Nat} (h : i < a.length) : at3 (widL a o n f) i = widE o n f (at3 a i) := by
  unfold at3 widL
  rw [List.getElem?_map, List.getElem?_eq_getElem h]
  rfl
theorem widL_len (a o : L3) (n : Int) (f : Bool) : (widL a o n f).length = a.length := by simp [widL]
def mrgQ (x y : L3) : Nat → Nat → Nat → L3
  | 0, _, _ => []
  | f + 1, i, j => if takeX x y i j then at3 x i :: mrgQ x y f (i + 1) j else at3 y j :: mrgQ x y f i (j + 1)
theorem mrgQ_x {x y : L3} {f i j : Nat} (h : takeX x y i j) : mrgQ x y (f + 1) i j = at3 x i :: mrgQ x y f (i + 1) j := by simp [mrgQ, h]
theorem mrgQ_y {x y : L3} {f i j : Nat} (h : ¬ takeX x y i j) : mrgQ x y (f + 1) i j = at3 y j :: mrgQ x y f i (j + 1) := by simp [mrgQ, h]
def mergeQ (x y : L3) (a b : Int) : L3 := mrgQ (widL x y b true) (widL y x a false) (x.length + y.length) 0 0
def asc (xs : L3) : Prop := ∀ i j, i ≤ j → j < xs.length → (at3 xs i).1 ≤ (at3 xs j).1
theorem asc_of_step {xs : L3} (h : ∀ i, 0 < i → i < xs.length → (at3 xs (i - 1)).1 ≤ (at3 xs i).1) : asc xs := by
  intro i j hij
  induction j with
  | zero =>
    intro _
    rw [show i = 0 by omega]
    exact Int.le_refl _
  | succ j ih =>
    intro hj
    by_cases e : i = j + 1
    · subst e; exact Int.le_refl _
    · have h1 := ih (by omega) (by omega)
      have h2 := h (j + 1) (by omega) hj
      rw [Nat.add_sub_cancel] at h2
      omega
theorem asc_of_val {N : Int} {es : L3} (h : valR N es = true) : asc es := asc_of_step fun i h0 hi => (((valR_iff.1 h).2.1 i hi).2 h0).1
theorem wlo_eq {o : L3} {f : Bool} {v : Int} {p : Nat} (hp : p ≤ o.length) (h1 : ∀ i < p, (at3 o i).1 < v ∨ (f = false ∧ (at3 o i).1 = v)) (h2 : ∀ i, p ≤ i → i < o.length → ¬ ((at3 o i).1 < v ∨ (f = false ∧ (at3 o i).1 = v))) : wlo o f v o.length = if 0 < p then (at3 o (p - 1)).2.1 else 0 := by
  suffices h : ∀ d, p + d ≤ o.length → wlo o f v (p + d) = if 0 < p then (at3 o (p - 1)).2.1 else 0 by
    have := h (o.length - p) (by omega); rwa [show p + (o.length - p) = o.length by omega] at this
  intro d
  induction d with
  | zero =>
    intro _
    cases p with
    | zero => rfl
    | succ p => simp only [wlo]; rw [if_pos (h1 p (by omega)), if_pos (by omega), Nat.add_sub_cancel]
  | succ d ih =>
    intro hd
    rw [← Nat.add_assoc, wlo, if_neg (h2 (p + d) (by omega) (by omega)), ih (by omega)]
theorem whi_eq {o : L3} {n : Int} {f : Bool} {v : Int} {p : Nat} (hp : p ≤ o.length) (h1 : ∀ i < p, ¬ (v < (at3 o i).1 ∨ (f = true ∧ (at3 o i).1 = v))) (h2 : ∀ i, p ≤ i → i < o.length → (v < (at3 o i).1 ∨ (f = true ∧ (at3 o i).1 = v))) : whi o n f v o.length o.length = if p < o.length then (at3 o p).2.2 - 1 else n := by
  suffices h : ∀ d, d ≤ p → whi o n f v o.length (o.length - p + d) = if p < o.length then (at3 o p).2.2 - 1 else n by
    have := h p (Nat.le_refl _); rwa [show o.length - p + p = o.length by omega] at this
  intro d
  induction d with
  | zero =>
    intro _
    by_cases e : p < o.length
    · rw [if_pos e, Nat.add_zero]
      obtain ⟨k, hk⟩ : ∃ k, o.length - p = k + 1 := ⟨o.length - p - 1, by omega⟩
      rw [hk, whi, show o.length - (k + 1) = p by omega, if_pos (h2 p (Nat.le_refl _) e)]
    · rw [if_neg e, show o.length - p + 0 = 0 by omega]; rfl
  | succ d ih =>
    intro hd
    rw [← Nat.add_assoc, whi, if_neg (h1 _ (by omega)), ih (by omega)]
theorem mrgQ_eq {x y : L3} {a b : Int} (hx : asc x) (hy : asc y) : ∀ f i j, f = x.length - i + (y.length - j) → i ≤ x.length → j ≤ y.length → (∀ i' < i, ∀ j', j ≤ j' → j' < y.length → (at3 x i').1 ≤ (at3 y j').1) → (∀ j' < j, ∀ i', i ≤ i' → i' < x.length → (at3 y j').1 < (at3 x i').1) → mrgQ (widL x y b true) (widL y x a false) f i j = mrg x y a b f i j
  | 0, _, _, _, _, _, _, _ => rfl
  | f + 1, i, j, hf, hi, hj, H1, H2 => by
    have ht : takeX (widL x y b true) (widL y x a false) i j ↔ takeX x y i j := by
      unfold takeX
      rw [widL_len, widL_len]
      by_cases e : j = y.length
      · simp [e]
      · by_cases e2 : i < x.length
        · rw [widL_at e2, widL_at (by omega)]; rfl
        · simp [e2]
    by_cases h : takeX x y i j
    · have hil : i < x.length := by
        rcases h with h | h
        · omega
        · exact h.1
      rw [mrgQ_x (ht.2 h), mrg_x h, widL_at hil, mrgQ_eq hx hy f (i + 1) j (by omega) (by omega) hj (fun i' h3 j' h4 h5 => by
        by_cases e : i' = i
        · subst e
          rcases h with h | h
          · omega
          · have := hy j j' h4 h5; omega
        · exact H1 i' (by omega) j' h4 h5) (fun j' h3 i' h4 h5 => H2 j' h3 i' (by omega) h5)]
      congr 1
      unfold widE btw
      have h1 : ∀ k < j, (at3 y k).1 < (at3 x i).1 := fun k hk => H2 k hk i (Nat.le_refl _) hil
      have h2 : ∀ k, j ≤ k → k < y.length → (at3 x i).1 ≤ (at3 y k).1 := fun k hk hk2 => by
        rcases h with h | h
        · omega
        · have := hy j k hk hk2; omega
      rw [wlo_eq hj (fun k hk => .inl (h1 k hk)) (fun k hk hk2 h3 => h3.elim (fun h4 => Int.not_lt.2 (h2 k hk hk2) h4) (fun h4 => Bool.noConfusion h4.1)),
        whi_eq hj (fun k hk h3 => h3.elim (fun h4 => Int.lt_asymm h4 (h1 k hk)) (fun h4 => Int.ne_of_lt (h1 k hk) h4.2)) (fun k hk hk2 => (Int.lt_or_eq_of_le (h2 k hk hk2)).elim .inl (fun h4 => .inr ⟨rfl, h4.symm⟩))]
    · have hjl : j < y.length := by
        by_cases e : j = y.length
        · exact absurd (.inl e) h
        · omega
      have hlt : i < x.length → (at3 y j).1 < (at3 x i).1 := fun h3 => by
        by_cases e : (at3 x i).1 ≤ (at3 y j).1
        · exact absurd (.inr ⟨h3, e⟩) h
        · omega
      rw [mrgQ_y (fun h3 => h (ht.1 h3)), mrg_y h, widL_at hjl, mrgQ_eq hx hy f i (j + 1) (by omega) hi (by omega) (fun i' h3 j' h4 h5 => H1 i' h3 j' (by omega) h5) (fun j' h3 i' h4 h5 => by
        have h6 := hx i i' h4 h5
        have h7 := hlt (by omega)
        by_cases e : j' = j
        · subst e; omega
        · exact H2 j' (by omega) i' h4 h5)]
      congr 1
      unfold widE btw
      have h1 : ∀ k < i, (at3 x k).1 ≤ (at3 y j).1 := fun k hk => H1 k hk j (Nat.le_refl _) hjl
      have h2 : ∀ k, i ≤ k → k < x.length → (at3 y j).1 < (at3 x k).1 := fun k hk hk2 => by
        have h6 := hx i k hk hk2
        have h7 := hlt (by omega)
        omega
      rw [wlo_eq hi (fun k hk => (Int.lt_or_eq_of_le (h1 k hk)).elim .inl (fun h4 => .inr ⟨rfl, h4⟩)) (fun k hk hk2 h3 => h3.elim (fun h4 => Int.lt_asymm h4 (h2 k hk hk2)) (fun h4 => Int.ne_of_gt (h2 k hk hk2) h4.2)),
        whi_eq hi (fun k hk h3 => h3.elim (fun h4 => Int.not_lt.2 (h1 k hk) h4) (fun h4 => Bool.noConfusion h4.1)) (fun k hk hk2 => .inl (h2 k hk hk2))]
theorem mergeQ_eq {x y : L3} {a b : Int} (hx : asc x) (hy : asc y) : mergeQ x y a b = mergeL x y a b :=
  mrgQ_eq hx hy _ 0 0 (by omega) (by omega) (by omega) (fun i' h => absurd h (by omega)) (fun j' h => absurd h (by omega))
def forTo (es : L3) (r : Int) : Nat → Nat
  | 0 => 0
  | i + 1 => if far (at3 es i) r < far (at3 es (forTo es r i)) r then i else forTo es r i
def forN (es : L3) (r : Int) : Nat := forTo es r es.length
def strict (es : L3) : Prop := ∀ i, i + 1 < es.length → (at3 es i).2.1 < (at3 es (i + 1)).2.1 ∧ (at3 es i).2.2 < (at3 es (i + 1)).2.2
theorem strict_of_val {N : Int} {es : L3} (h : valR N es = true) : strict es := fun i hi => by
  have := (((valR_iff.1 h).2.1 (i + 1) hi).2 (by omega)).2
  rwa [Nat.add_sub_cancel] at this
theorem far_iff {es : L3} (h : strict es) {i : Nat} (hi : i + 1 < es.length) (r : Int) : far (at3 es (i + 1)) r < far (at3 es i) r ↔ (at3 es (i + 1)).2.2 + (at3 es i).2.1 < 2 * r := by
  obtain ⟨h1, h2⟩ := h i hi
  unfold far
  omega
theorem far_rise {es : L3} (h : strict es) {i : Nat} (hi : i + 2 < es.length) {r : Int} (h2 : ¬ far (at3 es (i + 1)) r < far (at3 es i) r) : ¬ far (at3 es (i + 1 + 1)) r < far (at3 es (i + 1)) r ∧ far (at3 es (i + 1)) r < far (at3 es (i + 1 + 1)) r := by
  obtain ⟨h3, h4⟩ := h i (by omega)
  obtain ⟨h5, h6⟩ := h (i + 1) (by omega)
  unfold far at *
  omega
def fallsTo (es : L3) (r : Int) (s : Nat) : Prop := ∀ i < s, far (at3 es (i + 1)) r < far (at3 es i) r
theorem forTo_falls {es : L3} {r : Int} : ∀ s, fallsTo es r s → forTo es r (s + 1) = s
  | 0, _ => by simp [forTo]
  | s + 1, h => by
    have h1 := forTo_falls s (fun i hi => h i (by omega))
    rw [forTo, h1, if_pos (h s (by omega))]
theorem forTo_stays {es : L3} {r : Int} {s : Nat} (h : forTo es r (s + 1) = s) (h2 : ∀ i, s < i → i < es.length → ¬ far (at3 es i) r < far (at3 es s) r) : ∀ d, s + 1 + d ≤ es.length → forTo es r (s + 1 + d) = s
  | 0, _ => h
  | d + 1, hd => by
    have := forTo_stays h h2 d (by omega)
    rw [← Nat.add_assoc, forTo, this, if_neg (h2 _ (by omega) (by omega))]
theorem far_after {es : L3} (h : strict es) {s : Nat} {r : Int} (h2 : ¬ (s + 1 < es.length ∧ far (at3 es (s + 1)) r < far (at3 es s) r)) : ∀ d, s + 1 + d < es.length → far (at3 es s) r ≤ far (at3 es (s + d)) r ∧ ¬ far (at3 es (s + d + 1)) r < far (at3 es (s + d)) r
  | 0, hd => ⟨Int.le_refl _, fun h3 => h2 ⟨by omega, h3⟩⟩
  | d + 1, hd => by
    obtain ⟨h3, h4⟩ := far_after h h2 d (by omega)
    obtain ⟨h5, h6⟩ := far_rise h (i := s + d) (by omega) h4
    exact ⟨by rw [← Nat.add_assoc]; omega, h5⟩
theorem forN_stop {es : L3} (h : strict es) {s : Nat} {r : Int} (hs : s < es.length) (hf : fallsTo es r s) (h2 : ¬ (s + 1 < es.length ∧ far (at3 es (s + 1)) r < far (at3 es s) r)) : forN es r = s := by
  have := forTo_stays (forTo_falls s hf) (fun i hi hl => by
    obtain ⟨d, rfl⟩ : ∃ d, i = s + d + 1 := ⟨i - s - 1, by omega⟩
    obtain ⟨h3, h4⟩ := far_after h h2 d (by omega)
    omega) (es.length - (s + 1)) (by omega)
  rwa [show s + 1 + (es.length - (s + 1)) = es.length by omega] at this
theorem place_for {es : L3} (h : strict es) (r : Int) : ∀ d s, es.length - s = d → s < es.length → fallsTo es r s → place es r s = forN es r ∧ fallsTo es r (place es r s)
  | 0, s, hd, hs, _ => absurd hs (by omega)
  | d + 1, s, hd, hs, hf => by
    by_cases h2 : s + 1 < es.length ∧ far (at3 es (s + 1)) r < far (at3 es s) r
    · rw [place_go h2.1 h2.2]
      exact place_for h r d (s + 1) (by omega) h2.1 (fun i hi => by
        by_cases e : i = s
        · subst e; exact h2.2
        · exact hf i (by omega))
    · rw [place_stop h2]
      exact ⟨(forN_stop h hs hf h2).symm, hf⟩
theorem falls_mono {es : L3} (h : strict es) {r r' : Int} {s : Nat} (hs : s < es.length) (hr : r ≤ r') (hf : fallsTo es r s) : fallsTo es r' s := fun i hi => by
  have := (far_iff h (show i + 1 < es.length by omega) r).1 (hf i hi)
  exact (far_iff h (by omega) r').2 (by omega)
def pruQ (N b : Int) (es : L3) : Nat → Int × L3
  | 0 => (-1, [])
  | i + 1 => if (pruQ N b es i).1 < ((forN es (tgt N b i) : Nat) : Int) then (((forN es (tgt N b i) : Nat) : Int), (pruQ N b es i).2 ++ [at3 es (forN es (tgt N b i))]) else pruQ N b es i
theorem pruQ_new {N b : Int} {es : L3} {i : Nat} {l : Int} {o : L3} (h : pruQ N b es i = (l, o)) (hp : l < ((forN es (tgt N b i) : Nat) : Int)) : pruQ N b es (i + 1) = (((forN es (tgt N b i) : Nat) : Int), o ++ [at3 es (forN es (tgt N b i))]) := by
  simp only [pruQ, h]; rw [if_pos hp]
theorem pruQ_same {N b : Int} {es : L3} {i : Nat} {l : Int} {o : L3} (h : pruQ N b es i = (l, o)) (hp : ¬ l < ((forN es (tgt N b i) : Nat) : Int)) : pruQ N b es (i + 1) = (l, o) := by
  simp only [pruQ, h]; rw [if_neg hp]
theorem tgt_mono {N b : Int} (hN : 1 ≤ N) (hb : 1 ≤ b) (i : Nat) : tgt N b i ≤ tgt N b (i + 1) := by
  unfold tgt
  have h1 : (i : Int) * (N - 1) ≤ ((i + 1 : Nat) : Int) * (N - 1) := Int.mul_le_mul_of_nonneg_right (by omega) (by omega)
  have := Int.ediv_le_ediv (show 0 < b by omega) h1
  omega
theorem pru_eq {N b : Int} {es : L3} (h : strict es) (h0 : 0 < es.length) (hN : 1 ≤ N) (hb : 1 ≤ b) : ∀ i, pruQ N b es i = ((pruTo N b es i).1, (pruTo N b es i).2.2) ∧ (pruTo N b es i).2.1 < es.length ∧ fallsTo es (tgt N b i) (pruTo N b es i).2.1 ∧ (0 < i → (pruTo N b es i).1 = ((pruTo N b es i).2.1 : Nat)) ∧ (i = 0 → (pruTo N b es i).1 = -1)
  | 0 => ⟨rfl, h0, fun i hi => absurd hi (by simp [pruTo]), fun h => absurd h (by omega), fun _ => rfl⟩
  | i + 1 => by
    obtain ⟨h1, h2, h3, h4, h5⟩ := pru_eq h h0 hN hb i
    obtain ⟨h6, h7⟩ := place_for h (tgt N b i) _ _ rfl h2 h3
    have h8 := place_lt (n := tgt N b i) h2
    have hm := tgt_mono hN hb i
    have h9 := falls_mono h h8.2 hm h7
    rcases hp : pruTo N b es i with ⟨l, s, o⟩
    rw [hp] at h1 h2 h3 h4 h5 h6 h7 h8 h9
    simp only at h1 h2 h3 h4 h5 h6 h7 h8 h9
    by_cases e : ((place es (tgt N b i) s : Nat) : Int) = l
    · rw [pruTo_same hp e, pruQ_same h1 (by rw [← h6]; omega)]
      exact ⟨rfl, h8.2, h9, fun _ => e.symm, fun h => absurd h (by omega)⟩
    · have hl : l < ((place es (tgt N b i) s : Nat) : Int) := by
        by_cases e0 : i = 0
        · rw [h5 e0]; omega
        · have := h4 (by omega); omega
      rw [pruTo_new hp e, pruQ_new h1 (by rw [← h6]; exact hl), ← h6]
      exact ⟨rfl, h8.2, h9, fun _ => rfl, fun h => absurd h (by omega)⟩
end Go.Proofs.YtjapjfcennemeaaGreat.rnk
