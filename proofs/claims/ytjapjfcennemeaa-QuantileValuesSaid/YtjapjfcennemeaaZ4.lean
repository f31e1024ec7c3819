/- Mrg, MrgR, MrgV: proved here in one text, no conditions beyond those that each theorem states. -/
import Derived.Test.YtjapjfcennemeaaZ3
set_option linter.unusedVariables false
set_option linter.unusedSimpArgs false
section
namespace Go.Proofs.Ytjapjfcennemeaa.rnk
open Go.Proofs.Ytjapjfcennemeaa.mem
set_option linter.unusedVariables false
def btw (e : Int × Int × Int) (o : L3) (i : Nat) (n : Int) : Int × Int × Int :=
  (e.1, e.2.1 + (if 0 < i then (at3 o (i - 1)).2.1 else 0), e.2.2 + (if i < o.length then (at3 o i).2.2 - 1 else n))
def takeX (x y : L3) (i j : Nat) : Prop := j = y.length ∨ (i < x.length ∧ (at3 x i).1 ≤ (at3 y j).1)
instance takeX_dec (x y : L3) (i j : Nat) : Decidable (takeX x y i j) := by unfold takeX; exact inferInstance
def mrg (x y : L3) (a b : Int) : Nat → Nat → Nat → L3
  | 0, _, _ => []
  | f + 1, i, j => if takeX x y i j then btw (at3 x i) y j b :: mrg x y a b f (i + 1) j else btw (at3 y j) x i a :: mrg x y a b f i (j + 1)
theorem mrg_x {x y : L3} {a b : Int} {f i j : Nat} (h : takeX x y i j) : mrg x y a b (f + 1) i j = btw (at3 x i) y j b :: mrg x y a b f (i + 1) j := by simp [mrg, h]
theorem mrg_y {x y : L3} {a b : Int} {f i j : Nat} (h : ¬ takeX x y i j) : mrg x y a b (f + 1) i j = btw (at3 y j) x i a :: mrg x y a b f i (j + 1) := by simp [mrg, h]
def mergeL (x y : L3) (a b : Int) : L3 := mrg x y a b (x.length + y.length) 0 0
theorem mrg_length (x y : L3) (a b : Int) : ∀ f i j, (mrg x y a b f i j).length = f
  | 0, _, _ => rfl
  | f + 1, i, j => by
    by_cases h : takeX x y i j
    · rw [mrg_x h, List.length_cons, mrg_length x y a b f]
    · rw [mrg_y h, List.length_cons, mrg_length x y a b f]
theorem btw_nil (e : Int × Int × Int) : btw e [] 0 0 = e := by simp [btw]
theorem mrg_right (y : L3) (b : Int) (f : Nat) : ∀ j, j + f = y.length → mrg [] y 0 b f 0 j = y.drop j := by
  induction f with
  | zero => intro j h; rw [List.drop_of_length_le (by omega)]; rfl
  | succ f ih =>
    intro j h
    rw [mrg_y (by unfold takeX; simp; omega), ih (j + 1) (by omega), btw_nil]
    rw [List.drop_eq_getElem_cons (show j < y.length by omega)]
    simp [at3, List.getElem?_eq_getElem (show j < y.length by omega)]
theorem mrg_left (x : L3) (a : Int) (f : Nat) : ∀ i, i + f = x.length → mrg x [] a 0 f i 0 = x.drop i := by
  induction f with
  | zero => intro j h; rw [List.drop_of_length_le (by omega)]; rfl
  | succ f ih =>
    intro j h
    rw [mrg_x (by unfold takeX; simp), ih (j + 1) (by omega), btw_nil]
    rw [List.drop_eq_getElem_cons (show j < x.length by omega)]
    simp [at3, List.getElem?_eq_getElem (show j < x.length by omega)]
theorem mergeL_nil_left (y : L3) (b : Int) : mergeL [] y 0 b = y := by
  unfold mergeL; rw [mrg_right y b _ 0 (by simp)]; rfl
theorem mergeL_nil_right (x : L3) (a : Int) : mergeL x [] a 0 = x := by
  unfold mergeL; rw [mrg_left x a _ 0 (by simp)]; rfl
theorem nil_of_val {es : L3} (h : valR 0 es = true) : es = [] := by
  obtain ⟨⟨_, _, h1⟩, _⟩ := valR_iff.1 h
  exact List.eq_nil_of_length_eq_zero (h1.2 rfl)
def mrgOk (a : Int) (x : L3) (b : Int) (y : L3) : Bool := valR a x && valR b y && decide (a + b ≤ 1099511627776)
def mrgP (a : Int) (x : L3) (b : Int) (y : L3) : Int × L3 := if mrgOk a x b y = true then (a + b, mergeL x y a b) else (0, [])
def mrgE (a : Int) (x : L3) (b : Int) (y : L3) : Int := if valR a x = true ∧ valR b y = true then (if a + b ≤ 1099511627776 then 0 else 5) else 2
def far (e : Int × Int × Int) (n : Int) : Int := max (n - e.2.1) (e.2.2 - n)
def plc (es : L3) (n : Int) : Nat → Nat → Nat
  | 0, s => s
  | f + 1, s => if s + 1 < es.length ∧ far (at3 es (s + 1)) n < far (at3 es s) n then plc es n f (s + 1) else s
def place (es : L3) (n : Int) (s : Nat) : Nat := plc es n (es.length - s) s
theorem place_go {es : L3} {n : Int} {s : Nat} (h : s + 1 < es.length) (h2 : far (at3 es (s + 1)) n < far (at3 es s) n) : place es n s = place es n (s + 1) := by
  unfold place
  rw [show es.length - s = es.length - (s + 1) + 1 by omega]
  simp [plc, h, h2]
theorem place_stop {es : L3} {n : Int} {s : Nat} (h : ¬ (s + 1 < es.length ∧ far (at3 es (s + 1)) n < far (at3 es s) n)) : place es n s = s := by
  unfold place
  cases es.length - s with
  | zero => rfl
  | succ f => simp [plc, h]
theorem plc_le (es : L3) (n : Int) : ∀ f s, s < es.length → s ≤ plc es n f s ∧ plc es n f s < es.length
  | 0, s, h => ⟨Nat.le_refl _, h⟩
  | f + 1, s, h => by
    unfold plc
    split
    · rename_i h2
      have := plc_le es n f (s + 1) h2.1
      omega
    · omega
theorem place_lt {es : L3} {n : Int} {s : Nat} (h : s < es.length) : s ≤ place es n s ∧ place es n s < es.length := plc_le es n _ s h
def tgt (N b : Int) (i : Nat) : Int := 1 + (i : Int) * (N - 1) / b
def pruTo (N b : Int) (es : L3) : Nat → Int × Nat × L3
  | 0 => (-1, 0, [])
  | i + 1 => if ((place es (tgt N b i) (pruTo N b es i).2.1 : Nat) : Int) = (pruTo N b es i).1 then ((pruTo N b es i).1, place es (tgt N b i) (pruTo N b es i).2.1, (pruTo N b es i).2.2)
    else (((place es (tgt N b i) (pruTo N b es i).2.1 : Nat) : Int), place es (tgt N b i) (pruTo N b es i).2.1, (pruTo N b es i).2.2 ++ [at3 es (place es (tgt N b i) (pruTo N b es i).2.1)])
theorem pruTo_same {N b : Int} {es : L3} {i : Nat} {l : Int} {s : Nat} {o : L3} (h : pruTo N b es i = (l, s, o)) (hp : (place es (tgt N b i) s : Int) = l) : pruTo N b es (i + 1) = (l, place es (tgt N b i) s, o) := by
  simp only [pruTo, h]; rw [if_pos hp]
theorem pruTo_new {N b : Int} {es : L3} {i : Nat} {l : Int} {s : Nat} {o : L3} (h : pruTo N b es i = (l, s, o)) (hp : ¬ (place es (tgt N b i) s : Int) = l) : pruTo N b es (i + 1) = (((place es (tgt N b i) s : Nat) : Int), place es (tgt N b i) s, o ++ [at3 es (place es (tgt N b i) s)]) := by
  simp only [pruTo, h]; rw [if_neg hp]
theorem pruTo_lt {N b : Int} {es : L3} (h : 0 < es.length) : ∀ i, (pruTo N b es i).2.1 < es.length ∧ (pruTo N b es i).2.2.length ≤ i
  | 0 => ⟨h, Nat.le_refl _⟩
  | i + 1 => by
    obtain ⟨h1, h2⟩ := pruTo_lt (N := N) (b := b) h i
    have h3 := place_lt (n := tgt N b i) h1
    simp only [pruTo]
    split <;> simp <;> omega
def pruL (N b : Int) (es : L3) : L3 := if (es.length : Int) ≤ b + 1 then es else (pruTo N b es (b.toNat + 1)).2.2
def pruOk (N b : Int) (es : L3) : Bool := valR N es && decide (1 ≤ b) && decide (b ≤ 65536)
def pruP (N b : Int) (es : L3) : Int × L3 := if pruOk N b es = true then (N, pruL N b es) else (0, [])
def pruE (N b : Int) (es : L3) : Int := if valR N es = true then (if 1 ≤ b ∧ b ≤ 65536 then 0 else 1) else 2
theorem tgt_bd {N b : Int} {i : Nat} (hN : 1 ≤ N) (hN2 : N ≤ 1099511627776) (hb : 1 ≤ b) (hi : (i : Int) ≤ b) : 1 ≤ tgt N b i ∧ tgt N b i ≤ N := by
  unfold tgt
  have h1 : (0 : Int) ≤ (i : Int) * (N - 1) := Int.mul_nonneg (by omega) (by omega)
  have h2 : (i : Int) * (N - 1) ≤ b * (N - 1) := Int.mul_le_mul_of_nonneg_right hi (by omega)
  have h3 := Int.ediv_nonneg h1 (show 0 ≤ b by omega)
  have h4 : (i : Int) * (N - 1) / b ≤ N - 1 := Int.ediv_le_of_le_mul (by omega) (by rw [Int.mul_comm (N - 1) b]; exact h2)
  omega
end Go.Proofs.Ytjapjfcennemeaa.rnk
end
section
namespace Go.Proofs.Ytjapjfcennemeaa.rnk
open Go.Proofs.Ytjapjfcennemeaa.mem
set_option linter.unusedVariables false
def asc (xs : L3) : Prop := ∀ i j, i ≤ j → j < xs.length → (at3 xs i).1 ≤ (at3 xs j).1
theorem asc_of_step {xs : L3} (h : ∀ i, 0 < i → i < xs.length → (at3 xs (i - 1)).1 ≤ (at3 xs i).1) : asc xs := by
  intro i j hij
  induction j with
  | zero =>
    intro _
    rw [show i = 0 by omega]
    exact Int.le_refl _
  | succ j ih =>
    intro hj
    by_cases e : i = j + 1
    · subst e; exact Int.le_refl _
    · have h1 := ih (by omega) (by omega)
      have h2 := h (j + 1) (by omega) hj
      rw [Nat.add_sub_cancel] at h2
      omega
theorem asc_of_val {N : Int} {es : L3} (h : valR N es = true) : asc es := asc_of_step fun i h0 hi => (((valR_iff.1 h).2.1 i hi).2 h0).1
def forTo (es : L3) (r : Int) : Nat → Nat
  | 0 => 0
  | i + 1 => if far (at3 es i) r < far (at3 es (forTo es r i)) r then i else forTo es r i
def forN (es : L3) (r : Int) : Nat := forTo es r es.length
def strict (es : L3) : Prop := ∀ i, i + 1 < es.length → (at3 es i).2.1 < (at3 es (i + 1)).2.1 ∧ (at3 es i).2.2 < (at3 es (i + 1)).2.2
theorem strict_of_val {N : Int} {es : L3} (h : valR N es = true) : strict es := fun i hi => by
  have := (((valR_iff.1 h).2.1 (i + 1) hi).2 (by omega)).2
  rwa [Nat.add_sub_cancel] at this
theorem far_iff {es : L3} (h : strict es) {i : Nat} (hi : i + 1 < es.length) (r : Int) : far (at3 es (i + 1)) r < far (at3 es i) r ↔ (at3 es (i + 1)).2.2 + (at3 es i).2.1 < 2 * r := by
  obtain ⟨h1, h2⟩ := h i hi
  unfold far
  omega
theorem far_rise {es : L3} (h : strict es) {i : Nat} (hi : i + 2 < es.length) {r : Int} (h2 : ¬ far (at3 es (i + 1)) r < far (at3 es i) r) : ¬ far (at3 es (i + 1 + 1)) r < far (at3 es (i + 1)) r ∧ far (at3 es (i + 1)) r < far (at3 es (i + 1 + 1)) r := by
  obtain ⟨h3, h4⟩ := h i (by omega)
  obtain ⟨h5, h6⟩ := h (i + 1) (by omega)
  unfold far at *
  omega
def fallsTo (es : L3) (r : Int) (s : Nat) : Prop := ∀ i < s, far (at3 es (i + 1)) r < far (at3 es i) r
theorem forTo_falls {es : L3} {r : Int} : ∀ s, fallsTo es r s → forTo es r (s + 1) = s
  | 0, _ => by simp [forTo]
  | s + 1, h => by
    have h1 := forTo_falls s (fun i hi => h i (by omega))
    rw [forTo, h1, if_pos (h s (by omega))]
theorem forTo_stays {es : L3} {r : Int} {s : Nat} (h : forTo es r (s + 1) = s) (h2 : ∀ i, s < i → i < es.length → ¬ far (at3 es i) r < far (at3 es s) r) : ∀ d, s + 1 + d ≤ es.length → forTo es r (s + 1 + d) = s
  | 0, _ => h
  | d + 1, hd => by
    have := forTo_stays h h2 d (by omega)
    rw [← Nat.add_assoc, forTo, this, if_neg (h2 _ (by omega) (by omega))]
theorem far_after {es : L3} (h : strict es) {s : Nat} {r : Int} (h2 : ¬ (s + 1 < es.length ∧ far (at3 es (s + 1)) r < far (at3 es s) r)) : ∀ d, s + 1 + d < es.length → far (at3 es s) r ≤ far (at3 es (s + d)) r ∧ ¬ far (at3 es (s + d + 1)) r < far (at3 es (s + d)) r
  | 0, hd => ⟨Int.le_refl _, fun h3 => h2 ⟨by omega, h3⟩⟩
  | d + 1, hd => by
    obtain ⟨h3, h4⟩ := far_after h h2 d (by omega)
    obtain ⟨h5, h6⟩ := far_rise h (i := s + d) (by omega) h4
    exact ⟨by rw [← Nat.add_assoc]; omega, h5⟩
theorem forN_stop {es : L3} (h : strict es) {s : Nat} {r : Int} (hs : s < es.length) (hf : fallsTo es r s) (h2 : ¬ (s + 1 < es.length ∧ far (at3 es (s + 1)) r < far (at3 es s) r)) : forN es r = s := by
  have := forTo_stays (forTo_falls s hf) (fun i hi hl => by
    obtain ⟨d, rfl⟩ : ∃ d, i = s + d + 1 := ⟨i - s - 1, by omega⟩
    obtain ⟨h3, h4⟩ := far_after h h2 d (by omega)
    omega) (es.length - (s + 1)) (by omega)
  rwa [show s + 1 + (es.length - (s + 1)) = es.length by omega] at this
theorem place_for {es : L3} (h : strict es) (r : Int) : ∀ d s, es.length - s = d → s < es.length → fallsTo es r s → place es r s = forN es r ∧ fallsTo es r (place es r s)
  | 0, s, hd, hs, _ => absurd hs (by omega)
  | d + 1, s, hd, hs, hf => by
    by_cases h2 : s + 1 < es.length ∧ far (at3 es (s + 1)) r < far (at3 es s) r
    · rw [place_go h2.1 h2.2]
      exact place_for h r d (s + 1) (by omega) h2.1 (fun i hi => by
        by_cases e : i = s
        · subst e; exact h2.2
        · exact hf i (by omega))
    · rw [place_stop h2]
      exact ⟨(forN_stop h hs hf h2).symm, hf⟩
theorem falls_mono {es : L3} (h : strict es) {r r' : Int} {s : Nat} (hs : s < es.length) (hr : r ≤ r') (hf : fallsTo es r s) : fallsTo es r' s := fun i hi => by
  have := (far_iff h (show i + 1 < es.length by omega) r).1 (hf i hi)
  exact (far_iff h (by omega) r').2 (by omega)
def pruQ (N b : Int) (es : L3) : Nat → Int × L3
  | 0 => (-1, [])
  | i + 1 => if (pruQ N b es i).1 < ((forN es (tgt N b i) : Nat) : Int) then (((forN es (tgt N b i) : Nat) : Int), (pruQ N b es i).2 ++ [at3 es (forN es (tgt N b i))]) else pruQ N b es i
theorem pruQ_new {N b : Int} {es : L3} {i : Nat} {l : Int} {o : L3} (h : pruQ N b es i = (l, o)) (hp : l < ((forN es (tgt N b i) : Nat) : Int)) : pruQ N b es (i + 1) = (((forN es (tgt N b i) : Nat) : Int), o ++ [at3 es (forN es (tgt N b i))]) := by
  simp only [pruQ, h]; rw [if_pos hp]
theorem pruQ_same {N b : Int} {es : L3} {i : Nat} {l : Int} {o : L3} (h : pruQ N b es i = (l, o)) (hp : ¬ l < ((forN es (tgt N b i) : Nat) : Int)) : pruQ N b es (i + 1) = (l, o) := by
  simp only [pruQ, h]; rw [if_neg hp]
theorem tgt_mono {N b : Int} (hN : 1 ≤ N) (hb : 1 ≤ b) (i : Nat) : tgt N b i ≤ tgt N b (i + 1) := by
  unfold tgt
  have h1 : (i : Int) * (N - 1) ≤ ((i + 1 : Nat) : Int) * (N - 1) := Int.mul_le_mul_of_nonneg_right (by omega) (by omega)
  have := Int.ediv_le_ediv (show 0 < b by omega) h1
  omega
theorem pru_eq {N b : Int} {es : L3} (h : strict es) (h0 : 0 < es.length) (hN : 1 ≤ N) (hb : 1 ≤ b) : ∀ i, pruQ N b es i = ((pruTo N b es i).1, (pruTo N b es i).2.2) ∧ (pruTo N b es i).2.1 < es.length ∧ fallsTo es (tgt N b i) (pruTo N b es i).2.1 ∧ (0 < i → (pruTo N b es i).1 = ((pruTo N b es i).2.1 : Nat)) ∧ (i = 0 → (pruTo N b es i).1 = -1)
  | 0 => ⟨rfl, h0, fun i hi => absurd hi (by simp [pruTo]), fun h => absurd h (by omega), fun _ => rfl⟩
  | i + 1 => by
    obtain ⟨h1, h2, h3, h4, h5⟩ := pru_eq h h0 hN hb i
    obtain ⟨h6, h7⟩ := place_for h (tgt N b i) _ _ rfl h2 h3
    have h8 := place_lt (n := tgt N b i) h2
    have hm := tgt_mono hN hb i
    have h9 := falls_mono h h8.2 hm h7
    rcases hp : pruTo N b es i with ⟨l, s, o⟩
    rw [hp] at h1 h2 h3 h4 h5 h6 h7 h8 h9
    simp only at h1 h2 h3 h4 h5 h6 h7 h8 h9
    by_cases e : ((place es (tgt N b i) s : Nat) : Int) = l
    · rw [pruTo_same hp e, pruQ_same h1 (by rw [← h6]; omega)]
      exact ⟨rfl, h8.2, h9, fun _ => e.symm, fun h => absurd h (by omega)⟩
    · have hl : l < ((place es (tgt N b i) s : Nat) : Int) := by
        by_cases e0 : i = 0
        · rw [h5 e0]; omega
        · have := h4 (by omega); omega
      rw [pruTo_new hp e, pruQ_new h1 (by rw [← h6]; exact hl), ← h6]
      exact ⟨rfl, h8.2, h9, fun _ => rfl, fun h => absurd h (by omega)⟩
end Go.Proofs.Ytjapjfcennemeaa.rnk
end
section
namespace Go.Proofs.Ytjapjfcennemeaa.rnk
open Go.Proofs.Ytjapjfcennemeaa.mem
set_option linter.unusedVariables false
def lw (x : L3) (i : Nat) : Int := if 0 < i then (at3 x (i - 1)).2.1 else 0
def up (x : L3) (n : Int) (i : Nat) : Int := if i < x.length then (at3 x i).2.2 - 1 else n
theorem btw_up (e : Int × Int × Int) (o : L3) (i : Nat) (n : Int) : btw e o i n = (e.1, e.2.1 + lw o i, e.2.2 + up o n i) := rfl
def path (x y : L3) : Nat → Nat × Nat
  | 0 => (0, 0)
  | s + 1 => if takeX x y (path x y s).1 (path x y s).2 then ((path x y s).1 + 1, (path x y s).2) else ((path x y s).1, (path x y s).2 + 1)
theorem path_le {x y : L3} : ∀ s, s ≤ x.length + y.length → (path x y s).1 ≤ x.length ∧ (path x y s).2 ≤ y.length ∧ (path x y s).1 + (path x y s).2 = s
  | 0, _ => ⟨Nat.zero_le _, Nat.zero_le _, rfl⟩
  | s + 1, h => by
    obtain ⟨h1, h2, h3⟩ := path_le (x := x) (y := y) s (by omega)
    simp only [path]
    split
    · rename_i ht
      unfold takeX at ht
      simp only
      omega
    · rename_i ht
      unfold takeX at ht
      simp only
      omega
theorem mrg_at {x y : L3} {a b : Int} : ∀ f s, s + f = x.length + y.length → ∀ k < f, at3 (mrg x y a b f (path x y s).1 (path x y s).2) k = (if takeX x y (path x y (s + k)).1 (path x y (s + k)).2 then btw (at3 x (path x y (s + k)).1) y (path x y (s + k)).2 b else btw (at3 y (path x y (s + k)).2) x (path x y (s + k)).1 a)
  | 0, _, _, k, hk => absurd hk (by omega)
  | f + 1, s, hs, k, hk => by
    have ih := mrg_at (x := x) (y := y) (a := a) (b := b) f (s + 1) (by omega)
    by_cases h : takeX x y (path x y s).1 (path x y s).2
    · rw [mrg_x h]
      have e : path x y (s + 1) = ((path x y s).1 + 1, (path x y s).2) := by simp only [path]; rw [if_pos h]
      cases k with
      | zero => simp only [Nat.add_zero]; rw [if_pos h]; rfl
      | succ k =>
        have := ih k (by omega)
        rw [e] at this
        rw [show s + (k + 1) = s + 1 + k by omega]
        exact this
    · rw [mrg_y h]
      have e : path x y (s + 1) = ((path x y s).1, (path x y s).2 + 1) := by simp only [path]; rw [if_neg h]
      cases k with
      | zero => simp only [Nat.add_zero]; rw [if_neg h]; rfl
      | succ k =>
        have := ih k (by omega)
        rw [e] at this
        rw [show s + (k + 1) = s + 1 + k by omega]
        exact this
def nxt (x y : L3) (s : Nat) : Int := if takeX x y (path x y s).1 (path x y s).2 then (at3 x (path x y s).1).1 else (at3 y (path x y s).2).1
theorem path_cases {x y : L3} {s : Nat} (hs : s < x.length + y.length) : (path x y (s + 1) = ((path x y s).1 + 1, (path x y s).2) ∧ (path x y s).1 < x.length ∧ nxt x y s = (at3 x (path x y s).1).1 ∧ ((path x y s).2 < y.length → (at3 x (path x y s).1).1 ≤ (at3 y (path x y s).2).1)) ∨ (path x y (s + 1) = ((path x y s).1, (path x y s).2 + 1) ∧ (path x y s).2 < y.length ∧ nxt x y s = (at3 y (path x y s).2).1 ∧ ((path x y s).1 < x.length → (at3 y (path x y s).2).1 < (at3 x (path x y s).1).1)) := by
  obtain ⟨h1, h2, h3⟩ := path_le (x := x) (y := y) s (by omega)
  unfold nxt
  simp only [path]
  by_cases h : takeX x y (path x y s).1 (path x y s).2
  · left
    rw [if_pos h, if_pos h]
    unfold takeX at h
    refine ⟨rfl, by omega, rfl, fun h4 => ?_⟩
    rcases h with h | h
    · omega
    · exact h.2
  · right
    rw [if_neg h, if_neg h]
    unfold takeX at h
    refine ⟨rfl, by omega, rfl, fun h4 => ?_⟩
    omega
theorem merge_at {x y : L3} {a b : Int} {s : Nat} (hs : s < x.length + y.length) : at3 (mergeL x y a b) s = (nxt x y s, lw x (path x y (s + 1)).1 + lw y (path x y (s + 1)).2, up x a (path x y s).1 + up y b (path x y s).2 + 1) := by
  have h := mrg_at (x := x) (y := y) (a := a) (b := b) (x.length + y.length) 0 (by omega) s hs
  rw [Nat.zero_add] at h
  unfold mergeL
  rw [show (path x y 0).1 = 0 from rfl, show (path x y 0).2 = 0 from rfl] at h
  rw [h]
  unfold nxt
  have hp : path x y (s + 1) = if takeX x y (path x y s).1 (path x y s).2 then ((path x y s).1 + 1, (path x y s).2) else ((path x y s).1, (path x y s).2 + 1) := rfl
  have hc := path_cases hs
  by_cases ht : takeX x y (path x y s).1 (path x y s).2
  · rw [if_pos ht, if_pos ht, btw_up, hp, if_pos ht]
    have h4 : (path x y s).1 < x.length := by
      rcases hc with hc | hc
      · exact hc.2.1
      · rw [hp, if_pos ht] at hc
        have := congrArg Prod.fst hc.1
        simp at this
    simp only [lw, up, if_pos h4]
    rw [if_pos (show 0 < (path x y s).1 + 1 by omega), Nat.add_sub_cancel]
    refine Prod.ext rfl (Prod.ext rfl ?_)
    simp only
    omega
  · rw [if_neg ht, if_neg ht, btw_up, hp, if_neg ht]
    have h4 : (path x y s).2 < y.length := by
      rcases hc with hc | hc
      · rw [hp, if_neg ht] at hc
        have := congrArg Prod.fst hc.1
        simp at this
      · exact hc.2.1
    simp only [lw, up, if_pos h4]
    rw [if_pos (show 0 < (path x y s).2 + 1 by omega), Nat.add_sub_cancel]
    refine Prod.ext rfl (Prod.ext ?_ ?_)
    · simp only; omega
    · simp only; omega
section
variable {a : Int} {x : L3}
theorem lw_step (h : valR a x = true) {i : Nat} (hi : i < x.length) : lw x i < lw x (i + 1) := by
  have h2 := (valR_iff.1 h).2.1 i hi
  unfold lw
  rw [if_pos (Nat.succ_pos i), Nat.add_sub_cancel]
  split
  · rename_i h0; exact (h2.2 h0).2.1
  · omega
theorem up_step (h : valR a x = true) {i : Nat} (hi : i < x.length) : up x a i < up x a (i + 1) := by
  have h2 := (valR_iff.1 h).2.1 i hi
  unfold up
  rw [if_pos hi]
  split
  · rename_i h0; have := (((valR_iff.1 h).2.1 (i + 1) h0).2 (by omega)).2.2; rw [Nat.add_sub_cancel] at this; omega
  · omega
theorem lw_up (h : valR a x = true) {i : Nat} (hi : i ≤ x.length) : lw x i ≤ up x a i := by
  obtain ⟨⟨h0, _, h1⟩, h2, h3⟩ := valR_iff.1 h
  unfold lw up
  by_cases e : i < x.length
  · have h4 := h2 i e
    rw [if_pos e]
    split
    · rename_i h5; have := (h4.2 h5).2.1; omega
    · omega
  · rw [if_neg e]
    split
    · rename_i h5; have := (h2 (i - 1) (by omega)).1; omega
    · omega
theorem lw_end (h : valR a x = true) : lw x x.length = a := by
  obtain ⟨⟨h0, _, h1⟩, h2, h3⟩ := valR_iff.1 h
  unfold lw
  split
  · rename_i h5; exact (h3 h5).2
  · rename_i h5; rw [h1.1 (by omega)]
theorem up_zero (h : valR a x = true) : up x a 0 = 0 := by
  obtain ⟨⟨h0, _, h1⟩, h2, h3⟩ := valR_iff.1 h
  unfold up
  split
  · rename_i h5; have := (h3 h5).1; omega
  · rename_i h5; rw [h1.1 (by omega)]
theorem lw_nn (h : valR a x = true) {i : Nat} (hi : i ≤ x.length) : 0 ≤ lw x i := by
  obtain ⟨⟨h0, _, h1⟩, h2, h3⟩ := valR_iff.1 h
  unfold lw
  split
  · have := (h2 (i - 1) (by omega)).1; omega
  · omega
theorem up_le (h : valR a x = true) {i : Nat} (hi : i ≤ x.length) : up x a i ≤ a := by
  obtain ⟨⟨h0, _, h1⟩, h2, h3⟩ := valR_iff.1 h
  unfold up
  split
  · rename_i h4; have := (h2 i h4).1; omega
  · omega
theorem gap_le {g : Int} (hg : 1 ≤ g) : ∀ k, (∀ i, 0 < i → i ≤ k → (at3 x i).2.2 - (at3 x (i - 1)).2.1 ≤ g) → gapTo x k ≤ g
  | 0, _ => hg
  | k + 1, h => by
    have h1 := gap_le hg k (fun i h0 hi => h i h0 (by omega))
    have h2 := h (k + 1) (by omega) (Nat.le_refl _)
    rw [Nat.add_sub_cancel] at h2
    unfold gapTo
    omega
theorem gap_ge : ∀ k i, 0 < i → i ≤ k → (at3 x i).2.2 - (at3 x (i - 1)).2.1 ≤ gapTo x k
  | 0, i, h0, hi => absurd hi (by omega)
  | k + 1, i, h0, hi => by
    unfold gapTo
    by_cases e : i = k + 1
    · subst e; rw [Nat.add_sub_cancel]; omega
    · have := gap_ge k i h0 (by omega); omega
theorem gap_one : ∀ k, 1 ≤ gapTo x k
  | 0 => Int.le_refl _
  | k + 1 => by have := gap_one k; unfold gapTo; omega
theorem up_lw_gap (h : valR a x = true) {i : Nat} (hi : i ≤ x.length) : up x a i - lw x i ≤ gapTo x (x.length - 1) - 1 := by
  have h1 := gap_one (x := x) (x.length - 1)
  by_cases e0 : i = 0
  · subst e0; rw [up_zero h]; simp only [lw]; simp; omega
  by_cases e1 : i = x.length
  · subst e1; rw [lw_end h]; have := up_le h (Nat.le_refl _); omega
  · have := gap_ge (x := x) (x.length - 1) i (by omega) (by omega)
    unfold up lw
    rw [if_pos (by omega), if_pos (by omega)]
    omega
end
section
variable {a b : Int} {x y : L3}
theorem path_step (hx : valR a x = true) (hy : valR b y = true) {s : Nat} (hs : s < x.length + y.length) : lw x (path x y s).1 + lw y (path x y s).2 < lw x (path x y (s + 1)).1 + lw y (path x y (s + 1)).2 ∧ up x a (path x y s).1 + up y b (path x y s).2 < up x a (path x y (s + 1)).1 + up y b (path x y (s + 1)).2 := by
  rcases path_cases hs with ⟨h1, h2, _⟩ | ⟨h1, h2, _⟩
  · rw [h1]; have := lw_step hx h2; have := up_step hx h2; simp only; omega
  · rw [h1]; have := lw_step hy h2; have := up_step hy h2; simp only; omega
theorem nxt_mono (hx : asc x) (hy : asc y) {s : Nat} (hs : s + 1 < x.length + y.length) : nxt x y s ≤ nxt x y (s + 1) := by
  rcases path_cases (x := x) (y := y) (s := s) (by omega) with ⟨h1, h2, h3, h4⟩ | ⟨h1, h2, h3, h4⟩
  · rcases path_cases hs with ⟨g1, g2, g3, g4⟩ | ⟨g1, g2, g3, g4⟩
    · rw [h3, g3]; rw [h1] at g2 ⊢; exact hx _ _ (Nat.le_succ _) g2
    · rw [h3, g3]; rw [h1] at g2 ⊢; exact h4 g2
  · rcases path_cases hs with ⟨g1, g2, g3, g4⟩ | ⟨g1, g2, g3, g4⟩
    · rw [h3, g3]; rw [h1] at g2 ⊢; exact Int.le_of_lt (h4 g2)
    · rw [h3, g3]; rw [h1] at g2 ⊢; exact hy _ _ (Nat.le_succ _) g2
theorem merge_len (x y : L3) (a b : Int) : (mergeL x y a b).length = x.length + y.length := mrg_length _ _ _ _ _ _ _
theorem path_end : path x y (x.length + y.length) = (x.length, y.length) := by
  obtain ⟨h1, h2, h3⟩ := path_le (x := x) (y := y) _ (Nat.le_refl _)
  exact Prod.ext (by simp only; omega) (by simp only; omega)
theorem merge_valid (hx : valR a x = true) (hy : valR b y = true) (hab : a + b ≤ 1099511627776) : valR (a + b) (mergeL x y a b) = true := by
  obtain ⟨⟨ha0, _, ha1⟩, _⟩ := valR_iff.1 hx
  obtain ⟨⟨hb0, _, hb1⟩, _⟩ := valR_iff.1 hy
  refine valR_iff.2 ⟨⟨by omega, hab, ?_⟩, fun s hs => ?_, fun h0 => ?_⟩
  · rw [merge_len]; constructor
    · intro h; have := ha1.1 (by omega); have := hb1.1 (by omega); omega
    · intro h; have := ha1.2 (by omega); have := hb1.2 (by omega); omega
  · rw [merge_len] at hs
    rw [merge_at hs]
    obtain ⟨p1, p2, p3⟩ := path_le (x := x) (y := y) s (by omega)
    obtain ⟨p4, p5, p6⟩ := path_le (x := x) (y := y) (s + 1) (by omega)
    obtain ⟨q1, q2⟩ := path_step hx hy hs
    have n1 := lw_nn hx p1
    have n2 := lw_nn hy p2
    have n3 := lw_up hx p1
    have n4 := lw_up hy p2
    have n5 := up_le hx p4
    have n6 := up_le hy p5
    refine ⟨⟨by simp only; omega, ?_, by simp only; omega⟩, fun h0 => ?_⟩
    · simp only
      rcases path_cases hs with ⟨h1, h2, _⟩ | ⟨h1, h2, _⟩
      · rw [h1]
        have := (((valR_iff.1 hx).2.1 _ h2).1).2.1
        simp only [lw, up, if_pos h2] at n4 ⊢
        rw [if_pos (Nat.succ_pos _), Nat.add_sub_cancel]
        omega
      · rw [h1]
        have := (((valR_iff.1 hy).2.1 _ h2).1).2.1
        simp only [lw, up, if_pos h2] at n3 ⊢
        rw [if_pos (Nat.succ_pos ((path x y s).2)), Nat.add_sub_cancel]
        omega
    · obtain ⟨s, rfl⟩ : ∃ t, s = t + 1 := ⟨s - 1, by omega⟩
      rw [Nat.add_sub_cancel, merge_at (show s < x.length + y.length by omega)]
      obtain ⟨q3, q4⟩ := path_step hx hy (show s < x.length + y.length by omega)
      exact ⟨nxt_mono (asc_of_val hx) (asc_of_val hy) hs, q1, by simp only; omega⟩
  · rw [merge_len] at h0 ⊢
    rw [merge_at h0, merge_at (show x.length + y.length - 1 < x.length + y.length by omega), show x.length + y.length - 1 + 1 = x.length + y.length by omega, path_end]
    refine ⟨?_, ?_⟩
    · show up x a 0 + up y b 0 + 1 = 1
      rw [up_zero hx, up_zero hy]; rfl
    · show lw x x.length + lw y y.length = a + b
      rw [lw_end hx, lw_end hy]
theorem merge_gap (hx : valR a x = true) (hy : valR b y = true) : gapTo (mergeL x y a b) ((mergeL x y a b).length - 1) - 1 ≤ (gapTo x (x.length - 1) - 1) + (gapTo y (y.length - 1) - 1) := by
  have g1 := gap_one (x := x) (x.length - 1)
  have g2 := gap_one (x := y) (y.length - 1)
  have := gap_le (x := mergeL x y a b) (g := gapTo x (x.length - 1) + gapTo y (y.length - 1) - 1) (by omega) ((mergeL x y a b).length - 1) (fun i h0 hi => by
    rw [merge_len] at hi
    obtain ⟨i, rfl⟩ : ∃ t, i = t + 1 := ⟨i - 1, by omega⟩
    rw [Nat.add_sub_cancel, merge_at (show i < x.length + y.length by omega), merge_at (show i + 1 < x.length + y.length by omega)]
    obtain ⟨p1, p2, p3⟩ := path_le (x := x) (y := y) (i + 1) (by omega)
    have h1 := up_lw_gap hx p1
    have h2 := up_lw_gap hy p2
    simp only
    omega)
  omega
theorem nxt_bd {lo hi : Int} (hx : ∀ i < x.length, lo ≤ (at3 x i).1 ∧ (at3 x i).1 ≤ hi) (hy : ∀ i < y.length, lo ≤ (at3 y i).1 ∧ (at3 y i).1 ≤ hi) {s : Nat} (hs : s < x.length + y.length) : lo ≤ nxt x y s ∧ nxt x y s ≤ hi := by
  rcases path_cases hs with ⟨_, h2, h3, _⟩ | ⟨_, h2, h3, _⟩
  · rw [h3]; exact hx _ h2
  · rw [h3]; exact hy _ h2
end
end Go.Proofs.Ytjapjfcennemeaa.rnk
end
