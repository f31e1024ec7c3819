/- Rnk; Mrg: texts in one. -/
import Derived.Test.YtjapjfcennemeaaMgTri
set_option linter.unusedVariables false
set_option linter.unusedSimpArgs false
/- Plain: rank summaries as lists of triples: validity, gap. No program. -/
namespace Go.Proofs.Ytjapjfcennemeaa.rnk
open Go.Proofs.Ytjapjfcennemeaa.mem
set_option linter.unusedVariables false
def enAt (N : Int) (es : L3) (i : Nat) : Bool :=
  (decide (1 ≤ (at3 es i).2.1) && decide ((at3 es i).2.1 ≤ (at3 es i).2.2) && decide ((at3 es i).2.2 ≤ N)) &&
  (decide (i = 0) || (decide ((at3 es (i - 1)).1 ≤ (at3 es i).1) && decide ((at3 es (i - 1)).2.1 < (at3 es i).2.1) && decide ((at3 es (i - 1)).2.2 < (at3 es i).2.2)))
def enTo (N : Int) (es : L3) : Nat → Bool
  | 0 => true
  | i + 1 => enTo N es i && enAt N es i
theorem enTo_succ {N : Int} {es : L3} {i : Nat} (h : enTo N es i = true) (h2 : enAt N es i = true) : enTo N es (i + 1) = true := by unfold enTo; rw [h, h2]; rfl
theorem enTo_not {N : Int} {es : L3} {i : Nat} (h : enAt N es i = false) : ∀ n, i < n → enTo N es n = false
  | 0, h2 => absurd h2 (by omega)
  | n + 1, h2 => by
    unfold enTo
    by_cases e : i = n
    · subst e; rw [h, Bool.and_false]
    · rw [enTo_not h n (by omega), Bool.false_and]
theorem enTo_iff {N : Int} {es : L3} : ∀ n, enTo N es n = true ↔ ∀ i < n, enAt N es i = true
  | 0 => ⟨fun _ i h => absurd h (by omega), fun _ => rfl⟩
  | n + 1 => by
    unfold enTo
    rw [Bool.and_eq_true, enTo_iff n]
    constructor
    · rintro ⟨h1, h2⟩ i hi
      by_cases e : i = n
      · rw [e]; exact h2
      · exact h1 i (by omega)
    · intro h; exact ⟨fun i hi => h i (by omega), h n (by omega)⟩
/-- The number is in range, and there are entries just if there are values. -/
def headR (N : Int) (n : Nat) : Bool := decide (0 ≤ N) && decide (N ≤ 1099511627776) && (decide (n = 0) == decide (N = 0))
/-- The first entry has rank 1 at most, the last one rank N at least. -/
def endsR (N : Int) (es : L3) (n : Nat) : Bool := decide (n = 0) || (decide ((at3 es 0).2.2 = 1) && decide ((at3 es (n - 1)).2.1 = N))
def valR (N : Int) (es : L3) : Bool := headR N es.length && enTo N es es.length && endsR N es es.length
def erS (b : Bool) : Int := if b = true then 0 else 2
theorem erS_t : erS true = 0 := rfl
theorem erS_f : erS false = 2 := rfl
theorem erS_0 {b : Bool} : erS b = 0 ↔ b = true := by cases b <;> simp [erS]
section
variable {N : Int} {es : L3} {n i : Nat}
theorem valR_head (hl : es.length = n) (h : headR N n = false) : valR N es = false := by unfold valR; rw [hl, h]; rfl
theorem valR_not (hl : es.length = n) (hi : i < n) (h : enAt N es i = false) : valR N es = false := by unfold valR; rw [hl, enTo_not h n hi, Bool.and_false, Bool.false_and]
theorem valR_ends (hl : es.length = n) (h : endsR N es n = false) : valR N es = false := by unfold valR; rw [hl, h, Bool.and_false]
theorem valR_yes (hl : es.length = n) (h : headR N n = true) (ho : enTo N es n = true) (he : endsR N es n = true) : valR N es = true := by unfold valR; rw [hl, h, ho, he]; rfl
theorem headR_iff : headR N n = true ↔ 0 ≤ N ∧ N ≤ 1099511627776 ∧ (n = 0 ↔ N = 0) := by unfold headR; simp [and_assoc]
theorem enAt_iff : enAt N es i = true ↔ (1 ≤ (at3 es i).2.1 ∧ (at3 es i).2.1 ≤ (at3 es i).2.2 ∧ (at3 es i).2.2 ≤ N) ∧ (0 < i → (at3 es (i - 1)).1 ≤ (at3 es i).1 ∧ (at3 es (i - 1)).2.1 < (at3 es i).2.1 ∧ (at3 es (i - 1)).2.2 < (at3 es i).2.2) := by
  unfold enAt
  simp only [Bool.and_eq_true, Bool.or_eq_true, decide_eq_true_eq]
  constructor
  · rintro ⟨⟨⟨h1, h2⟩, h3⟩, h4⟩
    refine ⟨⟨h1, h2, h3⟩, fun h => ?_⟩
    rcases h4 with h4 | ⟨⟨h4, h5⟩, h6⟩
    · omega
    · exact ⟨h4, h5, h6⟩
  · rintro ⟨⟨h1, h2, h3⟩, h4⟩
    refine ⟨⟨⟨h1, h2⟩, h3⟩, ?_⟩
    by_cases h : i = 0
    · exact .inl h
    · obtain ⟨h5, h6, h7⟩ := h4 (by omega)
      exact .inr ⟨⟨h5, h6⟩, h7⟩
theorem enAt_iff0 : enAt N es i = false ↔ ¬ ((1 ≤ (at3 es i).2.1 ∧ (at3 es i).2.1 ≤ (at3 es i).2.2 ∧ (at3 es i).2.2 ≤ N) ∧ (0 < i → (at3 es (i - 1)).1 ≤ (at3 es i).1 ∧ (at3 es (i - 1)).2.1 < (at3 es i).2.1 ∧ (at3 es (i - 1)).2.2 < (at3 es i).2.2)) := by rw [← enAt_iff]; simp
theorem endsR_iff : endsR N es n = true ↔ (0 < n → (at3 es 0).2.2 = 1 ∧ (at3 es (n - 1)).2.1 = N) := by
  unfold endsR
  simp only [Bool.and_eq_true, Bool.or_eq_true, decide_eq_true_eq]
  constructor
  · rintro (h | h) h0
    · omega
    · exact h
  · intro h
    by_cases h0 : n = 0
    · exact .inl h0
    · exact .inr (h (by omega))
theorem endsR_iff0 : endsR N es n = false ↔ ¬ (0 < n → (at3 es 0).2.2 = 1 ∧ (at3 es (n - 1)).2.1 = N) := by rw [← endsR_iff]; simp
theorem valR_iff : valR N es = true ↔ (0 ≤ N ∧ N ≤ 1099511627776 ∧ (es.length = 0 ↔ N = 0)) ∧ (∀ i < es.length, (1 ≤ (at3 es i).2.1 ∧ (at3 es i).2.1 ≤ (at3 es i).2.2 ∧ (at3 es i).2.2 ≤ N) ∧ (0 < i → (at3 es (i - 1)).1 ≤ (at3 es i).1 ∧ (at3 es (i - 1)).2.1 < (at3 es i).2.1 ∧ (at3 es (i - 1)).2.2 < (at3 es i).2.2)) ∧ (0 < es.length → (at3 es 0).2.2 = 1 ∧ (at3 es (es.length - 1)).2.1 = N) := by
  unfold valR
  rw [Bool.and_eq_true, Bool.and_eq_true, headR_iff, enTo_iff, endsR_iff, and_assoc]
  simp only [enAt_iff]
end
/-- The greatest distance of bounds of successive entries, up to entry i. -/
def gapTo (es : L3) : Nat → Int
  | 0 => 1
  | i + 1 => max (gapTo es i) ((at3 es (i + 1)).2.2 - (at3 es i).2.1)
def gapR (N : Int) (es : L3) : Int := if valR N es = true ∧ 0 < es.length then gapTo es (es.length - 1) else 0
theorem gapTo_bd {N : Int} {es : L3} (h : valR N es = true) (hN : 1 ≤ N) : ∀ i, i < es.length → 1 ≤ gapTo es i ∧ gapTo es i ≤ N
  | 0, _ => ⟨Int.le_refl _, hN⟩
  | i + 1, hi => by
    obtain ⟨_, h2, _⟩ := valR_iff.1 h
    have h3 := gapTo_bd h hN i (by omega)
    obtain ⟨⟨a1, a2, a3⟩, _⟩ := h2 i (by omega)
    obtain ⟨⟨b1, b2, b3⟩, _⟩ := h2 (i + 1) hi
    unfold gapTo
    omega
end Go.Proofs.Ytjapjfcennemeaa.rnk

/- Plain: merging and pruning of rank summaries, as the code does them. No program. -/
namespace Go.Proofs.Ytjapjfcennemeaa.rnk
open Go.Proofs.Ytjapjfcennemeaa.mem
set_option linter.unusedVariables false
/-- An entry that stands ahead of entry i of another summary of n values. -/
def btw (e : Int × Int × Int) (o : L3) (i : Nat) (n : Int) : Int × Int × Int :=
  (e.1, e.2.1 + (if 0 < i then (at3 o (i - 1)).2.1 else 0), e.2.2 + (if i < o.length then (at3 o i).2.2 - 1 else n))
def takeX (x y : L3) (i j : Nat) : Prop := j = y.length ∨ (i < x.length ∧ (at3 x i).1 ≤ (at3 y j).1)
instance takeX_dec (x y : L3) (i j : Nat) : Decidable (takeX x y i j) := by unfold takeX; exact inferInstance
def mrg (x y : L3) (a b : Int) : Nat → Nat → Nat → L3
  | 0, _, _ => []
  | f + 1, i, j => if takeX x y i j then btw (at3 x i) y j b :: mrg x y a b f (i + 1) j else btw (at3 y j) x i a :: mrg x y a b f i (j + 1)
theorem mrg_x {x y : L3} {a b : Int} {f i j : Nat} (h : takeX x y i j) : mrg x y a b (f + 1) i j = btw (at3 x i) y j b :: mrg x y a b f (i + 1) j := by simp [mrg, h]
theorem mrg_y {x y : L3} {a b : Int} {f i j : Nat} (h : ¬ takeX x y i j) : mrg x y a b (f + 1) i j = btw (at3 y j) x i a :: mrg x y a b f i (j + 1) := by simp [mrg, h]
def mergeL (x y : L3) (a b : Int) : L3 := mrg x y a b (x.length + y.length) 0 0
theorem mrg_length (x y : L3) (a b : Int) : ∀ f i j, (mrg x y a b f i j).length = f
  | 0, _, _ => rfl
  | f + 1, i, j => by
    by_cases h : takeX x y i j
    · rw [mrg_x h, List.length_cons, mrg_length x y a b f]
    · rw [mrg_y h, List.length_cons, mrg_length x y a b f]
theorem at3_get {xs : L3} {i : Nat} (h : i < xs.length) : xs[i]? = some (at3 xs i) := by simp [at3, List.getElem?_eq_getElem h]
theorem btw_nil (e : Int × Int × Int) : btw e [] 0 0 = e := by simp [btw]
theorem mrg_right (y : L3) (b : Int) (f : Nat) : ∀ j, j + f = y.length → mrg [] y 0 b f 0 j = y.drop j := by
  induction f with
  | zero => intro j h; rw [List.drop_of_length_le (by omega)]; rfl
  | succ f ih =>
    intro j h
    rw [mrg_y (by unfold takeX; simp; omega), ih (j + 1) (by omega), btw_nil]
    rw [List.drop_eq_getElem_cons (show j < y.length by omega)]
    simp [at3, List.getElem?_eq_getElem (show j < y.length by omega)]
theorem mrg_left (x : L3) (a : Int) (f : Nat) : ∀ i, i + f = x.length → mrg x [] a 0 f i 0 = x.drop i := by
  induction f with
  | zero => intro j h; rw [List.drop_of_length_le (by omega)]; rfl
  | succ f ih =>
    intro j h
    rw [mrg_x (by unfold takeX; simp), ih (j + 1) (by omega), btw_nil]
    rw [List.drop_eq_getElem_cons (show j < x.length by omega)]
    simp [at3, List.getElem?_eq_getElem (show j < x.length by omega)]
theorem mergeL_nil_left (y : L3) (b : Int) : mergeL [] y 0 b = y := by
  unfold mergeL; rw [mrg_right y b _ 0 (by simp)]; rfl
theorem mergeL_nil_right (x : L3) (a : Int) : mergeL x [] a 0 = x := by
  unfold mergeL; rw [mrg_left x a _ 0 (by simp)]; rfl
theorem nil_of_val {es : L3} (h : valR 0 es = true) : es = [] := by
  obtain ⟨⟨_, _, h1⟩, _⟩ := valR_iff.1 h
  exact List.eq_nil_of_length_eq_zero (h1.2 rfl)
/-- What Merge gives, and its code. -/
def mrgOk (a : Int) (x : L3) (b : Int) (y : L3) : Bool := valR a x && valR b y && decide (a + b ≤ 1099511627776)
def mrgP (a : Int) (x : L3) (b : Int) (y : L3) : Int × L3 := if mrgOk a x b y = true then (a + b, mergeL x y a b) else (0, [])
def mrgE (a : Int) (x : L3) (b : Int) (y : L3) : Int := if valR a x = true ∧ valR b y = true then (if a + b ≤ 1099511627776 then 0 else 5) else 2

/-- How far an entry is from a rank. -/
def far (e : Int × Int × Int) (n : Int) : Int := max (n - e.2.1) (e.2.2 - n)
def plc (es : L3) (n : Int) : Nat → Nat → Nat
  | 0, s => s
  | f + 1, s => if s + 1 < es.length ∧ far (at3 es (s + 1)) n < far (at3 es s) n then plc es n f (s + 1) else s
def place (es : L3) (n : Int) (s : Nat) : Nat := plc es n (es.length - s) s
theorem place_go {es : L3} {n : Int} {s : Nat} (h : s + 1 < es.length) (h2 : far (at3 es (s + 1)) n < far (at3 es s) n) : place es n s = place es n (s + 1) := by
  unfold place
  rw [show es.length - s = es.length - (s + 1) + 1 by omega]
  simp [plc, h, h2]
theorem place_stop {es : L3} {n : Int} {s : Nat} (h : ¬ (s + 1 < es.length ∧ far (at3 es (s + 1)) n < far (at3 es s) n)) : place es n s = s := by
  unfold place
  cases es.length - s with
  | zero => rfl
  | succ f => simp [plc, h]
theorem plc_le (es : L3) (n : Int) : ∀ f s, s < es.length → s ≤ plc es n f s ∧ plc es n f s < es.length
  | 0, s, h => ⟨Nat.le_refl _, h⟩
  | f + 1, s, h => by
    unfold plc
    split
    · rename_i h2
      have := plc_le es n f (s + 1) h2.1
      omega
    · omega
theorem place_lt {es : L3} {n : Int} {s : Nat} (h : s < es.length) : s ≤ place es n s ∧ place es n s < es.length := plc_le es n _ s h
def tgt (N b : Int) (i : Nat) : Int := 1 + (i : Int) * (N - 1) / b
/-- The last place taken (-1: none), the place to search from, and what is kept, after i ranks. -/
def pruTo (N b : Int) (es : L3) : Nat → Int × Nat × L3
  | 0 => (-1, 0, [])
  | i + 1 => if ((place es (tgt N b i) (pruTo N b es i).2.1 : Nat) : Int) = (pruTo N b es i).1 then ((pruTo N b es i).1, place es (tgt N b i) (pruTo N b es i).2.1, (pruTo N b es i).2.2)
    else (((place es (tgt N b i) (pruTo N b es i).2.1 : Nat) : Int), place es (tgt N b i) (pruTo N b es i).2.1, (pruTo N b es i).2.2 ++ [at3 es (place es (tgt N b i) (pruTo N b es i).2.1)])
theorem pruTo_same {N b : Int} {es : L3} {i : Nat} {l : Int} {s : Nat} {o : L3} (h : pruTo N b es i = (l, s, o)) (hp : (place es (tgt N b i) s : Int) = l) : pruTo N b es (i + 1) = (l, place es (tgt N b i) s, o) := by
  simp only [pruTo, h]; rw [if_pos hp]
theorem pruTo_new {N b : Int} {es : L3} {i : Nat} {l : Int} {s : Nat} {o : L3} (h : pruTo N b es i = (l, s, o)) (hp : ¬ (place es (tgt N b i) s : Int) = l) : pruTo N b es (i + 1) = (((place es (tgt N b i) s : Nat) : Int), place es (tgt N b i) s, o ++ [at3 es (place es (tgt N b i) s)]) := by
  simp only [pruTo, h]; rw [if_neg hp]
theorem pruTo_lt {N b : Int} {es : L3} (h : 0 < es.length) : ∀ i, (pruTo N b es i).2.1 < es.length ∧ (pruTo N b es i).2.2.length ≤ i
  | 0 => ⟨h, Nat.le_refl _⟩
  | i + 1 => by
    obtain ⟨h1, h2⟩ := pruTo_lt (N := N) (b := b) h i
    have h3 := place_lt (n := tgt N b i) h1
    simp only [pruTo]
    split <;> simp <;> omega
def pruL (N b : Int) (es : L3) : L3 := if (es.length : Int) ≤ b + 1 then es else (pruTo N b es (b.toNat + 1)).2.2
def pruOk (N b : Int) (es : L3) : Bool := valR N es && decide (1 ≤ b) && decide (b ≤ 65536)
def pruP (N b : Int) (es : L3) : Int × L3 := if pruOk N b es = true then (N, pruL N b es) else (0, [])
def pruE (N b : Int) (es : L3) : Int := if valR N es = true then (if 1 ≤ b ∧ b ≤ 65536 then 0 else 1) else 2
theorem tgt_bd {N b : Int} {i : Nat} (hN : 1 ≤ N) (hN2 : N ≤ 1099511627776) (hb : 1 ≤ b) (hi : (i : Int) ≤ b) : 1 ≤ tgt N b i ∧ tgt N b i ≤ N := by
  unfold tgt
  have h1 : (0 : Int) ≤ (i : Int) * (N - 1) := Int.mul_nonneg (by omega) (by omega)
  have h2 : (i : Int) * (N - 1) ≤ b * (N - 1) := Int.mul_le_mul_of_nonneg_right hi (by omega)
  have h3 := Int.ediv_nonneg h1 (show 0 ≤ b by omega)
  have h4 : (i : Int) * (N - 1) / b ≤ N - 1 := Int.ediv_le_of_le_mul (by omega) (by rw [Int.mul_comm (N - 1) b]; exact h2)
  omega
end Go.Proofs.Ytjapjfcennemeaa.rnk
