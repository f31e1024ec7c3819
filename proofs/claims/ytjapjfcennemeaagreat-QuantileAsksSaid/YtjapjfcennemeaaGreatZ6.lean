/- Rnk, Mrg, Own, Own2, MeanL: proved here in one text, no conditions beyond those that each theorem states. -/
import Derived.Test.YtjapjfcennemeaaGreatZ1
import Derived.Test.YtjapjfcennemeaaGreatZ5
set_option linter.unusedVariables false
set_option linter.unusedSimpArgs false
section
namespace Go.Proofs.YtjapjfcennemeaaGreat.rnk
open Go.Proofs.YtjapjfcennemeaaGreat.mem
set_option linter.unusedVariables false
def enAt (N : Int) (es : L3) (i : Nat) : Bool :=
  (decide (1 ≤ (at3 es i).2.1) && decide ((at3 es i).2.1 ≤ (at3 es i).2.2) && decide ((at3 es i).2.2 ≤ N)) &&
  (decide (i = 0) || (decide ((at3 es (i - 1)).1 ≤ (at3 es i).1) && decide ((at3 es (i - 1)).2.1 < (at3 es i).2.1) && decide ((at3 es (i - 1)).2.2 < (at3 es i).2.2)))
def enTo (N : Int) (es : L3) : Nat → Bool
  | 0 => true
  | i + 1 => enTo N es i && enAt N es i
theorem enTo_succ {N : Int} {es : L3} {i : Nat} (h : enTo N es i = true) (h2 : enAt N es i = true) : enTo N es (i + 1) = true := by unfold enTo; rw [h, h2]; rfl
theorem enTo_not {N : Int} {es : L3} {i : Nat} (h : enAt N es i = false) : ∀ n, i < n → enTo N es n = false
  | 0, h2 => absurd h2 (by omega)
  | n + 1, h2 => by
    unfold enTo
    by_cases e : i = n
    · subst e; rw [h, Bool.and_false]
    · rw [enTo_not h n (by omega), Bool.false_and]
theorem enTo_iff {N : Int} {es : L3} : ∀ n, enTo N es n = true ↔ ∀ i < n, enAt N es i = true
  | 0 => ⟨fun _ i h => absurd h (by omega), fun _ => rfl⟩
  | n + 1 => by
    unfold enTo
    rw [Bool.and_eq_true, enTo_iff n]
    constructor
    · rintro ⟨h1, h2⟩ i hi
      by_cases e : i = n
      · rw [e]; exact h2
      · exact h1 i (by omega)
    · intro h; exact ⟨fun i hi => h i (by omega), h n (by omega)⟩
def headR (N : Int) (n : Nat) : Bool := decide (0 ≤ N) && decide (N ≤ 1099511627776) && (decide (n = 0) == decide (N = 0))
def endsR (N : Int) (es : L3) (n : Nat) : Bool := decide (n = 0) || (decide ((at3 es 0).2.2 = 1) && decide ((at3 es (n - 1)).2.1 = N))
def valR (N : Int) (es : L3) : Bool := headR N es.length && enTo N es es.length && endsR N es es.length
def erS (b : Bool) : Int := if b = true then 0 else 2
theorem erS_t : erS true = 0 := rfl
theorem erS_f : erS false = 2 := rfl
section
variable {N : Int} {es : L3} {n i : Nat}
theorem valR_head (hl : es.length = n) (h : headR N n = false) : valR N es = false := by unfold valR; rw [hl, h]; rfl
theorem valR_not (hl : es.length = n) (hi : i < n) (h : enAt N es i = false) : valR N es = false := by unfold valR; rw [hl, enTo_not h n hi, Bool.and_false, Bool.false_and]
theorem valR_ends (hl : es.length = n) (h : endsR N es n = false) : valR N es = false := by unfold valR; rw [hl, h, Bool.and_false]
theorem valR_yes (hl : es.length = n) (h : headR N n = true) (ho : enTo N es n = true) (he : endsR N es n = true) : valR N es = true := by unfold valR; rw [hl, h, ho, he]; rfl
theorem headR_iff : headR N n = true ↔ 0 ≤ N ∧ N ≤ 1099511627776 ∧ (n = 0 ↔ N = 0) := by unfold headR; simp [and_assoc]
theorem enAt_iff : enAt N es i = true ↔ (1 ≤ (at3 es i).2.1 ∧ (at3 es i).2.1 ≤ (at3 es i).2.2 ∧ (at3 es i).2.2 ≤ N) ∧ (0 < i → (at3 es (i - 1)).1 ≤ (at3 es i).1 ∧ (at3 es (i - 1)).2.1 < (at3 es i).2.1 ∧ (at3 es (i - 1)).2.2 < (at3 es i).2.2) := by
  unfold enAt
  simp only [Bool.and_eq_true, Bool.or_eq_true, decide_eq_true_eq]
  constructor
  · rintro ⟨⟨⟨h1, h2⟩, h3⟩, h4⟩
    refine ⟨⟨h1, h2, h3⟩, fun h => ?_⟩
    rcases h4 with h4 | ⟨⟨h4, h5⟩, h6⟩
    · omega
    · exact ⟨h4, h5, h6⟩
  · rintro ⟨⟨h1, h2, h3⟩, h4⟩
    refine ⟨⟨⟨h1, h2⟩, h3⟩, ?_⟩
    by_cases h : i = 0
    · exact .inl h
    · obtain ⟨h5, h6, h7⟩ := h4 (by omega)
      exact .inr ⟨⟨h5, h6⟩, h7⟩
theorem enAt_iff0 : enAt N es i = false ↔ ¬ ((1 ≤ (at3 es i).2.1 ∧ (at3 es i).2.1 ≤ (at3 es i).2.2 ∧ (at3 es i).2.2 ≤ N) ∧ (0 < i → (at3 es (i - 1)).1 ≤ (at3 es i).1 ∧ (at3 es (i - 1)).2.1 < (at3 es i).2.1 ∧ (at3 es (i - 1)).2.2 < (at3 es i).2.2)) := by rw [← enAt_iff]; simp
theorem endsR_iff : endsR N es n = true ↔ (0 < n → (at3 es 0).2.2 = 1 ∧ (at3 es (n - 1)).2.1 = N) := by
  unfold endsR
  simp only [Bool.and_eq_true, Bool.or_eq_true, decide_eq_true_eq]
  constructor
  · rintro (h | h) h0
    · omega
    · exact h
  · intro h
    by_cases h0 : n = 0
    · exact .inl h0
    · exact .inr (h (by omega))
theorem endsR_iff0 : endsR N es n = false ↔ ¬ (0 < n → (at3 es 0).2.2 = 1 ∧ (at3 es (n - 1)).2.1 = N) := by rw [← endsR_iff]; simp
theorem valR_iff : valR N es = true ↔ (0 ≤ N ∧ N ≤ 1099511627776 ∧ (es.length = 0 ↔ N = 0)) ∧ (∀ i < es.length, (1 ≤ (at3 es i).2.1 ∧ (at3 es i).2.1 ≤ (at3 es i).2.2 ∧ (at3 es i).2.2 ≤ N) ∧ (0 < i → (at3 es (i - 1)).1 ≤ (at3 es i).1 ∧ (at3 es (i - 1)).2.1 < (at3 es i).2.1 ∧ (at3 es (i - 1)).2.2 < (at3 es i).2.2)) ∧ (0 < es.length → (at3 es 0).2.2 = 1 ∧ (at3 es (es.length - 1)).2.1 = N) := by
  unfold valR
  rw [Bool.and_eq_true, Bool.and_eq_true, headR_iff, enTo_iff, endsR_iff, and_assoc]
  simp only [enAt_iff]
end
def gapTo (es : L3) : Nat → Int
  | 0 => 1
  | i + 1 => max (gapTo es i) ((at3 es (i + 1)).2.2 - (at3 es i).2.1)
def gapR (N : Int) (es : L3) : Int := if valR N es = true ∧ 0 < es.length then gapTo es (es.length - 1) else 0
theorem gapTo_bd {N : Int} {es : L3} (h : valR N es = true) (hN : 1 ≤ N) : ∀ i, i < es.length → 1 ≤ gapTo es i ∧ gapTo es i ≤ N
  | 0, _ => ⟨Int.le_refl _, hN⟩
  | i + 1, hi => by
    obtain ⟨_, h2, _⟩ := valR_iff.1 h
    have h3 := gapTo_bd h hN i (by omega)
    obtain ⟨⟨a1, a2, a3⟩, _⟩ := h2 i (by omega)
    obtain ⟨⟨b1, b2, b3⟩, _⟩ := h2 (i + 1) hi
    unfold gapTo
    omega
end Go.Proofs.YtjapjfcennemeaaGreat.rnk
end
section
namespace Go.Proofs.YtjapjfcennemeaaGreat.rnk
open Go.Proofs.YtjapjfcennemeaaGreat.mem
set_option linter.unusedVariables false
def btw (e : Int × Int × Int) (o : L3) (i : Nat) (n : Int) : Int × Int × Int :=
  (e.1, e.2.1 + (if 0 < i then (at3 o (i - 1)).2.1 else 0), e.2.2 + (if i < o.length then (at3 o i).2.2 - 1 else n))
def takeX (x y : L3) (i j : Nat) : Prop := j = y.length ∨ (i < x.length ∧ (at3 x i).1 ≤ (at3 y j).1)
instance takeX_dec (x y : L3) (i j : Nat) : Decidable (takeX x y i j) := by unfold takeX; exact inferInstance
def mrg (x y : L3) (a b : Int) : Nat → Nat → Nat → L3
  | 0, _, _ => []
  | f + 1, i, j => if takeX x y i j then btw (at3 x i) y j b :: mrg x y a b f (i + 1) j else btw (at3 y j) x i a :: mrg x y a b f i (j + 1)
theorem mrg_x {x y : L3} {a b : Int} {f i j : Nat} (h : takeX x y i j) : mrg x y a b (f + 1) i j = btw (at3 x i) y j b :: mrg x y a b f (i + 1) j := by simp [mrg, h]
theorem mrg_y {x y : L3} {a b : Int} {f i j : Nat} (h : ¬ takeX x y i j) : mrg x y a b (f + 1) i j = btw (at3 y j) x i a :: mrg x y a b f i (j + 1) := by simp [mrg, h]
def mergeL (x y : L3) (a b : Int) : L3 := mrg x y a b (x.length + y.length) 0 0
theorem mrg_length (x y : L3) (a b : Int) : ∀ f i j, (mrg x y a b f i j).length = f
  | 0, _, _ => rfl
  | f + 1, i, j => by
    by_cases h : takeX x y i j
    · rw [mrg_x h, List.length_cons, mrg_length x y a b f]
    · rw [mrg_y h, List.length_cons, mrg_length x y a b f]
theorem btw_nil (e : Int × Int × Int) : btw e [] 0 0 = e := by simp [btw]
theorem mrg_right (y : L3) (b : Int) (f : Nat) : ∀ j, j + f = y.length → mrg [] y 0 b f 0 j = y.drop j := by
  induction f with
  | zero => intro j h; rw [List.drop_of_length_le (by omega)]; rfl
  | succ f ih =>
    intro j h
    rw [mrg_y (by unfold takeX; simp; omega), ih (j + 1) (by omega), btw_nil]
    rw [List.drop_eq_getElem_cons (show j < y.length by omega)]
    simp [at3, List.getElem?_eq_getElem (show j < y.length by omega)]
theorem mrg_left (x : L3) (a : Int) (f : Nat) : ∀ i, i + f = x.length → mrg x [] a 0 f i 0 = x.drop i := by
  induction f with
  | zero => intro j h; rw [List.drop_of_length_le (by omega)]; rfl
  | succ f ih =>
    intro j h
    rw [mrg_x (by unfold takeX; simp), ih (j + 1) (by omega), btw_nil]
    rw [List.drop_eq_getElem_cons (show j < x.length by omega)]
    simp [at3, List.getElem?_eq_getElem (show j < x.length by omega)]
theorem mergeL_nil_left (y : L3) (b : Int) : mergeL [] y 0 b = y := by
  unfold mergeL; rw [mrg_right y b _ 0 (by simp)]; rfl
theorem mergeL_nil_right (x : L3) (a : Int) : mergeL x [] a 0 = x := by
  unfold mergeL; rw [mrg_left x a _ 0 (by simp)]; rfl
theorem nil_of_val {es : L3} (h : valR 0 es = true) : es = [] := by
  obtain ⟨⟨_, _, h1⟩, _⟩ := valR_iff.1 h
  exact List.eq_nil_of_length_eq_zero (h1.2 rfl)
def mrgOk (a : Int) (x : L3) (b : Int) (y : L3) : Bool := valR a x && valR b y && decide (a + b ≤ 1099511627776)
def mrgP (a : Int) (x : L3) (b : Int) (y : L3) : Int × L3 := if mrgOk a x b y = true then (a + b, mergeL x y a b) else (0, [])
def mrgE (a : Int) (x : L3) (b : Int) (y : L3) : Int := if valR a x = true ∧ valR b y = true then (if a + b ≤ 1099511627776 then 0 else 5) else 2
def far (e : Int × Int × Int) (n : Int) : Int := max (n - e.2.1) (e.2.2 - n)
def plc (es : L3) (n : Int) : Nat → Nat → Nat
  | 0, s => s
  | f + 1, s => if s + 1 < es.length ∧ far (at3 es (s + 1)) n < far (at3 es s) n then plc es n f (s + 1) else s
def place (es : L3) (n : Int) (s : Nat) : Nat := plc es n (es.length - s) s
theorem place_go {es : L3} {n : Int} {s : Nat} (h : s + 1 < es.length) (h2 : far (at3 es (s + 1)) n < far (at3 es s) n) : place es n s = place es n (s + 1) := by
  unfold place
  rw [show es.length - s = es.length - (s + 1) + 1 by omega]
  simp [plc, h, h2]
theorem place_stop {es : L3} {n : Int} {s : Nat} (h : ¬ (s + 1 < es.length ∧ far (at3 es (s + 1)) n < far (at3 es s) n)) : place es n s = s := by
  unfold place
  cases es.length - s with
  | zero => rfl
  | succ f => simp [plc, h]
theorem plc_le (es : L3) (n : Int) : ∀ f s, s < es.length → s ≤ plc es n f s ∧ plc es n f s < es.length
  | 0, s, h => ⟨Nat.le_refl _, h⟩
  | f + 1, s, h => by
    unfold plc
    split
    · rename_i h2
      have := plc_le es n f (s + 1) h2.1
      omega
    · omega
theorem place_lt {es : L3} {n : Int} {s : Nat} (h : s < es.length) : s ≤ place es n s ∧ place es n s < es.length := plc_le es n _ s h
def tgt (N b : Int) (i : Nat) : Int := 1 + (i : Int) * (N - 1) / b
def pruTo (N b : Int) (es : L3) : Nat → Int × Nat × L3
  | 0 => (-1, 0, [])
  | i + 1 => if ((place es (tgt N b i) (pruTo N b es i).2.1 : Nat) : Int) = (pruTo N b es i).1 then ((pruTo N b es i).1, place es (tgt N b i) (pruTo N b es i).2.1, (pruTo N b es i).2.2)
    else (((place es (tgt N b i) (pruTo N b es i).2.1 : Nat) : Int), place es (tgt N b i) (pruTo N b es i).2.1, (pruTo N b es i).2.2 ++ [at3 es (place es (tgt N b i) (pruTo N b es i).2.1)])
theorem pruTo_same {N b : Int} {es : L3} {i : Nat} {l : Int} {s : Nat} {o : L3} (h : pruTo N b es i = (l, s, o)) (hp : (place es (tgt N b i) s : Int) = l) : pruTo N b es (i + 1) = (l, place es (tgt N b i) s, o) := by
  simp only [pruTo, h]; rw [if_pos hp]
theorem pruTo_new {N b : Int} {es : L3} {i : Nat} {l : Int} {s : Nat} {o : L3} (h : pruTo N b es i = (l, s, o)) (hp : ¬ (place es (tgt N b i) s : Int) = l) : pruTo N b es (i + 1) = (((place es (tgt N b i) s : Nat) : Int), place es (tgt N b i) s, o ++ [at3 es (place es (tgt N b i) s)]) := by
  simp only [pruTo, h]; rw [if_neg hp]
theorem pruTo_lt {N b : Int} {es : L3} (h : 0 < es.length) : ∀ i, (pruTo N b es i).2.1 < es.length ∧ (pruTo N b es i).2.2.length ≤ i
  | 0 => ⟨h, Nat.le_refl _⟩
  | i + 1 => by
    obtain ⟨h1, h2⟩ := pruTo_lt (N := N) (b := b) h i
    have h3 := place_lt (n := tgt N b i) h1
    simp only [pruTo]
    split <;> simp <;> omega
def pruL (N b : Int) (es : L3) : L3 := if (es.length : Int) ≤ b + 1 then es else (pruTo N b es (b.toNat + 1)).2.2
def pruOk (N b : Int) (es : L3) : Bool := valR N es && decide (1 ≤ b) && decide (b ≤ 65536)
def pruP (N b : Int) (es : L3) : Int × L3 := if pruOk N b es = true then (N, pruL N b es) else (0, [])
def pruE (N b : Int) (es : L3) : Int := if valR N es = true then (if 1 ≤ b ∧ b ≤ 65536 then 0 else 1) else 2
theorem tgt_bd {N b : Int} {i : Nat} (hN : 1 ≤ N) (hN2 : N ≤ 1099511627776) (hb : 1 ≤ b) (hi : (i : Int) ≤ b) : 1 ≤ tgt N b i ∧ tgt N b i ≤ N := by
  unfold tgt
  have h1 : (0 : Int) ≤ (i : Int) * (N - 1) := Int.mul_nonneg (by omega) (by omega)
  have h2 : (i : Int) * (N - 1) ≤ b * (N - 1) := Int.mul_le_mul_of_nonneg_right hi (by omega)
  have h3 := Int.ediv_nonneg h1 (show 0 ≤ b by omega)
  have h4 : (i : Int) * (N - 1) / b ≤ N - 1 := Int.ediv_le_of_le_mul (by omega) (by rw [Int.mul_comm (N - 1) b]; exact h2)
  omega
end Go.Proofs.YtjapjfcennemeaaGreat.rnk
end
section
set_option linter.unusedVariables false
namespace Go.Proofs.YtjapjfcennemeaaGreat.mem
open Go.RowKit
section
variable {w w' : World} {base : Nat} {e : TypeId} {size n c g : Nat} {v : Value} {xs : List Value}
theorem own_form2 (h : w.ownsRow base e size v n xs) (hn : 0 < n) :
    ∃ g c, v = .slice (some ⟨g, 0, none⟩) n c ∧ n ≤ c ∧ c ≤ 9223372036854775807 ∧ base ≤ g ∧ g < w.heap.size := by
  rcases h.2 with ⟨rfl, rfl⟩ | ⟨g, cap, cur, rfl, hb, hh, hnc, hcm, _⟩
  · omega
  · refine ⟨g, cap, rfl, hnc, hcm, hb, ?_⟩
    rcases Nat.lt_or_ge g w.heap.size with h1 | h1
    · exact h1
    · rw [Array.getElem?_eq_none h1] at hh; cases hh
theorem own_prefix (h : w.ownsRow base e size (.slice (some ⟨g, 0, none⟩) n c) n xs) {k : Nat} (hk : k ≤ n) :
    w.ownsRow base e size (.slice (some ⟨g, 0, none⟩) k c) k (xs.take (k * size)) := by
  rcases h.2 with ⟨h1, _⟩ | ⟨g', cap, cur, h1, hb, hh, hnc, hcm, hs, hx⟩
  · cases h1
  · simp only [Value.slice.injEq, Option.some.injEq, Addr.mk.injEq, and_true, true_and] at h1
    obtain ⟨rfl, rfl⟩ := h1
    have hks : k * size ≤ n * size := Nat.mul_le_mul_right _ hk
    refine ⟨by rw [List.length_take, h.1]; exact Nat.min_eq_left hks, .inr ⟨g, c, cur, rfl, hb, hh, by omega, hcm, hs, ?_⟩⟩
    rw [← hx, List.take_take, Nat.min_eq_left hks]
theorem own_reads (h : w.ownsRow base e size (.slice (some ⟨g, 0, none⟩) n c) n xs) {k : Nat} (hk : k ≤ n) :
    Reads w (g + 1) size (some ⟨g, k * size, none⟩) (n - k) (xs.drop (k * size)) := by
  refine ⟨by rw [List.length_drop, h.1, Nat.sub_mul], fun hn => ⟨_, rfl, by simp, fun j u hu => ?_⟩⟩
  have hj : k * size + j < n * size := by
    rcases Nat.lt_or_ge (k * size + j) (n * size) with h1 | h1
    · exact h1
    · rw [List.getElem?_eq_none (by rw [List.length_drop, h.1]; omega)] at hu; cases hu
  have hadd : (⟨g, k * size, none⟩ : Addr).add j = ⟨g, k * size + j, none⟩ := by unfold Addr.add; split <;> simp_all
  rw [hadd, h.cellAt _ hj, ← hu, List.getElem?_drop]
theorem own_cut (h : w.ownsRow base e size (.slice (some ⟨g, 0, none⟩) n c) n xs) {k : Nat} (hk : k ≤ n) (hc : n ≤ c) :
    Reads w (g + 1) size (if c = k then some ⟨g, 0, none⟩ else some ⟨g, k * size, none⟩) (n - k) (xs.drop (k * size)) := by
  split
  · have hz : n - k = 0 := by omega
    refine ⟨by rw [List.length_drop, h.1, ← Nat.sub_mul], fun h0 => by omega⟩
  · exact own_reads h hk
theorem own_keep (h : w.ownsRow base e size v n xs) (hb : Below w.heap.size w w') : w'.ownsRow base e size v n xs := by
  refine ⟨h.1, ?_⟩
  rcases h.2 with h2 | ⟨g, cap, cur, hv, hg, hh, r⟩
  · exact .inl h2
  · have hlt : g < w.heap.size := by
      rcases Nat.lt_or_ge g w.heap.size with h1 | h1
      · exact h1
      · rw [Array.getElem?_eq_none h1] at hh; cases hh
    exact .inr ⟨g, cap, cur, hv, hg, by rw [hb.block g hlt]; exact hh, r⟩
theorem own_empty2 {t : TypeId} (hg : w.heap.size = g) (hb : base ≤ g) : (w.alloc (.cells #[] t)).ownsRow base t size (.slice (some ⟨g, 0, none⟩) 0 0) 0 [] := by
  subst hg
  exact ⟨by simp, .inr ⟨w.heap.size, 0, #[], rfl, hb, heap_alloc_new w _, Nat.le_refl _, Nat.zero_le _, by simp, by simp⟩⟩
theorem blk_new2 {t : TypeId} {cs : Array Value} (hg : w.heap.size = g) : Blk (w.alloc (.cells cs t)) g t cs := by subst hg; exact Blk.new w t cs
theorem reads_blk {t : TypeId} {cs : Array Value} (h : Blk w g t cs) (hs : cs.size = n * size) : Reads w (g + 1) size (some ⟨g, 0, none⟩) n cs.toList := by
  refine ⟨by simpa using hs, fun _ => ⟨_, rfl, by simp, fun j u hu => ?_⟩⟩
  have hadd : (⟨g, 0, none⟩ : Addr).add j = ⟨g, j, none⟩ := by unfold Addr.add; split <;> simp_all
  rw [hadd, h.cell]
  simpa using hu
end
end Go.Proofs.YtjapjfcennemeaaGreat.mem
end
section
namespace Go.Proofs.YtjapjfcennemeaaGreat.mem
open Go.RowKit
theorem below_own {W w1 a : World} {B base : Nat} {e : TypeId} {size n : Nat} {v : Value} {xs : List Value} (hg : W.grownBy w1 v.ownBlock) (hown : W.ownsRow base e size v n xs) (hb : Below B a W) (hB : B ≤ base) (hW : B ≤ W.heap.size) : Below B a w1 :=
  hb.grown hg hW (fun k hk => Nat.le_trans hB (own_block_ge hown k hk))
end Go.Proofs.YtjapjfcennemeaaGreat.mem
end
section
namespace Go.Proofs.YtjapjfcennemeaaGreat.wid
open Go
theorem nat_mean : ∀ (k m n : Nat), m < k → m + n = 2 * (m &&& n) + (m ^^^ n)
  | 0, m, n, h => absurd h (Nat.not_lt_zero _)
  | k + 1, m, n, h => by
    by_cases h0 : m = 0
    · subst h0; simp
    · have ih := nat_mean k (m / 2) (n / 2) (by omega)
      have a1 : (m &&& n) / 2 = m / 2 &&& n / 2 := Nat.and_div_two
      have a2 : (m ^^^ n) / 2 = m / 2 ^^^ n / 2 := Nat.xor_div_two
      have a3 : (m &&& n) % 2 = 1 ↔ m % 2 = 1 ∧ n % 2 = 1 := Nat.and_mod_two_eq_one
      have a4 : (m ^^^ n) % 2 = 1 ↔ ¬(m % 2 = 1 ↔ n % 2 = 1) := Nat.xor_mod_two_eq_one
      rw [← a1, ← a2] at ih
      omega
theorem wrap_toInt (v : BitVec 64) : IntKind.i64.wrap (v.toNat : Int) = v.toInt := by
  have := v.isLt
  rw [BitVec.toInt_eq_toNat_cond]
  simp [IntKind.wrap, IntKind.bits, IntKind.signed]
  split <;> omega
theorem bits_sum {x y : Int} (hx : -9223372036854775808 ≤ x ∧ x ≤ 9223372036854775807) (hy : -9223372036854775808 ≤ y ∧ y ≤ 9223372036854775807) :
    x + y = 2 * bits .and .i64 x y + bits .xor .i64 x y := by
  have e1 : bits .and .i64 x y = (BitVec.ofInt 64 x &&& BitVec.ofInt 64 y).toInt := wrap_toInt _
  have e2 : bits .xor .i64 x y = (BitVec.ofInt 64 x ^^^ BitVec.ofInt 64 y).toInt := wrap_toInt _
  have f1 : (BitVec.ofInt 64 x).toInt = x := BitVec.toInt_ofInt_eq_self (by omega) (by omega) (by omega)
  have f2 : (BitVec.ofInt 64 y).toInt = y := BitVec.toInt_ofInt_eq_self (by omega) (by omega) (by omega)
  rw [e1, e2]
  generalize BitVec.ofInt 64 x = a at *
  generalize BitVec.ofInt 64 y = b at *
  have g := nat_mean (a.toNat + 1) a.toNat b.toNat (by omega)
  rw [← f1, ← f2]
  have m1 := BitVec.toInt_eq_msb_cond a
  have m2 := BitVec.toInt_eq_msb_cond b
  have m3 := BitVec.toInt_eq_msb_cond (a &&& b)
  have m4 := BitVec.toInt_eq_msb_cond (a ^^^ b)
  rw [BitVec.msb_and] at m3
  rw [BitVec.msb_xor] at m4
  rw [BitVec.toNat_and] at m3
  rw [BitVec.toNat_xor] at m4
  rw [m1, m2, m3, m4]
  cases a.msb <;> cases b.msb <;> simp <;> omega
theorem bits_mean {x y : Int} (hx : -9223372036854775808 ≤ x ∧ x ≤ 9223372036854775807) (hy : -9223372036854775808 ≤ y ∧ y ≤ 9223372036854775807) :
    bits .and .i64 x y + bits .xor .i64 x y / 2 = (x + y) / 2 := by
  have := bits_sum hx hy
  omega
end Go.Proofs.YtjapjfcennemeaaGreat.wid
end
