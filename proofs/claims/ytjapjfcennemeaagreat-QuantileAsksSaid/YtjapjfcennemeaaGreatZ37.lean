/- RunB, SurL, NearL: proved here in one text, no conditions beyond those that each theorem states. -/
import Derived.Test.YtjapjfcennemeaaGreatZ13
import Derived.Test.YtjapjfcennemeaaGreatZ7
set_option linter.unusedVariables false
set_option linter.unusedSimpArgs false
section
namespace Go.Proofs.YtjapjfcennemeaaGreat.rnk
open Go.Proofs.YtjapjfcennemeaaGreat.mem Go.Proofs.YtjapjfcennemeaaGreat.buk
set_option linter.unusedVariables false
abbrev Its := List (Int × Int)
def RepK : List K5 → Its → Prop
  | [], s => s = []
  | x :: r, s => ∃ g u, s = g ++ u ∧ g.length = 2 ^ x.2.2.1.toNat ∧ g.getLast? = some (x.1, x.2.1) ∧ Stands (g.map Prod.snd) x.2.2.2.1 x.2.2.2.2 ∧ RepK r u
theorem RepK.append {xs ys : List K5} : ∀ {s u : Its}, RepK xs s → RepK ys u → RepK (xs ++ ys) (s ++ u) := by
  induction xs with
  | nil => intro s u h1 h2; obtain rfl : s = [] := h1; exact h2
  | cons p r ih =>
    intro s u h1 h2
    obtain ⟨g, v, rfl, a, b, d, c⟩ := h1
    exact ⟨g, v ++ u, List.append_assoc .., a, b, d, ih c h2⟩
theorem RepK.split {xs ys : List K5} : ∀ {s : Its}, RepK (xs ++ ys) s → ∃ t1 t2, s = t1 ++ t2 ∧ RepK xs t1 ∧ RepK ys t2 := by
  induction xs with
  | nil => intro s h; exact ⟨[], s, rfl, rfl, h⟩
  | cons p r ih =>
    intro s h
    obtain ⟨g, u, rfl, a, b, d, c⟩ := h
    obtain ⟨t1, t2, rfl, h1, h2⟩ := ih c
    exact ⟨g ++ t1, t2, (List.append_assoc ..).symm, ⟨g, t1, rfl, a, b, d, h1⟩, h2⟩
theorem RepK.snoc {xs : List K5} {s : Its} (h : RepK xs s) (t v : Int) : RepK (xs ++ [(t, v, 0, 1, [(v, 1, 1)])]) (s ++ [(t, v)]) :=
  h.append ⟨[(t, v)], [], rfl, rfl, rfl, Stands.one v, rfl⟩
theorem pow30 {l : Nat} (h : l ≤ 30) : (0 : Int) < 2 ^ l ∧ (2 : Int) ^ l ≤ 1073741824 := by
  have h1 : (0 : Int) < 2 ^ l := Int.pow_pos (by omega)
  have h2 : (2 : Int) ^ l ≤ 2 ^ 30 := pow_le h
  have h3 : (2 : Int) ^ 30 = 1073741824 := by decide
  omega
theorem RepK.join {b : Int} {p q : K5} {l : Nat} (hb : 1 ≤ b ∧ b ≤ 65536) (hl : l ≤ 29) (hp : BOkP b p) (hq : BOkP b q) (ep : p.2.2.1 = (l : Int)) (eq : q.2.2.1 = (l : Int)) {r : List K5} {s : Its} (h : RepK (p :: q :: r) s) : RepK ((q.1, q.2.1, (l : Int) + 1, (twoR b p q).1, (twoR b p q).2) :: r) s := by
  obtain ⟨g, u, rfl, a1, b1, d1, g2, u2, rfl, a2, b2, d2, c⟩ := h
  have np := hp.num
  have nq := hq.num
  rw [ep, Int.toNat_natCast] at np
  rw [eq, Int.toNat_natCast] at nq
  have h30 := pow30 (show l ≤ 30 by omega)
  have hle : p.2.2.2.1 + q.2.2.2.1 ≤ 1099511627776 := by omega
  rw [two_eq hb hp.val hq.val hle]
  refine ⟨g ++ g2, u2, (List.append_assoc ..).symm, ?_, ?_, ?_, c⟩
  · rw [List.length_append, a1, a2, ep, eq]
    simp only [Int.toNat_natCast]
    rw [show ((l : Int) + 1).toNat = l + 1 by omega, Nat.pow_succ]
    omega
  · rw [List.getLast?_append, b2]; rfl
  · rw [List.map_append]
    exact (d1.merge d2 (asc_of_val hp.val) (asc_of_val hq.val)).prune (by rw [merge_len]; have := hp.pos; omega) b
theorem atK_eq {xs : List K5} {i : Nat} (h : i < xs.length) : atK xs i = xs[i] := by simp [atK, List.getElem?_eq_getElem h]
theorem two_ofK {xs : List K5} {b : Nat} (h : b + 1 < xs.length) : xs = xs.take b ++ (atK xs b :: atK xs (b + 1) :: xs.drop (b + 2)) := by
  rw [atK_eq h, atK_eq (show b < xs.length by omega)]
  conv => lhs; rw [← List.take_append_drop b xs]
  rw [List.drop_eq_getElem_cons (show b < xs.length by omega), List.drop_eq_getElem_cons h]
theorem casc_rep {k : Nat} {b : Int} (hb : 1 ≤ b ∧ b ≤ 65536) (hk : 1 ≤ k) : ∀ (f : Nat) (xs : List K5) (l e : Nat), Inv (plainK xs) k l e → allOk b xs → ∀ s, RepK xs s → RepK (cascK k b f xs l e) s
  | 0, xs, l, e, _, _, s, h => h
  | f + 1, xs, l, e, hi, ha, s, h => by
    by_cases hst : e - runK xs l e < k + 2
    · rw [cascK_stop hst]; exact h
    · rw [cascK_go hst]
      have hn := hi.next hk (by rw [runK_plain]; exact hst)
      rw [runK_plain, joinK_plain b] at hn
      have he := hi.st.he
      rw [plainK_length] at he
      obtain ⟨h1, _⟩ := runB_run (plainK xs) l e
      rw [runK_plain] at h1
      have hlen : runK xs l e + 1 < xs.length := by omega
      have l1 := h1 (runK xs l e) (Nat.le_refl _) (by omega)
      have l2 := h1 (runK xs l e + 1) (by omega) (by omega)
      rw [at_plainK] at l1 l2
      simp only at l1 l2
      have hlv := (hn.ord (runK xs l e) (by rw [plainK_length, joinK_length hlen]; omega)).2.1.2
      rw [at_plainK, atK_joinK hlen, if_neg (by omega), if_pos rfl] at hlv
      have hl29 : l ≤ 29 := by
        have : (l : Int) + 1 ≤ 30 := hlv
        omega
      refine casc_rep hb hk f _ (l + 1) _ hn (fun i hi2 => ?_) s ?_
      · rw [joinK_length hlen] at hi2
        rw [atK_joinK hlen]
        by_cases h3 : i < runK xs l e
        · rw [if_pos h3]; exact ha i (by omega)
        · rw [if_neg h3]
          by_cases h4 : i = runK xs l e
          · rw [if_pos h4]
            exact two_ok hb hl29 (ha _ (by omega)) (ha _ hlen) l1 l2
          · rw [if_neg h4]; exact ha _ (by omega)
      · rw [two_ofK hlen] at h
        obtain ⟨t1, t2, rfl, a, c⟩ := h.split
        exact a.append (c.join hb hl29 (ha _ (by omega)) (ha _ hlen) l1 l2)
theorem ins_rep {xs : List K5} {k b t v : Int} (hm : mayK xs k b t v = true) {s : Its} (h : RepK xs s) : RepK (insKC xs k.toNat b t v) (s ++ [(t, v)]) := by
  obtain ⟨h1, h2, h3, h4, h5⟩ := mayK_iff2.1 hm
  obtain ⟨hb, hv, ha⟩ := validK_iff.1 h1
  have hvp := validB_iff.1 hv
  have hk := hvp.1
  obtain ⟨kk, rfl⟩ := Int.eq_ofNat_of_zero_le (show 0 ≤ k by omega)
  rw [Int.toNat_natCast]
  have hw : wgt (plainK xs) = totalK xs := wgt_tot hvp.2.1
  have hlt : 0 < (plainK xs).length → tailT (plainK xs) ≤ t := fun h0 => by
    rw [plainK_length] at h0
    unfold lastK at h3
    rw [if_neg (by omega)] at h3
    unfold tailT
    rw [at_plainK, plainK_length]
    exact h3
  have hst := inv_start hvp h2 hlt (by omega)
  have e : plainK (xs ++ [(t, v, 0, 1, [(v, 1, 1)])]) = plainK xs ++ [(t, 0)] := by rw [plainK_append]; rfl
  rw [← e, plainK_length] at hst
  refine casc_rep hb (by omega) _ _ _ _ hst (fun j hj => ?_) _ (h.snoc t v)
  by_cases hj2 : j < xs.length
  · have : atK (xs ++ [(t, v, 0, 1, [(v, 1, 1)])]) j = atK xs j := by simp [atK, List.getElem?_append_left hj2]
    rw [this]; exact blkOk_iff.1 (ha j hj2)
  · have e2 : j = xs.length := by simp at hj; omega
    have : atK (xs ++ [(t, v, 0, 1, [(v, 1, 1)])]) j = (t, v, 0, 1, [(v, 1, 1)]) := by rw [e2]; simp [atK]
    rw [this]; exact one_ok hb h4
end Go.Proofs.YtjapjfcennemeaaGreat.rnk
end
section
namespace Go.Proofs.YtjapjfcennemeaaGreat.rnk
open Go.Proofs.YtjapjfcennemeaaGreat.mem Go.Proofs.YtjapjfcennemeaaGreat.buk
set_option linter.unusedVariables false
def sureF (p : Int × L3) : List K5 → (Int × L3) × Int
  | [] => (p, 0)
  | x :: r => if mrgE p.1 p.2 x.2.2.2.1 x.2.2.2.2 = 0 then sureF (mrgP p.1 p.2 x.2.2.2.1 x.2.2.2.2) r else ((0, []), mrgE p.1 p.2 x.2.2.2.1 x.2.2.2.2)
def okS (x : K5) : Bool := valR x.2.2.2.1 x.2.2.2.2 && decide (0 ≤ x.2.2.1 ∧ x.2.2.1 ≤ 30)
def okTo (xs : List K5) : Nat → Bool
  | 0 => true
  | i + 1 => okTo xs i && okS (atK xs i)
theorem okTo_iff {xs : List K5} : ∀ n, okTo xs n = true ↔ ∀ i < n, okS (atK xs i) = true
  | 0 => ⟨fun _ i h => absurd h (by omega), fun _ => rfl⟩
  | n + 1 => by
    unfold okTo
    rw [Bool.and_eq_true, okTo_iff n]
    constructor
    · rintro ⟨h1, h2⟩ i hi
      by_cases e : i = n
      · rw [e]; exact h2
      · exact h1 i (by omega)
    · intro h; exact ⟨fun i hi => h i (by omega), h n (by omega)⟩
theorem okTo_succ {xs : List K5} {i : Nat} (h : okTo xs i = true) (h2 : okS (atK xs i) = true) : okTo xs (i + 1) = true := by unfold okTo; rw [h, h2]; rfl
theorem okTo_not {xs : List K5} {i : Nat} (h : okS (atK xs i) = false) {n : Nat} (hi : i < n) : okTo xs n = false := by
  rw [Bool.eq_false_iff]; intro h2; rw [(okTo_iff n).1 h2 i hi] at h; cases h
def first1 (x : K5) : Int × L3 := if x.2.2.1 = 0 then (x.2.2.2.1, x.2.2.2.2) else (1, [(x.2.1, 1, 1)])
def sureK (xs : List K5) : (Int × L3) × Int := if okTo xs xs.length = true then (match xs with | [] => ((0, []), 0) | x :: r => sureF (first1 x) r) else ((0, []), 2)
theorem mrgE_t' {a b : Int} {x y : L3} (h1 : valR a x = true) (h2 : valR b y = true) : mrgE a x b y = if a + b ≤ 1099511627776 then 0 else 5 := by unfold mrgE; rw [if_pos ⟨h1, h2⟩]
theorem mrgP_t' {a b : Int} {x y : L3} (h1 : valR a x = true) (h2 : valR b y = true) (h3 : a + b ≤ 1099511627776) : mrgP a x b y = (a + b, mergeL x y a b) := by unfold mrgP; rw [if_pos (by unfold mrgOk; rw [h1, h2]; simpa using h3)]
theorem sure_ref {x : K5} {r : List K5} (h : valR (first1 x).1 (first1 x).2 = true) : sureF (0, []) (((0 : Int), x.2.1, (0 : Int), first1 x) :: r) = sureF (first1 x) r := by
  have h0 : valR 0 [] = true := valR_iff.2 ⟨⟨by omega, by omega, by simp⟩, fun i hi => absurd hi (Nat.not_lt_zero _), fun h => absurd h (Nat.lt_irrefl _)⟩
  have hN := (valR_iff.1 h).1
  show (if mrgE 0 [] (first1 x).1 (first1 x).2 = 0 then sureF (mrgP 0 [] (first1 x).1 (first1 x).2) r else _) = _
  rw [mrgE_t' h0 h, if_pos (by omega)]
  show sureF (mrgP 0 [] (first1 x).1 (first1 x).2) r = _
  rw [mrgP_t' h0 h (by omega), mergeL_nil_left, Int.zero_add]
theorem val_one (v : Int) : valR 1 [(v, 1, 1)] = true := by
  refine valR_iff.2 ⟨⟨by omega, by omega, by simp⟩, fun i hi => ?_, fun _ => ⟨rfl, rfl⟩⟩
  have hi2 : i = 0 := by simp at hi; exact hi
  subst hi2
  exact ⟨⟨Int.le_refl _, Int.le_refl _, Int.le_refl _⟩, fun h => absurd h (by omega)⟩
def numK : List K5 → Int
  | [] => 0
  | x :: r => x.2.2.2.1 + numK r
end Go.Proofs.YtjapjfcennemeaaGreat.rnk
end
section
namespace Go.Proofs.YtjapjfcennemeaaGreat.rnk
open Go.Proofs.YtjapjfcennemeaaGreat.mem Go.Proofs.YtjapjfcennemeaaGreat.buk
set_option linter.unusedVariables false
def expK (f : Int) (xs : List K5) : List K5 := xs.dropWhile (fun x => decide (x.1 < f))
theorem expK_drop (f : Int) : ∀ xs : List K5, ∃ i, expK f xs = xs.drop i
  | [] => ⟨0, rfl⟩
  | p :: r => by
    unfold expK
    rw [List.dropWhile_cons]
    split
    · obtain ⟨i, hi⟩ := expK_drop f r
      exact ⟨i + 1, by rw [List.drop_succ_cons]; exact hi⟩
    · exact ⟨0, rfl⟩
theorem plainK_drop (xs : List K5) (i : Nat) : plainK (xs.drop i) = (plainK xs).drop i := by simp [plainK]
theorem atK_drop (xs : List K5) (i j : Nat) : atK (xs.drop i) j = atK xs (i + j) := by simp [atK]
theorem lastK_nn {xs : List K5} {k b : Int} (h : validK xs k b = true) : 0 ≤ lastK xs := by
  unfold lastK
  split
  · exact Int.le_refl _
  · have h1 := (validB_iff.1 (validK_iff.1 h).2.1).2.1 (xs.length - 1) (by rw [plainK_length]; omega)
    rw [ordAt, at_plainK] at h1
    exact h1.1.1
theorem valid_drop {xs : List K5} {k b : Int} (h : validK xs k b = true) (i : Nat) : validK (xs.drop i) k b = true ∧ totalK (xs.drop i) ≤ totalK xs ∧ lastK (xs.drop i) ≤ lastK xs := by
  obtain ⟨hb, hv, ha⟩ := validK_iff.1 h
  have hp := validB_iff.1 hv
  have hp2 := drop_valid hp i
  rw [← plainK_drop] at hp2
  refine ⟨validK_iff.2 ⟨hb, validB_t hp2, fun j hj => ?_⟩, ?_, ?_⟩
  · rw [List.length_drop] at hj
    rw [atK_drop]; exact ha _ (by omega)
  · have h1 := wgt_tot hp.2.1
    have h2 := wgt_tot hp2.2.1
    have h3 := wgt_drop (plainK xs) i
    rw [← plainK_drop] at h3
    unfold totalK; omega
  · have h0 := lastK_nn h
    unfold lastK at h0 ⊢
    rw [List.length_drop]
    split
    · exact h0
    · rename_i hn
      rw [if_neg (by omega), atK_drop, show i + (xs.length - i - 1) = xs.length - 1 by omega]
      exact Int.le_refl _
theorem expK_first {f k b : Int} {xs : List K5} (h : validK xs k b = true) : ∀ x ∈ expK f xs, f ≤ x.1 := by
  have ho := (validB_iff.1 (validK_iff.1 h).2.1).2.1
  have hh : ∀ xs : List K5, ∀ q r, expK f xs = q :: r → f ≤ q.1 := by
    intro xs
    induction xs with
    | nil => intro q r h; simp [expK] at h
    | cons a az ih =>
      intro q r h
      unfold expK at h
      rw [List.dropWhile_cons] at h
      split at h
      · exact ih q r h
      · injection h with h1 h2; subst h1; rename_i h; simp at h; exact h
  obtain ⟨i, hi⟩ := expK_drop f xs
  intro x hx
  cases hz : expK f xs with
  | nil => rw [hz] at hx; cases hx
  | cons q r =>
    have hq := hh xs q r hz
    rw [hi] at hx hz
    obtain ⟨j, hj, rfl⟩ := List.getElem_of_mem hx
    rw [List.length_drop] at hj
    have mono : ∀ d a, a + d < xs.length → (atK xs a).1 ≤ (atK xs (a + d)).1 := by
      intro d
      induction d with
      | zero => intro a _; exact Int.le_refl _
      | succ d ih =>
        intro a hl
        have h1 := ih a (by omega)
        have h2 := ((ho (a + (d + 1)) (by rw [plainK_length]; exact hl)).2.2 (by omega)).1
        rw [at_plainK, at_plainK, show a + (d + 1) - 1 = a + d by omega] at h2
        exact Int.le_trans h1 h2
    have h1 := mono j i (by omega)
    have e0 : atK xs i = q := by
      have : (xs.drop i)[0]? = some q := by rw [hz]; rfl
      rw [List.getElem?_drop, Nat.add_zero] at this
      simp [atK, this]
    rw [List.getElem_drop, ← atK_eq (by omega)]
    rw [e0] at h1
    omega
theorem RepK.expire (f : Int) : ∀ {xs : List K5} {s : Its}, RepK xs s → s.Pairwise (fun p q => p.1 ≤ q.1) → ∃ d s', s = d ++ s' ∧ RepK (expK f xs) s' ∧ ∀ p ∈ d, p.1 < f
  | [], s, h, _ => ⟨[], s, rfl, h, fun p h => by simp at h⟩
  | x :: r, s, h, hs => by
    unfold expK
    rw [List.dropWhile_cons]
    split
    · rename_i hlt
      obtain ⟨g, u, rfl, a, b, e, c⟩ := h
      obtain ⟨d, s', rfl, h1, h2⟩ := RepK.expire f c (List.pairwise_append.1 hs).2.1
      refine ⟨g ++ d, s', (List.append_assoc ..).symm, h1, fun p hp => ?_⟩
      rcases List.mem_append.1 hp with h | h
      · obtain ⟨ys, rfl⟩ := List.getLast?_eq_some_iff.1 b
        simp at hlt
        rcases List.mem_append.1 h with h | h
        · have := (List.pairwise_append.1 (List.pairwise_append.1 hs).1).2.2 p h (x.1, x.2.1) (by simp)
          simp only at this
          omega
        · obtain rfl : p = (x.1, x.2.1) := by simpa using h
          exact hlt
      · exact h2 p h
    · exact ⟨[], s, rfl, h, fun p h => by simp at h⟩
theorem RepK.len : ∀ {xs : List K5} {s : Its}, RepK xs s → s.length = wgt (plainK xs)
  | [], s, h => by obtain rfl : s = [] := h; rfl
  | x :: r, s, h => by
    obtain ⟨g, u, rfl, a, b, d, c⟩ := h
    rw [List.length_append, a, c.len]; rfl
theorem joined_tick {xs : L2} {b : Nat} {l : Int} (hb : b + 1 < xs.length) {p : Int × Int} (hp : p ∈ joined xs b l) : ∃ q ∈ xs, q.1 = p.1 := by
  unfold buk.joined at hp
  rcases List.mem_append.1 hp with h | h
  · exact ⟨p, List.mem_of_mem_take h, rfl⟩
  · rcases List.mem_cons.1 h with rfl | h
    · exact ⟨xs[b + 1], List.getElem_mem _, by simp [at_, List.getElem?_eq_getElem hb]⟩
    · exact ⟨p, List.mem_of_mem_drop h, rfl⟩
theorem casc_ticks (k : Nat) : ∀ (f : Nat) (xs : L2) (l e : Nat), e ≤ xs.length → ∀ p ∈ casc k f xs l e, ∃ q ∈ xs, q.1 = p.1
  | 0, xs, _, _, _ => fun p h => ⟨p, h, rfl⟩
  | f + 1, xs, l, e, he => by
    by_cases h : e - runB xs l e < k + 2
    · rw [casc_stop h]; exact fun p h => ⟨p, h, rfl⟩
    · rw [casc_go h]
      have hb := runB_le xs l e
      have hj := joined_length (xs := xs) (b := runB xs l e) (l := l) (by omega)
      intro p hp
      obtain ⟨q, hq, e1⟩ := casc_ticks k f (joined xs (runB xs l e) l) (l + 1) (runB xs l e + 1) (by omega) p hp
      obtain ⟨q2, hq2, e2⟩ := joined_tick (by omega) hq
      exact ⟨q2, hq2, e2.trans e1⟩
theorem insC_ticks' (k : Nat) (t : Int) {xs : L2} {a : Int} (h : ∀ p ∈ xs, a < p.1) (ht : a < t) : ∀ p ∈ insC xs k t, a < p.1 := fun p hp => by
  obtain ⟨q, hq, e⟩ := casc_ticks k _ (xs ++ [(t, 0)]) 0 (xs.length + 1) (by simp) p hp
  rcases List.mem_append.1 hq with h1 | h1
  · have := h q h1; omega
  · obtain rfl : q = (t, 0) := by simpa using h1
    simp at e; omega
structure RunB (xs : List K5) (k b w now : Int) (its : Its) : Prop where
  valid : validK xs k b = true
  live : ∀ x ∈ xs, now - w < x.1
  last : lastK xs ≤ now
  pos : 0 ≤ now
  srt : its.Pairwise (fun p q => p.1 ≤ q.1)
  bd : ∀ p ∈ its, 0 ≤ p.1 ∧ p.1 ≤ now
  rep : ∃ d s, its = d ++ s ∧ RepK xs s ∧ ∀ p ∈ d, p.1 ≤ now - w
section
variable {xs : List K5} {k b w now : Int} {its : Its}
theorem RunB.nil (hk : 1 ≤ k ∧ k ≤ 128) (hb : 1 ≤ b ∧ b ≤ 65536) (w : Int) {now : Int} (h0 : 0 ≤ now) : RunB [] k b w now [] := ⟨validK_nil hk hb, by simp, by unfold lastK; simpa using h0, h0, .nil, by simp, [], [], rfl, rfl, by simp⟩
theorem RunB.total (h : RunB xs k b w now its) : totalK xs ≤ its.length := by
  obtain ⟨d, s, rfl, h1, _⟩ := h.rep
  have h2 := h1.len
  have h3 := wgt_tot (validB_iff.1 (validK_iff.1 h.valid).2.1).2.1
  unfold totalK
  rw [List.length_append]; omega
theorem RunB.adv (h : RunB xs k b w now its) {T : Int} (hT : now ≤ T) : RunB (expK (T - w + 1) xs) k b w T its := by
  obtain ⟨i, hi⟩ := expK_drop (T - w + 1) xs
  obtain ⟨v1, v2, v3⟩ := valid_drop h.valid i
  rw [← hi] at v1 v2 v3
  refine ⟨v1, fun x hx => by have := expK_first h.valid x hx; omega, by have := h.last; omega, by have := h.pos; omega, h.srt, fun p hp => by have := h.bd p hp; omega, ?_⟩
  obtain ⟨d, s, e, h1, h2⟩ := h.rep
  have hs := h.srt
  rw [e] at hs
  obtain ⟨d', s', e', h3, h4⟩ := h1.expire (T - w + 1) (List.pairwise_append.1 hs).2.1
  refine ⟨d ++ d', s', by rw [e, e', List.append_assoc], h3, fun p hp => ?_⟩
  rcases List.mem_append.1 hp with hp | hp
  · have := h2 p hp; omega
  · have := h4 p hp; omega
theorem RunB.may (h : RunB xs k b w now its) {v : Int} (hn : now ≤ 16777216) (hv : -4096 ≤ v ∧ v ≤ 4096) (hl : its.length ≤ 1000000) : mayK xs k b now v = true :=
  mayK_iff2.2 ⟨h.valid, ⟨h.pos, hn⟩, h.last, hv, by have := h.total; omega⟩
theorem RunB.ins (h : RunB xs k b w now its) {v : Int} (hw : 1 ≤ w) (hn : now ≤ 16777216) (hv : -4096 ≤ v ∧ v ≤ 4096) (hl : its.length ≤ 1000000) : RunB (insKC xs k.toNat b now v) k b w now (its ++ [(now, v)]) := by
  have hm := h.may hn hv hl
  obtain ⟨g1, g2, g3, g4⟩ := insKC_ok hm
  obtain ⟨d, s, e, h1, h2⟩ := h.rep
  have hr := ins_rep hm h1
  have hlive : ∀ x ∈ insKC xs k.toNat b now v, now - w < x.1 := by
    intro x hx
    have hpl := insKC_plain xs k.toNat b now v
    have := insC_ticks' (xs := plainK xs) k.toNat now (a := now - w) (fun p hp => by
      unfold plainK at hp
      obtain ⟨y, hy, rfl⟩ := List.mem_map.1 hp
      exact h.live y hy) (by omega)
    rw [hpl] at this
    exact this (x.1, x.2.2.1) (List.mem_map.2 ⟨x, hx, rfl⟩)
  refine ⟨g1, hlive, by rw [g3]; exact Int.le_refl _, h.pos, ?_, ?_, d, s ++ [(now, v)], by rw [e, List.append_assoc], hr, h2⟩
  · rw [List.pairwise_append]
    refine ⟨h.srt, by simp, fun p hp q hq => ?_⟩
    obtain rfl : q = (now, v) := by simpa using hq
    exact (h.bd p hp).2
  · intro p hp
    rcases List.mem_append.1 hp with hp | hp
    · exact h.bd p hp
    · obtain rfl : p = (now, v) := by simpa using hp
      exact ⟨h.pos, Int.le_refl _⟩
end
end Go.Proofs.YtjapjfcennemeaaGreat.rnk
end
