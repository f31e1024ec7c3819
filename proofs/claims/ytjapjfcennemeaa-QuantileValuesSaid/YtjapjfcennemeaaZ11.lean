/- BLawP, RunB, SurL, RAskL, Expire: proved here in one text, no conditions beyond those that each theorem states. -/
import Derived.Deep.QuietTactic
import Derived.BigQuiet
import Derived.Deep.LoopGhost
import Derived.LoopTactic
import Derived.Outline
import Derived.Test.YtjapjfcennemeaaZ8
import Derived.Test.YtjapjfcennemeaaZ9
import Derived.Test.YtjapjfcennemeaaZ10
import Derived.Test.YtjapjfcennemeaaZ1
set_option linter.unusedVariables false
set_option linter.unusedSimpArgs false
section
namespace Go.Proofs.Ytjapjfcennemeaa.rnk
open Go.Proofs.Ytjapjfcennemeaa.mem Go.Proofs.Ytjapjfcennemeaa.buk
set_option linter.unusedVariables false
theorem mayK_iff2 {xs : List K5} {k b t v : Int} : mayK xs k b t v = true ↔ validK xs k b = true ∧ (0 ≤ t ∧ t ≤ 16777216) ∧ lastK xs ≤ t ∧ (-4096 ≤ v ∧ v ≤ 4096) ∧ totalK xs < 1073741824 := by
  unfold mayK
  simp only [Bool.and_eq_true, decide_eq_true_eq, and_assoc]
theorem ents_bd {B : Nat} : ∀ {xs : List K5}, (∀ x ∈ xs, x.2.2.2.2.length ≤ B) → entsK xs ≤ xs.length * B
  | [], _ => by simp [entsK]
  | x :: xs, h => by
    have h1 := h x (List.mem_cons_self ..)
    have h2 := ents_bd (xs := xs) (fun y hy => h y (List.mem_cons_of_mem _ hy))
    have e : entsK (x :: xs) = x.2.2.2.2.length + entsK xs := by simp [entsK]
    rw [e, List.length_cons, Nat.succ_mul]
    omega
theorem ents_valid {xs : List K5} {k b : Int} (h : validK xs k b = true) : entsK xs ≤ xs.length * (b + 1).toNat := by
  obtain ⟨hb, _, h3⟩ := validK_iff.1 h
  refine ents_bd fun x hx => ?_
  obtain ⟨i, hi, rfl⟩ := List.mem_iff_getElem.1 hx
  have h4 := (blkOk_iff.1 (h3 i hi)).len
  rw [show atK xs i = xs[i] by simp [atK, List.getElem?_eq_getElem hi]] at h4
  omega
theorem insK_t {xs : List K5} {k b t v : Int} (h : mayK xs k b t v = true) : insK xs k b t v = insKC xs k.toNat b t v := if_pos h
theorem insK_f {xs : List K5} {k b t v : Int} (h : ¬ mayK xs k b t v = true) : insK xs k b t v = [] := if_neg h
theorem validK_nil {k b : Int} (hk : 1 ≤ k ∧ k ≤ 128) (hb : 1 ≤ b ∧ b ≤ 65536) : validK [] k b = true :=
  validK_iff.2 ⟨hb, validB_t ⟨hk, fun i hi => absurd hi (Nat.not_lt_zero _), fun h => absurd h (Nat.lt_irrefl _)⟩, fun i hi => absurd hi (Nat.not_lt_zero _)⟩
end Go.Proofs.Ytjapjfcennemeaa.rnk
end
section
namespace Go.Proofs.Ytjapjfcennemeaa.rnk
open Go.Proofs.Ytjapjfcennemeaa.mem Go.Proofs.Ytjapjfcennemeaa.buk
set_option linter.unusedVariables false
abbrev Its := List (Int × Int)
def RepK : List K5 → Its → Prop
  | [], s => s = []
  | x :: r, s => ∃ g u, s = g ++ u ∧ g.length = 2 ^ x.2.2.1.toNat ∧ g.getLast? = some (x.1, x.2.1) ∧ Stands (g.map Prod.snd) x.2.2.2.1 x.2.2.2.2 ∧ RepK r u
theorem RepK.append {xs ys : List K5} : ∀ {s u : Its}, RepK xs s → RepK ys u → RepK (xs ++ ys) (s ++ u) := by
  induction xs with
  | nil => intro s u h1 h2; obtain rfl : s = [] := h1; exact h2
  | cons p r ih =>
    intro s u h1 h2
    obtain ⟨g, v, rfl, a, b, d, c⟩ := h1
    exact ⟨g, v ++ u, List.append_assoc .., a, b, d, ih c h2⟩
theorem RepK.split {xs ys : List K5} : ∀ {s : Its}, RepK (xs ++ ys) s → ∃ t1 t2, s = t1 ++ t2 ∧ RepK xs t1 ∧ RepK ys t2 := by
  induction xs with
  | nil => intro s h; exact ⟨[], s, rfl, rfl, h⟩
  | cons p r ih =>
    intro s h
    obtain ⟨g, u, rfl, a, b, d, c⟩ := h
    obtain ⟨t1, t2, rfl, h1, h2⟩ := ih c
    exact ⟨g ++ t1, t2, (List.append_assoc ..).symm, ⟨g, t1, rfl, a, b, d, h1⟩, h2⟩
theorem RepK.snoc {xs : List K5} {s : Its} (h : RepK xs s) (t v : Int) : RepK (xs ++ [(t, v, 0, 1, [(v, 1, 1)])]) (s ++ [(t, v)]) :=
  h.append ⟨[(t, v)], [], rfl, rfl, rfl, Stands.one v, rfl⟩
theorem pow30 {l : Nat} (h : l ≤ 30) : (0 : Int) < 2 ^ l ∧ (2 : Int) ^ l ≤ 1073741824 := by
  have h1 : (0 : Int) < 2 ^ l := Int.pow_pos (by omega)
  have h2 : (2 : Int) ^ l ≤ 2 ^ 30 := pow_le h
  have h3 : (2 : Int) ^ 30 = 1073741824 := by decide
  omega
theorem RepK.join {b : Int} {p q : K5} {l : Nat} (hb : 1 ≤ b ∧ b ≤ 65536) (hl : l ≤ 29) (hp : BOkP b p) (hq : BOkP b q) (ep : p.2.2.1 = (l : Int)) (eq : q.2.2.1 = (l : Int)) {r : List K5} {s : Its} (h : RepK (p :: q :: r) s) : RepK ((q.1, q.2.1, (l : Int) + 1, (twoR b p q).1, (twoR b p q).2) :: r) s := by
  obtain ⟨g, u, rfl, a1, b1, d1, g2, u2, rfl, a2, b2, d2, c⟩ := h
  have np := hp.num
  have nq := hq.num
  rw [ep, Int.toNat_natCast] at np
  rw [eq, Int.toNat_natCast] at nq
  have h30 := pow30 (show l ≤ 30 by omega)
  have hle : p.2.2.2.1 + q.2.2.2.1 ≤ 1099511627776 := by omega
  rw [two_eq hb hp.val hq.val hle]
  refine ⟨g ++ g2, u2, (List.append_assoc ..).symm, ?_, ?_, ?_, c⟩
  · rw [List.length_append, a1, a2, ep, eq]
    simp only [Int.toNat_natCast]
    rw [show ((l : Int) + 1).toNat = l + 1 by omega, Nat.pow_succ]
    omega
  · rw [List.getLast?_append, b2]; rfl
  · rw [List.map_append]
    exact (d1.merge d2 (asc_of_val hp.val) (asc_of_val hq.val)).prune (by rw [merge_len]; have := hp.pos; omega) b
theorem atK_eq {xs : List K5} {i : Nat} (h : i < xs.length) : atK xs i = xs[i] := by simp [atK, List.getElem?_eq_getElem h]
theorem two_ofK {xs : List K5} {b : Nat} (h : b + 1 < xs.length) : xs = xs.take b ++ (atK xs b :: atK xs (b + 1) :: xs.drop (b + 2)) := by
  rw [atK_eq h, atK_eq (show b < xs.length by omega)]
  conv => lhs; rw [← List.take_append_drop b xs]
  rw [List.drop_eq_getElem_cons (show b < xs.length by omega), List.drop_eq_getElem_cons h]
theorem casc_rep {k : Nat} {b : Int} (hb : 1 ≤ b ∧ b ≤ 65536) (hk : 1 ≤ k) : ∀ (f : Nat) (xs : List K5) (l e : Nat), Inv (plainK xs) k l e → allOk b xs → ∀ s, RepK xs s → RepK (cascK k b f xs l e) s
  | 0, xs, l, e, _, _, s, h => h
  | f + 1, xs, l, e, hi, ha, s, h => by
    by_cases hst : e - runK xs l e < k + 2
    · rw [cascK_stop hst]; exact h
    · rw [cascK_go hst]
      have hn := hi.next hk (by rw [runK_plain]; exact hst)
      rw [runK_plain, joinK_plain b] at hn
      have he := hi.st.he
      rw [plainK_length] at he
      obtain ⟨h1, _⟩ := runB_run (plainK xs) l e
      rw [runK_plain] at h1
      have hlen : runK xs l e + 1 < xs.length := by omega
      have l1 := h1 (runK xs l e) (Nat.le_refl _) (by omega)
      have l2 := h1 (runK xs l e + 1) (by omega) (by omega)
      rw [at_plainK] at l1 l2
      simp only at l1 l2
      have hlv := (hn.ord (runK xs l e) (by rw [plainK_length, joinK_length hlen]; omega)).2.1.2
      rw [at_plainK, atK_joinK hlen, if_neg (by omega), if_pos rfl] at hlv
      have hl29 : l ≤ 29 := by
        have : (l : Int) + 1 ≤ 30 := hlv
        omega
      refine casc_rep hb hk f _ (l + 1) _ hn (fun i hi2 => ?_) s ?_
      · rw [joinK_length hlen] at hi2
        rw [atK_joinK hlen]
        by_cases h3 : i < runK xs l e
        · rw [if_pos h3]; exact ha i (by omega)
        · rw [if_neg h3]
          by_cases h4 : i = runK xs l e
          · rw [if_pos h4]
            exact two_ok hb hl29 (ha _ (by omega)) (ha _ hlen) l1 l2
          · rw [if_neg h4]; exact ha _ (by omega)
      · rw [two_ofK hlen] at h
        obtain ⟨t1, t2, rfl, a, c⟩ := h.split
        exact a.append (c.join hb hl29 (ha _ (by omega)) (ha _ hlen) l1 l2)
theorem ins_rep {xs : List K5} {k b t v : Int} (hm : mayK xs k b t v = true) {s : Its} (h : RepK xs s) : RepK (insKC xs k.toNat b t v) (s ++ [(t, v)]) := by
  obtain ⟨h1, h2, h3, h4, h5⟩ := mayK_iff2.1 hm
  obtain ⟨hb, hv, ha⟩ := validK_iff.1 h1
  have hvp := validB_iff.1 hv
  have hk := hvp.1
  obtain ⟨kk, rfl⟩ := Int.eq_ofNat_of_zero_le (show 0 ≤ k by omega)
  rw [Int.toNat_natCast]
  have hw : wgt (plainK xs) = totalK xs := wgt_tot hvp.2.1
  have hlt : 0 < (plainK xs).length → tailT (plainK xs) ≤ t := fun h0 => by
    rw [plainK_length] at h0
    unfold lastK at h3
    rw [if_neg (by omega)] at h3
    unfold tailT
    rw [at_plainK, plainK_length]
    exact h3
  have hst := inv_start hvp h2 hlt (by omega)
  have e : plainK (xs ++ [(t, v, 0, 1, [(v, 1, 1)])]) = plainK xs ++ [(t, 0)] := by rw [plainK_append]; rfl
  rw [← e, plainK_length] at hst
  refine casc_rep hb (by omega) _ _ _ _ hst (fun j hj => ?_) _ (h.snoc t v)
  by_cases hj2 : j < xs.length
  · have : atK (xs ++ [(t, v, 0, 1, [(v, 1, 1)])]) j = atK xs j := by simp [atK, List.getElem?_append_left hj2]
    rw [this]; exact blkOk_iff.1 (ha j hj2)
  · have e2 : j = xs.length := by simp at hj; omega
    have : atK (xs ++ [(t, v, 0, 1, [(v, 1, 1)])]) j = (t, v, 0, 1, [(v, 1, 1)]) := by rw [e2]; simp [atK]
    rw [this]; exact one_ok hb h4
end Go.Proofs.Ytjapjfcennemeaa.rnk
end
section
namespace Go.Proofs.Ytjapjfcennemeaa.rnk
open Go.Proofs.Ytjapjfcennemeaa.mem Go.Proofs.Ytjapjfcennemeaa.buk
set_option linter.unusedVariables false
def sureF (p : Int × L3) : List K5 → (Int × L3) × Int
  | [] => (p, 0)
  | x :: r => if mrgE p.1 p.2 x.2.2.2.1 x.2.2.2.2 = 0 then sureF (mrgP p.1 p.2 x.2.2.2.1 x.2.2.2.2) r else ((0, []), mrgE p.1 p.2 x.2.2.2.1 x.2.2.2.2)
def okS (x : K5) : Bool := valR x.2.2.2.1 x.2.2.2.2 && decide (0 ≤ x.2.2.1 ∧ x.2.2.1 ≤ 30)
def okTo (xs : List K5) : Nat → Bool
  | 0 => true
  | i + 1 => okTo xs i && okS (atK xs i)
theorem okTo_iff {xs : List K5} : ∀ n, okTo xs n = true ↔ ∀ i < n, okS (atK xs i) = true
  | 0 => ⟨fun _ i h => absurd h (by omega), fun _ => rfl⟩
  | n + 1 => by
    unfold okTo
    rw [Bool.and_eq_true, okTo_iff n]
    constructor
    · rintro ⟨h1, h2⟩ i hi
      by_cases e : i = n
      · rw [e]; exact h2
      · exact h1 i (by omega)
    · intro h; exact ⟨fun i hi => h i (by omega), h n (by omega)⟩
theorem okTo_succ {xs : List K5} {i : Nat} (h : okTo xs i = true) (h2 : okS (atK xs i) = true) : okTo xs (i + 1) = true := by unfold okTo; rw [h, h2]; rfl
theorem okTo_not {xs : List K5} {i : Nat} (h : okS (atK xs i) = false) {n : Nat} (hi : i < n) : okTo xs n = false := by
  rw [Bool.eq_false_iff]; intro h2; rw [(okTo_iff n).1 h2 i hi] at h; cases h
def first1 (x : K5) : Int × L3 := if x.2.2.1 = 0 then (x.2.2.2.1, x.2.2.2.2) else (1, [(x.2.1, 1, 1)])
def sureK (xs : List K5) : (Int × L3) × Int := if okTo xs xs.length = true then (match xs with | [] => ((0, []), 0) | x :: r => sureF (first1 x) r) else ((0, []), 2)
theorem mrgE_t' {a b : Int} {x y : L3} (h1 : valR a x = true) (h2 : valR b y = true) : mrgE a x b y = if a + b ≤ 1099511627776 then 0 else 5 := by unfold mrgE; rw [if_pos ⟨h1, h2⟩]
theorem mrgP_t' {a b : Int} {x y : L3} (h1 : valR a x = true) (h2 : valR b y = true) (h3 : a + b ≤ 1099511627776) : mrgP a x b y = (a + b, mergeL x y a b) := by unfold mrgP; rw [if_pos (by unfold mrgOk; rw [h1, h2]; simpa using h3)]
theorem val_one (v : Int) : valR 1 [(v, 1, 1)] = true := by
  refine valR_iff.2 ⟨⟨by omega, by omega, by simp⟩, fun i hi => ?_, fun _ => ⟨rfl, rfl⟩⟩
  have hi2 : i = 0 := by simp at hi; exact hi
  subst hi2
  exact ⟨⟨Int.le_refl _, Int.le_refl _, Int.le_refl _⟩, fun h => absurd h (by omega)⟩
def slack (b : Int) : List K5 → Int
  | [] => 0
  | x :: r => allowed x.2.2.1 b + slack b r
def numK : List K5 → Int
  | [] => 0
  | x :: r => x.2.2.2.1 + numK r
theorem sureF_stands {b : Int} : ∀ (xs : List K5) (N : Int) (es : L3) (M : List Int) (s : Its), (∀ x ∈ xs, BOkP b x) → RepK xs s → valR N es = true → 0 < es.length → Stands M N es → N + numK xs ≤ 1099511627776 → (∀ x ∈ xs, 0 ≤ x.2.2.2.1) →
    ∃ es', sureF (N, es) xs = ((N + numK xs, es'), 0) ∧ valR (N + numK xs) es' = true ∧ 0 < es'.length ∧ Stands (M ++ s.map Prod.snd) (N + numK xs) es' ∧ gapTo es' (es'.length - 1) - 1 ≤ (gapTo es (es.length - 1) - 1) + slack b xs
  | [], N, es, M, s, _, hr, hv, h0, hs, _, _ => by
    obtain rfl : s = [] := hr
    exact ⟨es, by simp [sureF, numK], by simpa [numK] using hv, h0, by simpa [numK] using hs, by simp [slack]⟩
  | x :: r, N, es, M, s, ha, hr, hv, h0, hs, hN, hp => by
    obtain ⟨g, u, rfl, a, bb, d, c⟩ := hr
    have hx := ha x (List.mem_cons_self ..)
    have e1 : numK (x :: r) = x.2.2.2.1 + numK r := rfl
    have hnn : ∀ r : List K5, (∀ x ∈ r, 0 ≤ x.2.2.2.1) → 0 ≤ numK r := by
      intro r
      induction r with
      | nil => intro _; exact Int.le_refl _
      | cons y r ih => intro h; have := ih (fun z hz => h z (List.mem_cons_of_mem _ hz)); have := h y (List.mem_cons_self ..); show 0 ≤ y.2.2.2.1 + numK r; omega
    have hr0 := hnn r (fun z hz => hp z (List.mem_cons_of_mem _ hz))
    have hle : N + x.2.2.2.1 ≤ 1099511627776 := by omega
    have hm := merge_valid hv hx.val hle
    have hg := merge_gap hv hx.val
    obtain ⟨es', f1, f2, f3, f4, f5⟩ := sureF_stands r (N + x.2.2.2.1) (mergeL es x.2.2.2.2 N x.2.2.2.1) (M ++ g.map Prod.snd) u (fun z hz => ha z (List.mem_cons_of_mem _ hz)) c hm (by rw [merge_len]; omega) (hs.merge d (asc_of_val hv) (asc_of_val hx.val)) (by omega) (fun z hz => hp z (List.mem_cons_of_mem _ hz))
    refine ⟨es', ?_, ?_, f3, ?_, ?_⟩
    · show (if mrgE N es x.2.2.2.1 x.2.2.2.2 = 0 then sureF (mrgP N es x.2.2.2.1 x.2.2.2.2) r else _) = _
      rw [mrgE_t' hv hx.val, if_pos hle, if_pos rfl, mrgP_t' hv hx.val hle, f1, e1, Int.add_assoc]
    · rw [e1, ← Int.add_assoc]; exact f2
    · rw [e1, ← Int.add_assoc, List.map_append, ← List.append_assoc]; exact f4
    · have : slack b (x :: r) = allowed x.2.2.1 b + slack b r := rfl
      have := hx.gap
      omega
theorem num_wgt {b : Int} : ∀ {xs : List K5}, (∀ x ∈ xs, BOkP b x) → numK xs = (wgt (plainK xs) : Int)
  | [], _ => rfl
  | x :: r, h => by
    have h1 := num_wgt (xs := r) (fun z hz => h z (List.mem_cons_of_mem _ hz))
    have h2 := (h x (List.mem_cons_self ..)).num
    show x.2.2.2.1 + numK r = ((2 ^ x.2.2.1.toNat + wgt (plainK r) : Nat) : Int)
    rw [h1, h2]; simp
theorem all_mem {b : Int} {xs : List K5} (h : ∀ i < xs.length, blkOk b (atK xs i) = true) : ∀ x ∈ xs, BOkP b x := fun x hx => by
  obtain ⟨i, hi, rfl⟩ := List.mem_iff_getElem.1 hx
  have := blkOk_iff.1 (h i hi)
  rwa [atK_eq hi] at this
theorem sure_valid {b k : Int} {x : K5} {r : List K5} {s : Its} (hv : validK (x :: r) k b = true) (hr : RepK (x :: r) s) (ht : totalK (x :: r) ≤ 1000000) :
    ∃ g u N es, s = g ++ u ∧ g.length = 2 ^ x.2.2.1.toNat ∧ g.getLast? = some (x.1, x.2.1) ∧ RepK r u ∧ (0 ≤ x.2.2.1 ∧ x.2.2.1 ≤ 30) ∧ sureK (x :: r) = ((N, es), 0) ∧ valR N es = true ∧ 0 < es.length ∧ Stands ([x.2.1] ++ u.map Prod.snd) N es ∧ N = 1 + numK r ∧ gapTo es (es.length - 1) - 1 ≤ slack b r := by
  obtain ⟨hb, hvb, ha⟩ := validK_iff.1 hv
  have hp := validB_iff.1 hvb
  have hA := all_mem ha
  obtain ⟨g, u, rfl, a, bb, d, c⟩ := hr
  have hx := hA x (List.mem_cons_self ..)
  have hlev : ∀ y ∈ x :: r, 0 ≤ y.2.2.1 ∧ y.2.2.1 ≤ 30 := fun y hy => by
    have := ord_levels hp.2.1 (y.1, y.2.2.1) (by unfold plainK; exact List.mem_map.2 ⟨y, hy, rfl⟩)
    exact this
  have hl := hlev x (List.mem_cons_self ..)
  have hok : okTo (x :: r) (x :: r).length = true := (okTo_iff _).2 fun i hi => by
    have h1 := blkOk_iff.1 (ha i hi)
    have h2 := hlev (atK (x :: r) i) (by rw [atK_eq hi]; exact List.getElem_mem hi)
    unfold okS
    rw [h1.val]
    simpa using h2
  have hnum : numK (x :: r) = (wgt (plainK (x :: r)) : Int) := num_wgt hA
  have hnn : ∀ y ∈ x :: r, 0 ≤ y.2.2.2.1 := fun y hy => (valR_iff.1 (hA y hy).val).1.1
  have hw : (wgt (plainK (x :: r)) : Int) ≤ 1000000 := by
    have := wgt_tot hp.2.1
    unfold totalK at ht
    omega
  have e1 : numK (x :: r) = x.2.2.2.1 + numK r := rfl
  have hx0 := hnn x (List.mem_cons_self ..)
  have hx1 : 1 ≤ x.2.2.2.1 := by have := hx.num; have := Int.pow_pos (n := (2 : Int)) (m := x.2.2.1.toNat) (by omega); omega
  have key : ∃ es0, first1 x = (1, es0) ∧ valR 1 es0 = true ∧ 0 < es0.length ∧ Stands [x.2.1] 1 es0 ∧ gapTo es0 (es0.length - 1) = 1 := by
    unfold first1
    split
    · rename_i h0
      have h1 := hx.num
      rw [h0] at h1
      have h1' : x.2.2.2.1 = 1 := h1
      have hv1 := hx.val
      rw [h1'] at hv1 d
      have hlen := val_len hv1
      have hl1 : x.2.2.2.2.length = 1 := by have := hx.pos; omega
      have hg1 : g.length = 1 := by rw [a, h0]; rfl
      obtain ⟨q, rfl⟩ := List.length_eq_one_iff.1 hg1
      have hq : q = (x.1, x.2.1) := by simpa using bb
      subst hq
      exact ⟨_, by rw [h1'], hv1, hx.pos, d, by rw [hl1]; rfl⟩
    · exact ⟨_, rfl, val_one _, by simp, Stands.one _, rfl⟩
  obtain ⟨es0, k1, k2, k3, k4, k5⟩ := key
  obtain ⟨es', f1, f2, f3, f4, f5⟩ := sureF_stands r 1 es0 [x.2.1] u (fun z hz => hA z (List.mem_cons_of_mem _ hz)) c k2 k3 k4 (by omega) (fun z hz => hnn z (List.mem_cons_of_mem _ hz))
  refine ⟨g, u, 1 + numK r, es', rfl, a, bb, c, hl, ?_, f2, f3, f4, rfl, by omega⟩
  unfold sureK
  rw [if_pos hok]
  show sureF (first1 x) r = _
  rw [k1]; exact f1
end Go.Proofs.Ytjapjfcennemeaa.rnk
end
section
namespace Go.Proofs.Ytjapjfcennemeaa.rnk
open Go.Proofs.Ytjapjfcennemeaa.mem
set_option linter.unusedVariables false
def cutV (es : L3) (v : Int) : Nat := (es.takeWhile (fun e => decide (e.1 ≤ v))).length
theorem cutV_spec (v : Int) : ∀ es : L3, cutV es v ≤ es.length ∧ (∀ j < cutV es v, (at3 es j).1 ≤ v) ∧ (cutV es v < es.length → v < (at3 es (cutV es v)).1)
  | [] => ⟨Nat.le_refl _, fun j h => absurd h (Nat.not_lt_zero _), fun h => absurd h (Nat.not_lt_zero _)⟩
  | e :: es => by
    obtain ⟨h1, h2, h3⟩ := cutV_spec v es
    by_cases h : e.1 ≤ v
    · have hc : cutV (e :: es) v = cutV es v + 1 := by simp [cutV, List.takeWhile_cons, h]
      rw [hc]
      refine ⟨by simp; exact h1, fun j hj => ?_, fun hl => ?_⟩
      · cases j with
        | zero => exact h
        | succ j => exact h2 j (by omega)
      · exact h3 (by simpa using hl)
    · have hc : cutV (e :: es) v = 0 := by simp [cutV, List.takeWhile_cons, h]
      rw [hc]
      refine ⟨Nat.zero_le _, fun j hj => absurd hj (Nat.not_lt_zero _), fun _ => ?_⟩
      show v < e.1
      omega
theorem cutV_uniq {es : L3} {v : Int} {p : Nat} (hp : p ≤ es.length) (h1 : ∀ j < p, (at3 es j).1 ≤ v) (h2 : p < es.length → v < (at3 es p).1) : cutV es v = p := by
  obtain ⟨g1, g2, g3⟩ := cutV_spec v es
  rcases Nat.lt_trichotomy (cutV es v) p with h | h | h
  · have := g3 (by omega); have := h1 _ h; omega
  · exact h
  · have := h2 (by omega); have := g2 _ h; omega
def bnd6 (x y : Int) : Array Go.Value := #[.int .i64 x, .int .i64 1, .int .i64 ((x + y) / 2), .int .i64 1, .int .i64 y, .int .i64 1]
end Go.Proofs.Ytjapjfcennemeaa.rnk
end
section
namespace Go.Proofs.Ytjapjfcennemeaa.lst
open Go.RowKit Go.Proofs.Ytjapjfcennemeaa.mem
set_option linter.unusedVariables false
theorem bucket_info : (Try.prog.info? 102).map (fun i => (i.zero, i.size, i.bytes)) = some (some (.agg #[.int .i64 0, .int .i64 0]), 2, 16) := by kernel_rfl
end Go.Proofs.Ytjapjfcennemeaa.lst
end
