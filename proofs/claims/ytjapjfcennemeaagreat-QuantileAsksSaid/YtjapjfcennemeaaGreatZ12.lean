/- KeepK: proved here in one text, no conditions beyond those that each theorem states. -/
import Derived.Test.YtjapjfcennemeaaGreatZ11
import Derived.Test.YtjapjfcennemeaaGreatZ8
import Derived.Test.YtjapjfcennemeaaGreatZ7
set_option linter.unusedVariables false
set_option linter.unusedSimpArgs false
namespace Go.Proofs.YtjapjfcennemeaaGreat.rnk
open Go.Proofs.YtjapjfcennemeaaGreat.mem Go.Proofs.YtjapjfcennemeaaGreat.buk
set_option linter.unusedVariables false
theorem path_gt {x y : L3} (hx : asc x) : ∀ s, s ≤ x.length + y.length → ∀ j' < (path x y s).2, ∀ i', (path x y s).1 ≤ i' → i' < x.length → (at3 y j').1 < (at3 x i').1
  | 0, _, j', h, _, _, _ => absurd h (by simp [path])
  | s + 1, hs, j', h, i', h1, h2 => by
    have ih := path_gt hx (y := y) s (by omega)
    rcases path_cases (x := x) (y := y) (s := s) (by omega) with ⟨g1, g2, _, g4⟩ | ⟨g1, g2, _, g4⟩
    · rw [g1] at h h1; exact ih j' h i' (by simp only at h1; omega) h2
    · rw [g1] at h h1
      simp only at h h1
      by_cases e : j' = (path x y s).2
      · have h3 := hx (path x y s).1 i' h1 h2
        have h4 := g4 (by omega)
        rw [e]; omega
      · exact ih j' (by omega) i' h1 h2
section
variable {a b : Int} {x y : L3}
theorem merge_first (hx : valR a x = true) (hy : valR b y = true) (hy0 : 0 < y.length) : (at3 (mergeL x y a b) 0).1 ≤ (at3 y 0).1 := by
  rw [merge_at (by omega)]
  rcases path_cases (x := x) (y := y) (s := 0) (by omega) with ⟨_, _, g3, g4⟩ | ⟨_, _, g3, _⟩
  · rw [g3]; exact g4 hy0
  · rw [g3]; exact Int.le_refl _
theorem merge_last (hx : valR a x = true) (hy : valR b y = true) (hy0 : 0 < y.length) : (at3 y (y.length - 1)).1 ≤ (at3 (mergeL x y a b) ((mergeL x y a b).length - 1)).1 := by
  rw [merge_len, merge_at (by omega)]
  have he := path_end (x := x) (y := y)
  rw [show x.length + y.length = x.length + y.length - 1 + 1 by omega] at he
  rcases path_cases (x := x) (y := y) (s := x.length + y.length - 1) (by omega) with ⟨g1, g2, g3, _⟩ | ⟨g1, g2, g3, _⟩
  · rw [g3]
    rw [g1] at he
    have e2 := congrArg Prod.snd he
    simp only at e2
    exact Int.le_of_lt (path_gt (asc_of_val hx) (x.length + y.length - 1) (by omega) (y.length - 1) (by omega) _ (Nat.le_refl _) g2)
  · rw [g3]
    rw [g1] at he
    have e2 := congrArg Prod.snd he
    simp only at e2
    rw [show (path x y (x.length + y.length - 1)).2 = y.length - 1 by omega]
    exact Int.le_refl _
end
theorem val_len {N : Int} {es : L3} (h : valR N es = true) : (es.length : Int) ≤ N := by
  obtain ⟨⟨a1, a2, a3⟩, a4, a5⟩ := valR_iff.1 h
  have H : ∀ i, i < es.length → (i : Int) + 1 ≤ (at3 es i).2.1 := by
    intro i
    induction i with
    | zero => intro hi; have := (a4 0 hi).1; omega
    | succ i ih => intro hi; have := ih (by omega); have := min_lt h (show i < i + 1 by omega) hi; omega
  by_cases h0 : 0 < es.length
  · have h1 := H (es.length - 1) (by omega)
    have h2 := (a5 h0).2
    omega
  · omega
theorem allowTo_zero {b : Int} : ∀ m, (∀ j < m, ¬ b + 1 < 2 ^ j) → allowTo b m = 0
  | 0, _ => rfl
  | m + 1, h => by unfold allowTo; rw [if_neg (h m (by omega))]; exact allowTo_zero m (fun j hj => h j (by omega))
theorem pow_le {i j : Nat} (h : i ≤ j) : (2 : Int) ^ i ≤ 2 ^ j := by
  obtain ⟨d, rfl⟩ : ∃ d, j = i + d := ⟨j - i, by omega⟩
  rw [Int.pow_add]
  have h1 : (0 : Int) < 2 ^ i := Int.pow_pos (by omega)
  have h2 : (0 : Int) < 2 ^ d := Int.pow_pos (by omega)
  have := Int.mul_le_mul_of_nonneg_left (show (1 : Int) ≤ 2 ^ d by omega) (show (0 : Int) ≤ 2 ^ i by omega)
  omega
structure BOkP (b : Int) (x : K5) : Prop where
  val : valR x.2.2.2.1 x.2.2.2.2 = true
  num : x.2.2.2.1 = 2 ^ x.2.2.1.toNat
  len : (x.2.2.2.2.length : Int) ≤ b + 1
  gap : gapTo x.2.2.2.2 (x.2.2.2.2.length - 1) - 1 ≤ allowed x.2.2.1 b
  lo : -4096 ≤ (at3 x.2.2.2.2 0).1
  hi : (at3 x.2.2.2.2 (x.2.2.2.2.length - 1)).1 ≤ 4096
  llo : (at3 x.2.2.2.2 0).1 ≤ x.2.1
  lhi : x.2.1 ≤ (at3 x.2.2.2.2 (x.2.2.2.2.length - 1)).1
  pos : 0 < x.2.2.2.2.length
theorem blkOk_iff {b : Int} {x : K5} : blkOk b x = true ↔ BOkP b x := by
  have hp : valR x.2.2.2.1 x.2.2.2.2 = true → x.2.2.2.1 = 2 ^ x.2.2.1.toNat → 0 < x.2.2.2.2.length := fun h1 h2 => by
    obtain ⟨⟨a1, a2, a3⟩, _⟩ := valR_iff.1 h1
    have h3 : (0 : Int) < 2 ^ x.2.2.1.toNat := Int.pow_pos (by omega)
    rcases Nat.eq_zero_or_pos x.2.2.2.2.length with e | e
    · have := a3.1 e; omega
    · exact e
  unfold blkOk
  simp only [Bool.and_eq_true, decide_eq_true_eq]
  constructor
  · rintro ⟨⟨⟨⟨h1, h2⟩, h3⟩, h4⟩, ⟨⟨h5, h6⟩, h7⟩, h8⟩
    have h9 := hp h1 h2
    unfold gapR at h4
    rw [if_pos ⟨h1, h9⟩] at h4
    exact ⟨h1, h2, h3, h4, h5, h6, h7, h8, h9⟩
  · rintro ⟨h1, h2, h3, h4, h5, h6, h7, h8, h9⟩
    refine ⟨⟨⟨⟨h1, h2⟩, h3⟩, ?_⟩, ⟨⟨h5, h6⟩, h7⟩, h8⟩
    unfold gapR
    rw [if_pos ⟨h1, h9⟩]
    exact h4
theorem pruL_first {N b : Int} {es : L3} (h : valR N es = true) (hb : 1 ≤ b) : at3 (pruL N b es) 0 = at3 es 0 ∧ at3 (pruL N b es) ((pruL N b es).length - 1) = at3 es (es.length - 1) := by
  by_cases hl : (es.length : Int) ≤ b + 1
  · unfold pruL; rw [if_pos hl]; exact ⟨rfl, rfl⟩
  · have := pru_valid h hb hl; exact ⟨this.first, this.last⟩
theorem two_eq {b : Int} {x y : K5} (hb : 1 ≤ b ∧ b ≤ 65536) (hx : valR x.2.2.2.1 x.2.2.2.2 = true) (hy : valR y.2.2.2.1 y.2.2.2.2 = true) (hs : x.2.2.2.1 + y.2.2.2.1 ≤ 1099511627776) :
    twoR b x y = (x.2.2.2.1 + y.2.2.2.1, pruL (x.2.2.2.1 + y.2.2.2.1) b (mergeL x.2.2.2.2 y.2.2.2.2 x.2.2.2.1 y.2.2.2.1)) := by
  have h1 : mrgP x.2.2.2.1 x.2.2.2.2 y.2.2.2.1 y.2.2.2.2 = (x.2.2.2.1 + y.2.2.2.1, mergeL x.2.2.2.2 y.2.2.2.2 x.2.2.2.1 y.2.2.2.1) := by
    unfold mrgP
    rw [if_pos (by unfold mrgOk; rw [hx, hy]; simpa using hs)]
  unfold twoR
  rw [h1]
  unfold pruP
  rw [if_pos (by unfold pruOk; rw [merge_valid hx hy hs]; simpa using hb)]
theorem two_ok {b : Int} {x y : K5} {l : Nat} (hb : 1 ≤ b ∧ b ≤ 65536) (hl : l ≤ 29) (hx : BOkP b x) (hy : BOkP b y) (ex : x.2.2.1 = l) (ey : y.2.2.1 = l) : BOkP b (y.1, y.2.1, (l : Int) + 1, (twoR b x y).1, (twoR b x y).2) := by
  have nx := hx.num
  have ny := hy.num
  rw [ex, Int.toNat_natCast] at nx
  rw [ey, Int.toNat_natCast] at ny
  have gx := hx.gap
  have gy := hy.gap
  rw [ex] at gx
  rw [ey] at gy
  have hal : ∀ m : Nat, m ≤ 30 → allowed (m : Int) b = allowTo b (m + 1) := fun m hm => by
    unfold allowed; rw [if_pos ⟨by omega, hb.1, hb.2⟩, Int.toNat_natCast]
  rw [hal l (by omega)] at gx gy
  have hp : (2 : Int) ^ (l + 1) = 2 ^ l + 2 ^ l := by rw [Int.pow_succ]; omega
  have hp1 : (0 : Int) < 2 ^ l := Int.pow_pos (by omega)
  have hp2 : (2 : Int) ^ (l + 1) ≤ 2 ^ 30 := pow_le (by omega)
  have hp3 : (2 : Int) ^ 30 = 1073741824 := by decide
  have hs : x.2.2.2.1 + y.2.2.2.1 = 2 ^ (l + 1) := by rw [nx, ny, hp]
  have hle : x.2.2.2.1 + y.2.2.2.1 ≤ 1099511627776 := by omega
  rw [two_eq hb hx.val hy.val hle, hs]
  have hv := merge_valid hx.val hy.val hle
  have hg := merge_gap hx.val hy.val
  have h1 := merge_first hx.val hy.val hy.pos
  have h2 := merge_last hx.val hy.val hy.pos
  have hml := merge_len x.2.2.2.2 y.2.2.2.2 x.2.2.2.1 y.2.2.2.1
  have hvl := val_len hv
  have hbd : ∀ s, s < x.2.2.2.2.length + y.2.2.2.2.length → -4096 ≤ (at3 (mergeL x.2.2.2.2 y.2.2.2.2 x.2.2.2.1 y.2.2.2.1) s).1 ∧ (at3 (mergeL x.2.2.2.2 y.2.2.2.2 x.2.2.2.1 y.2.2.2.1) s).1 ≤ 4096 := fun s hs => by
    rw [merge_at hs]
    refine nxt_bd (fun i hi => ?_) (fun i hi => ?_) hs
    · have a1 := asc_of_val hx.val 0 i (by omega) hi
      have a2 := asc_of_val hx.val i (x.2.2.2.2.length - 1) (by omega) (by omega)
      have := hx.lo; have := hx.hi; omega
    · have a1 := asc_of_val hy.val 0 i (by omega) hi
      have a2 := asc_of_val hy.val i (y.2.2.2.2.length - 1) (by omega) (by omega)
      have := hy.lo; have := hy.hi; omega
  have hb0 := hbd 0 (by have := hy.pos; omega)
  have hb1 := hbd ((mergeL x.2.2.2.2 y.2.2.2.2 x.2.2.2.1 y.2.2.2.1).length - 1) (by have := hy.pos; omega)
  rw [hs] at hv hvl
  have hy0 := hy.pos
  have hyl := hy.llo
  have hyh := hy.lhi
  generalize mergeL x.2.2.2.2 y.2.2.2.2 x.2.2.2.1 y.2.2.2.1 = M at *
  obtain ⟨f1, f2⟩ := pruL_first (b := b) hv hb.1
  have hpl := pruL_le (b := b) hv hb.1
  have hpv := pruL_valid (b := b) hv hb.1
  refine ⟨hpv, ?_, hpl, ?_, ?_, ?_, ?_, ?_, ?_⟩
  · show (2 : Int) ^ (l + 1) = 2 ^ ((l : Int) + 1).toNat
    rw [show ((l : Int) + 1).toNat = l + 1 by omega]
  · show gapTo (pruL (2 ^ (l + 1)) b M) ((pruL (2 ^ (l + 1)) b M).length - 1) - 1 ≤ allowed ((l : Int) + 1) b
    rw [show (l : Int) + 1 = ((l + 1 : Nat) : Int) by omega, hal (l + 1) (by omega)]
    have hu : allowTo b (l + 1 + 1) = if b + 1 < 2 ^ (l + 1) then 2 * allowTo b (l + 1) + ceilD (2 ^ (l + 1) - 1) b else allowTo b (l + 1) := rfl
    rw [hu]
    split
    · have := pruL_gap hv hb.1 (by omega); omega
    · rename_i hn
      have e : pruL (2 ^ (l + 1)) b M = M := by unfold pruL; rw [if_pos (by omega)]
      rw [e]
      have hz : allowTo b (l + 1) = 0 := allowTo_zero _ (fun j hj h => hn (by have := pow_le (show j ≤ l + 1 by omega); omega))
      omega
  · show -4096 ≤ (at3 (pruL (2 ^ (l + 1)) b M) 0).1
    rw [f1]; exact hb0.1
  · show (at3 (pruL (2 ^ (l + 1)) b M) ((pruL (2 ^ (l + 1)) b M).length - 1)).1 ≤ 4096
    rw [f2]; exact hb1.2
  · show (at3 (pruL (2 ^ (l + 1)) b M) 0).1 ≤ y.2.1
    rw [f1]; omega
  · show y.2.1 ≤ (at3 (pruL (2 ^ (l + 1)) b M) ((pruL (2 ^ (l + 1)) b M).length - 1)).1
    rw [f2]; omega
  · show 0 < (pruL (2 ^ (l + 1)) b M).length
    obtain ⟨⟨_, _, a3⟩, _⟩ := valR_iff.1 hpv
    rcases Nat.eq_zero_or_pos (pruL (2 ^ (l + 1)) b M).length with e | e
    · have := a3.1 e; omega
    · exact e
theorem one_ok {b t v : Int} (hb : 1 ≤ b ∧ b ≤ 65536) (hv : -4096 ≤ v ∧ v ≤ 4096) : BOkP b (t, v, 0, 1, [(v, 1, 1)]) := by
  have h1 : valR 1 [(v, 1, 1)] = true := by
    refine valR_iff.2 ⟨⟨by omega, by omega, by simp⟩, fun i hi => ?_, fun _ => ⟨rfl, rfl⟩⟩
    have hi2 : i = 0 := by simp at hi; exact hi
    subst hi2
    exact ⟨⟨Int.le_refl _, Int.le_refl _, Int.le_refl _⟩, fun h => absurd h (by omega)⟩
  refine ⟨h1, rfl, ?_, ?_, hv.1, hv.2, Int.le_refl _, Int.le_refl _, by simp⟩
  · simp; omega
  · have h2 := (allowTo_bd hb.1 1).1
    unfold allowed
    rw [if_pos ⟨by simp, hb.1, hb.2⟩]
    show (1 : Int) - 1 ≤ allowTo b 1
    omega
theorem atK_joinK {b : Int} {xs : List K5} {s : Nat} {l : Int} (h : s + 1 < xs.length) (i : Nat) : atK (joinK b xs s l) i = if i < s then atK xs i else if i = s then bothK b xs s l else atK xs (i + 1) := by
  unfold joinK
  have hl : (xs.take s).length = s := by rw [List.length_take]; omega
  by_cases h1 : i < s
  · rw [if_pos h1, atK, List.getElem?_append_left (by omega), List.getElem?_take, if_pos h1]; rfl
  · rw [if_neg h1, atK, List.getElem?_append_right (by omega), hl]
    by_cases h2 : i = s
    · subst h2; simp
    · rw [if_neg h2, show i - s = (i - s - 1) + 1 by omega, List.getElem?_cons_succ, List.getElem?_drop, atK, show s + 2 + (i - s - 1) = i + 1 by omega]
def allOk (b : Int) (xs : List K5) : Prop := ∀ i < xs.length, BOkP b (atK xs i)
theorem casc_ok {k : Nat} {b : Int} (hb : 1 ≤ b ∧ b ≤ 65536) (hk : 1 ≤ k) : ∀ (f : Nat) (xs : List K5) (l e : Nat), Inv (plainK xs) k l e → allOk b xs → allOk b (cascK k b f xs l e)
  | 0, xs, l, e, _, h => h
  | f + 1, xs, l, e, hi, h => by
    by_cases hst : e - runK xs l e < k + 2
    · rw [cascK_stop hst]; exact h
    · rw [cascK_go hst]
      have hn := hi.next hk (by rw [runK_plain]; exact hst)
      rw [runK_plain, joinK_plain b] at hn
      have he := hi.st.he
      rw [plainK_length] at he
      obtain ⟨h1, _⟩ := runB_run (plainK xs) l e
      rw [runK_plain] at h1
      have hlen : runK xs l e + 1 < xs.length := by omega
      have l1 := h1 (runK xs l e) (Nat.le_refl _) (by omega)
      have l2 := h1 (runK xs l e + 1) (by omega) (by omega)
      rw [at_plainK] at l1 l2
      simp only at l1 l2
      have hlv := (hn.ord (runK xs l e) (by rw [plainK_length, joinK_length hlen]; omega)).2.1.2
      rw [at_plainK, atK_joinK hlen, if_neg (by omega), if_pos rfl] at hlv
      have hl29 : l ≤ 29 := by
        have : (l : Int) + 1 ≤ 30 := hlv
        omega
      refine casc_ok hb hk f _ (l + 1) _ hn (fun i hi2 => ?_)
      rw [joinK_length hlen] at hi2
      rw [atK_joinK hlen]
      by_cases h3 : i < runK xs l e
      · rw [if_pos h3]; exact h i (by omega)
      · rw [if_neg h3]
        by_cases h4 : i = runK xs l e
        · rw [if_pos h4]
          exact two_ok hb hl29 (h _ (by omega)) (h _ hlen) l1 l2
        · rw [if_neg h4]; exact h _ (by omega)
theorem wgt_tot {xs : L2} (h : ordOk xs xs.length) : wgt xs = lst.totalN xs := by
  induction xs with
  | nil => rfl
  | cons p r ih =>
    have h0 := (h 0 (by simp)).2.1
    have hr : ordOk r r.length := fun i hi => by
      have h1 := h (i + 1) (by simp; omega)
      have e : ∀ j, at_ (p :: r) (j + 1) = at_ r j := fun j => by simp [at_]
      unfold ordAt at h1 ⊢
      rw [e, Nat.add_sub_cancel] at h1
      refine ⟨h1.1, h1.2.1, fun hi0 => ?_⟩
      obtain ⟨j, rfl⟩ : ∃ j, i = j + 1 := ⟨i - 1, by omega⟩
      have := h1.2.2 (by omega)
      rw [e] at this
      exact this
    have e : at_ (p :: r) 0 = p := rfl
    rw [e] at h0
    simp only [wgt, lst.totalN, ih hr]
    unfold lst.wt
    rw [if_pos h0]
theorem insKC_ok {xs : List K5} {k b t v : Int} (hm : mayK xs k b t v = true) : validK (insKC xs k.toNat b t v) k b = true ∧ totalK (insKC xs k.toNat b t v) = totalK xs + 1 ∧ lastK (insKC xs k.toNat b t v) = t ∧ 0 < (insKC xs k.toNat b t v).length := by
  unfold mayK at hm
  simp only [Bool.and_eq_true, decide_eq_true_eq] at hm
  obtain ⟨⟨⟨h1, h2, h3⟩, h4⟩, h5⟩ := hm
  obtain ⟨hb, hv, ha⟩ := validK_iff.1 h1
  have hvp := validB_iff.1 hv
  have hk := hvp.1
  obtain ⟨kk, rfl⟩ := Int.eq_ofNat_of_zero_le (show 0 ≤ k by omega)
  rw [Int.toNat_natCast]
  have hw : wgt (plainK xs) = totalK xs := wgt_tot hvp.2.1
  have hlt : 0 < (plainK xs).length → tailT (plainK xs) ≤ t := fun h0 => by
    rw [plainK_length] at h0
    unfold lastK at h3
    rw [if_neg (by omega)] at h3
    unfold tailT
    rw [at_plainK, plainK_length]
    exact h3
  obtain ⟨g1, g2, g3, g4⟩ := insC_valid hvp h2 hlt (by omega)
  rw [insKC_plain xs kk b t v] at g1 g2 g3 g4
  rw [plainK_length] at g4
  refine ⟨validK_iff.2 ⟨hb, validB_t g1, fun i hi => blkOk_iff.2 ?_⟩, ?_, ?_, g4⟩
  · have hst := inv_start hvp h2 hlt (by omega)
    have e : plainK (xs ++ [(t, v, 0, 1, [(v, 1, 1)])]) = plainK xs ++ [(t, 0)] := by rw [plainK_append]; rfl
    rw [← e, plainK_length] at hst
    refine casc_ok hb (by omega) _ _ _ _ hst (fun j hj => ?_) i hi
    by_cases hj2 : j < xs.length
    · have : atK (xs ++ [(t, v, 0, 1, [(v, 1, 1)])]) j = atK xs j := by simp [atK, List.getElem?_append_left hj2]
      rw [this]; exact blkOk_iff.1 (ha j hj2)
    · have e2 : j = xs.length := by simp at hj; omega
      have : atK (xs ++ [(t, v, 0, 1, [(v, 1, 1)])]) j = (t, v, 0, 1, [(v, 1, 1)]) := by rw [e2]; simp [atK]
      rw [this]; exact one_ok hb h4
  · have := wgt_tot g1.2.1
    unfold totalK at *
    omega
  · unfold lastK
    rw [if_neg (by omega)]
    unfold tailT at g3
    rw [at_plainK, plainK_length] at g3
    exact g3
end Go.Proofs.YtjapjfcennemeaaGreat.rnk
