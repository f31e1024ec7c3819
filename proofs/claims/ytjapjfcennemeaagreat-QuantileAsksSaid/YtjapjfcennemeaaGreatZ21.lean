/- Steady3: proved here in one text, no conditions beyond those that each theorem states. -/
import Derived.Test.YtjapjfcennemeaaGreatZ18
set_option linter.unusedVariables false
set_option linter.unusedSimpArgs false
namespace Go.Proofs.YtjapjfcennemeaaGreat.gro
open Go.RowKit Go.Proofs.YtjapjfcennemeaaGreat.mem
set_option linter.unusedVariables false
section
variable {P : Program} {ops : Array Oper} {md : Region.Mode} {Q : Exit → Act → World → Prop} {S : World → Prop} {s : Nat}
def anyM (P : Program) (md : Region.Mode) (ops : Array Oper) (Q : Exit → Act → World → Prop) (S : World → Prop) (s : Nat) : Nat → Array Bool → Act → World → Prop
  | 0, listed, a, w => Region.ready md ops listed = [] ∧ ∀ w2, Below w.heap.size w w2 → Q .normal a w2
  | f + 1, listed, a, w =>
    (Region.ready md ops listed = [] → ∀ w2, Below w.heap.size w w2 → Q .normal a w2) ∧
    ∀ i ∈ Region.ready md ops listed, ∀ w2, Below w.heap.size w w2 → wpOp P ops Q i (fun a' w' => ((listed.setIfInBounds i true).getD s true = false → S w') ∧ anyM P md ops Q S s f (listed.setIfInBounds i true) a' w') a w2
theorem anyM_grow : ∀ (f : Nat) {listed : Array Bool} {a : Act} {w w2 : World}, Below w.heap.size w w2 → anyM P md ops Q S s f listed a w → anyM P md ops Q S s f listed a w2
  | 0, _, _, _, _, hb, h => ⟨h.1, fun w3 h3 => h.2 w3 (grow_trans hb h3)⟩
  | f + 1, _, _, _, _, hb, h => ⟨fun h0 w3 h3 => h.1 h0 w3 (grow_trans hb h3), fun i hi w3 h3 => h.2 i hi w3 (grow_trans hb h3)⟩
theorem wpAny_of_anyM : ∀ (f : Nat) (listed : Array Bool) (a : Act) (w : World), anyM P md ops Q S s f listed a w → wpAny P md ops Q f listed a w
  | 0, _, _, w, h => ⟨h.1, h.2 w (Below.refl _ _)⟩
  | f + 1, _, _, w, h => ⟨fun h0 => h.1 h0 w (Below.refl _ _), fun i hi => wpOp_mono (fun a' w' h' => wpAny_of_anyM f _ a' w' h'.2) (h.2 i hi w (Below.refl _ _))⟩
theorem anyM_first (hL : Lasts S) {i : Nat} (hwt : waits md ops s i = true) {oi : Oper} {v : Value} (hi : ops[i]? = some oi) (hsel : ∀ (j : Nat) (o : Oper) cs b, ops[j]? = some o → o.op ≠ .select cs b)
    (hQ : ∀ c a w, Q (.panic c) (a.put oi.dst v) w → Q (.panic c) a w) :
    ∀ (fuel : Nat) (listed : Array Bool) (a : Act) (w : World),
      (∀ j oj, ops[j]? = some oj → j ≠ i → listed.getD j true = false → (∀ e ∈ oj.after, Region.binds md e = true → e.on ≠ i) → oi.apart ops oj = true) →
      i ∈ Region.ready md ops listed → YieldsG P ops S oi v a → listed.getD s true = false → S w →
      anyM P md ops Q S s fuel (listed.setIfInBounds i true) (a.put oi.dst v) w → anyM P md ops Q S s (fuel + 1) listed a w := by
  intro fuel
  induction fuel with
  | zero =>
    intro listed a w _ hr hy hs0 hS H
    refine ⟨fun h => (by rw [h] at hr; cases hr), fun j hj w2 hb => ?_⟩
    have hS2 := hL _ _ hS hb
    by_cases hji : j = i
    · subst hji; exact hy.wpOp hi hS2 (fun w3 h3 => ⟨fun _ => hL _ _ hS2 h3, anyM_grow 0 (grow_trans hb h3) H⟩)
    · have := ready_mono hj hji
      rw [H.1] at this
      cases this
  | succ fuel ih =>
    intro listed a w hfree hr hy hs0 hS H
    refine ⟨fun h => (by rw [h] at hr; cases hr), fun j hj w2 hb => ?_⟩
    have hS2 := hL _ _ hS hb
    by_cases hji : j = i
    · subst hji; exact hy.wpOp hi hS2 (fun w3 h3 => ⟨fun _ => hL _ _ hS2 h3, anyM_grow _ (grow_trans hb h3) H⟩)
    · have h1 := H.2 j (ready_mono hj hji) w2 hb
      obtain ⟨hjun, oj, hoj, hall⟩ := mem_ready.1 hj
      have hnot : ∀ e ∈ oj.after, Region.binds md e = true → e.on ≠ i := fun e he hb heq => by
        have h1 := hall e he hb
        have h0 := (mem_ready.1 hr).1
        rw [heq] at h1
        rcases Nat.lt_or_ge i listed.size with h' | h'
        · simp [h'] at h0 h1; rw [h0] at h1; cases h1
        · simp [Array.getElem?_eq_none h'] at h1
      have h2 := wpOp_putG hoj (hfree j oj hoj hji hjun hnot) (fun cs b => hsel i oi cs b hi) (fun cs b => hsel j oj cs b hoj) hQ hy h1
      have hfree' : ∀ k ok, ops[k]? = some ok → k ≠ i → (listed.setIfInBounds j true).getD k true = false →
          (∀ e ∈ ok.after, Region.binds md e = true → e.on ≠ i) → oi.apart ops ok = true := fun k ok hk hki hun hno => by
        refine hfree k ok hk hki ?_ hno
        by_cases hjk : j = k
        · subst hjk; exact hjun
        · rw [getD_set_ne true hjk] at hun; exact hun
      have his : i ≠ s := waits_not hwt hr hr
      have hjs : j ≠ s := waits_not hwt hr hj
      have e1 : (listed.setIfInBounds j true).getD s true = false := by rw [getD_set_ne true hjs]; exact hs0
      have e2 : ((listed.setIfInBounds i true).setIfInBounds j true).getD s true = false := by rw [getD_set_ne true hjs, getD_set_ne true his]; exact hs0
      refine wpOp_mono (fun a' w' h3 => ⟨fun _ => h3.2.1 e2, ih (listed.setIfInBounds j true) a' w' hfree' (ready_mono hr (Ne.symm hji)) h3.1 e1 (h3.2.1 e2) ?_⟩) h2
      rw [Array.setIfInBounds_comm _ _ hji]
      exact h3.2.2
theorem anyM_lex (hL : Lasts S) {A : Act} {f : Nat} (hs : Region.noSelect ops = true) (hQ : ∀ c a (d : Tmp) v w, Q (.panic c) (Act.put a (some d) v) w → Q (.panic c) a w) :
    ∀ (ks : List Nat) (l : List Oper) (listed : Array Bool) (a : Act) (w : World), (∀ k ∈ ks, waits md ops s k = true) → ks.map (fun k => ops[k]?) = l.map some → takeB md ops ks listed = true → dstB a.tmps.size l = true →
      (∀ w0, S w0 → wpQuiet P ops (fun w' => ∃ x : Ext w0, w' = grown w0 x) (fun a' => a' = A) l a) → listed.getD s true = false → S w →
      anyM P md ops Q S s f (listedBy ks listed) A w → anyM P md ops Q S s (ks.length + f) listed a w
  | [], l, listed, a, w, _, hl, _, _, hq, hs0, hS, h => by
    cases l with
    | nil =>
      have : a = A := hq w hS
      subst this
      rw [List.length_nil, Nat.zero_add]
      exact h
    | cons o l => simp at hl
  | k :: ks, l, listed, a, w, hwt, hl, ht, hd, hq, hs0, hS, h => by
    cases l with
    | nil => simp at hl
    | cons o l =>
      simp only [List.map_cons, List.cons.injEq] at hl
      obtain ⟨h0, hl⟩ := hl
      simp only [takeB, Bool.and_eq_true] at ht
      obtain ⟨⟨hr, hf⟩, ht'⟩ := ht
      simp only [dstB, Bool.and_eq_true] at hd
      obtain ⟨hd1, hd2⟩ := hd
      obtain ⟨d, hdd⟩ : ∃ d, o.dst = some d := by
        cases h1 : o.dst with
        | none => rw [h1] at hd1; simp at hd1
        | some d => exact ⟨d, rfl⟩
      rw [hdd] at hd1
      simp only [Bool.and_eq_true, decide_eq_true_eq, List.all_eq_true] at hd1
      have hne : ∀ o' ∈ l, o'.dst ≠ some d := fun o' ho' => by have := hd1.2 o' ho'; simpa using this
      have key : ∃ v, YieldsG P ops S o v a ∧ ∀ w0, S w0 → wpQuiet P ops (fun w' => ∃ x : Ext w0, w' = grown w0 x) (fun a' => a' = A) l (a.put o.dst v) := by
        by_cases hw : Region.wanted o (yielded ops a.tmps) = true
        · have hv : ∀ w0, S w0 → ∃ v, A.tmps[d]? = some v ∧ (∀ w', (∃ x : Ext w0, w' = grown w0 x) → o.quietAt P a (fun w' => ∃ x : Ext w0, w' = grown w0 x) w' v) ∧ wpQuiet P ops (fun w' => ∃ x : Ext w0, w' = grown w0 x) (fun a' => a' = A) l (a.put o.dst v) := fun w0 hb => by
            have := hq w0 hb
            simp only [wpQuiet, hw, if_true] at this
            obtain ⟨v, h1, h2⟩ := this
            refine ⟨v, ?_, h1, h2⟩
            rw [quiet_keeps l _ h2 d hne, hdd, put_get hd1.1]
          obtain ⟨v, e1, _, _⟩ := hv w hS
          refine ⟨v, .inl ⟨hw, fun w0 hb => ?_⟩, fun w0 hb => ?_⟩
          · obtain ⟨v2, e2, h1, _⟩ := hv w0 hb
            have : v2 = v := by rw [e1] at e2; injection e2 with e2; exact e2.symm
            subst this
            have h3 := h1 w0 (of_below (Below.refl _ _))
            unfold Oper.quietAt at h3 ⊢
            generalize (execOp a.eval o).run P w0 = r at *
            cases r with
            | ok n w' =>
              cases n <;> simp only [Oper.quietUpon] at h3 ⊢
              case value u => exact h3
              case skip => exact h3
              case enter f args =>
                refine ⟨h3.1, h3.2.mono fun e w'' ⟨he, hx⟩ => ⟨he, ?_⟩⟩
                obtain ⟨x, rfl⟩ := hx
                exact below_grown w0 x
            | halt x w' => simp only [Oper.quietUpon] at h3
          · obtain ⟨v2, e2, _, h2⟩ := hv w0 hb
            have : v2 = v := by rw [e1] at e2; injection e2 with e2; exact e2.symm
            subst this
            exact h2
        · refine ⟨undef, .inr ⟨by simpa using hw, rfl⟩, fun w0 hb => ?_⟩
          have := hq w0 hb
          simp only [wpQuiet, hw] at this
          exact this
      obtain ⟨v, hy, hq'⟩ := key
      rw [List.length_cons, show ks.length + 1 + f = (ks.length + f) + 1 by omega]
      exact anyM_first hL (hwt k (List.mem_cons_self ..)) h0 (Region.noSelect_spec hs) (fun c a w h => hQ c a d _ w (by rw [hdd] at h; exact h)) _ listed a w (Region.free_spec h0 hf) (by simpa using hr) hy hs0 hS
        (anyM_lex hL hs hQ ks l _ _ w (fun k' hk' => hwt k' (List.mem_cons_of_mem _ hk')) hl ht' (by rw [put_size]; exact hd2) hq' (by rw [getD_set_ne true (waits_not (hwt k (List.mem_cons_self ..)) (by simpa using hr) (by simpa using hr))]; exact hs0) hS h)
theorem anyM_free (hL : Lasts S) {i : Nat} (his : i ≠ s) {oi : Oper} {v : Value} (hi : ops[i]? = some oi) (hsel : ∀ (j : Nat) (o : Oper) cs b, ops[j]? = some o → o.op ≠ .select cs b)
    (hQ : ∀ c a w, Q (.panic c) (a.put oi.dst v) w → Q (.panic c) a w) :
    ∀ (fuel : Nat) (listed : Array Bool) (a : Act) (w : World),
      (∀ j oj, ops[j]? = some oj → j ≠ i → listed.getD j true = false → (∀ e ∈ oj.after, Region.binds md e = true → e.on ≠ i) → oi.apart ops oj = true) →
      i ∈ Region.ready md ops listed → YieldsG P ops (fun _ => True) oi v a → (listed.getD s true = false → S w) →
      anyM P md ops Q S s fuel (listed.setIfInBounds i true) (a.put oi.dst v) w → anyM P md ops Q S s (fuel + 1) listed a w := by
  intro fuel
  induction fuel with
  | zero =>
    intro listed a w _ hr hy hS H
    refine ⟨fun h => (by rw [h] at hr; cases hr), fun j hj w2 hb => ?_⟩
    by_cases hji : j = i
    · subst hji; exact hy.wpOp hi trivial (fun w3 h3 => ⟨fun hz => hL _ _ (hL _ _ (hS (by rwa [getD_set_ne true his] at hz)) hb) h3, anyM_grow 0 (grow_trans hb h3) H⟩)
    · have := ready_mono hj hji
      rw [H.1] at this
      cases this
  | succ fuel ih =>
    intro listed a w hfree hr hy hS H
    refine ⟨fun h => (by rw [h] at hr; cases hr), fun j hj w2 hb => ?_⟩
    by_cases hji : j = i
    · subst hji; exact hy.wpOp hi trivial (fun w3 h3 => ⟨fun hz => hL _ _ (hL _ _ (hS (by rwa [getD_set_ne true his] at hz)) hb) h3, anyM_grow _ (grow_trans hb h3) H⟩)
    · have h1 := H.2 j (ready_mono hj hji) w2 hb
      obtain ⟨hjun, oj, hoj, hall⟩ := mem_ready.1 hj
      have hnot : ∀ e ∈ oj.after, Region.binds md e = true → e.on ≠ i := fun e he hb heq => by
        have h1 := hall e he hb
        have h0 := (mem_ready.1 hr).1
        rw [heq] at h1
        rcases Nat.lt_or_ge i listed.size with h' | h'
        · simp [h'] at h0 h1; rw [h0] at h1; cases h1
        · simp [Array.getElem?_eq_none h'] at h1
      have h2 := wpOp_putG hoj (hfree j oj hoj hji hjun hnot) (fun cs b => hsel i oi cs b hi) (fun cs b => hsel j oj cs b hoj) hQ hy h1
      have hfree' : ∀ k ok, ops[k]? = some ok → k ≠ i → (listed.setIfInBounds j true).getD k true = false →
          (∀ e ∈ ok.after, Region.binds md e = true → e.on ≠ i) → oi.apart ops ok = true := fun k ok hk hki hun hno => by
        refine hfree k ok hk hki ?_ hno
        by_cases hjk : j = k
        · subst hjk; exact hjun
        · rw [getD_set_ne true hjk] at hun; exact hun
      have hz : ∀ w', ((((listed.setIfInBounds i true).setIfInBounds j true).getD s true = false → S w')) → ((listed.setIfInBounds j true).getD s true = false → S w') := fun w' h hz => h (by rw [Array.setIfInBounds_comm _ _ (Ne.symm hji), getD_set_ne true his]; exact hz)
      refine wpOp_mono (fun a' w' h3 => ⟨hz _ h3.2.1, ih (listed.setIfInBounds j true) a' w' hfree' (ready_mono hr (Ne.symm hji)) h3.1 (hz _ h3.2.1) ?_⟩) h2
      rw [Array.setIfInBounds_comm _ _ hji]
      exact h3.2.2
theorem anyM_flex (hL : Lasts S) {A : Act} {f : Nat} (hs : Region.noSelect ops = true) (hQ : ∀ c a (d : Tmp) v w, Q (.panic c) (Act.put a (some d) v) w → Q (.panic c) a w) :
    ∀ (ks : List Nat) (l : List Oper) (listed : Array Bool) (a : Act) (w : World), (∀ k ∈ ks, k ≠ s) → ks.map (fun k => ops[k]?) = l.map some → takeB md ops ks listed = true → dstB a.tmps.size l = true →
      (∀ w0, wpQuiet P ops (fun w' => ∃ x : Ext w0, w' = grown w0 x) (fun a' => a' = A) l a) → (listed.getD s true = false → S w) →
      anyM P md ops Q S s f (listedBy ks listed) A w → anyM P md ops Q S s (ks.length + f) listed a w
  | [], l, listed, a, w, _, hl, _, _, hq, hS, h => by
    cases l with
    | nil =>
      have : a = A := hq w
      subst this
      rw [List.length_nil, Nat.zero_add]
      exact h
    | cons o l => simp at hl
  | k :: ks, l, listed, a, w, hwt, hl, ht, hd, hq, hS, h => by
    cases l with
    | nil => simp at hl
    | cons o l =>
      simp only [List.map_cons, List.cons.injEq] at hl
      obtain ⟨h0, hl⟩ := hl
      simp only [takeB, Bool.and_eq_true] at ht
      obtain ⟨⟨hr, hf⟩, ht'⟩ := ht
      simp only [dstB, Bool.and_eq_true] at hd
      obtain ⟨hd1, hd2⟩ := hd
      obtain ⟨d, hdd⟩ : ∃ d, o.dst = some d := by
        cases h1 : o.dst with
        | none => rw [h1] at hd1; simp at hd1
        | some d => exact ⟨d, rfl⟩
      rw [hdd] at hd1
      simp only [Bool.and_eq_true, decide_eq_true_eq, List.all_eq_true] at hd1
      have hne : ∀ o' ∈ l, o'.dst ≠ some d := fun o' ho' => by have := hd1.2 o' ho'; simpa using this
      have key : ∃ v, YieldsG P ops (fun _ => True) o v a ∧ ∀ w0, wpQuiet P ops (fun w' => ∃ x : Ext w0, w' = grown w0 x) (fun a' => a' = A) l (a.put o.dst v) := by
        by_cases hw : Region.wanted o (yielded ops a.tmps) = true
        · have hv : ∀ w0, ∃ v, A.tmps[d]? = some v ∧ (∀ w', (∃ x : Ext w0, w' = grown w0 x) → o.quietAt P a (fun w' => ∃ x : Ext w0, w' = grown w0 x) w' v) ∧ wpQuiet P ops (fun w' => ∃ x : Ext w0, w' = grown w0 x) (fun a' => a' = A) l (a.put o.dst v) := fun w0 => by
            have := hq w0
            simp only [wpQuiet, hw, if_true] at this
            obtain ⟨v, h1, h2⟩ := this
            refine ⟨v, ?_, h1, h2⟩
            rw [quiet_keeps l _ h2 d hne, hdd, put_get hd1.1]
          obtain ⟨v, e1, _, _⟩ := hv w
          refine ⟨v, .inl ⟨hw, fun w0 hb => ?_⟩, fun w0 => ?_⟩
          · obtain ⟨v2, e2, h1, _⟩ := hv w0
            have : v2 = v := by rw [e1] at e2; injection e2 with e2; exact e2.symm
            subst this
            have h3 := h1 w0 (of_below (Below.refl _ _))
            unfold Oper.quietAt at h3 ⊢
            generalize (execOp a.eval o).run P w0 = r at *
            cases r with
            | ok n w' =>
              cases n <;> simp only [Oper.quietUpon] at h3 ⊢
              case value u => exact h3
              case skip => exact h3
              case enter f args =>
                refine ⟨h3.1, h3.2.mono fun e w'' ⟨he, hx⟩ => ⟨he, ?_⟩⟩
                obtain ⟨x, rfl⟩ := hx
                exact below_grown w0 x
            | halt x w' => simp only [Oper.quietUpon] at h3
          · obtain ⟨v2, e2, _, h2⟩ := hv w0
            have : v2 = v := by rw [e1] at e2; injection e2 with e2; exact e2.symm
            subst this
            exact h2
        · refine ⟨undef, .inr ⟨by simpa using hw, rfl⟩, fun w0 => ?_⟩
          have := hq w0
          simp only [wpQuiet, hw] at this
          exact this
      obtain ⟨v, hy, hq'⟩ := key
      rw [List.length_cons, show ks.length + 1 + f = (ks.length + f) + 1 by omega]
      exact anyM_free hL (hwt k (List.mem_cons_self ..)) h0 (Region.noSelect_spec hs) (fun c a w h => hQ c a d _ w (by rw [hdd] at h; exact h)) _ listed a w (Region.free_spec h0 hf) (by simpa using hr) hy hS
        (anyM_flex hL hs hQ ks l _ _ w (fun k' hk' => hwt k' (List.mem_cons_of_mem _ hk')) hl ht' (by rw [put_size]; exact hd2) hq' (fun hz => hS (by rwa [getD_set_ne true (hwt k (List.mem_cons_self ..))] at hz)) h)
theorem wp_region_held {id : Nat} {a : Act} {w : World} {l : List Oper} (ks : List Nat) (l' : List Oper) (f s : Nat) (S : World → Prop) (hL : Lasts S) (hm : P.follows .mixedOrders = true)
    (hs : Region.noSelect l.toArray = true) (hQ : ∀ c a (d : Tmp) v w, Q (.panic c) (Act.put a (some d) v) w → Q (.panic c) a w) (hw : ks.all (fun k => waits .any l.toArray s k) = true)
    (hl : ks.map (fun k => l.toArray[k]?) = l'.map some) (ht : takeB .any l.toArray ks (Array.replicate l.toArray.size false) = true) (hd : dstB a.tmps.size l' = true) (hn : l.length = ks.length + f) (hsl : s < l.length) (hS : S w.drew)
    (hA : ∃ A, (∀ w0, S w0 → wpQuiet P l.toArray (fun w' => ∃ x : Ext w0, w' = grown w0 x) (fun a' => a' = A) l' a) ∧
      anyM P .any l.toArray Q S s f (listedBy ks (Array.replicate l.toArray.size false)) A w.drew) : (Code.region id l.toArray true).wp P Q a w := by
  obtain ⟨A, hq, h⟩ := hA
  refine wp_region_any hm (wpAny_of_anyM (S := S) (s := s) _ _ _ _ ?_)
  have e : ks.length + f = l.toArray.size := by simp; omega
  have := anyM_lex (md := .any) hL (s := s) (f := f) hs hQ ks l' (Array.replicate l.toArray.size false) a w.drew (fun k hk => List.all_eq_true.1 hw k hk) hl ht hd hq (by simp [hsl]) hS h
  rw [e] at this
  exact this
theorem anyM_all {rs : List Nat} {f : Nat} {listed : Array Bool} {a : Act} {w : World} (hr : Region.ready md ops listed = rs) (hne : rs ≠ [])
    (h : ∀ i ∈ rs, ∀ w2, Below w.heap.size w w2 → wpOp P ops Q i (fun a' w' => ((listed.setIfInBounds i true).getD s true = false → S w') ∧ anyM P md ops Q S s f (listed.setIfInBounds i true) a' w') a w2) : anyM P md ops Q S s (f + 1) listed a w :=
  ⟨fun h0 => absurd (hr ▸ h0) hne, hr ▸ h⟩
theorem anyM_done {f : Nat} {listed : Array Bool} {a : Act} {w : World} (hr : Region.ready md ops listed = []) (h : ∀ w2, Below w.heap.size w w2 → Q .normal a w2) : anyM P md ops Q S s f listed a w := by
  cases f with
  | zero => exact ⟨hr, h⟩
  | succ f => exact ⟨fun _ => h, by rw [hr]; simp⟩
theorem anyM_one (i : Nat) {o : Oper} {f : Nat} {listed : Array Bool} {a : Act} {w : World} (hr : Region.ready md ops listed = [i]) (ho : ops[i]? = some o)
    (h : ∀ w2, Below w.heap.size w w2 → ∀ K' : Act → World → Prop, (∀ a' w', ((listed.setIfInBounds i true).getD s true = false → S w') ∧ anyM P md ops Q S s f (listed.setIfInBounds i true) a' w' → K' a' w') → if Region.wanted o (yielded ops a.tmps) = true then Oper.wp P o a w2 K' Q else K' (a.put o.dst undef) w2) : anyM P md ops Q S s (f + 1) listed a w :=
  anyM_all hr (by simp) (fun j hj w2 hb => by
    obtain rfl : j = i := by simpa using hj
    exact wpOp_step ho (fun K' hK => h w2 hb K' hK))
theorem anyM_two (i j : Nat) {o p : Oper} {f : Nat} {listed : Array Bool} {a : Act} {w : World} (hr : Region.ready md ops listed = [i, j]) (ho : ops[i]? = some o) (hp : ops[j]? = some p)
    (h : ∀ w2, Below w.heap.size w w2 → ∀ K' : Act → World → Prop, (∀ a' w', ((listed.setIfInBounds i true).getD s true = false → S w') ∧ anyM P md ops Q S s f (listed.setIfInBounds i true) a' w' → K' a' w') → if Region.wanted o (yielded ops a.tmps) = true then Oper.wp P o a w2 K' Q else K' (a.put o.dst undef) w2)
    (h2 : ∀ w2, Below w.heap.size w w2 → ∀ K' : Act → World → Prop, (∀ a' w', ((listed.setIfInBounds j true).getD s true = false → S w') ∧ anyM P md ops Q S s f (listed.setIfInBounds j true) a' w' → K' a' w') → if Region.wanted p (yielded ops a.tmps) = true then Oper.wp P p a w2 K' Q else K' (a.put p.dst undef) w2) : anyM P md ops Q S s (f + 1) listed a w :=
  anyM_all hr (by simp) (fun k hk w2 hb => by
    simp only [List.mem_cons, List.not_mem_nil, or_false] at hk
    rcases hk with rfl | rfl
    · exact wpOp_step ho (fun K' hK => h w2 hb K' hK)
    · exact wpOp_step hp (fun K' hK => h2 w2 hb K' hK))
def pickA (ops : Array Oper) (ks : List Nat) : List Oper := ks.filterMap (fun k => ops[k]?)
theorem anyM_first_all {a : Act} {w : World} {listed : Array Bool} {n : Nat} (ks : List Nat) (f : Nat) (hL : Lasts S) (hs : Region.noSelect ops = true) (hQ : ∀ c a (d : Tmp) v w, Q (.panic c) (Act.put a (some d) v) w → Q (.panic c) a w) (hk : ks.all (fun k => decide (k ≠ s)) = true)
    (hl : ks.map (fun k => ops[k]?) = (pickA ops ks).map some) (ht : takeB md ops ks listed = true) (hd : dstB a.tmps.size (pickA ops ks) = true) (hn : n = ks.length + f) (hS : S w)
    (hA : ∃ A, (∀ w0, wpQuiet P ops (fun w' => ∃ x : Ext w0, w' = grown w0 x) (fun a' => a' = A) (pickA ops ks) a) ∧ anyM P md ops Q S s f (listedBy ks listed) A w) : anyM P md ops Q S s n listed a w := by
  obtain ⟨A, hq, h⟩ := hA
  rw [hn]
  exact anyM_flex hL hs hQ ks _ listed a w (fun k hk' => by have := List.all_eq_true.1 hk k hk'; simpa using this) hl ht hd hq (fun _ => hS) h
theorem wp_region_heldA {id : Nat} {a : Act} {w : World} {l : List Oper} (ks : List Nat) (f s : Nat) (S : World → Prop) (hL : Lasts S) (hm : P.follows .mixedOrders = true)
    (hs : Region.noSelect l.toArray = true) (hQ : ∀ c a (d : Tmp) v w, Q (.panic c) (Act.put a (some d) v) w → Q (.panic c) a w) (hw : ks.all (fun k => waits .any l.toArray s k) = true)
    (hl : ks.map (fun k => l.toArray[k]?) = (pickA l.toArray ks).map some) (ht : takeB .any l.toArray ks (Array.replicate l.toArray.size false) = true) (hd : dstB a.tmps.size (pickA l.toArray ks) = true) (hn : l.length = ks.length + f) (hsl : s < l.length) (hS : S w.drew)
    (hA : ∃ A, (∀ w0, S w0 → wpQuiet P l.toArray (fun w' => ∃ x : Ext w0, w' = grown w0 x) (fun a' => a' = A) (pickA l.toArray ks) a) ∧
      anyM P .any l.toArray Q S s f (listedBy ks (Array.replicate l.toArray.size false)) A w.drew) : (Code.region id l.toArray true).wp P Q a w :=
  wp_region_held ks _ f s S hL hm hs hQ hw hl ht hd hn hsl hS hA
end
end Go.Proofs.YtjapjfcennemeaaGreat.gro
