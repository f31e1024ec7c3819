/- Steady: proved here in one text, no conditions beyond those that each theorem states. -/
import Derived.Test.YtjapjfcennemeaaGreatZ15
set_option linter.unusedVariables false
set_option linter.unusedSimpArgs false
namespace Go.Proofs.YtjapjfcennemeaaGreat.gro
open Go.RowKit Go.Proofs.YtjapjfcennemeaaGreat.mem
set_option linter.unusedVariables false
section
variable {P : Program} {ops : Array Oper} {md : Region.Mode} {Q : Exit → Act → World → Prop} {S : World → Prop}
def anyG (P : Program) (md : Region.Mode) (ops : Array Oper) (Q : Exit → Act → World → Prop) (S : World → Prop) : Nat → Array Bool → Act → World → Prop
  | 0, listed, a, w => Region.ready md ops listed = [] ∧ ∀ w2, Below w.heap.size w w2 → Q .normal a w2
  | f + 1, listed, a, w =>
    (Region.ready md ops listed = [] → ∀ w2, Below w.heap.size w w2 → Q .normal a w2) ∧
    ∀ i ∈ Region.ready md ops listed, ∀ w2, Below w.heap.size w w2 → wpOp P ops Q i (fun a' w' => S w' ∧ anyG P md ops Q S f (listed.setIfInBounds i true) a' w') a w2
theorem grow_trans {w w2 w3 : World} (h : Below w.heap.size w w2) (h3 : Below w2.heap.size w2 w3) : Below w.heap.size w w3 := h.trans (h3.mono h.size)
def Lasts (S : World → Prop) : Prop := ∀ w w', S w → Below w.heap.size w w' → S w'
theorem anyG_grow : ∀ (f : Nat) {listed : Array Bool} {a : Act} {w w2 : World}, Below w.heap.size w w2 → anyG P md ops Q S f listed a w → anyG P md ops Q S f listed a w2
  | 0, _, _, _, _, hb, h => ⟨h.1, fun w3 h3 => h.2 w3 (grow_trans hb h3)⟩
  | f + 1, _, _, _, _, hb, h => ⟨fun h0 w3 h3 => h.1 h0 w3 (grow_trans hb h3), fun i hi w3 h3 => h.2 i hi w3 (grow_trans hb h3)⟩
theorem wpAny_of_anyG : ∀ (f : Nat) (listed : Array Bool) (a : Act) (w : World), anyG P md ops Q S f listed a w → wpAny P md ops Q f listed a w
  | 0, _, _, w, h => ⟨h.1, h.2 w (Below.refl _ _)⟩
  | f + 1, _, _, w, h => ⟨fun h0 => h.1 h0 w (Below.refl _ _), fun i hi => wpOp_mono (fun a' w' h' => wpAny_of_anyG f _ a' w' h'.2) (h.2 i hi w (Below.refl _ _))⟩
def YieldsG (P : Program) (ops : Array Oper) (S : World → Prop) (o : Oper) (v : Value) (a : Act) : Prop :=
  (Region.wanted o (yielded ops a.tmps) = true ∧ ∀ w, S w → o.quietAt P a (fun w' => Below w.heap.size w w') w v) ∨
  (Region.wanted o (yielded ops a.tmps) = false ∧ v = undef)
theorem YieldsG.wpOp {i : Nat} {o : Oper} {v : Value} {a : Act} (hi : ops[i]? = some o) (hy : YieldsG P ops S o v a)
    {K : Act → World → Prop} {w : World} (hS : S w) (h : ∀ w', Below w.heap.size w w' → K (a.put o.dst v) w') : wpOp P ops Q i K a w := by
  unfold Go.wpOp
  simp only [hi]
  rcases hy with ⟨hw, hv⟩ | ⟨hw, rfl⟩
  · simp only [hw, if_true]
    refine .inl ?_
    have h3 := hv w hS
    unfold Oper.quietAt at h3
    unfold Oper.wp
    generalize (execOp a.eval o).run P w = r at *
    cases r with
    | ok n w' =>
      cases n <;> simp only [Oper.quietUpon] at h3 <;> simp only [Oper.upon]
      case value u =>
        obtain ⟨e1, e2⟩ := h3
        rw [e1, e2]
        exact h _ (Below.refl _ _)
      case skip =>
        obtain ⟨e1, e2⟩ := h3
        rw [e1, ← e2]
        exact h _ (Below.refl _ _)
      case enter f args =>
        obtain ⟨e1, hc⟩ := h3
        rw [e1]
        exact hc.mono fun e w'' ⟨he, hw''⟩ => by subst he; exact h _ hw''
    | halt x w' => simp only [Oper.quietUpon] at h3
  · simp only [hw, Bool.false_eq_true, if_false]; exact h _ (Below.refl _ _)
theorem YieldsG.of_same {o : Oper} {v : Value} {a a' : Act} (hy : YieldsG P ops S o v a) (he : execOp a'.eval o = execOp a.eval o)
    (hw : Region.wanted o (yielded ops a'.tmps) = Region.wanted o (yielded ops a.tmps)) : YieldsG P ops S o v a' := by
  unfold YieldsG Oper.quietAt at *
  rw [he, hw]
  exact hy
theorem wpOp_putG {j : Nat} {oi oj : Oper} {v : Value} (hj : ops[j]? = some oj) (hap : oi.apart ops oj = true)
    (hsi : ∀ cs b, oi.op ≠ .select cs b) (hsj : ∀ cs b, oj.op ≠ .select cs b)
    (hQ : ∀ c a w, Q (.panic c) (a.put oi.dst v) w → Q (.panic c) a w) {K : Act → World → Prop} {a : Act} {w : World}
    (hy : YieldsG P ops S oi v a) (h : wpOp P ops Q j K (a.put oi.dst v) w) :
    wpOp P ops Q j (fun a' w' => YieldsG P ops S oi v a' ∧ K (a'.put oi.dst v) w') a w := by
  obtain ⟨h1, h2, h3⟩ := Oper.apart_spec hap
  have keep : ∀ (a : Act), YieldsG P ops S oi v a → ∀ u, YieldsG P ops S oi v (a.put oj.dst u) := fun a hy u =>
    hy.of_same (execOp_put oi hsi a oj.dst u h3) (wanted_put oi a oj.dst u h3)
  have keepD : ∀ d, YieldsG P ops S oi v { a with defers := d :: a.defers } := fun d => hy.of_same rfl rfl
  unfold wpOp at *
  simp only [hj] at *
  rw [wanted_put oj a oi.dst v h1] at h
  split
  · rename_i hw
    simp only [hw, if_true] at h
    rcases h with h | ⟨hasks, hlets⟩
    case inr => exact .inr ⟨by unfold Oper.asks at *; rw [execOp_put oj hsj a oi.dst v h1] at hasks; exact hasks, hlets⟩
    refine .inl ?_
    unfold Oper.wp at *
    rw [execOp_put oj hsj a oi.dst v h1] at h
    generalize (execOp a.eval oj).run P w = r at *
    cases r with
    | ok n w' =>
      cases n <;> simp only [Oper.upon] at h ⊢
      case value u => exact ⟨keep a hy u, by rw [← Act.put_comm a v u h2]; exact h⟩
      case skip => exact ⟨keep a hy _, by rw [← Act.put_comm a v undef h2]; exact h⟩
      case defer d =>
        refine ⟨keep _ (keepD d) _, ?_⟩
        rw [← Act.put_comm _ v undef h2, ← Act.put_defers]
        exact h
      case enter f args =>
        refine Calls.mono h fun e w'' he => ?_
        cases e with
        | returned u => exact ⟨keep a hy u, by rw [← Act.put_comm a v u h2]; exact he⟩
        | panicked c => exact hQ _ _ _ he
        | outgrown => exact he
      case row row args => exact Rows.mono h fun u w'' he => ⟨keep a hy u, by rw [← Act.put_comm a v u h2]; exact he⟩
    | halt x w' =>
      cases x <;> simp only [Oper.upon] at h ⊢
      case panic u => exact hQ _ _ _ h
  · rename_i hw
    simp only [hw] at h
    exact ⟨keep a hy _, by rw [← Act.put_comm a v undef h2]; exact h⟩
theorem anyG_first (hL : Lasts S) {i : Nat} {oi : Oper} {v : Value} (hi : ops[i]? = some oi) (hsel : ∀ (j : Nat) (o : Oper) cs b, ops[j]? = some o → o.op ≠ .select cs b)
    (hQ : ∀ c a w, Q (.panic c) (a.put oi.dst v) w → Q (.panic c) a w) :
    ∀ (fuel : Nat) (listed : Array Bool) (a : Act) (w : World),
      (∀ j oj, ops[j]? = some oj → j ≠ i → listed.getD j true = false → (∀ e ∈ oj.after, Region.binds md e = true → e.on ≠ i) → oi.apart ops oj = true) →
      i ∈ Region.ready md ops listed → YieldsG P ops S oi v a → S w →
      anyG P md ops Q S fuel (listed.setIfInBounds i true) (a.put oi.dst v) w → anyG P md ops Q S (fuel + 1) listed a w := by
  intro fuel
  induction fuel with
  | zero =>
    intro listed a w _ hr hy hS H
    refine ⟨fun h => (by rw [h] at hr; cases hr), fun j hj w2 hb => ?_⟩
    have hS2 := hL _ _ hS hb
    by_cases hji : j = i
    · subst hji; exact hy.wpOp hi hS2 (fun w3 h3 => ⟨hL _ _ hS2 h3, anyG_grow 0 (grow_trans hb h3) H⟩)
    · have := ready_mono hj hji
      rw [H.1] at this
      cases this
  | succ fuel ih =>
    intro listed a w hfree hr hy hS H
    refine ⟨fun h => (by rw [h] at hr; cases hr), fun j hj w2 hb => ?_⟩
    have hS2 := hL _ _ hS hb
    by_cases hji : j = i
    · subst hji; exact hy.wpOp hi hS2 (fun w3 h3 => ⟨hL _ _ hS2 h3, anyG_grow _ (grow_trans hb h3) H⟩)
    · have h1 := H.2 j (ready_mono hj hji) w2 hb
      obtain ⟨hjun, oj, hoj, hall⟩ := mem_ready.1 hj
      have hnot : ∀ e ∈ oj.after, Region.binds md e = true → e.on ≠ i := fun e he hb heq => by
        have h1 := hall e he hb
        have h0 := (mem_ready.1 hr).1
        rw [heq] at h1
        rcases Nat.lt_or_ge i listed.size with h' | h'
        · simp [h'] at h0 h1; rw [h0] at h1; cases h1
        · simp [Array.getElem?_eq_none h'] at h1
      have h2 := wpOp_putG hoj (hfree j oj hoj hji hjun hnot) (fun cs b => hsel i oi cs b hi) (fun cs b => hsel j oj cs b hoj) hQ hy h1
      have hfree' : ∀ k ok, ops[k]? = some ok → k ≠ i → (listed.setIfInBounds j true).getD k true = false →
          (∀ e ∈ ok.after, Region.binds md e = true → e.on ≠ i) → oi.apart ops ok = true := fun k ok hk hki hun hno => by
        refine hfree k ok hk hki ?_ hno
        by_cases hjk : j = k
        · subst hjk; exact hjun
        · rw [getD_set_ne true hjk] at hun; exact hun
      refine wpOp_mono (fun a' w' h3 => ⟨h3.2.1, ih (listed.setIfInBounds j true) a' w' hfree' (ready_mono hr (Ne.symm hji)) h3.1 h3.2.1 ?_⟩) h2
      rw [Array.setIfInBounds_comm _ _ hji]
      exact h3.2.2
def takeB (md : Region.Mode) (ops : Array Oper) : List Nat → Array Bool → Bool
  | [], _ => true
  | k :: ks, listed => (Region.ready md ops listed).contains k && Region.free md ops listed k && takeB md ops ks (listed.setIfInBounds k true)
def listedBy : List Nat → Array Bool → Array Bool
  | [], l => l
  | k :: ks, l => listedBy ks (l.setIfInBounds k true)
def dstB (n : Nat) : List Oper → Bool
  | [] => true
  | o :: l => (match o.dst with | some d => decide (d < n) && l.all (fun o' => o'.dst != some d) | none => false) && dstB n l
theorem put_get {a : Act} {d : Nat} {v : Value} (h : d < a.tmps.size) : (a.put (some d) v).tmps[d]? = some v := by
  simp [Act.put, h]
theorem put_other {a : Act} {d : Nat} {o : Option Tmp} {v : Value} (h : o ≠ some d) : (a.put o v).tmps[d]? = a.tmps[d]? := by
  cases o with
  | none => rfl
  | some e =>
    have : e ≠ d := fun h' => h (by rw [h'])
    simp [Act.put, this]
theorem put_size {a : Act} {o : Option Tmp} {v : Value} : (a.put o v).tmps.size = a.tmps.size := by
  cases o <;> simp [Act.put]
theorem quiet_keeps {C : World → Prop} {A : Act} : ∀ (l : List Oper) (a : Act), wpQuiet P ops C (fun a' => a' = A) l a → ∀ d, (∀ o ∈ l, o.dst ≠ some d) → A.tmps[d]? = a.tmps[d]?
  | [], a, h, d, _ => by have : a = A := h; rw [this]
  | o :: l, a, h, d, hd => by
    simp only [wpQuiet] at h
    split at h
    · obtain ⟨v, _, h2⟩ := h
      rw [quiet_keeps l _ h2 d (fun o' ho' => hd o' (List.mem_cons_of_mem _ ho')), put_other (hd o (List.mem_cons_self ..))]
    · rw [quiet_keeps l _ h d (fun o' ho' => hd o' (List.mem_cons_of_mem _ ho')), put_other (hd o (List.mem_cons_self ..))]
theorem anyG_lex (hL : Lasts S) {A : Act} {f : Nat} (hs : Region.noSelect ops = true) (hQ : ∀ c a (d : Tmp) v w, Q (.panic c) (Act.put a (some d) v) w → Q (.panic c) a w) :
    ∀ (ks : List Nat) (l : List Oper) (listed : Array Bool) (a : Act) (w : World), ks.map (fun k => ops[k]?) = l.map some → takeB md ops ks listed = true → dstB a.tmps.size l = true →
      (∀ w0, S w0 → wpQuiet P ops (fun w' => ∃ x : Ext w0, w' = grown w0 x) (fun a' => a' = A) l a) → S w →
      anyG P md ops Q S f (listedBy ks listed) A w → anyG P md ops Q S (ks.length + f) listed a w
  | [], l, listed, a, w, hl, _, _, hq, hS, h => by
    cases l with
    | nil =>
      have : a = A := hq w hS
      subst this
      rw [List.length_nil, Nat.zero_add]
      exact h
    | cons o l => simp at hl
  | k :: ks, l, listed, a, w, hl, ht, hd, hq, hS, h => by
    cases l with
    | nil => simp at hl
    | cons o l =>
      simp only [List.map_cons, List.cons.injEq] at hl
      obtain ⟨h0, hl⟩ := hl
      simp only [takeB, Bool.and_eq_true] at ht
      obtain ⟨⟨hr, hf⟩, ht'⟩ := ht
      simp only [dstB, Bool.and_eq_true] at hd
      obtain ⟨hd1, hd2⟩ := hd
      obtain ⟨d, hdd⟩ : ∃ d, o.dst = some d := by
        cases h1 : o.dst with
        | none => rw [h1] at hd1; simp at hd1
        | some d => exact ⟨d, rfl⟩
      rw [hdd] at hd1
      simp only [Bool.and_eq_true, decide_eq_true_eq, List.all_eq_true] at hd1
      have hne : ∀ o' ∈ l, o'.dst ≠ some d := fun o' ho' => by have := hd1.2 o' ho'; simpa using this
      have key : ∃ v, YieldsG P ops S o v a ∧ ∀ w0, S w0 → wpQuiet P ops (fun w' => ∃ x : Ext w0, w' = grown w0 x) (fun a' => a' = A) l (a.put o.dst v) := by
        by_cases hw : Region.wanted o (yielded ops a.tmps) = true
        · have hv : ∀ w0, S w0 → ∃ v, A.tmps[d]? = some v ∧ (∀ w', (∃ x : Ext w0, w' = grown w0 x) → o.quietAt P a (fun w' => ∃ x : Ext w0, w' = grown w0 x) w' v) ∧ wpQuiet P ops (fun w' => ∃ x : Ext w0, w' = grown w0 x) (fun a' => a' = A) l (a.put o.dst v) := fun w0 hb => by
            have := hq w0 hb
            simp only [wpQuiet, hw, if_true] at this
            obtain ⟨v, h1, h2⟩ := this
            refine ⟨v, ?_, h1, h2⟩
            rw [quiet_keeps l _ h2 d hne, hdd, put_get hd1.1]
          obtain ⟨v, e1, _, _⟩ := hv w hS
          refine ⟨v, .inl ⟨hw, fun w0 hb => ?_⟩, fun w0 hb => ?_⟩
          · obtain ⟨v2, e2, h1, _⟩ := hv w0 hb
            have : v2 = v := by rw [e1] at e2; injection e2 with e2; exact e2.symm
            subst this
            have h3 := h1 w0 (of_below (Below.refl _ _))
            unfold Oper.quietAt at h3 ⊢
            generalize (execOp a.eval o).run P w0 = r at *
            cases r with
            | ok n w' =>
              cases n <;> simp only [Oper.quietUpon] at h3 ⊢
              case value u => exact h3
              case skip => exact h3
              case enter f args =>
                refine ⟨h3.1, h3.2.mono fun e w'' ⟨he, hx⟩ => ⟨he, ?_⟩⟩
                obtain ⟨x, rfl⟩ := hx
                exact below_grown w0 x
            | halt x w' => simp only [Oper.quietUpon] at h3
          · obtain ⟨v2, e2, _, h2⟩ := hv w0 hb
            have : v2 = v := by rw [e1] at e2; injection e2 with e2; exact e2.symm
            subst this
            exact h2
        · refine ⟨undef, .inr ⟨by simpa using hw, rfl⟩, fun w0 hb => ?_⟩
          have := hq w0 hb
          simp only [wpQuiet, hw] at this
          exact this
      obtain ⟨v, hy, hq'⟩ := key
      rw [List.length_cons, show ks.length + 1 + f = (ks.length + f) + 1 by omega]
      exact anyG_first hL h0 (Region.noSelect_spec hs) (fun c a w h => hQ c a d _ w (by rw [hdd] at h; exact h)) _ listed a w (Region.free_spec h0 hf) (by simpa using hr) hy hS
        (anyG_lex hL hs hQ ks l _ _ w hl ht' (by rw [put_size]; exact hd2) hq' hS h)
theorem wp_region_steady {id : Nat} {a : Act} {w : World} {l : List Oper} (S : World → Prop) (hL : Lasts S) (ks : List Nat) (A : Act) (l' : List Oper) (hl : ks.map (fun k => l.toArray[k]?) = l'.map some) (hm : P.follows .mixedOrders = true)
    (hs : Region.noSelect l.toArray = true) (hQ : ∀ c a (d : Tmp) v w, Q (.panic c) (Act.put a (some d) v) w → Q (.panic c) a w)
    (ht : takeB .any l.toArray ks (Array.replicate l.toArray.size false) = true) (hd : dstB a.tmps.size l' = true) (hn : ks.length + (l.toArray.size - ks.length) = l.toArray.size) (hS : S w.drew)
    (hq : ∀ w0, S w0 → wpQuiet P l.toArray (fun w' => ∃ x : Ext w0, w' = grown w0 x) (fun a' => a' = A) l' a)
    (h : anyG P .any l.toArray Q S (l.toArray.size - ks.length) (listedBy ks (Array.replicate l.toArray.size false)) A w.drew) : (Code.region id l.toArray true).wp P Q a w := by
  refine wp_region_any hm (wpAny_of_anyG (S := S) _ _ _ _ ?_)
  have := anyG_lex (md := .any) hL (f := l.toArray.size - ks.length) hs hQ ks l' (Array.replicate l.toArray.size false) a w.drew hl ht hd hq hS h
  rw [hn] at this
  exact this
theorem range_take {l : List Oper} {n : Nat} (hn : n ≤ l.length) : (List.range n).map (fun k => l.toArray[k]?) = (l.take n).map some := by
  apply List.ext_getElem?
  intro i
  rw [List.getElem?_map, List.getElem?_map]
  by_cases h : i < n
  · rw [List.getElem?_range h, List.getElem?_take_of_lt h]
    simp [show i < l.length by omega]
  · rw [List.getElem?_eq_none (by simpa using h), List.getElem?_eq_none (by simp; omega)]
    rfl
theorem wp_region_steady_s {id : Nat} {a : Act} {w : World} {l : List Oper} (n f : Nat) (S : World → Prop) (hL : Lasts S) (hm : P.follows .mixedOrders = true)
    (hs : Region.noSelect l.toArray = true) (hQ : ∀ c a (d : Tmp) v w, Q (.panic c) (Act.put a (some d) v) w → Q (.panic c) a w)
    (ht : takeB .any l.toArray (List.range n) (Array.replicate l.toArray.size false) = true) (hd : dstB a.tmps.size (l.take n) = true) (hn : l.length = n + f) (hS : S w.drew)
    (hA : ∃ A, (∀ w0, S w0 → wpQuiet P l.toArray (fun w' => ∃ x : Ext w0, w' = grown w0 x) (fun a' => a' = A) (l.take n) a) ∧
      anyG P .any l.toArray Q S f (listedBy (List.range n) (Array.replicate l.toArray.size false)) A w.drew) : (Code.region id l.toArray true).wp P Q a w := by
  obtain ⟨A, hq, h⟩ := hA
  have e : l.toArray.size - (List.range n).length = f := by simp; omega
  exact wp_region_steady S hL (List.range n) A (l.take n) (range_take (by omega)) hm hs hQ ht hd (by simp; omega) hS hq (by rw [e]; exact h)
theorem lasts_below (W : World) : Lasts (fun w' => Below W.heap.size W w') := fun w w' h hb => h.trans (hb.mono h.size)
theorem lasts_bx (L : List (Nat × TypeId × Array Value)) : Lasts (fun w' => Bx w' L) := fun w w' h hb => h.below hb
theorem wp_region_steady_n {id : Nat} {a : Act} {w : World} {l : List Oper} (n f : Nat) (hm : P.follows .mixedOrders = true)
    (hs : Region.noSelect l.toArray = true) (hQ : ∀ c a (d : Tmp) v w, Q (.panic c) (Act.put a (some d) v) w → Q (.panic c) a w)
    (ht : takeB .any l.toArray (List.range n) (Array.replicate l.toArray.size false) = true) (hd : dstB a.tmps.size (l.take n) = true) (hn : l.length = n + f)
    (hA : ∃ A, (∀ w0, Below w.heap.size w w0 → wpQuiet P l.toArray (fun w' => ∃ x : Ext w0, w' = grown w0 x) (fun a' => a' = A) (l.take n) a) ∧
      anyG P .any l.toArray Q (fun w' => Below w.drew.heap.size w.drew w') f (listedBy (List.range n) (Array.replicate l.toArray.size false)) A w.drew) : (Code.region id l.toArray true).wp P Q a w := by
  obtain ⟨A, hq, h⟩ := hA
  exact wp_region_steady_s n f _ (lasts_below w.drew) hm hs hQ ht hd hn (Below.refl _ _) ⟨A, fun w0 hb => hq w0 ((Below.refl _ _).drew.trans hb), h⟩
theorem anyG_all {rs : List Nat} {f : Nat} {listed : Array Bool} {a : Act} {w : World} (hr : Region.ready md ops listed = rs) (hne : rs ≠ [])
    (h : ∀ i ∈ rs, ∀ w2, Below w.heap.size w w2 → wpOp P ops Q i (fun a' w' => S w' ∧ anyG P md ops Q S f (listed.setIfInBounds i true) a' w') a w2) : anyG P md ops Q S (f + 1) listed a w :=
  ⟨fun h0 => absurd (hr ▸ h0) hne, hr ▸ h⟩
theorem anyG_done {f : Nat} {listed : Array Bool} {a : Act} {w : World} (hr : Region.ready md ops listed = []) (h : ∀ w2, Below w.heap.size w w2 → Q .normal a w2) : anyG P md ops Q S f listed a w := by
  cases f with
  | zero => exact ⟨hr, h⟩
  | succ f => exact ⟨fun _ => h, by rw [hr]; simp⟩
theorem anyG_one (i : Nat) {o : Oper} {f : Nat} {listed : Array Bool} {a : Act} {w : World} (hr : Region.ready md ops listed = [i]) (ho : ops[i]? = some o)
    (h : ∀ w2, Below w.heap.size w w2 → ∀ K' : Act → World → Prop, (∀ a' w', S w' ∧ anyG P md ops Q S f (listed.setIfInBounds i true) a' w' → K' a' w') → if Region.wanted o (yielded ops a.tmps) = true then Oper.wp P o a w2 K' Q else K' (a.put o.dst undef) w2) : anyG P md ops Q S (f + 1) listed a w :=
  anyG_all hr (by simp) (fun j hj w2 hb => by
    obtain rfl : j = i := by simpa using hj
    exact wpOp_step ho (fun K' hK => h w2 hb K' hK))
end
end Go.Proofs.YtjapjfcennemeaaGreat.gro
