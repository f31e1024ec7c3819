/- Grown, Box, Insert: proved here in one text, no conditions beyond those that each theorem states. -/
import Derived.Deep.QuietTactic
import Derived.BigQuiet
import Derived.StillTail
import Derived.Outline
import Derived.LoopTactic
import Derived.Deep.LoopGhost
import Derived.StillTailTactics
import Derived.Test.YtjapjfcennemeaaGreatZ1
import Derived.Test.YtjapjfcennemeaaGreatZ5
import Derived.Test.YtjapjfcennemeaaGreatZ7
import Derived.Test.YtjapjfcennemeaaGreatZ6
import Derived.Test.YtjapjfcennemeaaGreatZ13
import Derived.Test.YtjapjfcennemeaaGreatZ14
set_option linter.unusedVariables false
set_option linter.unusedSimpArgs false
section
namespace Go.Proofs.YtjapjfcennemeaaGreat.gro
open Go.RowKit Go.Proofs.YtjapjfcennemeaaGreat.mem
set_option linter.unusedVariables false
structure Ext (w : World) where
  top : World
  ok : Below w.heap.size w top
instance ext_some (w : World) : Nonempty (Ext w) := ⟨⟨w, Below.refl _ _⟩⟩
def grown (w : World) (x : Ext w) : World := x.top
section
variable {w w' : World} {a : Addr}
theorem below_grown (w : World) (x : Ext w) : Below w.heap.size w (grown w x) := x.ok
theorem of_below (h : Below w.heap.size w w') : ∃ x : Ext w, w' = grown w x := ⟨⟨w', h⟩, rfl⟩
@[go_sem] theorem grown_cell (w : World) (x : Ext w) (a : Addr) (h : (w.cell? a).isSome = true) : (grown w x).cell? a = w.cell? a := by
  obtain ⟨u, hu⟩ := Option.isSome_iff_exists.1 h
  exact (below_grown w x).cell (World.block_lt_of_cell? w a hu)
@[go_sem] theorem grown_frozen (w : World) (x : Ext w) (a : Addr) (h : (w.cell? a).isSome = true) : (grown w x).frozen? a = w.frozen? a := by
  obtain ⟨u, hu⟩ := Option.isSome_iff_exists.1 h
  exact (below_grown w x).frozen (World.block_lt_of_cell? w a hu)
@[go_sem] theorem alloc_cell_some (w : World) (a : Addr) (o : Obj) (h : (w.cell? a).isSome = true) : (w.alloc o).cell? a = w.cell? a := by
  obtain ⟨u, hu⟩ := Option.isSome_iff_exists.1 h
  exact World.cell?_alloc_lt _ _ _ (World.block_lt_of_cell? w a hu)
@[go_sem] theorem alloc_frozen_some (w : World) (a : Addr) (o : Obj) (h : (w.cell? a).isSome = true) : (w.alloc o).frozen? a = w.frozen? a := by
  obtain ⟨u, hu⟩ := Option.isSome_iff_exists.1 h
  exact World.frozen?_of_block (Below.heap_alloc w o _ (World.block_lt_of_cell? w a hu))
theorem grown_size (w : World) (x : Ext w) : w.heap.size ≤ (grown w x).heap.size := (below_grown w x).size
end
def GC (w : World) : World → Prop := fun w' => ∃ x : Ext w, w' = grown w x
theorem GC.drew (w : World) : ∃ x : Ext w, ({ w with drawn := w.drawn + 1 } : World) = grown w x := of_below ⟨rfl, rfl, rfl, Nat.le_refl _, fun _ _ => rfl⟩
section
variable {P : Program} {ops : Array Oper} {md : Region.Mode} {C : World → Prop}
def anyQL (P : Program) (md : Region.Mode) (ops : Array Oper) (C : World → Prop) (n : Nat) (L : Array Bool → Act → Prop) : Nat → Array Bool → Act → Prop
  | 0, listed, a => L listed a
  | f + 1, listed, a =>
    Region.ready md ops listed ≠ [] ∧ ∀ i ∈ Region.ready md ops listed, i < n ∧ qOp P ops C i (anyQL P md ops C n L f (listed.setIfInBounds i true)) a
theorem wpAny_of_anyQL {n g : Nat} {L : Array Bool → Act → Prop} {Q' : Exit → Act → World → Prop} (hL : ∀ listed a w, C w → L listed a → wpAny P md ops Q' g listed a w) :
    ∀ (f : Nat) (listed : Array Bool) (a : Act) (w : World), C w → anyQL P md ops C n L f listed a → wpAny P md ops Q' (f + g) listed a w
  | 0, listed, a, w, hw, h => by rw [Nat.zero_add]; exact hL _ _ _ hw h
  | f + 1, listed, a, w, hw, h => by
    rw [show f + 1 + g = (f + g) + 1 by omega]
    exact ⟨fun h0 => absurd h0 h.1, fun i hi => wpOp_of_qOp hw (fun a' w' hw' h' => wpAny_of_anyQL hL f _ a' w' hw' h') (h.2 i hi).2⟩
theorem anyQL_first {n i : Nat} {oi : Oper} {v : Value} {L : Array Bool → Act → Prop} (hi : ops[i]? = some oi) (hsel : ∀ (j : Nat) (o : Oper) cs b, ops[j]? = some o → o.op ≠ .select cs b)
    (hs : Region.sinkB md ops n = true) (hc : Region.chainB md ops n = true) (hn : n < ops.size) (hin : i < n)
    (hdone : ∀ listed a, L listed a → ∀ j ∈ Region.ready md ops listed, n ≤ j) :
    ∀ (f : Nat) (listed : Array Bool) (a : Act), HeadInv md ops n listed →
      (∀ j oj, ops[j]? = some oj → j ≠ i → listed.getD j true = false → (∀ e ∈ oj.after, Region.binds md e = true → e.on ≠ i) → oi.apart ops oj = true) →
      i ∈ Region.ready md ops listed → YieldsIn P ops C oi v a →
      anyQL P md ops C n L f (listed.setIfInBounds i true) (a.put oi.dst v) → anyQL P md ops C n L (f + 1) listed a := by
  intro f
  induction f with
  | zero =>
    intro listed a inv _ hr hy H
    have hun := (mem_ready.1 hr).1
    refine ⟨fun h => (by rw [h] at hr; cases hr), fun j hj => ?_⟩
    have hjn : j < n := by
      rcases Nat.lt_or_ge j n with h | h
      · exact h
      · exact absurd hj (tail_waits hs hc hn inv _ i rfl hin hun j h)
    refine ⟨hjn, ?_⟩
    by_cases hji : j = i
    · subst hji; exact hy.qOp hi H
    · have := hdone _ _ H j (ready_mono hj hji)
      omega
  | succ f ih =>
    intro listed a inv hfree hr hy H
    have hun := (mem_ready.1 hr).1
    refine ⟨fun h => (by rw [h] at hr; cases hr), fun j hj => ?_⟩
    have hjn : j < n := by
      rcases Nat.lt_or_ge j n with h | h
      · exact h
      · exact absurd hj (tail_waits hs hc hn inv _ i rfl hin hun j h)
    refine ⟨hjn, ?_⟩
    by_cases hji : j = i
    · subst hji; exact hy.qOp hi H
    · have h1 := (H.2 j (ready_mono hj hji)).2
      obtain ⟨hjun, oj, hoj, hall⟩ := mem_ready.1 hj
      have hnot : ∀ e ∈ oj.after, Region.binds md e = true → e.on ≠ i := fun e he hb heq => by
        have h1 := hall e he hb
        rw [heq, getD_both hun] at h1
        cases h1
      have h2 := qOp_put hoj (hfree j oj hoj hji hjun hnot) (fun cs b => hsel i oi cs b hi) (fun cs b => hsel j oj cs b hoj) hy h1
      have hfree' : ∀ k ok, ops[k]? = some ok → k ≠ i → (listed.setIfInBounds j true).getD k true = false →
          (∀ e ∈ ok.after, Region.binds md e = true → e.on ≠ i) → oi.apart ops ok = true := fun k ok hk hki hun hno => by
        refine hfree k ok hk hki ?_ hno
        by_cases hjk : j = k
        · subst hjk; exact hjun
        · rw [getD_set_ne true hjk] at hun; exact hun
      refine qOp_mono (fun a' h3 => ih (listed.setIfInBounds j true) a' (inv.set hj hjn) hfree' (ready_mono hr (Ne.symm hji)) h3.1 ?_) h2
      rw [Array.setIfInBounds_comm _ _ hji]
      exact h3.2
theorem anyQL_lex {n g : Nat} {Lq : Act → Prop} (hsel : Region.noSelect ops = true) (hs : Region.sinkB md ops n = true) (hc : Region.chainB md ops n = true) (hn : n < ops.size) :
    ∀ (l : List Oper) (k : Nat) (listed : Array Bool) (a : Act), (∀ j, j < l.length → l[j]? = ops[k + j]?) → k + l.length = n → HeadInv md ops n listed →
    Region.lexHead md ops g l.length k listed = true → wpQuiet P ops C Lq l a →
    anyQL P md ops C n (fun listed' a' => Region.seqB md ops g n listed' = true ∧ Lq a') l.length listed a
  | [], k, listed, a, _, hk, _, hB, h => by
    have : k = n := by simpa using hk
    subst this
    exact ⟨by simpa [Region.lexHead] using hB, h⟩
  | o :: l, k, listed, a, hl, hk, inv, hB, h => by
    have h0 : ops[k]? = some o := by simpa using (hl 0 (by simp)).symm
    simp only [List.length_cons, Region.lexHead, Bool.and_eq_true] at hB
    obtain ⟨⟨hr, hf⟩, hB'⟩ := hB
    have hkn : k < n := by simp only [List.length_cons] at hk; omega
    have hr' : k ∈ Region.ready md ops listed := by simpa using hr
    have hst : qOp P ops C k (wpQuiet P ops C Lq l) a := by unfold qOp; simp only [h0]; exact h
    obtain ⟨v, hy, hK⟩ := yieldsIn_of_qOp h0 hst
    exact anyQL_first h0 (Region.noSelect_spec hsel) hs hc hn hkn (fun listed' a' hL => seqB_ready hL.1) l.length listed a inv (Region.free_spec h0 hf) hr' hy
      (anyQL_lex hsel hs hc hn l (k + 1) _ _ (fun j hj => by have := hl (j + 1) (by simp; omega); simpa [Nat.add_assoc, Nat.add_comm 1 j] using this) (by simp only [List.length_cons] at hk; omega) (inv.set hr' hkn) hB' hK)
theorem wp_region_quiet_tail {id : Nat} {Q : Exit → Act → World → Prop} {a : Act} {w : World} {l : List Oper} (n : Nat) (hm : P.follows .mixedOrders = true) (hB : Region.lexTailB .any l.toArray n = true)
    (hC : C { w with drawn := w.drawn + 1 })
    (h : wpQuiet P l.toArray C (fun a' => ∀ w', C w' → wpList P l.toArray Q (l.drop n) a' w') (l.take n) a) : (Code.region id l.toArray true).wp P Q a w := by
  simp only [Region.lexTailB, Bool.and_eq_true, decide_eq_true_eq] at hB
  obtain ⟨⟨⟨⟨hsel, hn⟩, hs⟩, hc⟩, hlex⟩ := hB
  have hn' : n < l.length := by simpa using hn
  have htl : (l.take n).length = n := by simp; omega
  have hdl : (l.drop n).length = l.toArray.size - n := by simp
  have inv0 : HeadInv .any l.toArray n (Array.replicate l.toArray.size false) :=
    ⟨by simp, fun j oj _ hl => (by rw [getD_replicate_false] at hl; cases hl), fun t _ ht => getD_in (by simpa using ht) (getD_replicate_false _ _)⟩
  have H := anyQL_lex (md := .any) (g := l.toArray.size - n) hsel hs hc hn (l.take n) 0 _ a (fun j hj => by
    have hj' : j < n := by rw [htl] at hj; exact hj
    simp [hj']) (by simpa using htl) inv0 (by rw [htl]; exact hlex) h
  refine wp_region_any hm ?_
  have := wpAny_of_anyQL (Q' := Q) (g := l.toArray.size - n) (fun listed a' w' hw' hL => by
    have := wpAny_of_seq (md := .any) (Q' := Q) (l.drop n) n listed a' w' (fun j => by simp [List.getElem?_drop]) (by rw [hdl]; exact hL.1) (hL.2 w' hw')
    rwa [hdl] at this) _ _ _ _ hC H
  rw [htl, show n + (l.toArray.size - n) = l.toArray.size by omega] at this
  exact this
theorem wp_region_grown {id : Nat} {Q : Exit → Act → World → Prop} {a : Act} {w : World} {l : List Oper} (hm : P.follows .mixedOrders = true) (hB : Region.lexB .any l.toArray = true)
    (h : wpQuiet P l.toArray (fun w' => ∃ x : Ext w, w' = grown w x) (fun a' => ∀ w', (∃ x : Ext w, w' = grown w x) → Q .normal a' w') l a) : (Code.region id l.toArray true).wp P Q a w :=
  wp_region_quiet (C := fun w' => ∃ x : Ext w, w' = grown w x) hm hB (GC.drew w) (by simpa using h)
theorem wp_region_grown_tail {id : Nat} {Q : Exit → Act → World → Prop} {a : Act} {w : World} {l : List Oper} (n : Nat) (hm : P.follows .mixedOrders = true) (hB : Region.lexTailB .any l.toArray n = true)
    (h : wpQuiet P l.toArray (fun w' => ∃ x : Ext w, w' = grown w x) (fun a' => ∀ w', (∃ x : Ext w, w' = grown w x) → wpList P l.toArray Q (l.drop n) a' w') (l.take n) a) : (Code.region id l.toArray true).wp P Q a w :=
  wp_region_quiet_tail (C := fun w' => ∃ x : Ext w, w' = grown w x) n hm hB (GC.drew w) h
end
section
variable {P : Program} {f : FuncId} {args : Array Value} {w : World} {x : Ext w} {v : Value}
theorem call_grown (h : Calls P f args (grown w x) fun e w' => e = .returned v ∧ Below (grown w x).heap.size (grown w x) w') : Calls P f args (grown w x) fun e w'' => e = .returned v ∧ ∃ y : Ext w, w'' = grown w y :=
  h.mono fun _ _ ⟨he, hb⟩ => ⟨he, of_below ((below_grown w x).trans (hb.mono (grown_size w x)))⟩
theorem call_same (h : Calls P f args (grown w x) fun e w' => e = .returned v ∧ grown w x = w') : Calls P f args (grown w x) fun e w'' => e = .returned v ∧ ∃ y : Ext w, w'' = grown w y :=
  h.mono fun _ _ ⟨he, hb⟩ => ⟨he, x, hb.symm⟩
end
end Go.Proofs.YtjapjfcennemeaaGreat.gro
end
section
namespace Go.Proofs.YtjapjfcennemeaaGreat.gro
open Go.RowKit Go.Proofs.YtjapjfcennemeaaGreat.mem
set_option linter.unusedVariables false
def Bx (W : World) (L : List (Nat × TypeId × Array Value)) : Prop := ∀ p ∈ L, Blk W p.1 p.2.1 p.2.2
def Rules (W : World) : List (Nat × TypeId × Array Value) → Prop
  | [] => True
  | p :: L => ((∀ j, W.cell? ⟨p.1, j, none⟩ = p.2.2[j]?) ∧ (∀ j, W.frozen? ⟨p.1, j, none⟩ = false)) ∧ Rules W L
section
variable {W W' w : World} {L : List (Nat × TypeId × Array Value)} {g : Nat} {t : TypeId} {c : Array Value}
theorem Bx.nil_ : Bx W [] := fun p hp => by cases hp
theorem Bx.cons_ (h : Blk W g t c) (hL : Bx W L) : Bx W ((g, t, c) :: L) := fun p hp => by
  rcases List.mem_cons.1 hp with rfl | hp
  · exact h
  · exact hL p hp
theorem Bx.head (h : Bx W ((g, t, c) :: L)) : Blk W g t c := h _ (List.mem_cons_self ..)
theorem Bx.tail (h : Bx W ((g, t, c) :: L)) : Bx W L := fun p hp => h p (List.mem_cons_of_mem _ hp)
theorem Bx.rules : ∀ {L : List (Nat × TypeId × Array Value)}, Bx W L → Rules W L
  | [], _ => trivial
  | (g, t, c) :: L, h => ⟨⟨fun j => h.head.cell j, fun j => h.head.frozen j⟩, h.tail.rules⟩
theorem Bx.below (h : Bx W L) (hb : Below W.heap.size W W') : Bx W' L := fun p hp => (h p hp).below hb (h p hp).lt
theorem Bx.alloc (h : Bx W L) (o : Obj) : Bx (W.alloc o) L := fun p hp => (h p hp).alloc o
theorem Bx.drew (h : Bx W L) : Bx W.drew L := h
theorem Bx.far {p : Addr} (h : Bx W L) (hp : ∀ q ∈ L, q.1 ≠ p.block) (u : Value) : Bx (W.setCell p u) L := fun q hq => (h q hq).far (hp q hq) u
theorem Bx.new (h : Bx W L) (hg : W.heap.size = g) : Bx (W.alloc (.cells c t)) ((g, t, c) :: L) := by
  subst hg
  exact Bx.cons_ (Blk.new W t c) (h.alloc _)
theorem Blk.set2 {x y : Value} (h : Blk W g t #[x, y]) (u v : Value) : Blk ((W.setCell ⟨g, 0, none⟩ u).setCell ⟨g, 1, none⟩ v) g t #[u, v] := by
  have := (h.set_ 0 u).set_ 1 v
  simpa using this
theorem Blk.set1 {x y : Value} (h : Blk W g t #[x, y]) (v : Value) : Blk (W.setCell ⟨g, 1, none⟩ v) g t #[x, v] := by
  have := h.set_ 1 v
  simpa using this
theorem start1 (w : World) (t1 : TypeId) (c1 : Array Value) :
    ∃ W, w.alloc (.cells c1 t1) = W ∧ W.heap.size = w.heap.size + 1 ∧ Bx W [(w.heap.size, t1, c1)] ∧ Below w.heap.size w W :=
  ⟨_, rfl, by simp, Bx.nil_.new rfl, (Below.refl _ _).alloc (Nat.le_refl _) _⟩
theorem start2 (w : World) (t1 t2 : TypeId) (c1 c2 : Array Value) :
    ∃ W, (w.alloc (.cells c1 t1)).alloc (.cells c2 t2) = W ∧ W.heap.size = w.heap.size + 1 + 1 ∧ Bx W [(w.heap.size + 1, t2, c2), (w.heap.size, t1, c1)] ∧ Below w.heap.size w W :=
  ⟨_, rfl, by simp, (Bx.nil_.new rfl).new (by simp), ((Below.refl _ _).alloc (Nat.le_refl _) _).alloc (by simp) _⟩
theorem start3 (w : World) (t1 t2 t3 : TypeId) (c1 c2 c3 : Array Value) :
    ∃ W, ((w.alloc (.cells c1 t1)).alloc (.cells c2 t2)).alloc (.cells c3 t3) = W ∧ W.heap.size = w.heap.size + 1 + 1 + 1 ∧ Bx W [(w.heap.size + 1 + 1, t3, c3), (w.heap.size + 1, t2, c2), (w.heap.size, t1, c1)] ∧ Below w.heap.size w W :=
  ⟨_, rfl, by simp, ((Bx.nil_.new rfl).new (by simp)).new (by simp), (((Below.refl _ _).alloc (Nat.le_refl _) _).alloc (by simp) _).alloc (by simp; omega) _⟩
theorem start4 (w : World) (t1 t2 t3 t4 : TypeId) (c1 c2 c3 c4 : Array Value) :
    ∃ W, (((w.alloc (.cells c1 t1)).alloc (.cells c2 t2)).alloc (.cells c3 t3)).alloc (.cells c4 t4) = W ∧ W.heap.size = w.heap.size + 1 + 1 + 1 + 1 ∧
      Bx W [(w.heap.size + 1 + 1 + 1, t4, c4), (w.heap.size + 1 + 1, t3, c3), (w.heap.size + 1, t2, c2), (w.heap.size, t1, c1)] ∧ Below w.heap.size w W :=
  ⟨_, rfl, by simp, (((Bx.nil_.new rfl).new (by simp)).new (by simp)).new (by simp), ((((Below.refl _ _).alloc (Nat.le_refl _) _).alloc (by simp) _).alloc (by simp; omega) _).alloc (by simp; omega) _⟩
theorem Bx.call {B : Nat} {W0 : World} (h : Bx W L) (hB : Below B W0 W) (hs : B ≤ W.heap.size) (hb : Below W.heap.size W W') : Bx W' L ∧ Below B W0 W' ∧ W.heap.size ≤ W'.heap.size :=
  ⟨h.below hb, hB.trans (hb.mono hs), hb.size⟩
theorem Bx.put2 {x y u v : Value} (h : Bx W ((g, t, #[x, y]) :: L)) (hd : ∀ q ∈ L, q.1 ≠ g) : Bx ((W.setCell ⟨g, 0, none⟩ u).setCell ⟨g, 1, none⟩ v) ((g, t, #[u, v]) :: L) :=
  Bx.cons_ (Blk.set2 h.head u v) ((h.tail.far (p := ⟨g, 0, none⟩) hd u).far (p := ⟨g, 1, none⟩) hd v)
theorem Bx.put1 {x y v : Value} (h : Bx W ((g, t, #[x, y]) :: L)) (hd : ∀ q ∈ L, q.1 ≠ g) : Bx (W.setCell ⟨g, 1, none⟩ v) ((g, t, #[x, v]) :: L) :=
  Bx.cons_ (Blk.set1 h.head v) (h.tail.far (p := ⟨g, 1, none⟩) hd v)
theorem Bx.swap {p q : Nat × TypeId × Array Value} (h : Bx W (p :: q :: L)) : Bx W (q :: p :: L) := fun r hr => h r (by simp at hr ⊢; rcases hr with h | h | h <;> simp [h])
theorem Bx.perm {L' : List (Nat × TypeId × Array Value)} (h : Bx W L) (hp : ∀ p ∈ L', p ∈ L) : Bx W L' := fun p hp' => h p (hp p hp')
theorem set2_size (W : World) (p q : Addr) (u v : Value) : ((W.setCell p u).setCell q v).heap.size = W.heap.size := by simp [World.setCell]
theorem set1_size (W : World) (p : Addr) (u : Value) : (W.setCell p u).heap.size = W.heap.size := by simp [World.setCell]
theorem name_world {B : Nat} {W0 : World} (h : Bx W L) (hB : Below B W0 W) {s : Nat} (hs : s ≤ W.heap.size) : ∃ W', W = W' ∧ Bx W' L ∧ Below B W0 W' ∧ s ≤ W'.heap.size := ⟨_, rfl, h, hB, hs⟩
end
end Go.Proofs.YtjapjfcennemeaaGreat.gro
end
section
namespace Go.Proofs.YtjapjfcennemeaaGreat.lst
open Go.RowKit Go.Proofs.YtjapjfcennemeaaGreat.mem Go.Proofs.YtjapjfcennemeaaGreat.buk
set_option linter.unusedVariables false
def lastT (xs : List (Int × Int)) : Int := if xs.length = 0 then 0 else (at_ xs (xs.length - 1)).1
def mayB (xs : List (Int × Int)) (t : Int) : Bool := decide ((0 ≤ t ∧ t ≤ 16777216) ∧ lastT xs ≤ t)
theorem mayB_iff {xs : List (Int × Int)} {t : Int} : mayB xs t = true ↔ (0 ≤ t ∧ t ≤ 16777216) ∧ lastT xs ≤ t := by simp [mayB]
end Go.Proofs.YtjapjfcennemeaaGreat.lst
end
