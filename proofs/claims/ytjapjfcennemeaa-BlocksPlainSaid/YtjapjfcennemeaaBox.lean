/- Boxes of a call's own: blocks whose cells are known. No condition. -/
import Derived.Test.YtjapjfcennemeaaGrown
import Derived.Test.YtjapjfcennemeaaApp
namespace Go.Proofs.Ytjapjfcennemeaa.gro
open Go.RowKit Go.Proofs.Ytjapjfcennemeaa.mem
set_option linter.unusedVariables false
/-- The blocks of the list hold just these cells. -/
def Bx (W : World) (L : List (Nat × TypeId × Array Value)) : Prop := ∀ p ∈ L, Blk W p.1 p.2.1 p.2.2
/-- What the walk reads of them. -/
def Rules (W : World) : List (Nat × TypeId × Array Value) → Prop
  | [] => True
  | p :: L => ((∀ j, W.cell? ⟨p.1, j, none⟩ = p.2.2[j]?) ∧ (∀ j, W.frozen? ⟨p.1, j, none⟩ = false)) ∧ Rules W L
section
variable {W W' w : World} {L : List (Nat × TypeId × Array Value)} {g : Nat} {t : TypeId} {c : Array Value}
theorem Bx.nil_ : Bx W [] := fun p hp => by cases hp
theorem Bx.cons_ (h : Blk W g t c) (hL : Bx W L) : Bx W ((g, t, c) :: L) := fun p hp => by
  rcases List.mem_cons.1 hp with rfl | hp
  · exact h
  · exact hL p hp
theorem Bx.head (h : Bx W ((g, t, c) :: L)) : Blk W g t c := h _ (List.mem_cons_self ..)
theorem Bx.tail (h : Bx W ((g, t, c) :: L)) : Bx W L := fun p hp => h p (List.mem_cons_of_mem _ hp)
theorem Bx.rules : ∀ {L : List (Nat × TypeId × Array Value)}, Bx W L → Rules W L
  | [], _ => trivial
  | (g, t, c) :: L, h => ⟨⟨fun j => h.head.cell j, fun j => h.head.frozen j⟩, h.tail.rules⟩
theorem Bx.below (h : Bx W L) (hb : Below W.heap.size W W') : Bx W' L := fun p hp => (h p hp).below hb (h p hp).lt
theorem Bx.alloc (h : Bx W L) (o : Obj) : Bx (W.alloc o) L := fun p hp => (h p hp).alloc o
theorem Bx.drew (h : Bx W L) : Bx W.drew L := h
theorem Bx.far {p : Addr} (h : Bx W L) (hp : ∀ q ∈ L, q.1 ≠ p.block) (u : Value) : Bx (W.setCell p u) L := fun q hq => (h q hq).far (hp q hq) u
theorem Bx.new (h : Bx W L) (hg : W.heap.size = g) : Bx (W.alloc (.cells c t)) ((g, t, c) :: L) := by
  subst hg
  exact Bx.cons_ (Blk.new W t c) (h.alloc _)
theorem Blk.set2 {x y : Value} (h : Blk W g t #[x, y]) (u v : Value) : Blk ((W.setCell ⟨g, 0, none⟩ u).setCell ⟨g, 1, none⟩ v) g t #[u, v] := by
  have := (h.set_ 0 u).set_ 1 v
  simpa using this
theorem Blk.set1 {x y : Value} (h : Blk W g t #[x, y]) (v : Value) : Blk (W.setCell ⟨g, 1, none⟩ v) g t #[x, v] := by
  have := h.set_ 1 v
  simpa using this
theorem Blk.set0 {x y : Value} (h : Blk W g t #[x, y]) (v : Value) : Blk (W.setCell ⟨g, 0, none⟩ v) g t #[v, y] := by
  have := h.set_ 0 v
  simpa using this
theorem start1 (w : World) (t1 : TypeId) (c1 : Array Value) :
    ∃ W, w.alloc (.cells c1 t1) = W ∧ W.heap.size = w.heap.size + 1 ∧ Bx W [(w.heap.size, t1, c1)] ∧ Below w.heap.size w W :=
  ⟨_, rfl, by simp, Bx.nil_.new rfl, (Below.refl _ _).alloc (Nat.le_refl _) _⟩
theorem start2 (w : World) (t1 t2 : TypeId) (c1 c2 : Array Value) :
    ∃ W, (w.alloc (.cells c1 t1)).alloc (.cells c2 t2) = W ∧ W.heap.size = w.heap.size + 1 + 1 ∧ Bx W [(w.heap.size + 1, t2, c2), (w.heap.size, t1, c1)] ∧ Below w.heap.size w W :=
  ⟨_, rfl, by simp, (Bx.nil_.new rfl).new (by simp), ((Below.refl _ _).alloc (Nat.le_refl _) _).alloc (by simp) _⟩
theorem start3 (w : World) (t1 t2 t3 : TypeId) (c1 c2 c3 : Array Value) :
    ∃ W, ((w.alloc (.cells c1 t1)).alloc (.cells c2 t2)).alloc (.cells c3 t3) = W ∧ W.heap.size = w.heap.size + 1 + 1 + 1 ∧ Bx W [(w.heap.size + 1 + 1, t3, c3), (w.heap.size + 1, t2, c2), (w.heap.size, t1, c1)] ∧ Below w.heap.size w W :=
  ⟨_, rfl, by simp, ((Bx.nil_.new rfl).new (by simp)).new (by simp), (((Below.refl _ _).alloc (Nat.le_refl _) _).alloc (by simp) _).alloc (by simp; omega) _⟩
theorem start4 (w : World) (t1 t2 t3 t4 : TypeId) (c1 c2 c3 c4 : Array Value) :
    ∃ W, (((w.alloc (.cells c1 t1)).alloc (.cells c2 t2)).alloc (.cells c3 t3)).alloc (.cells c4 t4) = W ∧ W.heap.size = w.heap.size + 1 + 1 + 1 + 1 ∧
      Bx W [(w.heap.size + 1 + 1 + 1, t4, c4), (w.heap.size + 1 + 1, t3, c3), (w.heap.size + 1, t2, c2), (w.heap.size, t1, c1)] ∧ Below w.heap.size w W :=
  ⟨_, rfl, by simp, (((Bx.nil_.new rfl).new (by simp)).new (by simp)).new (by simp), ((((Below.refl _ _).alloc (Nat.le_refl _) _).alloc (by simp) _).alloc (by simp; omega) _).alloc (by simp; omega) _⟩
/-- Behind a call. -/
theorem Bx.call {B : Nat} {W0 : World} (h : Bx W L) (hB : Below B W0 W) (hs : B ≤ W.heap.size) (hb : Below W.heap.size W W') : Bx W' L ∧ Below B W0 W' ∧ W.heap.size ≤ W'.heap.size :=
  ⟨h.below hb, hB.trans (hb.mono hs), hb.size⟩
theorem Bx.put2 {x y u v : Value} (h : Bx W ((g, t, #[x, y]) :: L)) (hd : ∀ q ∈ L, q.1 ≠ g) : Bx ((W.setCell ⟨g, 0, none⟩ u).setCell ⟨g, 1, none⟩ v) ((g, t, #[u, v]) :: L) :=
  Bx.cons_ (Blk.set2 h.head u v) ((h.tail.far (p := ⟨g, 0, none⟩) hd u).far (p := ⟨g, 1, none⟩) hd v)
theorem Bx.put1 {x y v : Value} (h : Bx W ((g, t, #[x, y]) :: L)) (hd : ∀ q ∈ L, q.1 ≠ g) : Bx (W.setCell ⟨g, 1, none⟩ v) ((g, t, #[x, v]) :: L) :=
  Bx.cons_ (Blk.set1 h.head v) (h.tail.far (p := ⟨g, 1, none⟩) hd v)
theorem Bx.swap {p q : Nat × TypeId × Array Value} (h : Bx W (p :: q :: L)) : Bx W (q :: p :: L) := fun r hr => h r (by simp at hr ⊢; rcases hr with h | h | h <;> simp [h])
theorem Bx.perm {L' : List (Nat × TypeId × Array Value)} (h : Bx W L) (hp : ∀ p ∈ L', p ∈ L) : Bx W L' := fun p hp' => h p (hp p hp')
theorem set2_size (W : World) (p q : Addr) (u v : Value) : ((W.setCell p u).setCell q v).heap.size = W.heap.size := by simp [World.setCell]
theorem set1_size (W : World) (p : Addr) (u : Value) : (W.setCell p u).heap.size = W.heap.size := by simp [World.setCell]
/-- A world gets a name. -/
theorem name_world {B : Nat} {W0 : World} (h : Bx W L) (hB : Below B W0 W) {s : Nat} (hs : s ≤ W.heap.size) : ∃ W', W = W' ∧ Bx W' L ∧ Below B W0 W' ∧ s ≤ W'.heap.size := ⟨_, rfl, h, hB, hs⟩
end
end Go.Proofs.Ytjapjfcennemeaa.gro
