/- Dbl; Box: texts in one. -/
import Derived.Test.YtnohkjalglogaaaWide
import Derived.Test.YtnohkjalglogaaaBits
import Derived.Test.YtnohkjalglogaaaGrown
import Derived.Test.YtnohkjalglogaaaApp
/- Doubling and subtracting numbers of 128 bits, word by word. -/
namespace Go.Proofs.Ytnohkjalglogaaa.wid
open Go.RowKit Go.Proofs.Ytnohkjalglogaaa.mem Go.Proofs.Ytnohkjalglogaaa.gro
set_option linter.unusedVariables false
theorem or_even {x b : Nat} (hb : b < 2) : (2 * x) ||| b = 2 * x + b := by
  have := Nat.shiftLeft_add_eq_or_of_lt (i := 1) (b := b) (by omega) x
  rw [Nat.shiftLeft_eq, Nat.pow_one] at this
  rw [Nat.mul_comm 2 x]; omega
theorem or_bit {x b : Int} (h0 : 0 ≤ x) (h1 : 2 * x < 18446744073709551616) (b0 : 0 ≤ b) (b1 : b < 2) : bits BinOp.or IntKind.u64 (2 * x) b = 2 * x + b := by
  obtain ⟨x, rfl⟩ := Int.eq_ofNat_of_zero_le h0
  obtain ⟨b, rfl⟩ := Int.eq_ofNat_of_zero_le b0
  rw [show (2 : Int) * (x : Int) = ((2 * x : Nat) : Int) by omega, u64_or_nat _ _ (by omega) (by omega), or_even (by omega)]
  omega
/-- The upper and the lower word of twice a number and a bit. -/
theorem dbl_hi {a : Nat} (ha : a < 340282366920938463463374607431768211456) (b : Nat) (hb : b < 2) : bits BinOp.or IntKind.u64 (IntKind.u64.wrap (hi a * 2)) (lo a / 9223372036854775808) = hi ((2 * a + b) % 340282366920938463463374607431768211456) := by
  rw [IntKind.wrap_u64]
  have h1 := hi_bd ha
  have h2 := lo_bd a
  rw [show hi a * 2 % 18446744073709551616 = 2 * (hi a % 9223372036854775808) by omega, or_bit (by omega) (by omega) (by omega) (by omega)]
  unfold hi lo; omega
theorem dbl_lo {a : Nat} (b : Nat) (hb : b < 2) : bits BinOp.or IntKind.u64 (IntKind.u64.wrap (lo a * 2)) (b : Int) = lo ((2 * a + b) % 340282366920938463463374607431768211456) := by
  rw [IntKind.wrap_u64]
  have h2 := lo_bd a
  rw [show lo a * 2 % 18446744073709551616 = 2 * (lo a % 9223372036854775808) by omega, or_bit (by omega) (by omega) (by omega) (by omega)]
  unfold lo; omega
theorem dbl_lo0 {a : Nat} : IntKind.u64.wrap (lo a * 2) = lo ((2 * a) % 340282366920938463463374607431768211456) := by
  rw [IntKind.wrap_u64]; unfold lo; omega
theorem top_bit {a : Nat} (ha : a < 340282366920938463463374607431768211456) : hi a / 9223372036854775808 = ((2 * a / 340282366920938463463374607431768211456 : Nat) : Int) := by unfold hi; omega
/-- The difference, word by word. -/
theorem sub_lo {r b : Nat} (hb : b ≤ r) : (lo (r % 340282366920938463463374607431768211456) - lo b - 0) % 18446744073709551616 = lo (r - b) := by unfold lo; omega
theorem sub_hi {r b : Nat} (hb : b ≤ r) (hd : r - b < 340282366920938463463374607431768211456) :
    (hi (r % 340282366920938463463374607431768211456) - hi b - (if lo (r % 340282366920938463463374607431768211456) < lo b + 0 then 1 else 0)) % 18446744073709551616 = hi (r - b) := by
  unfold hi lo; split <;> omega
/-- A step of long division. -/
theorem div_step {A b t : Nat} (hb : 0 < b) (ht : t < 2) :
    (b ≤ 2 * (A % b) + t → (2 * A + t) / b = 2 * (A / b) + 1 ∧ (2 * A + t) % b = 2 * (A % b) + t - b) ∧
    (2 * (A % b) + t < b → (2 * A + t) / b = 2 * (A / b) ∧ (2 * A + t) % b = 2 * (A % b) + t) := by
  have h1 := Nat.div_add_mod A b
  have h2 := Nat.mod_lt A hb
  generalize A % b = r at *
  generalize A / b = q at *
  have e1 : b * (2 * q) = 2 * (b * q) := Nat.mul_left_comm _ _ _
  constructor
  · intro h
    refine (Nat.div_mod_unique hb).2 ⟨?_, by omega⟩
    rw [Nat.mul_add, Nat.mul_one, e1]; omega
  · intro h
    refine (Nat.div_mod_unique hb).2 ⟨?_, h⟩
    rw [e1]; omega
theorem shift_bit (a i : Nat) : 2 * (a / 2 ^ (i + 1)) + a / 2 ^ i % 2 = a / 2 ^ i := by
  rw [Nat.pow_succ, ← Nat.div_div_eq_div_mul]; omega
theorem or_one {x : Int} (h0 : 0 ≤ x) (h1 : x ≤ 18446744073709551615) (he : x % 2 = 0) : bits BinOp.or IntKind.u64 x 1 = x + 1 := by
  have := or_bit (x := x / 2) (b := 1) (by omega) (by omega) (by omega) (by omega)
  rwa [show 2 * (x / 2) = x by omega] at this
theorem lo_odd (q : Nat) (hq : 2 * q < 340282366920938463463374607431768211456) : bits BinOp.or IntKind.u64 (lo (2 * q)) 1 = lo (2 * q + 1) := by
  have h := lo_bd (2 * q)
  rw [or_one h.1 h.2 (by unfold lo; omega)]
  unfold lo; omega
theorem hi_odd (q : Nat) : hi (2 * q) = hi (2 * q + 1) := by unfold hi; omega
theorem dbl_hi' {a : Nat} (ha : 2 * a < 340282366920938463463374607431768211456) (b : Nat) (hb : b < 2) : bits BinOp.or IntKind.u64 (hi a * 2) (lo a / 9223372036854775808) = hi (2 * a + b) := by
  have h1 : 0 ≤ hi a ∧ hi a ≤ 9223372036854775807 := by unfold hi; omega
  have h2 := lo_bd a
  rw [Int.mul_comm, or_bit (by omega) (by omega) (by omega) (by omega)]
  unfold hi lo; omega
theorem dbl_lo' {a : Nat} (b : Nat) (hb : b < 2) : bits BinOp.or IntKind.u64 (IntKind.u64.wrap (lo a * 2)) (b : Int) = lo (2 * a + b) := by
  rw [dbl_lo b hb]; unfold lo; omega
theorem dbl_lo0' {a : Nat} : IntKind.u64.wrap (lo a * 2) = lo (2 * a) := by
  rw [IntKind.wrap_u64]; unfold lo; omega
/-- The difference of r less the 129th digit. -/
theorem dif_lo {r b D : Nat} (hD : D = r % 340282366920938463463374607431768211456) (hb : b ≤ r) : (lo D - lo b) % 18446744073709551616 = lo (r - b) := by subst hD; unfold lo; omega
theorem dif_hi {r b D : Nat} (hD : D = r % 340282366920938463463374607431768211456) (hb : b ≤ r) (hd : r - b < 340282366920938463463374607431768211456) :
    (lo D < lo b → (hi D - hi b - 1) % 18446744073709551616 = hi (r - b)) ∧ (¬ lo D < lo b → (hi D - hi b) % 18446744073709551616 = hi (r - b)) := by
  subst hD; unfold hi lo; constructor <;> intro h <;> omega
theorem bits_spec (x : Nat) : ∀ f, x < 2 ^ f → x < 2 ^ Lib.bitLenAux f x := by
  intro f
  induction f generalizing x with
  | zero => intro h; simpa [Lib.bitLenAux] using h
  | succ f ih =>
    intro h
    have := ih (x / 2) (by rw [Nat.pow_succ] at h; omega)
    simp only [Lib.bitLenAux]
    split
    · omega
    · rw [Nat.add_comm, Nat.pow_succ]; omega
end Go.Proofs.Ytnohkjalglogaaa.wid

/- Boxes of a call's own: blocks whose cells are known. No condition. -/
namespace Go.Proofs.Ytnohkjalglogaaa.gro
open Go.RowKit Go.Proofs.Ytnohkjalglogaaa.mem
set_option linter.unusedVariables false
/-- The blocks of the list hold just these cells. -/
def Bx (W : World) (L : List (Nat × TypeId × Array Value)) : Prop := ∀ p ∈ L, Blk W p.1 p.2.1 p.2.2
/-- What the walk reads of them. -/
def Rules (W : World) : List (Nat × TypeId × Array Value) → Prop
  | [] => True
  | p :: L => ((∀ j, W.cell? ⟨p.1, j, none⟩ = p.2.2[j]?) ∧ (∀ j, W.frozen? ⟨p.1, j, none⟩ = false)) ∧ Rules W L
section
variable {W W' w : World} {L : List (Nat × TypeId × Array Value)} {g : Nat} {t : TypeId} {c : Array Value}
theorem Bx.nil_ : Bx W [] := fun p hp => by cases hp
theorem Bx.cons_ (h : Blk W g t c) (hL : Bx W L) : Bx W ((g, t, c) :: L) := fun p hp => by
  rcases List.mem_cons.1 hp with rfl | hp
  · exact h
  · exact hL p hp
theorem Bx.head (h : Bx W ((g, t, c) :: L)) : Blk W g t c := h _ (List.mem_cons_self ..)
theorem Bx.tail (h : Bx W ((g, t, c) :: L)) : Bx W L := fun p hp => h p (List.mem_cons_of_mem _ hp)
theorem Bx.rules : ∀ {L : List (Nat × TypeId × Array Value)}, Bx W L → Rules W L
  | [], _ => trivial
  | (g, t, c) :: L, h => ⟨⟨fun j => h.head.cell j, fun j => h.head.frozen j⟩, h.tail.rules⟩
theorem Bx.below (h : Bx W L) (hb : Below W.heap.size W W') : Bx W' L := fun p hp => (h p hp).below hb (h p hp).lt
theorem Bx.alloc (h : Bx W L) (o : Obj) : Bx (W.alloc o) L := fun p hp => (h p hp).alloc o
theorem Bx.drew (h : Bx W L) : Bx W.drew L := h
theorem Bx.far {p : Addr} (h : Bx W L) (hp : ∀ q ∈ L, q.1 ≠ p.block) (u : Value) : Bx (W.setCell p u) L := fun q hq => (h q hq).far (hp q hq) u
theorem Bx.new (h : Bx W L) (hg : W.heap.size = g) : Bx (W.alloc (.cells c t)) ((g, t, c) :: L) := by
  subst hg
  exact Bx.cons_ (Blk.new W t c) (h.alloc _)
theorem Blk.set2 {x y : Value} (h : Blk W g t #[x, y]) (u v : Value) : Blk ((W.setCell ⟨g, 0, none⟩ u).setCell ⟨g, 1, none⟩ v) g t #[u, v] := by
  have := (h.set_ 0 u).set_ 1 v
  simpa using this
theorem Blk.set1 {x y : Value} (h : Blk W g t #[x, y]) (v : Value) : Blk (W.setCell ⟨g, 1, none⟩ v) g t #[x, v] := by
  have := h.set_ 1 v
  simpa using this
theorem Blk.set0 {x y : Value} (h : Blk W g t #[x, y]) (v : Value) : Blk (W.setCell ⟨g, 0, none⟩ v) g t #[v, y] := by
  have := h.set_ 0 v
  simpa using this
theorem start1 (w : World) (t1 : TypeId) (c1 : Array Value) :
    ∃ W, w.alloc (.cells c1 t1) = W ∧ W.heap.size = w.heap.size + 1 ∧ Bx W [(w.heap.size, t1, c1)] ∧ Below w.heap.size w W :=
  ⟨_, rfl, by simp, Bx.nil_.new rfl, (Below.refl _ _).alloc (Nat.le_refl _) _⟩
theorem start2 (w : World) (t1 t2 : TypeId) (c1 c2 : Array Value) :
    ∃ W, (w.alloc (.cells c1 t1)).alloc (.cells c2 t2) = W ∧ W.heap.size = w.heap.size + 1 + 1 ∧ Bx W [(w.heap.size + 1, t2, c2), (w.heap.size, t1, c1)] ∧ Below w.heap.size w W :=
  ⟨_, rfl, by simp, (Bx.nil_.new rfl).new (by simp), ((Below.refl _ _).alloc (Nat.le_refl _) _).alloc (by simp) _⟩
theorem start3 (w : World) (t1 t2 t3 : TypeId) (c1 c2 c3 : Array Value) :
    ∃ W, ((w.alloc (.cells c1 t1)).alloc (.cells c2 t2)).alloc (.cells c3 t3) = W ∧ W.heap.size = w.heap.size + 1 + 1 + 1 ∧ Bx W [(w.heap.size + 1 + 1, t3, c3), (w.heap.size + 1, t2, c2), (w.heap.size, t1, c1)] ∧ Below w.heap.size w W :=
  ⟨_, rfl, by simp, ((Bx.nil_.new rfl).new (by simp)).new (by simp), (((Below.refl _ _).alloc (Nat.le_refl _) _).alloc (by simp) _).alloc (by simp; omega) _⟩
theorem start4 (w : World) (t1 t2 t3 t4 : TypeId) (c1 c2 c3 c4 : Array Value) :
    ∃ W, (((w.alloc (.cells c1 t1)).alloc (.cells c2 t2)).alloc (.cells c3 t3)).alloc (.cells c4 t4) = W ∧ W.heap.size = w.heap.size + 1 + 1 + 1 + 1 ∧
      Bx W [(w.heap.size + 1 + 1 + 1, t4, c4), (w.heap.size + 1 + 1, t3, c3), (w.heap.size + 1, t2, c2), (w.heap.size, t1, c1)] ∧ Below w.heap.size w W :=
  ⟨_, rfl, by simp, (((Bx.nil_.new rfl).new (by simp)).new (by simp)).new (by simp), ((((Below.refl _ _).alloc (Nat.le_refl _) _).alloc (by simp) _).alloc (by simp; omega) _).alloc (by simp; omega) _⟩
/-- Behind a call. -/
theorem Bx.call {B : Nat} {W0 : World} (h : Bx W L) (hB : Below B W0 W) (hs : B ≤ W.heap.size) (hb : Below W.heap.size W W') : Bx W' L ∧ Below B W0 W' ∧ W.heap.size ≤ W'.heap.size :=
  ⟨h.below hb, hB.trans (hb.mono hs), hb.size⟩
theorem Bx.put2 {x y u v : Value} (h : Bx W ((g, t, #[x, y]) :: L)) (hd : ∀ q ∈ L, q.1 ≠ g) : Bx ((W.setCell ⟨g, 0, none⟩ u).setCell ⟨g, 1, none⟩ v) ((g, t, #[u, v]) :: L) :=
  Bx.cons_ (Blk.set2 h.head u v) ((h.tail.far (p := ⟨g, 0, none⟩) hd u).far (p := ⟨g, 1, none⟩) hd v)
theorem Bx.put1 {x y v : Value} (h : Bx W ((g, t, #[x, y]) :: L)) (hd : ∀ q ∈ L, q.1 ≠ g) : Bx (W.setCell ⟨g, 1, none⟩ v) ((g, t, #[x, v]) :: L) :=
  Bx.cons_ (Blk.set1 h.head v) (h.tail.far (p := ⟨g, 1, none⟩) hd v)
theorem Bx.swap {p q : Nat × TypeId × Array Value} (h : Bx W (p :: q :: L)) : Bx W (q :: p :: L) := fun r hr => h r (by simp at hr ⊢; rcases hr with h | h | h <;> simp [h])
theorem Bx.perm {L' : List (Nat × TypeId × Array Value)} (h : Bx W L) (hp : ∀ p ∈ L', p ∈ L) : Bx W L' := fun p hp' => h p (hp p hp')
theorem set2_size (W : World) (p q : Addr) (u v : Value) : ((W.setCell p u).setCell q v).heap.size = W.heap.size := by simp [World.setCell]
theorem set1_size (W : World) (p : Addr) (u : Value) : (W.setCell p u).heap.size = W.heap.size := by simp [World.setCell]
/-- A world gets a name. -/
theorem name_world {B : Nat} {W0 : World} (h : Bx W L) (hB : Below B W0 W) {s : Nat} (hs : s ≤ W.heap.size) : ∃ W', W = W' ∧ Bx W' L ∧ Below B W0 W' ∧ s ≤ W'.heap.size := ⟨_, rfl, h, hB, hs⟩
end
end Go.Proofs.Ytnohkjalglogaaa.gro
