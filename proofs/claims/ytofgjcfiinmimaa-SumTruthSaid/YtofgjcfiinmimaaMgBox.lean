/- Bits; Dbl; Box: texts in one. -/
import Derived.Test.YtofgjcfiinmimaaMgClk
import Derived.Lib.BitFns
import Derived.Lib.Strings
import Derived.Lib.Slices
import Derived.Lib.Small
import Derived.Lib.Walk
import Derived.Deep.Light
import Derived.Deep.LoopGhost
import Derived.LoopTactic
import Derived.Test.YtofgjcfiinmimaaMgWide
import Derived.Test.YtofgjcfiinmimaaMgGrown
import Derived.Test.YtofgjcfiinmimaaApp
/- Contracts of bits.Len64, num.Bits and of the reference's Bits. -/
namespace Go.Proofs.Ytofgjcfiinmimaa.num
open Go.RowKit Go.Proofs.Ytofgjcfiinmimaa.mem
set_option linter.unusedVariables false

set_option maxRecDepth 100000 in
theorem tab_size : (Lib.len8tab.size : Int) = 256 := by
  have : Lib.len8tab.size = 256 := by decide
  omega
theorem tab_add (k a b : Nat) (hk : k ≤ 56) (ha : a ≤ 8) (hb : b = k + a) : wrap64 ((k : Int) + wrap64 (a : Int)) = (b : Int) := by
  unfold wrap64
  omega
theorem tab_wrap (a : Nat) (ha : a ≤ 8) : wrap64 (wrap64 (a : Int)) = (a : Int) := by
  unfold wrap64
  omega
theorem tab_get (y : Int) (h : y.toNat < Lib.len8tab.size) : ((Lib.len8tab[y.toNat]'h).toNat : Int) = Lib.len8 y := by
  unfold Lib.len8
  rw [getElem?_pos Lib.len8tab y.toNat h]
  rfl

set_option maxHeartbeats 4000000 in
set_option maxRecDepth 100000 in
theorem Len64_any (x : Int) (w : World) (h0 : 0 ≤ x) (h1 : x ≤ 18446744073709551615) :
    Calls Try.prog 144 #[.int .u64 x] w fun e w' => e = .returned (.int .i64 (Lib.bitLen x.toNat)) ∧ w' = w := by
  go_enter Try.func144, Try.ntmps144
  go_wp2
  all_goals first
    | (go_ret; refine ⟨congrArg Ending.returned (congrArg (Value.int IntKind.i64) ?_), rfl⟩; go_light)
    | (exfalso
       go_light
       have hs := tab_size
       omega)
  all_goals first
    | (rw [tab_get (x / 4294967296 / 65536 / 256) _, Lib.len8_of (x / 4294967296 / 65536 / 256) (by omega) (by omega)]
       have e : (x / 4294967296 / 65536 / 256).toNat = x.toNat / 72057594037927936 := by omega
       have l := Lib.bitLen_le8' (x / 4294967296 / 65536 / 256) (by omega) (by omega)
       have s := Lib.bitLen_shift56 x.toNat (by omega) (by omega)
       rw [e] at l ⊢
       exact tab_add 56 _ _ (by decide) l s)
    | (rw [tab_get (x / 4294967296 / 65536) _, Lib.len8_of (x / 4294967296 / 65536) (by omega) (by omega)]
       have e : (x / 4294967296 / 65536).toNat = x.toNat / 281474976710656 := by omega
       have l := Lib.bitLen_le8' (x / 4294967296 / 65536) (by omega) (by omega)
       have s := Lib.bitLen_shift48 x.toNat (by omega) (by omega)
       rw [e] at l ⊢
       exact tab_add 48 _ _ (by decide) l s)
    | (rw [tab_get (x / 4294967296 / 256) _, Lib.len8_of (x / 4294967296 / 256) (by omega) (by omega)]
       have e : (x / 4294967296 / 256).toNat = x.toNat / 1099511627776 := by omega
       have l := Lib.bitLen_le8' (x / 4294967296 / 256) (by omega) (by omega)
       have s := Lib.bitLen_shift40 x.toNat (by omega) (by omega)
       rw [e] at l ⊢
       exact tab_add 40 _ _ (by decide) l s)
    | (rw [tab_get (x / 4294967296) _, Lib.len8_of (x / 4294967296) (by omega) (by omega)]
       have e : (x / 4294967296).toNat = x.toNat / 4294967296 := by omega
       have l := Lib.bitLen_le8' (x / 4294967296) (by omega) (by omega)
       have s := Lib.bitLen_shift32 x.toNat (by omega) (by omega)
       rw [e] at l ⊢
       exact tab_add 32 _ _ (by decide) l s)
    | (rw [tab_get (x / 65536 / 256) _, Lib.len8_of (x / 65536 / 256) (by omega) (by omega)]
       have e : (x / 65536 / 256).toNat = x.toNat / 16777216 := by omega
       have l := Lib.bitLen_le8' (x / 65536 / 256) (by omega) (by omega)
       have s := Lib.bitLen_shift24 x.toNat (by omega) (by omega)
       rw [e] at l ⊢
       exact tab_add 24 _ _ (by decide) l s)
    | (rw [tab_get (x / 65536) _, Lib.len8_of (x / 65536) (by omega) (by omega)]
       have e : (x / 65536).toNat = x.toNat / 65536 := by omega
       have l := Lib.bitLen_le8' (x / 65536) (by omega) (by omega)
       have s := Lib.bitLen_shift16 x.toNat (by omega) (by omega)
       rw [e] at l ⊢
       exact tab_add 16 _ _ (by decide) l s)
    | (rw [tab_get (x / 256) _, Lib.len8_of (x / 256) (by omega) (by omega)]
       have e : (x / 256).toNat = x.toNat / 256 := by omega
       have l := Lib.bitLen_le8' (x / 256) (by omega) (by omega)
       have s := Lib.bitLen_shift8 x.toNat (by omega) (by omega)
       rw [e] at l ⊢
       exact tab_add 8 _ _ (by decide) l s)
    | (rw [tab_get x _, Lib.len8_of x (by omega) (by omega)]
       have l := Lib.bitLen_le8' x (by omega) (by omega)
       exact tab_wrap _ l)

def bitsN (n : Int) : Nat := Lib.bitLen n.toNat
theorem bitLenAux_le (f x : Nat) : Lib.bitLenAux f x ≤ f := by
  induction f generalizing x with
  | zero => simp [Lib.bitLenAux]
  | succ f ih => have := ih (x / 2); simp only [Lib.bitLenAux]; split <;> omega
theorem bitLen_le64 (x : Nat) : Lib.bitLen x ≤ 64 := bitLenAux_le 64 x
theorem bitLen_zero : Lib.bitLen 0 = 0 := rfl
theorem bitLenAux_mono : ∀ (f a b : Nat), a ≤ b → Lib.bitLenAux f a ≤ Lib.bitLenAux f b
  | 0, _, _, _ => by simp [Lib.bitLenAux]
  | f + 1, a, b, h => by
    have := bitLenAux_mono f (a / 2) (b / 2) (Nat.div_le_div_right h)
    simp only [Lib.bitLenAux]
    split <;> split <;> omega
theorem bitLen_mono {a b : Nat} (h : a ≤ b) (_ : b < 2 ^ 64) : Lib.bitLen a ≤ Lib.bitLen b := bitLenAux_mono 64 a b h
theorem bitsN_le (n : Int) : bitsN n ≤ 64 := bitLen_le64 _
theorem bitsN_neg {n : Int} (h : n ≤ 0) : bitsN n = 0 := by unfold bitsN; rw [show n.toNat = 0 by omega]; rfl

set_option maxHeartbeats 1000000 in
theorem BitsRef_any (n : Int) (w : World) (hn : n ≤ 9223372036854775807) :
    Calls Try.prog 87 #[.int .i64 n] w fun e w' => e = .returned (.int .i64 (bitsN n)) ∧ w = w' := by
  by_cases h : n ≤ 0
  · have HZ := Lib.hid (bitsN_neg (n := n) (by omega))
    go_enter Try.func87, Try.ntmps87
    go_wp2
    go_loop [0, 3] (fun s0 s3 => s0 = .int .i64 n ∧ s3 = .int .i64 0) (fun _ _ => 0)
    case atStart => exact ⟨rfl, rfl⟩
    case round =>
      obtain ⟨rfl, rfl⟩ := hrel
      go_wp2
      go_ret
      exact ⟨ret_int (by rw [HZ.out]; rfl), rfl⟩
  · obtain ⟨m, rfl⟩ := Int.eq_ofNat_of_zero_le (show 0 ≤ n by omega)
    have HD : Hid (bitsN m = Lib.bitLen m) := rfl
    generalize bitsN m = b at *
    go_enter Try.func87, Try.ntmps87
    go_wp2
    go_loop [0, 3] (fun s0 s3 => ∃ u c : Nat, s0 = .int .i64 u ∧ s3 = .int .i64 c ∧ u ≤ m ∧ c ≤ 64 ∧ Hid (c + Lib.bitLen u = Lib.bitLen m)) (fun s0 _ => (intOf s0).toNat)
    case atStart => exact ⟨m, 0, rfl, rfl, Nat.le_refl _, by omega, Nat.zero_add _⟩
    case round =>
      obtain ⟨u, c, rfl, rfl, hu, hc, HE⟩ := hrel
      by_cases h0 : 0 < u
      · have hb := Lib.bitLen_half u (by omega) (by omega)
        have hE := HE.out
        have h64 := bitLen_le64 m
        have hc1 : c + 1 ≤ 64 := by omega
        have HE2 : Hid (c + 1 + Lib.bitLen (u / 2) = Lib.bitLen m) := by rw [Hid]; omega
        clear hb hE h64 HE HD
        go_wp2
        refine ⟨⟨u / 2, c + 1, by go_num, by go_num, by omega, by omega, HE2.out⟩, by simp [intOf]; omega⟩
      · obtain rfl : u = 0 := by omega
        have hE := HE.out
        rw [bitLen_zero, Nat.add_zero, ← HD.out] at hE
        have HE2 := Lib.hid hE
        clear hE HE HD
        go_wp2
        go_ret
        exact ⟨ret_int (by rw [HE2.out]), rfl⟩
end Go.Proofs.Ytofgjcfiinmimaa.num

/- Doubling and subtracting numbers of 128 bits, word by word. -/
namespace Go.Proofs.Ytofgjcfiinmimaa.wid
open Go.RowKit Go.Proofs.Ytofgjcfiinmimaa.mem Go.Proofs.Ytofgjcfiinmimaa.gro
set_option linter.unusedVariables false
theorem or_even {x b : Nat} (hb : b < 2) : (2 * x) ||| b = 2 * x + b := by
  have := Nat.shiftLeft_add_eq_or_of_lt (i := 1) (b := b) (by omega) x
  rw [Nat.shiftLeft_eq, Nat.pow_one] at this
  rw [Nat.mul_comm 2 x]; omega
theorem or_bit {x b : Int} (h0 : 0 ≤ x) (h1 : 2 * x < 18446744073709551616) (b0 : 0 ≤ b) (b1 : b < 2) : bits BinOp.or IntKind.u64 (2 * x) b = 2 * x + b := by
  obtain ⟨x, rfl⟩ := Int.eq_ofNat_of_zero_le h0
  obtain ⟨b, rfl⟩ := Int.eq_ofNat_of_zero_le b0
  rw [show (2 : Int) * (x : Int) = ((2 * x : Nat) : Int) by omega, u64_or_nat _ _ (by omega) (by omega), or_even (by omega)]
  omega
/-- The upper and the lower word of twice a number and a bit. -/
theorem dbl_hi {a : Nat} (ha : a < 340282366920938463463374607431768211456) (b : Nat) (hb : b < 2) : bits BinOp.or IntKind.u64 (IntKind.u64.wrap (hi a * 2)) (lo a / 9223372036854775808) = hi ((2 * a + b) % 340282366920938463463374607431768211456) := by
  rw [IntKind.wrap_u64]
  have h1 := hi_bd ha
  have h2 := lo_bd a
  rw [show hi a * 2 % 18446744073709551616 = 2 * (hi a % 9223372036854775808) by omega, or_bit (by omega) (by omega) (by omega) (by omega)]
  unfold hi lo; omega
theorem dbl_lo {a : Nat} (b : Nat) (hb : b < 2) : bits BinOp.or IntKind.u64 (IntKind.u64.wrap (lo a * 2)) (b : Int) = lo ((2 * a + b) % 340282366920938463463374607431768211456) := by
  rw [IntKind.wrap_u64]
  have h2 := lo_bd a
  rw [show lo a * 2 % 18446744073709551616 = 2 * (lo a % 9223372036854775808) by omega, or_bit (by omega) (by omega) (by omega) (by omega)]
  unfold lo; omega
theorem dbl_lo0 {a : Nat} : IntKind.u64.wrap (lo a * 2) = lo ((2 * a) % 340282366920938463463374607431768211456) := by
  rw [IntKind.wrap_u64]; unfold lo; omega
theorem top_bit {a : Nat} (ha : a < 340282366920938463463374607431768211456) : hi a / 9223372036854775808 = ((2 * a / 340282366920938463463374607431768211456 : Nat) : Int) := by unfold hi; omega
/-- The difference, word by word. -/
theorem sub_lo {r b : Nat} (hb : b ≤ r) : (lo (r % 340282366920938463463374607431768211456) - lo b - 0) % 18446744073709551616 = lo (r - b) := by unfold lo; omega
theorem sub_hi {r b : Nat} (hb : b ≤ r) (hd : r - b < 340282366920938463463374607431768211456) :
    (hi (r % 340282366920938463463374607431768211456) - hi b - (if lo (r % 340282366920938463463374607431768211456) < lo b + 0 then 1 else 0)) % 18446744073709551616 = hi (r - b) := by
  unfold hi lo; split <;> omega
/-- A step of long division. -/
theorem div_step {A b t : Nat} (hb : 0 < b) (ht : t < 2) :
    (b ≤ 2 * (A % b) + t → (2 * A + t) / b = 2 * (A / b) + 1 ∧ (2 * A + t) % b = 2 * (A % b) + t - b) ∧
    (2 * (A % b) + t < b → (2 * A + t) / b = 2 * (A / b) ∧ (2 * A + t) % b = 2 * (A % b) + t) := by
  have h1 := Nat.div_add_mod A b
  have h2 := Nat.mod_lt A hb
  generalize A % b = r at *
  generalize A / b = q at *
  have e1 : b * (2 * q) = 2 * (b * q) := Nat.mul_left_comm _ _ _
  constructor
  · intro h
    refine (Nat.div_mod_unique hb).2 ⟨?_, by omega⟩
    rw [Nat.mul_add, Nat.mul_one, e1]; omega
  · intro h
    refine (Nat.div_mod_unique hb).2 ⟨?_, h⟩
    rw [e1]; omega
theorem shift_bit (a i : Nat) : 2 * (a / 2 ^ (i + 1)) + a / 2 ^ i % 2 = a / 2 ^ i := by
  rw [Nat.pow_succ, ← Nat.div_div_eq_div_mul]; omega
theorem or_one {x : Int} (h0 : 0 ≤ x) (h1 : x ≤ 18446744073709551615) (he : x % 2 = 0) : bits BinOp.or IntKind.u64 x 1 = x + 1 := by
  have := or_bit (x := x / 2) (b := 1) (by omega) (by omega) (by omega) (by omega)
  rwa [show 2 * (x / 2) = x by omega] at this
theorem lo_odd (q : Nat) (hq : 2 * q < 340282366920938463463374607431768211456) : bits BinOp.or IntKind.u64 (lo (2 * q)) 1 = lo (2 * q + 1) := by
  have h := lo_bd (2 * q)
  rw [or_one h.1 h.2 (by unfold lo; omega)]
  unfold lo; omega
theorem hi_odd (q : Nat) : hi (2 * q) = hi (2 * q + 1) := by unfold hi; omega
theorem dbl_hi' {a : Nat} (ha : 2 * a < 340282366920938463463374607431768211456) (b : Nat) (hb : b < 2) : bits BinOp.or IntKind.u64 (hi a * 2) (lo a / 9223372036854775808) = hi (2 * a + b) := by
  have h1 : 0 ≤ hi a ∧ hi a ≤ 9223372036854775807 := by unfold hi; omega
  have h2 := lo_bd a
  rw [Int.mul_comm, or_bit (by omega) (by omega) (by omega) (by omega)]
  unfold hi lo; omega
theorem dbl_lo' {a : Nat} (b : Nat) (hb : b < 2) : bits BinOp.or IntKind.u64 (IntKind.u64.wrap (lo a * 2)) (b : Int) = lo (2 * a + b) := by
  rw [dbl_lo b hb]; unfold lo; omega
theorem dbl_lo0' {a : Nat} : IntKind.u64.wrap (lo a * 2) = lo (2 * a) := by
  rw [IntKind.wrap_u64]; unfold lo; omega
/-- The difference of r less the 129th digit. -/
theorem dif_lo {r b D : Nat} (hD : D = r % 340282366920938463463374607431768211456) (hb : b ≤ r) : (lo D - lo b) % 18446744073709551616 = lo (r - b) := by subst hD; unfold lo; omega
theorem dif_hi {r b D : Nat} (hD : D = r % 340282366920938463463374607431768211456) (hb : b ≤ r) (hd : r - b < 340282366920938463463374607431768211456) :
    (lo D < lo b → (hi D - hi b - 1) % 18446744073709551616 = hi (r - b)) ∧ (¬ lo D < lo b → (hi D - hi b) % 18446744073709551616 = hi (r - b)) := by
  subst hD; unfold hi lo; constructor <;> intro h <;> omega
theorem bits_spec (x : Nat) : ∀ f, x < 2 ^ f → x < 2 ^ Lib.bitLenAux f x := by
  intro f
  induction f generalizing x with
  | zero => intro h; simpa [Lib.bitLenAux] using h
  | succ f ih =>
    intro h
    have := ih (x / 2) (by rw [Nat.pow_succ] at h; omega)
    simp only [Lib.bitLenAux]
    split
    · omega
    · rw [Nat.add_comm, Nat.pow_succ]; omega
end Go.Proofs.Ytofgjcfiinmimaa.wid

/- Boxes of a call's own: blocks whose cells are known. No condition. -/
namespace Go.Proofs.Ytofgjcfiinmimaa.gro
open Go.RowKit Go.Proofs.Ytofgjcfiinmimaa.mem
set_option linter.unusedVariables false
/-- The blocks of the list hold just these cells. -/
def Bx (W : World) (L : List (Nat × TypeId × Array Value)) : Prop := ∀ p ∈ L, Blk W p.1 p.2.1 p.2.2
/-- What the walk reads of them. -/
def Rules (W : World) : List (Nat × TypeId × Array Value) → Prop
  | [] => True
  | p :: L => ((∀ j, W.cell? ⟨p.1, j, none⟩ = p.2.2[j]?) ∧ (∀ j, W.frozen? ⟨p.1, j, none⟩ = false)) ∧ Rules W L
section
variable {W W' w : World} {L : List (Nat × TypeId × Array Value)} {g : Nat} {t : TypeId} {c : Array Value}
theorem Bx.nil_ : Bx W [] := fun p hp => by cases hp
theorem Bx.cons_ (h : Blk W g t c) (hL : Bx W L) : Bx W ((g, t, c) :: L) := fun p hp => by
  rcases List.mem_cons.1 hp with rfl | hp
  · exact h
  · exact hL p hp
theorem Bx.head (h : Bx W ((g, t, c) :: L)) : Blk W g t c := h _ (List.mem_cons_self ..)
theorem Bx.tail (h : Bx W ((g, t, c) :: L)) : Bx W L := fun p hp => h p (List.mem_cons_of_mem _ hp)
theorem Bx.rules : ∀ {L : List (Nat × TypeId × Array Value)}, Bx W L → Rules W L
  | [], _ => trivial
  | (g, t, c) :: L, h => ⟨⟨fun j => h.head.cell j, fun j => h.head.frozen j⟩, h.tail.rules⟩
theorem Bx.below (h : Bx W L) (hb : Below W.heap.size W W') : Bx W' L := fun p hp => (h p hp).below hb (h p hp).lt
theorem Bx.alloc (h : Bx W L) (o : Obj) : Bx (W.alloc o) L := fun p hp => (h p hp).alloc o
theorem Bx.drew (h : Bx W L) : Bx W.drew L := h
theorem Bx.far {p : Addr} (h : Bx W L) (hp : ∀ q ∈ L, q.1 ≠ p.block) (u : Value) : Bx (W.setCell p u) L := fun q hq => (h q hq).far (hp q hq) u
theorem Bx.new (h : Bx W L) (hg : W.heap.size = g) : Bx (W.alloc (.cells c t)) ((g, t, c) :: L) := by
  subst hg
  exact Bx.cons_ (Blk.new W t c) (h.alloc _)
theorem Blk.set2 {x y : Value} (h : Blk W g t #[x, y]) (u v : Value) : Blk ((W.setCell ⟨g, 0, none⟩ u).setCell ⟨g, 1, none⟩ v) g t #[u, v] := by
  have := (h.set_ 0 u).set_ 1 v
  simpa using this
theorem Blk.set1 {x y : Value} (h : Blk W g t #[x, y]) (v : Value) : Blk (W.setCell ⟨g, 1, none⟩ v) g t #[x, v] := by
  have := h.set_ 1 v
  simpa using this
theorem Blk.set0 {x y : Value} (h : Blk W g t #[x, y]) (v : Value) : Blk (W.setCell ⟨g, 0, none⟩ v) g t #[v, y] := by
  have := h.set_ 0 v
  simpa using this
theorem start1 (w : World) (t1 : TypeId) (c1 : Array Value) :
    ∃ W, w.alloc (.cells c1 t1) = W ∧ W.heap.size = w.heap.size + 1 ∧ Bx W [(w.heap.size, t1, c1)] ∧ Below w.heap.size w W :=
  ⟨_, rfl, by simp, Bx.nil_.new rfl, (Below.refl _ _).alloc (Nat.le_refl _) _⟩
theorem start2 (w : World) (t1 t2 : TypeId) (c1 c2 : Array Value) :
    ∃ W, (w.alloc (.cells c1 t1)).alloc (.cells c2 t2) = W ∧ W.heap.size = w.heap.size + 1 + 1 ∧ Bx W [(w.heap.size + 1, t2, c2), (w.heap.size, t1, c1)] ∧ Below w.heap.size w W :=
  ⟨_, rfl, by simp, (Bx.nil_.new rfl).new (by simp), ((Below.refl _ _).alloc (Nat.le_refl _) _).alloc (by simp) _⟩
theorem start3 (w : World) (t1 t2 t3 : TypeId) (c1 c2 c3 : Array Value) :
    ∃ W, ((w.alloc (.cells c1 t1)).alloc (.cells c2 t2)).alloc (.cells c3 t3) = W ∧ W.heap.size = w.heap.size + 1 + 1 + 1 ∧ Bx W [(w.heap.size + 1 + 1, t3, c3), (w.heap.size + 1, t2, c2), (w.heap.size, t1, c1)] ∧ Below w.heap.size w W :=
  ⟨_, rfl, by simp, ((Bx.nil_.new rfl).new (by simp)).new (by simp), (((Below.refl _ _).alloc (Nat.le_refl _) _).alloc (by simp) _).alloc (by simp; omega) _⟩
theorem start4 (w : World) (t1 t2 t3 t4 : TypeId) (c1 c2 c3 c4 : Array Value) :
    ∃ W, (((w.alloc (.cells c1 t1)).alloc (.cells c2 t2)).alloc (.cells c3 t3)).alloc (.cells c4 t4) = W ∧ W.heap.size = w.heap.size + 1 + 1 + 1 + 1 ∧
      Bx W [(w.heap.size + 1 + 1 + 1, t4, c4), (w.heap.size + 1 + 1, t3, c3), (w.heap.size + 1, t2, c2), (w.heap.size, t1, c1)] ∧ Below w.heap.size w W :=
  ⟨_, rfl, by simp, (((Bx.nil_.new rfl).new (by simp)).new (by simp)).new (by simp), ((((Below.refl _ _).alloc (Nat.le_refl _) _).alloc (by simp) _).alloc (by simp; omega) _).alloc (by simp; omega) _⟩
/-- Behind a call. -/
theorem Bx.call {B : Nat} {W0 : World} (h : Bx W L) (hB : Below B W0 W) (hs : B ≤ W.heap.size) (hb : Below W.heap.size W W') : Bx W' L ∧ Below B W0 W' ∧ W.heap.size ≤ W'.heap.size :=
  ⟨h.below hb, hB.trans (hb.mono hs), hb.size⟩
theorem Bx.put2 {x y u v : Value} (h : Bx W ((g, t, #[x, y]) :: L)) (hd : ∀ q ∈ L, q.1 ≠ g) : Bx ((W.setCell ⟨g, 0, none⟩ u).setCell ⟨g, 1, none⟩ v) ((g, t, #[u, v]) :: L) :=
  Bx.cons_ (Blk.set2 h.head u v) ((h.tail.far (p := ⟨g, 0, none⟩) hd u).far (p := ⟨g, 1, none⟩) hd v)
theorem Bx.put1 {x y v : Value} (h : Bx W ((g, t, #[x, y]) :: L)) (hd : ∀ q ∈ L, q.1 ≠ g) : Bx (W.setCell ⟨g, 1, none⟩ v) ((g, t, #[x, v]) :: L) :=
  Bx.cons_ (Blk.set1 h.head v) (h.tail.far (p := ⟨g, 1, none⟩) hd v)
theorem Bx.swap {p q : Nat × TypeId × Array Value} (h : Bx W (p :: q :: L)) : Bx W (q :: p :: L) := fun r hr => h r (by simp at hr ⊢; rcases hr with h | h | h <;> simp [h])
theorem Bx.perm {L' : List (Nat × TypeId × Array Value)} (h : Bx W L) (hp : ∀ p ∈ L', p ∈ L) : Bx W L' := fun p hp' => h p (hp p hp')
theorem set2_size (W : World) (p q : Addr) (u v : Value) : ((W.setCell p u).setCell q v).heap.size = W.heap.size := by simp [World.setCell]
theorem set1_size (W : World) (p : Addr) (u : Value) : (W.setCell p u).heap.size = W.heap.size := by simp [World.setCell]
/-- A world gets a name. -/
theorem name_world {B : Nat} {W0 : World} (h : Bx W L) (hB : Below B W0 W) {s : Nat} (hs : s ≤ W.heap.size) : ∃ W', W = W' ∧ Bx W' L ∧ Below B W0 W' ∧ s ≤ W'.heap.size := ⟨_, rfl, h, hB, hs⟩
end
end Go.Proofs.Ytofgjcfiinmimaa.gro
