/- Bits; Dbl; Div: texts in one. -/
import Derived.Test.YtjapjfcennemeaaMgTri
import Derived.Lib.BitFns
import Derived.Lib.Strings
import Derived.Lib.Slices
import Derived.Lib.Small
import Derived.Lib.Walk
import Derived.Deep.Light
import Derived.Deep.LoopGhost
import Derived.LoopTactic
import Derived.Test.YtjapjfcennemeaaMgWide
import Derived.Test.YtjapjfcennemeaaMgBox
set_option linter.unusedVariables false
set_option linter.unusedSimpArgs false
/- Contracts of bits.Len64, num.Bits and of the reference's Bits. -/
namespace Go.Proofs.Ytjapjfcennemeaa.num
open Go.RowKit Go.Proofs.Ytjapjfcennemeaa.mem
set_option linter.unusedVariables false

set_option maxRecDepth 100000 in
theorem tab_size : (Lib.len8tab.size : Int) = 256 := by
  have : Lib.len8tab.size = 256 := by decide
  omega
theorem tab_add (k a b : Nat) (hk : k ≤ 56) (ha : a ≤ 8) (hb : b = k + a) : wrap64 ((k : Int) + wrap64 (a : Int)) = (b : Int) := by
  unfold wrap64
  omega
theorem tab_wrap (a : Nat) (ha : a ≤ 8) : wrap64 (wrap64 (a : Int)) = (a : Int) := by
  unfold wrap64
  omega
theorem tab_get (y : Int) (h : y.toNat < Lib.len8tab.size) : ((Lib.len8tab[y.toNat]'h).toNat : Int) = Lib.len8 y := by
  unfold Lib.len8
  rw [getElem?_pos Lib.len8tab y.toNat h]
  rfl

set_option maxHeartbeats 4000000 in
set_option maxRecDepth 100000 in
theorem Len64_any (x : Int) (w : World) (h0 : 0 ≤ x) (h1 : x ≤ 18446744073709551615) :
    Calls Try.prog 137 #[.int .u64 x] w fun e w' => e = .returned (.int .i64 (Lib.bitLen x.toNat)) ∧ w' = w := by
  go_enter Try.func137, Try.ntmps137
  go_wp2
  all_goals first
    | (go_ret; refine ⟨congrArg Ending.returned (congrArg (Value.int IntKind.i64) ?_), rfl⟩; go_light)
    | (exfalso
       go_light
       have hs := tab_size
       omega)
  all_goals first
    | (rw [tab_get (x / 4294967296 / 65536 / 256) _, Lib.len8_of (x / 4294967296 / 65536 / 256) (by omega) (by omega)]
       have e : (x / 4294967296 / 65536 / 256).toNat = x.toNat / 72057594037927936 := by omega
       have l := Lib.bitLen_le8' (x / 4294967296 / 65536 / 256) (by omega) (by omega)
       have s := Lib.bitLen_shift56 x.toNat (by omega) (by omega)
       rw [e] at l ⊢
       exact tab_add 56 _ _ (by decide) l s)
    | (rw [tab_get (x / 4294967296 / 65536) _, Lib.len8_of (x / 4294967296 / 65536) (by omega) (by omega)]
       have e : (x / 4294967296 / 65536).toNat = x.toNat / 281474976710656 := by omega
       have l := Lib.bitLen_le8' (x / 4294967296 / 65536) (by omega) (by omega)
       have s := Lib.bitLen_shift48 x.toNat (by omega) (by omega)
       rw [e] at l ⊢
       exact tab_add 48 _ _ (by decide) l s)
    | (rw [tab_get (x / 4294967296 / 256) _, Lib.len8_of (x / 4294967296 / 256) (by omega) (by omega)]
       have e : (x / 4294967296 / 256).toNat = x.toNat / 1099511627776 := by omega
       have l := Lib.bitLen_le8' (x / 4294967296 / 256) (by omega) (by omega)
       have s := Lib.bitLen_shift40 x.toNat (by omega) (by omega)
       rw [e] at l ⊢
       exact tab_add 40 _ _ (by decide) l s)
    | (rw [tab_get (x / 4294967296) _, Lib.len8_of (x / 4294967296) (by omega) (by omega)]
       have e : (x / 4294967296).toNat = x.toNat / 4294967296 := by omega
       have l := Lib.bitLen_le8' (x / 4294967296) (by omega) (by omega)
       have s := Lib.bitLen_shift32 x.toNat (by omega) (by omega)
       rw [e] at l ⊢
       exact tab_add 32 _ _ (by decide) l s)
    | (rw [tab_get (x / 65536 / 256) _, Lib.len8_of (x / 65536 / 256) (by omega) (by omega)]
       have e : (x / 65536 / 256).toNat = x.toNat / 16777216 := by omega
       have l := Lib.bitLen_le8' (x / 65536 / 256) (by omega) (by omega)
       have s := Lib.bitLen_shift24 x.toNat (by omega) (by omega)
       rw [e] at l ⊢
       exact tab_add 24 _ _ (by decide) l s)
    | (rw [tab_get (x / 65536) _, Lib.len8_of (x / 65536) (by omega) (by omega)]
       have e : (x / 65536).toNat = x.toNat / 65536 := by omega
       have l := Lib.bitLen_le8' (x / 65536) (by omega) (by omega)
       have s := Lib.bitLen_shift16 x.toNat (by omega) (by omega)
       rw [e] at l ⊢
       exact tab_add 16 _ _ (by decide) l s)
    | (rw [tab_get (x / 256) _, Lib.len8_of (x / 256) (by omega) (by omega)]
       have e : (x / 256).toNat = x.toNat / 256 := by omega
       have l := Lib.bitLen_le8' (x / 256) (by omega) (by omega)
       have s := Lib.bitLen_shift8 x.toNat (by omega) (by omega)
       rw [e] at l ⊢
       exact tab_add 8 _ _ (by decide) l s)
    | (rw [tab_get x _, Lib.len8_of x (by omega) (by omega)]
       have l := Lib.bitLen_le8' x (by omega) (by omega)
       exact tab_wrap _ l)

def bitsN (n : Int) : Nat := Lib.bitLen n.toNat
theorem bitLenAux_le (f x : Nat) : Lib.bitLenAux f x ≤ f := by
  induction f generalizing x with
  | zero => simp [Lib.bitLenAux]
  | succ f ih => have := ih (x / 2); simp only [Lib.bitLenAux]; split <;> omega
theorem bitLen_le64 (x : Nat) : Lib.bitLen x ≤ 64 := bitLenAux_le 64 x
theorem bitLen_zero : Lib.bitLen 0 = 0 := rfl
theorem bitLenAux_mono : ∀ (f a b : Nat), a ≤ b → Lib.bitLenAux f a ≤ Lib.bitLenAux f b
  | 0, _, _, _ => by simp [Lib.bitLenAux]
  | f + 1, a, b, h => by
    have := bitLenAux_mono f (a / 2) (b / 2) (Nat.div_le_div_right h)
    simp only [Lib.bitLenAux]
    split <;> split <;> omega
theorem bitLen_mono {a b : Nat} (h : a ≤ b) (_ : b < 2 ^ 64) : Lib.bitLen a ≤ Lib.bitLen b := bitLenAux_mono 64 a b h
theorem bitsN_le (n : Int) : bitsN n ≤ 64 := bitLen_le64 _
theorem bitsN_neg {n : Int} (h : n ≤ 0) : bitsN n = 0 := by unfold bitsN; rw [show n.toNat = 0 by omega]; rfl

set_option maxHeartbeats 1000000 in
theorem Bits_any (n : Int) (w : World) (hn : n ≤ 9223372036854775807) :
    Calls Try.prog 102 #[.int .i64 n] w fun e w' => e = .returned (.int .i64 (bitsN n)) ∧ w = w' := by
  by_cases h : n < 0
  · have HZ := Lib.hid (bitsN_neg (n := n) (by omega))
    go_enter Try.func102, Try.ntmps102
    go_wp2
    go_ret
    exact ⟨ret_int (by rw [HZ.out]; rfl), rfl⟩
  · have HC := Lib.hid (fun W => Len64_any n W (by omega) (by omega))
    have HD : Hid (bitsN n = Lib.bitLen n.toNat) := rfl
    generalize Lib.bitLen n.toNat = b at *
    generalize bitsN n = c at *
    obtain rfl : c = b := HD.out
    go_enter Try.func102, Try.ntmps102
    go_wp2_with (go_at_call 137; refine (HC.out _).mono ?_; rintro e w' ⟨rfl, rfl⟩)
    go_ret
    exact ⟨rfl, rfl⟩

set_option maxHeartbeats 1000000 in
theorem BitsRef_any (n : Int) (w : World) (hn : n ≤ 9223372036854775807) :
    Calls Try.prog 103 #[.int .i64 n] w fun e w' => e = .returned (.int .i64 (bitsN n)) ∧ w = w' := by
  by_cases h : n ≤ 0
  · have HZ := Lib.hid (bitsN_neg (n := n) (by omega))
    go_enter Try.func103, Try.ntmps103
    go_wp2
    go_loop [0, 3] (fun s0 s3 => s0 = .int .i64 n ∧ s3 = .int .i64 0) (fun _ _ => 0)
    case atStart => exact ⟨rfl, rfl⟩
    case round =>
      obtain ⟨rfl, rfl⟩ := hrel
      go_wp2
      go_ret
      exact ⟨ret_int (by rw [HZ.out]; rfl), rfl⟩
  · obtain ⟨m, rfl⟩ := Int.eq_ofNat_of_zero_le (show 0 ≤ n by omega)
    have HD : Hid (bitsN m = Lib.bitLen m) := rfl
    generalize bitsN m = b at *
    go_enter Try.func103, Try.ntmps103
    go_wp2
    go_loop [0, 3] (fun s0 s3 => ∃ u c : Nat, s0 = .int .i64 u ∧ s3 = .int .i64 c ∧ u ≤ m ∧ c ≤ 64 ∧ Hid (c + Lib.bitLen u = Lib.bitLen m)) (fun s0 _ => (intOf s0).toNat)
    case atStart => exact ⟨m, 0, rfl, rfl, Nat.le_refl _, by omega, Nat.zero_add _⟩
    case round =>
      obtain ⟨u, c, rfl, rfl, hu, hc, HE⟩ := hrel
      by_cases h0 : 0 < u
      · have hb := Lib.bitLen_half u (by omega) (by omega)
        have hE := HE.out
        have h64 := bitLen_le64 m
        have hc1 : c + 1 ≤ 64 := by omega
        have HE2 : Hid (c + 1 + Lib.bitLen (u / 2) = Lib.bitLen m) := by rw [Hid]; omega
        clear hb hE h64 HE HD
        go_wp2
        refine ⟨⟨u / 2, c + 1, by go_num, by go_num, by omega, by omega, HE2.out⟩, by simp [intOf]; omega⟩
      · obtain rfl : u = 0 := by omega
        have hE := HE.out
        rw [bitLen_zero, Nat.add_zero, ← HD.out] at hE
        have HE2 := Lib.hid hE
        clear hE HE HD
        go_wp2
        go_ret
        exact ⟨ret_int (by rw [HE2.out]), rfl⟩
end Go.Proofs.Ytjapjfcennemeaa.num

/- Doubling and subtracting numbers of 128 bits, word by word. -/
namespace Go.Proofs.Ytjapjfcennemeaa.wid
open Go.RowKit Go.Proofs.Ytjapjfcennemeaa.mem Go.Proofs.Ytjapjfcennemeaa.gro
set_option linter.unusedVariables false
theorem or_even {x b : Nat} (hb : b < 2) : (2 * x) ||| b = 2 * x + b := by
  have := Nat.shiftLeft_add_eq_or_of_lt (i := 1) (b := b) (by omega) x
  rw [Nat.shiftLeft_eq, Nat.pow_one] at this
  rw [Nat.mul_comm 2 x]; omega
theorem or_bit {x b : Int} (h0 : 0 ≤ x) (h1 : 2 * x < 18446744073709551616) (b0 : 0 ≤ b) (b1 : b < 2) : bits BinOp.or IntKind.u64 (2 * x) b = 2 * x + b := by
  obtain ⟨x, rfl⟩ := Int.eq_ofNat_of_zero_le h0
  obtain ⟨b, rfl⟩ := Int.eq_ofNat_of_zero_le b0
  rw [show (2 : Int) * (x : Int) = ((2 * x : Nat) : Int) by omega, u64_or_nat _ _ (by omega) (by omega), or_even (by omega)]
  omega
/-- The upper and the lower word of twice a number and a bit. -/
theorem dbl_hi {a : Nat} (ha : a < 340282366920938463463374607431768211456) (b : Nat) (hb : b < 2) : bits BinOp.or IntKind.u64 (IntKind.u64.wrap (hi a * 2)) (lo a / 9223372036854775808) = hi ((2 * a + b) % 340282366920938463463374607431768211456) := by
  rw [IntKind.wrap_u64]
  have h1 := hi_bd ha
  have h2 := lo_bd a
  rw [show hi a * 2 % 18446744073709551616 = 2 * (hi a % 9223372036854775808) by omega, or_bit (by omega) (by omega) (by omega) (by omega)]
  unfold hi lo; omega
theorem dbl_lo {a : Nat} (b : Nat) (hb : b < 2) : bits BinOp.or IntKind.u64 (IntKind.u64.wrap (lo a * 2)) (b : Int) = lo ((2 * a + b) % 340282366920938463463374607431768211456) := by
  rw [IntKind.wrap_u64]
  have h2 := lo_bd a
  rw [show lo a * 2 % 18446744073709551616 = 2 * (lo a % 9223372036854775808) by omega, or_bit (by omega) (by omega) (by omega) (by omega)]
  unfold lo; omega
theorem dbl_lo0 {a : Nat} : IntKind.u64.wrap (lo a * 2) = lo ((2 * a) % 340282366920938463463374607431768211456) := by
  rw [IntKind.wrap_u64]; unfold lo; omega
theorem top_bit {a : Nat} (ha : a < 340282366920938463463374607431768211456) : hi a / 9223372036854775808 = ((2 * a / 340282366920938463463374607431768211456 : Nat) : Int) := by unfold hi; omega
/-- The difference, word by word. -/
theorem sub_lo {r b : Nat} (hb : b ≤ r) : (lo (r % 340282366920938463463374607431768211456) - lo b - 0) % 18446744073709551616 = lo (r - b) := by unfold lo; omega
theorem sub_hi {r b : Nat} (hb : b ≤ r) (hd : r - b < 340282366920938463463374607431768211456) :
    (hi (r % 340282366920938463463374607431768211456) - hi b - (if lo (r % 340282366920938463463374607431768211456) < lo b + 0 then 1 else 0)) % 18446744073709551616 = hi (r - b) := by
  unfold hi lo; split <;> omega
/-- A step of long division. -/
theorem div_step {A b t : Nat} (hb : 0 < b) (ht : t < 2) :
    (b ≤ 2 * (A % b) + t → (2 * A + t) / b = 2 * (A / b) + 1 ∧ (2 * A + t) % b = 2 * (A % b) + t - b) ∧
    (2 * (A % b) + t < b → (2 * A + t) / b = 2 * (A / b) ∧ (2 * A + t) % b = 2 * (A % b) + t) := by
  have h1 := Nat.div_add_mod A b
  have h2 := Nat.mod_lt A hb
  generalize A % b = r at *
  generalize A / b = q at *
  have e1 : b * (2 * q) = 2 * (b * q) := Nat.mul_left_comm _ _ _
  constructor
  · intro h
    refine (Nat.div_mod_unique hb).2 ⟨?_, by omega⟩
    rw [Nat.mul_add, Nat.mul_one, e1]; omega
  · intro h
    refine (Nat.div_mod_unique hb).2 ⟨?_, h⟩
    rw [e1]; omega
theorem shift_bit (a i : Nat) : 2 * (a / 2 ^ (i + 1)) + a / 2 ^ i % 2 = a / 2 ^ i := by
  rw [Nat.pow_succ, ← Nat.div_div_eq_div_mul]; omega
theorem or_one {x : Int} (h0 : 0 ≤ x) (h1 : x ≤ 18446744073709551615) (he : x % 2 = 0) : bits BinOp.or IntKind.u64 x 1 = x + 1 := by
  have := or_bit (x := x / 2) (b := 1) (by omega) (by omega) (by omega) (by omega)
  rwa [show 2 * (x / 2) = x by omega] at this
theorem lo_odd (q : Nat) (hq : 2 * q < 340282366920938463463374607431768211456) : bits BinOp.or IntKind.u64 (lo (2 * q)) 1 = lo (2 * q + 1) := by
  have h := lo_bd (2 * q)
  rw [or_one h.1 h.2 (by unfold lo; omega)]
  unfold lo; omega
theorem hi_odd (q : Nat) : hi (2 * q) = hi (2 * q + 1) := by unfold hi; omega
theorem dbl_hi' {a : Nat} (ha : 2 * a < 340282366920938463463374607431768211456) (b : Nat) (hb : b < 2) : bits BinOp.or IntKind.u64 (hi a * 2) (lo a / 9223372036854775808) = hi (2 * a + b) := by
  have h1 : 0 ≤ hi a ∧ hi a ≤ 9223372036854775807 := by unfold hi; omega
  have h2 := lo_bd a
  rw [Int.mul_comm, or_bit (by omega) (by omega) (by omega) (by omega)]
  unfold hi lo; omega
theorem dbl_lo' {a : Nat} (b : Nat) (hb : b < 2) : bits BinOp.or IntKind.u64 (IntKind.u64.wrap (lo a * 2)) (b : Int) = lo (2 * a + b) := by
  rw [dbl_lo b hb]; unfold lo; omega
theorem dbl_lo0' {a : Nat} : IntKind.u64.wrap (lo a * 2) = lo (2 * a) := by
  rw [IntKind.wrap_u64]; unfold lo; omega
/-- The difference of r less the 129th digit. -/
theorem dif_lo {r b D : Nat} (hD : D = r % 340282366920938463463374607431768211456) (hb : b ≤ r) : (lo D - lo b) % 18446744073709551616 = lo (r - b) := by subst hD; unfold lo; omega
theorem dif_hi {r b D : Nat} (hD : D = r % 340282366920938463463374607431768211456) (hb : b ≤ r) (hd : r - b < 340282366920938463463374607431768211456) :
    (lo D < lo b → (hi D - hi b - 1) % 18446744073709551616 = hi (r - b)) ∧ (¬ lo D < lo b → (hi D - hi b) % 18446744073709551616 = hi (r - b)) := by
  subst hD; unfold hi lo; constructor <;> intro h <;> omega
theorem bits_spec (x : Nat) : ∀ f, x < 2 ^ f → x < 2 ^ Lib.bitLenAux f x := by
  intro f
  induction f generalizing x with
  | zero => intro h; simpa [Lib.bitLenAux] using h
  | succ f ih =>
    intro h
    have := ih (x / 2) (by rw [Nat.pow_succ] at h; omega)
    simp only [Lib.bitLenAux]
    split
    · omega
    · rw [Nat.add_comm, Nat.pow_succ]; omega
end Go.Proofs.Ytjapjfcennemeaa.wid

/- Contracts of wide.Bits, wide.Div, wide.Gcd. -/
namespace Go.Proofs.Ytjapjfcennemeaa.wid
open Go.RowKit Go.Proofs.Ytjapjfcennemeaa.mem Go.Proofs.Ytjapjfcennemeaa.gro
set_option linter.unusedVariables false
set_option linter.unusedSimpArgs false
def bitsW (a : Nat) : Nat := if 18446744073709551616 ≤ a then 64 + Lib.bitLen (a / 18446744073709551616) else Lib.bitLen a
theorem bitsW_lt {a : Nat} (h : a < 340282366920938463463374607431768211456) : bitsW a ≤ 128 ∧ a < 2 ^ bitsW a := by
  unfold bitsW
  split
  · have h1 := num.bitLen_le64 (a / 18446744073709551616)
    have h2 : a / 18446744073709551616 < 2 ^ Lib.bitLen (a / 18446744073709551616) := bits_spec _ 64 (by omega)
    refine ⟨by omega, ?_⟩
    rw [Nat.pow_add]
    omega
  · have h1 := num.bitLen_le64 a
    exact ⟨by omega, bits_spec _ 64 (by omega)⟩
set_option maxHeartbeats 1000000 in
theorem Bits_any (a : Nat) (w : World) (ha : a < 340282366920938463463374607431768211456) :
    Calls Try.prog 148 #[(Value.agg #[Value.int IntKind.u64 (hi (a)), Value.int IntKind.u64 (lo (a))])] w fun e w' => e = .returned (.int .i64 (bitsW a)) ∧ Below w.heap.size w w' := by
  have hb1 := hi_bd ha
  have hb2 := lo_bd a
  have HB : Hid (∀ o : Obj, Below w.heap.size w (w.alloc o)) := fun o => (Below.refl _ _).alloc (Nat.le_refl _) _
  by_cases hc : 18446744073709551616 ≤ a
  · have hN : hi a = ((a / 18446744073709551616 : Nat) : Int) := rfl
    have h0 : 1 ≤ hi a := by omega
    have hr : Hid (bitsW a = 64 + Lib.bitLen (a / 18446744073709551616)) := by unfold bitsW; rw [Hid, if_pos hc]
    have hl := num.bitLen_le64 (a / 18446744073709551616)
    have HC := Lib.hid (fun W => num.Len64_any (hi a) W hb1.1 hb1.2)
    rw [show (hi a).toNat = a / 18446744073709551616 by omega] at HC
    generalize Lib.bitLen (a / 18446744073709551616) = m at *
    clear hN hc
    generalize hi a = h at *
    generalize lo a = l at *
    go_enter Try.func148, Try.ntmps148
    go_wp2_with (go_at_call 137; refine (HC.out _).mono ?_; rintro e w' ⟨rfl, rfl⟩)
    go_ret
    exact ⟨ret_int (by rw [hr.out]; omega), HB.out _⟩
  · have hN : lo a = (a : Int) := lo_small (by omega)
    have h0 : hi a = 0 := hi_small (by omega)
    have hr : Hid (bitsW a = Lib.bitLen a) := by unfold bitsW; rw [Hid, if_neg hc]
    have HC := Lib.hid (fun W => num.Len64_any (lo a) W hb2.1 hb2.2)
    rw [show (lo a).toNat = a by omega] at HC
    rw [h0]
    generalize Lib.bitLen a = m at *
    clear hN hc h0
    generalize lo a = l at *
    go_enter Try.func148, Try.ntmps148
    go_wp2_with (go_at_call 137; refine (HC.out _).mono ?_; rintro e w' ⟨rfl, rfl⟩)
    go_ret
    exact ⟨ret_int (by rw [hr.out]), HB.out _⟩
def divq (a b : Nat) : Nat := if b = 0 then 0 else a / b
def divr (a b : Nat) : Nat := if b = 0 then 0 else a % b

set_option maxHeartbeats 4000000 in
set_option maxRecDepth 100000 in
theorem Div_any (a b : Nat) (w : World) (ha : a < 340282366920938463463374607431768211456) (hb : b < 340282366920938463463374607431768211456) :
    Calls Try.prog 124 #[(Value.agg #[Value.int IntKind.u64 (hi (a)), Value.int IntKind.u64 (lo (a))]), (Value.agg #[Value.int IntKind.u64 (hi (b)), Value.int IntKind.u64 (lo (b))])] w fun e w' => e = .returned (.tuple #[(Value.agg #[Value.int IntKind.u64 (hi (divq a b)), Value.int IntKind.u64 (lo (divq a b))]), (Value.agg #[Value.int IntKind.u64 (hi (divr a b)), Value.int IntKind.u64 (lo (divr a b))]), .bool (decide (b ≠ 0))]) ∧ Below w.heap.size w w' := by
  have HZ := Lib.hid (fun W => zero_any b W)
  have HB := Lib.hid (fun W => Bits_any a W ha)
  by_cases h0 : b = 0
  · subst h0
    rw [decide_eq_true rfl] at HZ
    go_enter Try.func124, Try.ntmps124
    go_wp2_with fail
    obtain ⟨W0, hW, hs0, K0, B0⟩ := start4 w 111 111 111 111 #[Value.int IntKind.u64 (hi a), Value.int IntKind.u64 (lo a)] #[Value.int IntKind.u64 (hi 0), Value.int IntKind.u64 (lo 0)] #[Value.int IntKind.u64 0, Value.int IntKind.u64 0] #[Value.int IntKind.u64 0, Value.int IntKind.u64 0]
    rw [hW]
    clear hW
    refine (HZ.out _).mono ?_
    rintro e w1 ⟨rfl, hb1⟩
    obtain ⟨K1, B1, z1⟩ := K0.call B0 (by omega) hb1
    rw [hs0] at z1
    have R := K1.rules
    simp only [Rules] at R
    have HK := Lib.hid K1
    have HBl := Lib.hid B1
    clear K0 K1 B0 B1 hb1 hs0
    go_wp2
    refine bodyPost_ret (v := Value.tuple #[Value.agg #[Value.int IntKind.u64 0, Value.int IntKind.u64 0], Value.agg #[Value.int IntKind.u64 0, Value.int IntKind.u64 0], Value.bool false]) (by simp [results, Try.results124, go_sem, R]) rfl ⟨?_, ?_⟩
    · rw [show divq a 0 = 0 from rfl, show divr a 0 = 0 from rfl]; rfl
    · exact (((HBl.out.setCell (by first | (simp; done) | (simp; omega)) _).setCell (by first | (simp; done) | (simp; omega)) _).setCell (by first | (simp; done) | (simp; omega)) _).setCell (by first | (simp; done) | (simp; omega)) _
  · rw [decide_eq_false h0] at HZ
    have hbl := bitsW_lt ha
    go_enter Try.func124, Try.ntmps124
    go_wp2_with fail
    obtain ⟨W0, hW, hs0, K0, B0⟩ := start4 w 111 111 111 111 #[Value.int IntKind.u64 (hi a), Value.int IntKind.u64 (lo a)] #[Value.int IntKind.u64 (hi b), Value.int IntKind.u64 (lo b)] #[Value.int IntKind.u64 0, Value.int IntKind.u64 0] #[Value.int IntKind.u64 0, Value.int IntKind.u64 0]
    rw [hW]
    clear hW
    refine (HZ.out _).mono ?_
    rintro e w1 ⟨rfl, hb1⟩
    obtain ⟨K1, B1, z1⟩ := K0.call B0 (by omega) hb1
    rw [hs0] at z1
    have R := K1.rules
    simp only [Rules] at R
    have HK := Lib.hid K1
    have HBl := Lib.hid B1
    clear K0 K1 B0 B1 hb1 hs0
    go_wp2_with fail
    obtain ⟨s1, hs1⟩ : ∃ s1, w1.heap.size = s1 := ⟨_, rfl⟩
    have K2 : Bx ((w1.alloc (Obj.cells #[Value.int IntKind.u64 0, Value.int IntKind.u64 0] 111)).alloc (Obj.cells #[Value.int IntKind.u64 0, Value.int IntKind.u64 0] 111)) _ := (HK.out.new (t := 111) (c := #[Value.int IntKind.u64 0, Value.int IntKind.u64 0]) hs1).new (g := s1 + 1) (t := 111) (c := #[Value.int IntKind.u64 0, Value.int IntKind.u64 0]) (by simp; omega)
    have B2 : Below w.heap.size w ((w1.alloc (Obj.cells #[Value.int IntKind.u64 0, Value.int IntKind.u64 0] 111)).alloc (Obj.cells #[Value.int IntKind.u64 0, Value.int IntKind.u64 0] 111)) := (HBl.out.alloc (by omega) _).alloc (by simp; omega) _
    have hs2 : ((w1.alloc (Obj.cells #[Value.int IntKind.u64 0, Value.int IntKind.u64 0] 111)).alloc (Obj.cells #[Value.int IntKind.u64 0, Value.int IntKind.u64 0] 111)).heap.size = s1 + 1 + 1 := by simp; omega
    rw [hs1]
    generalize (w1.alloc (Obj.cells #[Value.int IntKind.u64 0, Value.int IntKind.u64 0] 111)).alloc (Obj.cells #[Value.int IntKind.u64 0, Value.int IntKind.u64 0] 111) = W2 at *
    refine (HB.out _).mono ?_
    rintro e w3 ⟨rfl, hb3⟩
    obtain ⟨K3, B3, z3⟩ := K2.call B2 (by omega) hb3
    rw [hs2] at z3
    rw [hs1] at z1
    have HK3 := Lib.hid K3
    have HB3 := Lib.hid B3
    clear K2 B2 K3 B3 HK HBl hb3 hs1 hs2 R
    go_wp2_with fail
    go_loopg [9] (bitsW a) (fun kx s9 wr => ∃ (z : Int), s9 = .int .i64 z ∧ -1 ≤ z ∧ z < 128 ∧ z + 1 ≤ kx ∧ s1 + 1 + 1 ≤ wr.heap.size ∧ Hid (Below w.heap.size w wr) ∧
      Hid (Bx wr [(s1 + 1, 111, #[Value.int IntKind.u64 (hi (a / 2 ^ (z + 1).toNat % b)), Value.int IntKind.u64 (lo (a / 2 ^ (z + 1).toNat % b))]),
        (s1, 111, #[Value.int IntKind.u64 (hi (a / 2 ^ (z + 1).toNat / b)), Value.int IntKind.u64 (lo (a / 2 ^ (z + 1).toNat / b))]),
        (w.heap.size + 1 + 1 + 1, 111, #[Value.int IntKind.u64 0, Value.int IntKind.u64 0]), (w.heap.size + 1 + 1, 111, #[Value.int IntKind.u64 0, Value.int IntKind.u64 0]),
        (w.heap.size + 1, 111, #[Value.int IntKind.u64 (hi b), Value.int IntKind.u64 (lo b)]), (w.heap.size, 111, #[Value.int IntKind.u64 (hi a), Value.int IntKind.u64 (lo a)])]))
    case atStart =>
      refine ⟨_, rfl, by omega, by omega, by omega, z3, HB3, ?_⟩
      rw [show ((bitsW a : Int) - 1 + 1).toNat = bitsW a by omega, Nat.div_eq_of_lt hbl.2, Nat.zero_mod, Nat.zero_div]
      exact HK3
    case round =>
      obtain ⟨z, rfl, hy1, hy2, hyk, hsz, HBw, HKw⟩ := hrel
      clear HB3 HK3 z3
      by_cases hz0 : 0 ≤ z
      · obtain ⟨i, rfl⟩ := Int.eq_ofNat_of_zero_le hz0
        rw [show ((i : Int) + 1).toNat = i + 1 by omega] at HKw
        have hst := div_step (A := a / 2 ^ (i + 1)) (b := b) (t := a / 2 ^ i % 2) (by omega) (by omega)
        have hsb := shift_bit a i
        rw [hsb] at hst
        have hr := Nat.mod_lt (a / 2 ^ (i + 1)) (show b > 0 by omega)
        have hq := Nat.div_le_self (a / 2 ^ (i + 1)) b
        have hq2 := Nat.div_le_self a (2 ^ i)
        have HBit := Lib.hid (fun W => bit_any a i W (by omega) ha)
        have ht : a / 2 ^ i % 2 < 2 := by omega
        have hq5 : 2 * (a / 2 ^ (i + 1) / b) + 1 < 340282366920938463463374607431768211456 := by omega
        clear hq hq2 hsb
        have hh5 := hi_bd hb
        have hh6 := lo_bd b
        generalize a / 2 ^ (i + 1) % b = r at *
        generalize a / 2 ^ (i + 1) / b = q at *
        generalize a / 2 ^ i % 2 = t at *
        have HST := Lib.hid hst
        clear hst
        have hh1 := hi_bd (n := r) (by omega)
        have hh2 := lo_bd r
        have hh3 : 0 ≤ hi q ∧ hi q ≤ 9223372036854775807 := by unfold hi; omega
        have hh4 := lo_bd q
        have hq6 : 2 * q < 340282366920938463463374607431768211456 := by omega
        have e3 : bits BinOp.or IntKind.u64 (hi q * 2) (lo q / 9223372036854775808) = hi (2 * q) := dbl_hi' hq6 0 (by omega)
        have e4 : IntKind.u64.wrap (lo q * 2) = lo (2 * q) := dbl_lo0'
        have e7 : bits BinOp.or IntKind.u64 (lo (2 * q)) 1 = lo (2 * q + 1) := lo_odd q hq6
        have HO := Lib.hid (hi_odd q)
        have hh7 := hi_bd hq6
        have hh8 := lo_bd (2 * q)
        clear hq6 hq5
        have R := HKw.out.rules
        simp only [Rules] at R
        by_cases hbig : 340282366920938463463374607431768211456 ≤ 2 * r + t
        · obtain ⟨D, hD⟩ : ∃ D, D = (2 * r + t) % 340282366920938463463374607431768211456 := ⟨_, rfl⟩
          have e1 : bits BinOp.or IntKind.u64 (IntKind.u64.wrap (hi r * 2)) (lo r / 9223372036854775808) = hi D := by rw [hD]; exact dbl_hi (by omega) t ht
          have e2 : bits BinOp.or IntKind.u64 (IntKind.u64.wrap (lo r * 2)) (t : Int) = lo D := by rw [hD]; exact dbl_lo t ht
          have e0 : hi r / 9223372036854775808 = 1 := by unfold hi; omega
          have hh9 := hi_bd (n := D) (by omega)
          have hh10 := lo_bd D
          have hle : b ≤ 2 * r + t := by omega
          have hlt : 2 * r + t - b < 340282366920938463463374607431768211456 := by omega
          have e5 := dif_lo hD hle
          have e6 := dif_hi hD hle hlt
          have HQ := Lib.hid (HST.out.1 hle)
          have hh11 := hi_bd hlt
          have hh12 := lo_bd (2 * r + t - b)
          clear hD hle hlt hbig HST hr
          generalize 2 * r + t - b = F at *
          generalize 2 * q + 1 = E at *
          generalize 2 * q = E0 at *
          by_cases hl : lo D < lo b
          · have e8 := e6.1 hl
            have e9 : bor (lo D) (lo b) 0 = 1 := by unfold bor; rw [if_pos (by omega)]
            clear e6 hl
            go_wp2_with fail
            (refine gro.wp_region_grown_tail 15 (by kernel_rfl) (by kernel_rfl) ?_; simp only [List.take_succ_cons, List.take_zero, List.drop_succ_cons, List.drop_zero]; (repeat (go_big_quiet_step ((go_at_call 149; exact call_grown (HBit.out _))))); refine wpQuiet_nil ?_; intro _ hw'; obtain ⟨nx, hw''⟩ := hw'; subst hw'')
            have K4 := HKw.out.below (below_grown wr nx)
            have B4 := HBw.out.trans ((below_grown wr nx).mono (by omega))
            have hs4 := grown_size wr nx
            have HK4 := Lib.hid K4
            have HB4 := Lib.hid B4
            clear R
            generalize grown wr nx = W4 at *
            have R := K4.rules
            simp only [Rules] at R
            clear K4 B4
            go_wp2_with fail
            go_roundg i
            case measure => omega
            case rel =>
              refine ⟨_, rfl, by omega, by omega, by omega, by simp only [set2_size, set1_size]; omega, ?_, ?_⟩
              · exact ((((((HB4.out.setCell (by simp; omega) _).setCell (by simp; omega) _).setCell (by simp; omega) _).setCell (by simp; omega) _).setCell (by simp; omega) _).setCell (by simp; omega) _).setCell (by simp; omega) _
              · rw [show ((i : Int) - 1 + 1).toNat = i by omega, HQ.out.1, HQ.out.2, ← HO.out]
                exact Bx.swap (Bx.put1 (Bx.swap (Bx.put2 (Bx.swap (Bx.put2 (Bx.swap (Bx.put2 HK4.out (by simp; omega))) (by simp; omega))) (by simp; omega))) (by simp; omega))
          · have e8 := e6.2 hl
            have e9 : bor (lo D) (lo b) 0 = 0 := by unfold bor; rw [if_neg (by omega)]
            clear e6 hl
            go_wp2_with fail
            (refine gro.wp_region_grown_tail 15 (by kernel_rfl) (by kernel_rfl) ?_; simp only [List.take_succ_cons, List.take_zero, List.drop_succ_cons, List.drop_zero]; (repeat (go_big_quiet_step ((go_at_call 149; exact call_grown (HBit.out _))))); refine wpQuiet_nil ?_; intro _ hw'; obtain ⟨nx, hw''⟩ := hw'; subst hw'')
            have K4 := HKw.out.below (below_grown wr nx)
            have B4 := HBw.out.trans ((below_grown wr nx).mono (by omega))
            have hs4 := grown_size wr nx
            have HK4 := Lib.hid K4
            have HB4 := Lib.hid B4
            clear R
            generalize grown wr nx = W4 at *
            have R := K4.rules
            simp only [Rules] at R
            clear K4 B4
            go_wp2_with fail
            go_roundg i
            case measure => omega
            case rel =>
              refine ⟨_, rfl, by omega, by omega, by omega, by simp only [set2_size, set1_size]; omega, ?_, ?_⟩
              · exact ((((((HB4.out.setCell (by simp; omega) _).setCell (by simp; omega) _).setCell (by simp; omega) _).setCell (by simp; omega) _).setCell (by simp; omega) _).setCell (by simp; omega) _).setCell (by simp; omega) _
              · rw [show ((i : Int) - 1 + 1).toNat = i by omega, HQ.out.1, HQ.out.2, ← HO.out]
                exact Bx.swap (Bx.put1 (Bx.swap (Bx.put2 (Bx.swap (Bx.put2 (Bx.swap (Bx.put2 HK4.out (by simp; omega))) (by simp; omega))) (by simp; omega))) (by simp; omega))
        · obtain ⟨D, hD⟩ : ∃ D, D = 2 * r + t := ⟨_, rfl⟩
          have e1 : bits BinOp.or IntKind.u64 (hi r * 2) (lo r / 9223372036854775808) = hi D := by rw [hD]; exact dbl_hi' (by omega) t ht
          have e2 : bits BinOp.or IntKind.u64 (IntKind.u64.wrap (lo r * 2)) (t : Int) = lo D := by rw [hD]; exact dbl_lo' t ht
          have e0 : hi r / 9223372036854775808 = 0 := by unfold hi; omega
          have hh13 : hi r ≤ 9223372036854775807 := by unfold hi; omega
          have hh9 := hi_bd (n := D) (by omega)
          have hh10 := lo_bd D
          have HCmp := Lib.hid (fun W => Compare_any D b W)
          by_cases hle : b ≤ D
          · have hD2 : D = D % 340282366920938463463374607431768211456 := by omega
            have hlt : D - b < 340282366920938463463374607431768211456 := by omega
            have e5 := dif_lo hD2 hle
            have e6 := dif_hi hD2 hle hlt
            have HQ := HST.out.1 (by omega)
            rw [← hD] at HQ
            have HQ := Lib.hid HQ
            have hh11 := hi_bd hlt
            have hh12 := lo_bd (D - b)
            have hcm : 0 ≤ cmpN D b := by unfold cmpN; rw [if_neg (by omega)]; split <;> omega
            clear hD hle hlt hbig HST hr hD2
            generalize cmpN D b = cm at *
            generalize D - b = F at *
            generalize 2 * q + 1 = E at *
            generalize 2 * q = E0 at *
            by_cases hl : lo D < lo b
            · have e8 := e6.1 hl
              have e9 : bor (lo D) (lo b) 0 = 1 := by unfold bor; rw [if_pos (by omega)]
              clear e6 hl
              go_wp2_with fail
              (refine gro.wp_region_grown_tail 15 (by kernel_rfl) (by kernel_rfl) ?_; simp only [List.take_succ_cons, List.take_zero, List.drop_succ_cons, List.drop_zero]; (repeat (go_big_quiet_step ((go_at_call 149; exact call_grown (HBit.out _))))); refine wpQuiet_nil ?_; intro _ hw'; obtain ⟨nx, hw''⟩ := hw'; subst hw'')
              have K4 := HKw.out.below (below_grown wr nx)
              have B4 := HBw.out.trans ((below_grown wr nx).mono (by omega))
              have hs4 := grown_size wr nx
              have HK4 := Lib.hid K4
              have HB4 := Lib.hid B4
              clear R
              generalize grown wr nx = W4 at *
              have R := K4.rules
              simp only [Rules] at R
              clear K4 B4
              go_wp2_with fail
              obtain ⟨W5, hW5, K5, B5, s5⟩ := name_world (Bx.swap (Bx.put2 (u := .int .u64 (hi E0)) (v := .int .u64 (lo E0)) (Bx.swap (Bx.put2 (u := .int .u64 (hi D)) (v := .int .u64 (lo D)) HK4.out (by simp; omega))) (by simp; omega))) ((((HB4.out.setCell (by simp; omega) _).setCell (by simp; omega) _).setCell (by simp; omega) _).setCell (by simp; omega) _) (s := s1 + 1 + 1) (by simp only [set2_size]; omega)
              rw [hW5]
              clear hW5 R HK4 HB4
              refine (HCmp.out _).mono ?_
              rintro e W6 ⟨rfl, hb6⟩
              obtain ⟨K6, B6, z6⟩ := K5.call B5 (by omega) hb6
              have R := K6.rules
              simp only [Rules] at R
              have HK6 := Lib.hid K6
              have HB6 := Lib.hid B6
              clear K5 B5 K6 B6 hb6
              go_wp2_with fail
              go_roundg i
              case measure => omega
              case rel =>
                refine ⟨_, rfl, by omega, by omega, by omega, by simp only [set2_size, set1_size]; omega, ?_, ?_⟩
                · exact ((HB6.out.setCell (by simp; omega) _).setCell (by simp; omega) _).setCell (by simp; omega) _
                · rw [show ((i : Int) - 1 + 1).toNat = i by omega, HQ.out.1, HQ.out.2, ← HO.out]
                  exact Bx.swap (Bx.put1 (Bx.swap (Bx.put2 HK6.out (by simp; omega))) (by simp; omega))
            · have e8 := e6.2 hl
              have e9 : bor (lo D) (lo b) 0 = 0 := by unfold bor; rw [if_neg (by omega)]
              clear e6 hl
              go_wp2_with fail
              (refine gro.wp_region_grown_tail 15 (by kernel_rfl) (by kernel_rfl) ?_; simp only [List.take_succ_cons, List.take_zero, List.drop_succ_cons, List.drop_zero]; (repeat (go_big_quiet_step ((go_at_call 149; exact call_grown (HBit.out _))))); refine wpQuiet_nil ?_; intro _ hw'; obtain ⟨nx, hw''⟩ := hw'; subst hw'')
              have K4 := HKw.out.below (below_grown wr nx)
              have B4 := HBw.out.trans ((below_grown wr nx).mono (by omega))
              have hs4 := grown_size wr nx
              have HK4 := Lib.hid K4
              have HB4 := Lib.hid B4
              clear R
              generalize grown wr nx = W4 at *
              have R := K4.rules
              simp only [Rules] at R
              clear K4 B4
              go_wp2_with fail
              obtain ⟨W5, hW5, K5, B5, s5⟩ := name_world (Bx.swap (Bx.put2 (u := .int .u64 (hi E0)) (v := .int .u64 (lo E0)) (Bx.swap (Bx.put2 (u := .int .u64 (hi D)) (v := .int .u64 (lo D)) HK4.out (by simp; omega))) (by simp; omega))) ((((HB4.out.setCell (by simp; omega) _).setCell (by simp; omega) _).setCell (by simp; omega) _).setCell (by simp; omega) _) (s := s1 + 1 + 1) (by simp only [set2_size]; omega)
              rw [hW5]
              clear hW5 R HK4 HB4
              refine (HCmp.out _).mono ?_
              rintro e W6 ⟨rfl, hb6⟩
              obtain ⟨K6, B6, z6⟩ := K5.call B5 (by omega) hb6
              have R := K6.rules
              simp only [Rules] at R
              have HK6 := Lib.hid K6
              have HB6 := Lib.hid B6
              clear K5 B5 K6 B6 hb6
              go_wp2_with fail
              go_roundg i
              case measure => omega
              case rel =>
                refine ⟨_, rfl, by omega, by omega, by omega, by simp only [set2_size, set1_size]; omega, ?_, ?_⟩
                · exact ((HB6.out.setCell (by simp; omega) _).setCell (by simp; omega) _).setCell (by simp; omega) _
                · rw [show ((i : Int) - 1 + 1).toNat = i by omega, HQ.out.1, HQ.out.2, ← HO.out]
                  exact Bx.swap (Bx.put1 (Bx.swap (Bx.put2 HK6.out (by simp; omega))) (by simp; omega))
          · have HQ := HST.out.2 (by omega)
            rw [← hD] at HQ
            have HQ := Lib.hid HQ
            have hcm : cmpN D b < 0 := by unfold cmpN; rw [if_pos (by omega)]; omega
            clear hD hle hbig HST hr
            generalize cmpN D b = cm at *
            generalize 2 * q + 1 = E at *
            generalize 2 * q = E0 at *
            go_wp2_with fail
            (refine gro.wp_region_grown_tail 15 (by kernel_rfl) (by kernel_rfl) ?_; simp only [List.take_succ_cons, List.take_zero, List.drop_succ_cons, List.drop_zero]; (repeat (go_big_quiet_step ((go_at_call 149; exact call_grown (HBit.out _))))); refine wpQuiet_nil ?_; intro _ hw'; obtain ⟨nx, hw''⟩ := hw'; subst hw'')
            have K4 := HKw.out.below (below_grown wr nx)
            have B4 := HBw.out.trans ((below_grown wr nx).mono (by omega))
            have hs4 := grown_size wr nx
            have HK4 := Lib.hid K4
            have HB4 := Lib.hid B4
            clear R
            generalize grown wr nx = W4 at *
            have R := K4.rules
            simp only [Rules] at R
            clear K4 B4
            go_wp2_with fail
            obtain ⟨W5, hW5, K5, B5, s5⟩ := name_world (Bx.swap (Bx.put2 (u := .int .u64 (hi E0)) (v := .int .u64 (lo E0)) (Bx.swap (Bx.put2 (u := .int .u64 (hi D)) (v := .int .u64 (lo D)) HK4.out (by simp; omega))) (by simp; omega))) ((((HB4.out.setCell (by simp; omega) _).setCell (by simp; omega) _).setCell (by simp; omega) _).setCell (by simp; omega) _) (s := s1 + 1 + 1) (by simp only [set2_size]; omega)
            rw [hW5]
            clear hW5 R HK4 HB4
            refine (HCmp.out _).mono ?_
            rintro e W6 ⟨rfl, hb6⟩
            obtain ⟨K6, B6, z6⟩ := K5.call B5 (by omega) hb6
            have R := K6.rules
            simp only [Rules] at R
            have HK6 := Lib.hid K6
            have HB6 := Lib.hid B6
            clear K5 B5 K6 B6 hb6
            go_wp2_with fail
            go_roundg i
            case measure => omega
            case rel =>
              refine ⟨_, rfl, by omega, by omega, by omega, by omega, HB6.out, ?_⟩
              rw [show ((i : Int) - 1 + 1).toNat = i by omega, HQ.out.1, HQ.out.2]
              exact HK6.out
      · obtain rfl : z = -1 := by omega
        rw [show ((-1 : Int) + 1).toNat = 0 from rfl, Nat.pow_zero, Nat.div_one] at HKw
        have R := HKw.out.rules
        simp only [Rules] at R
        go_wp2_with fail
        go_region
        have KP := HKw.out.perm (L' := [(w.heap.size + 1 + 1, 111, #[Value.int IntKind.u64 0, Value.int IntKind.u64 0]), (w.heap.size + 1 + 1 + 1, 111, #[Value.int IntKind.u64 0, Value.int IntKind.u64 0])]) (by simp)
        obtain ⟨W5, hW5, K5, B5, s5⟩ := name_world (Bx.drew (Bx.swap (Bx.put2 (u := .int .u64 (hi (a % b))) (v := .int .u64 (lo (a % b))) (Bx.swap (Bx.put2 (u := .int .u64 (hi (a / b))) (v := .int .u64 (lo (a / b))) KP (by first | (simp; done) | (simp; omega)))) (by first | (simp; done) | (simp; omega))))) ((((HBw.out.setCell (by first | (simp; done) | (simp; omega)) _).setCell (by first | (simp; done) | (simp; omega)) _).setCell (by first | (simp; done) | (simp; omega)) _).setCell (by first | (simp; done) | (simp; omega)) _).drew (s := 0) (by omega)
        rw [hW5]
        clear hW5 R
        have R := K5.rules
        simp only [Rules] at R
        have HB5 := Lib.hid B5
        clear K5 B5 KP
        go_wp2
        refine bodyPost_ret (v := Value.tuple #[(Value.agg #[Value.int IntKind.u64 (hi (a / b)), Value.int IntKind.u64 (lo (a / b))]), (Value.agg #[Value.int IntKind.u64 (hi (a % b)), Value.int IntKind.u64 (lo (a % b))]), Value.bool true]) (by simp [results, Try.results124, go_sem, R]) rfl ⟨?_, ?_⟩
        · rw [decide_eq_true h0]; unfold divq divr; rw [if_neg h0, if_neg h0]
        · exact HB5.out
end Go.Proofs.Ytjapjfcennemeaa.wid
