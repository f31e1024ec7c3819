/- Contracts of bits.Len64, num.Bits and of the reference's Bits. -/
import Derived.Test.YtoejhikcnnppnaaMem
import Derived.Lib.BitFns
import Derived.Lib.Strings
import Derived.Lib.Slices
import Derived.Lib.Small
import Derived.Lib.Walk
import Derived.Deep.Light
import Derived.Deep.LoopGhost
import Derived.LoopTactic
namespace Go.Proofs.Ytoejhikcnnppnaa.num
open Go.RowKit Go.Proofs.Ytoejhikcnnppnaa.mem
set_option linter.unusedVariables false

set_option maxRecDepth 100000 in
theorem tab_size : (Lib.len8tab.size : Int) = 256 := by
  have : Lib.len8tab.size = 256 := by decide
  omega
theorem tab_add (k a b : Nat) (hk : k ≤ 56) (ha : a ≤ 8) (hb : b = k + a) : wrap64 ((k : Int) + wrap64 (a : Int)) = (b : Int) := by
  unfold wrap64
  omega
theorem tab_wrap (a : Nat) (ha : a ≤ 8) : wrap64 (wrap64 (a : Int)) = (a : Int) := by
  unfold wrap64
  omega
theorem tab_get (y : Int) (h : y.toNat < Lib.len8tab.size) : ((Lib.len8tab[y.toNat]'h).toNat : Int) = Lib.len8 y := by
  unfold Lib.len8
  rw [getElem?_pos Lib.len8tab y.toNat h]
  rfl

set_option maxHeartbeats 4000000 in
set_option maxRecDepth 100000 in
theorem Len64_any (x : Int) (w : World) (h0 : 0 ≤ x) (h1 : x ≤ 18446744073709551615) :
    Calls Try.prog 99 #[.int .u64 x] w fun e w' => e = .returned (.int .i64 (Lib.bitLen x.toNat)) ∧ w' = w := by
  go_enter Try.func99, Try.ntmps99
  go_wp2
  all_goals first
    | (go_ret; refine ⟨congrArg Ending.returned (congrArg (Value.int IntKind.i64) ?_), rfl⟩; go_light)
    | (exfalso
       go_light
       have hs := tab_size
       omega)
  all_goals first
    | (rw [tab_get (x / 4294967296 / 65536 / 256) _, Lib.len8_of (x / 4294967296 / 65536 / 256) (by omega) (by omega)]
       have e : (x / 4294967296 / 65536 / 256).toNat = x.toNat / 72057594037927936 := by omega
       have l := Lib.bitLen_le8' (x / 4294967296 / 65536 / 256) (by omega) (by omega)
       have s := Lib.bitLen_shift56 x.toNat (by omega) (by omega)
       rw [e] at l ⊢
       exact tab_add 56 _ _ (by decide) l s)
    | (rw [tab_get (x / 4294967296 / 65536) _, Lib.len8_of (x / 4294967296 / 65536) (by omega) (by omega)]
       have e : (x / 4294967296 / 65536).toNat = x.toNat / 281474976710656 := by omega
       have l := Lib.bitLen_le8' (x / 4294967296 / 65536) (by omega) (by omega)
       have s := Lib.bitLen_shift48 x.toNat (by omega) (by omega)
       rw [e] at l ⊢
       exact tab_add 48 _ _ (by decide) l s)
    | (rw [tab_get (x / 4294967296 / 256) _, Lib.len8_of (x / 4294967296 / 256) (by omega) (by omega)]
       have e : (x / 4294967296 / 256).toNat = x.toNat / 1099511627776 := by omega
       have l := Lib.bitLen_le8' (x / 4294967296 / 256) (by omega) (by omega)
       have s := Lib.bitLen_shift40 x.toNat (by omega) (by omega)
       rw [e] at l ⊢
       exact tab_add 40 _ _ (by decide) l s)
    | (rw [tab_get (x / 4294967296) _, Lib.len8_of (x / 4294967296) (by omega) (by omega)]
       have e : (x / 4294967296).toNat = x.toNat / 4294967296 := by omega
       have l := Lib.bitLen_le8' (x / 4294967296) (by omega) (by omega)
       have s := Lib.bitLen_shift32 x.toNat (by omega) (by omega)
       rw [e] at l ⊢
       exact tab_add 32 _ _ (by decide) l s)
    | (rw [tab_get (x / 65536 / 256) _, Lib.len8_of (x / 65536 / 256) (by omega) (by omega)]
       have e : (x / 65536 / 256).toNat = x.toNat / 16777216 := by omega
       have l := Lib.bitLen_le8' (x / 65536 / 256) (by omega) (by omega)
       have s := Lib.bitLen_shift24 x.toNat (by omega) (by omega)
       rw [e] at l ⊢
       exact tab_add 24 _ _ (by decide) l s)
    | (rw [tab_get (x / 65536) _, Lib.len8_of (x / 65536) (by omega) (by omega)]
       have e : (x / 65536).toNat = x.toNat / 65536 := by omega
       have l := Lib.bitLen_le8' (x / 65536) (by omega) (by omega)
       have s := Lib.bitLen_shift16 x.toNat (by omega) (by omega)
       rw [e] at l ⊢
       exact tab_add 16 _ _ (by decide) l s)
    | (rw [tab_get (x / 256) _, Lib.len8_of (x / 256) (by omega) (by omega)]
       have e : (x / 256).toNat = x.toNat / 256 := by omega
       have l := Lib.bitLen_le8' (x / 256) (by omega) (by omega)
       have s := Lib.bitLen_shift8 x.toNat (by omega) (by omega)
       rw [e] at l ⊢
       exact tab_add 8 _ _ (by decide) l s)
    | (rw [tab_get x _, Lib.len8_of x (by omega) (by omega)]
       have l := Lib.bitLen_le8' x (by omega) (by omega)
       exact tab_wrap _ l)

def bitsN (n : Int) : Nat := Lib.bitLen n.toNat
theorem bitLenAux_le (f x : Nat) : Lib.bitLenAux f x ≤ f := by
  induction f generalizing x with
  | zero => simp [Lib.bitLenAux]
  | succ f ih => have := ih (x / 2); simp only [Lib.bitLenAux]; split <;> omega
theorem bitLen_le64 (x : Nat) : Lib.bitLen x ≤ 64 := bitLenAux_le 64 x
theorem bitLen_zero : Lib.bitLen 0 = 0 := rfl
theorem bitLenAux_mono : ∀ (f a b : Nat), a ≤ b → Lib.bitLenAux f a ≤ Lib.bitLenAux f b
  | 0, _, _, _ => by simp [Lib.bitLenAux]
  | f + 1, a, b, h => by
    have := bitLenAux_mono f (a / 2) (b / 2) (Nat.div_le_div_right h)
    simp only [Lib.bitLenAux]
    split <;> split <;> omega
theorem bitLen_mono {a b : Nat} (h : a ≤ b) (_ : b < 2 ^ 64) : Lib.bitLen a ≤ Lib.bitLen b := bitLenAux_mono 64 a b h
theorem bitsN_le (n : Int) : bitsN n ≤ 64 := bitLen_le64 _
theorem bitsN_neg {n : Int} (h : n ≤ 0) : bitsN n = 0 := by unfold bitsN; rw [show n.toNat = 0 by omega]; rfl

end Go.Proofs.Ytoejhikcnnppnaa.num
