/- Bits: proved here in one text, no conditions beyond those that each theorem states. -/
import Derived.Lib.BitFns
import Derived.Lib.Strings
import Derived.Lib.Slices
import Derived.Lib.Small
import Derived.Lib.Walk
import Derived.Deep.Light
import Derived.Deep.LoopGhost
import Derived.LoopTactic
import Derived.Test.YtjapjfcennemeaaGreatZ1
set_option linter.unusedVariables false
set_option linter.unusedSimpArgs false
namespace Go.Proofs.YtjapjfcennemeaaGreat.num
open Go.RowKit Go.Proofs.YtjapjfcennemeaaGreat.mem
set_option linter.unusedVariables false
set_option maxRecDepth 100000 in
theorem tab_size : (Lib.len8tab.size : Int) = 256 := by
  have : Lib.len8tab.size = 256 := by decide
  omega
theorem tab_add (k a b : Nat) (hk : k ≤ 56) (ha : a ≤ 8) (hb : b = k + a) : wrap64 ((k : Int) + wrap64 (a : Int)) = (b : Int) := by
  unfold wrap64
  omega
theorem tab_wrap (a : Nat) (ha : a ≤ 8) : wrap64 (wrap64 (a : Int)) = (a : Int) := by
  unfold wrap64
  omega
theorem tab_get (y : Int) (h : y.toNat < Lib.len8tab.size) : ((Lib.len8tab[y.toNat]'h).toNat : Int) = Lib.len8 y := by
  unfold Lib.len8
  rw [getElem?_pos Lib.len8tab y.toNat h]
  rfl
set_option maxHeartbeats 4000000 in
set_option maxRecDepth 100000 in
theorem Len64_any (x : Int) (w : World) (h0 : 0 ≤ x) (h1 : x ≤ 18446744073709551615) :
    Calls Tryz.prog 80 #[.int .u64 x] w fun e w' => e = .returned (.int .i64 (Lib.bitLen x.toNat)) ∧ w' = w := by
  go_enter Tryz.func80, Tryz.ntmps80
  go_wp2
  all_goals first
    | (go_ret; refine ⟨congrArg Ending.returned (congrArg (Value.int IntKind.i64) ?_), rfl⟩; go_light)
    | (exfalso
       go_light
       have hs := tab_size
       omega)
  all_goals first
    | (rw [tab_get (x / 4294967296 / 65536 / 256) _, Lib.len8_of (x / 4294967296 / 65536 / 256) (by omega) (by omega)]
       have e : (x / 4294967296 / 65536 / 256).toNat = x.toNat / 72057594037927936 := by omega
       have l := Lib.bitLen_le8' (x / 4294967296 / 65536 / 256) (by omega) (by omega)
       have s := Lib.bitLen_shift56 x.toNat (by omega) (by omega)
       rw [e] at l ⊢
       exact tab_add 56 _ _ (by decide) l s)
    | (rw [tab_get (x / 4294967296 / 65536) _, Lib.len8_of (x / 4294967296 / 65536) (by omega) (by omega)]
       have e : (x / 4294967296 / 65536).toNat = x.toNat / 281474976710656 := by omega
       have l := Lib.bitLen_le8' (x / 4294967296 / 65536) (by omega) (by omega)
       have s := Lib.bitLen_shift48 x.toNat (by omega) (by omega)
       rw [e] at l ⊢
       exact tab_add 48 _ _ (by decide) l s)
    | (rw [tab_get (x / 4294967296 / 256) _, Lib.len8_of (x / 4294967296 / 256) (by omega) (by omega)]
       have e : (x / 4294967296 / 256).toNat = x.toNat / 1099511627776 := by omega
       have l := Lib.bitLen_le8' (x / 4294967296 / 256) (by omega) (by omega)
       have s := Lib.bitLen_shift40 x.toNat (by omega) (by omega)
       rw [e] at l ⊢
       exact tab_add 40 _ _ (by decide) l s)
    | (rw [tab_get (x / 4294967296) _, Lib.len8_of (x / 4294967296) (by omega) (by omega)]
       have e : (x / 4294967296).toNat = x.toNat / 4294967296 := by omega
       have l := Lib.bitLen_le8' (x / 4294967296) (by omega) (by omega)
       have s := Lib.bitLen_shift32 x.toNat (by omega) (by omega)
       rw [e] at l ⊢
       exact tab_add 32 _ _ (by decide) l s)
    | (rw [tab_get (x / 65536 / 256) _, Lib.len8_of (x / 65536 / 256) (by omega) (by omega)]
       have e : (x / 65536 / 256).toNat = x.toNat / 16777216 := by omega
       have l := Lib.bitLen_le8' (x / 65536 / 256) (by omega) (by omega)
       have s := Lib.bitLen_shift24 x.toNat (by omega) (by omega)
       rw [e] at l ⊢
       exact tab_add 24 _ _ (by decide) l s)
    | (rw [tab_get (x / 65536) _, Lib.len8_of (x / 65536) (by omega) (by omega)]
       have e : (x / 65536).toNat = x.toNat / 65536 := by omega
       have l := Lib.bitLen_le8' (x / 65536) (by omega) (by omega)
       have s := Lib.bitLen_shift16 x.toNat (by omega) (by omega)
       rw [e] at l ⊢
       exact tab_add 16 _ _ (by decide) l s)
    | (rw [tab_get (x / 256) _, Lib.len8_of (x / 256) (by omega) (by omega)]
       have e : (x / 256).toNat = x.toNat / 256 := by omega
       have l := Lib.bitLen_le8' (x / 256) (by omega) (by omega)
       have s := Lib.bitLen_shift8 x.toNat (by omega) (by omega)
       rw [e] at l ⊢
       exact tab_add 8 _ _ (by decide) l s)
    | (rw [tab_get x _, Lib.len8_of x (by omega) (by omega)]
       have l := Lib.bitLen_le8' x (by omega) (by omega)
       exact tab_wrap _ l)
def bitsN (n : Int) : Nat := Lib.bitLen n.toNat
theorem bitLenAux_le (f x : Nat) : Lib.bitLenAux f x ≤ f := by
  induction f generalizing x with
  | zero => simp [Lib.bitLenAux]
  | succ f ih => have := ih (x / 2); simp only [Lib.bitLenAux]; split <;> omega
theorem bitLen_le64 (x : Nat) : Lib.bitLen x ≤ 64 := bitLenAux_le 64 x
theorem bitLen_zero : Lib.bitLen 0 = 0 := rfl
theorem bitsN_le (n : Int) : bitsN n ≤ 64 := bitLen_le64 _
theorem bitsN_neg {n : Int} (h : n ≤ 0) : bitsN n = 0 := by unfold bitsN; rw [show n.toNat = 0 by omega]; rfl
set_option maxHeartbeats 1000000 in
theorem Bits_any (n : Int) (w : World) (hn : n ≤ 9223372036854775807) :
    Calls Tryz.prog 47 #[.int .i64 n] w fun e w' => e = .returned (.int .i64 (bitsN n)) ∧ w = w' := by
  by_cases h : n < 0
  · have HZ := Lib.hid (bitsN_neg (n := n) (by omega))
    go_enter Tryz.func47, Tryz.ntmps47
    go_wp2
    go_ret
    exact ⟨ret_int (by rw [HZ.out]; rfl), rfl⟩
  · have HC := Lib.hid (fun W => Len64_any n W (by omega) (by omega))
    have HD : Hid (bitsN n = Lib.bitLen n.toNat) := rfl
    generalize Lib.bitLen n.toNat = b at *
    generalize bitsN n = c at *
    obtain rfl : c = b := HD.out
    go_enter Tryz.func47, Tryz.ntmps47
    go_wp2_with (go_at_call 80; refine (HC.out _).mono ?_; rintro e w' ⟨rfl, rfl⟩)
    go_ret
    exact ⟨rfl, rfl⟩
set_option maxHeartbeats 1000000 in
theorem BitsRef_any (n : Int) (w : World) (hn : n ≤ 9223372036854775807) :
    Calls Tryz.prog 66 #[.int .i64 n] w fun e w' => e = .returned (.int .i64 (bitsN n)) ∧ w = w' := by
  by_cases h : n ≤ 0
  · have HZ := Lib.hid (bitsN_neg (n := n) (by omega))
    go_enter Tryz.func66, Tryz.ntmps66
    go_wp2
    go_loop [0, 3] (fun s0 s3 => s0 = .int .i64 n ∧ s3 = .int .i64 0) (fun _ _ => 0)
    case atStart => exact ⟨rfl, rfl⟩
    case round =>
      obtain ⟨rfl, rfl⟩ := hrel
      go_wp2
      go_ret
      exact ⟨ret_int (by rw [HZ.out]; rfl), rfl⟩
  · obtain ⟨m, rfl⟩ := Int.eq_ofNat_of_zero_le (show 0 ≤ n by omega)
    have HD : Hid (bitsN m = Lib.bitLen m) := rfl
    generalize bitsN m = b at *
    go_enter Tryz.func66, Tryz.ntmps66
    go_wp2
    go_loop [0, 3] (fun s0 s3 => ∃ u c : Nat, s0 = .int .i64 u ∧ s3 = .int .i64 c ∧ u ≤ m ∧ c ≤ 64 ∧ Hid (c + Lib.bitLen u = Lib.bitLen m)) (fun s0 _ => (intOf s0).toNat)
    case atStart => exact ⟨m, 0, rfl, rfl, Nat.le_refl _, by omega, Nat.zero_add _⟩
    case round =>
      obtain ⟨u, c, rfl, rfl, hu, hc, HE⟩ := hrel
      by_cases h0 : 0 < u
      · have hb := Lib.bitLen_half u (by omega) (by omega)
        have hE := HE.out
        have h64 := bitLen_le64 m
        have hc1 : c + 1 ≤ 64 := by omega
        have HE2 : Hid (c + 1 + Lib.bitLen (u / 2) = Lib.bitLen m) := by rw [Hid]; omega
        clear hb hE h64 HE HD
        go_wp2
        refine ⟨⟨u / 2, c + 1, by go_num, by go_num, by omega, by omega, HE2.out⟩, by simp [intOf]; omega⟩
      · obtain rfl : u = 0 := by omega
        have hE := HE.out
        rw [bitLen_zero, Nat.add_zero, ← HD.out] at hE
        have HE2 := Lib.hid hE
        clear hE HE HD
        go_wp2
        go_ret
        exact ⟨ret_int (by rw [HE2.out]), rfl⟩
end Go.Proofs.YtjapjfcennemeaaGreat.num
