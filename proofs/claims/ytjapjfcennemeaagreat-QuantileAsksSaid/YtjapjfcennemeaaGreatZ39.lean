/- Dbl, Arith: proved here in one text, no conditions beyond those that each theorem states. -/
import Derived.Test.YtjapjfcennemeaaGreatZ38
import Derived.Test.YtjapjfcennemeaaGreatZ4
import Derived.Test.YtjapjfcennemeaaGreatZ15
set_option linter.unusedVariables false
set_option linter.unusedSimpArgs false
section
namespace Go.Proofs.YtjapjfcennemeaaGreat.wid
open Go.RowKit Go.Proofs.YtjapjfcennemeaaGreat.mem Go.Proofs.YtjapjfcennemeaaGreat.gro
set_option linter.unusedVariables false
theorem or_even {x b : Nat} (hb : b < 2) : (2 * x) ||| b = 2 * x + b := by
  have := Nat.shiftLeft_add_eq_or_of_lt (i := 1) (b := b) (by omega) x
  rw [Nat.shiftLeft_eq, Nat.pow_one] at this
  rw [Nat.mul_comm 2 x]; omega
theorem or_bit {x b : Int} (h0 : 0 ≤ x) (h1 : 2 * x < 18446744073709551616) (b0 : 0 ≤ b) (b1 : b < 2) : bits BinOp.or IntKind.u64 (2 * x) b = 2 * x + b := by
  obtain ⟨x, rfl⟩ := Int.eq_ofNat_of_zero_le h0
  obtain ⟨b, rfl⟩ := Int.eq_ofNat_of_zero_le b0
  rw [show (2 : Int) * (x : Int) = ((2 * x : Nat) : Int) by omega, u64_or_nat _ _ (by omega) (by omega), or_even (by omega)]
  omega
theorem dbl_hi {a : Nat} (ha : a < 340282366920938463463374607431768211456) (b : Nat) (hb : b < 2) : bits BinOp.or IntKind.u64 (IntKind.u64.wrap (hi a * 2)) (lo a / 9223372036854775808) = hi ((2 * a + b) % 340282366920938463463374607431768211456) := by
  rw [IntKind.wrap_u64]
  have h1 := hi_bd ha
  have h2 := lo_bd a
  rw [show hi a * 2 % 18446744073709551616 = 2 * (hi a % 9223372036854775808) by omega, or_bit (by omega) (by omega) (by omega) (by omega)]
  unfold hi lo; omega
theorem dbl_lo {a : Nat} (b : Nat) (hb : b < 2) : bits BinOp.or IntKind.u64 (IntKind.u64.wrap (lo a * 2)) (b : Int) = lo ((2 * a + b) % 340282366920938463463374607431768211456) := by
  rw [IntKind.wrap_u64]
  have h2 := lo_bd a
  rw [show lo a * 2 % 18446744073709551616 = 2 * (lo a % 9223372036854775808) by omega, or_bit (by omega) (by omega) (by omega) (by omega)]
  unfold lo; omega
theorem top_bit {a : Nat} (ha : a < 340282366920938463463374607431768211456) : hi a / 9223372036854775808 = ((2 * a / 340282366920938463463374607431768211456 : Nat) : Int) := by unfold hi; omega
theorem div_step {A b t : Nat} (hb : 0 < b) (ht : t < 2) :
    (b ≤ 2 * (A % b) + t → (2 * A + t) / b = 2 * (A / b) + 1 ∧ (2 * A + t) % b = 2 * (A % b) + t - b) ∧
    (2 * (A % b) + t < b → (2 * A + t) / b = 2 * (A / b) ∧ (2 * A + t) % b = 2 * (A % b) + t) := by
  have h1 := Nat.div_add_mod A b
  have h2 := Nat.mod_lt A hb
  generalize A % b = r at *
  generalize A / b = q at *
  have e1 : b * (2 * q) = 2 * (b * q) := Nat.mul_left_comm _ _ _
  constructor
  · intro h
    refine (Nat.div_mod_unique hb).2 ⟨?_, by omega⟩
    rw [Nat.mul_add, Nat.mul_one, e1]; omega
  · intro h
    refine (Nat.div_mod_unique hb).2 ⟨?_, h⟩
    rw [e1]; omega
theorem shift_bit (a i : Nat) : 2 * (a / 2 ^ (i + 1)) + a / 2 ^ i % 2 = a / 2 ^ i := by
  rw [Nat.pow_succ, ← Nat.div_div_eq_div_mul]; omega
theorem or_one {x : Int} (h0 : 0 ≤ x) (h1 : x ≤ 18446744073709551615) (he : x % 2 = 0) : bits BinOp.or IntKind.u64 x 1 = x + 1 := by
  have := or_bit (x := x / 2) (b := 1) (by omega) (by omega) (by omega) (by omega)
  rwa [show 2 * (x / 2) = x by omega] at this
theorem lo_odd (q : Nat) (hq : 2 * q < 340282366920938463463374607431768211456) : bits BinOp.or IntKind.u64 (lo (2 * q)) 1 = lo (2 * q + 1) := by
  have h := lo_bd (2 * q)
  rw [or_one h.1 h.2 (by unfold lo; omega)]
  unfold lo; omega
theorem hi_odd (q : Nat) : hi (2 * q) = hi (2 * q + 1) := by unfold hi; omega
theorem dbl_hi' {a : Nat} (ha : 2 * a < 340282366920938463463374607431768211456) (b : Nat) (hb : b < 2) : bits BinOp.or IntKind.u64 (hi a * 2) (lo a / 9223372036854775808) = hi (2 * a + b) := by
  have h1 : 0 ≤ hi a ∧ hi a ≤ 9223372036854775807 := by unfold hi; omega
  have h2 := lo_bd a
  rw [Int.mul_comm, or_bit (by omega) (by omega) (by omega) (by omega)]
  unfold hi lo; omega
theorem dbl_lo' {a : Nat} (b : Nat) (hb : b < 2) : bits BinOp.or IntKind.u64 (IntKind.u64.wrap (lo a * 2)) (b : Int) = lo (2 * a + b) := by
  rw [dbl_lo b hb]; unfold lo; omega
theorem dbl_lo0' {a : Nat} : IntKind.u64.wrap (lo a * 2) = lo (2 * a) := by
  rw [IntKind.wrap_u64]; unfold lo; omega
theorem dif_lo {r b D : Nat} (hD : D = r % 340282366920938463463374607431768211456) (hb : b ≤ r) : (lo D - lo b) % 18446744073709551616 = lo (r - b) := by subst hD; unfold lo; omega
theorem dif_hi {r b D : Nat} (hD : D = r % 340282366920938463463374607431768211456) (hb : b ≤ r) (hd : r - b < 340282366920938463463374607431768211456) :
    (lo D < lo b → (hi D - hi b - 1) % 18446744073709551616 = hi (r - b)) ∧ (¬ lo D < lo b → (hi D - hi b) % 18446744073709551616 = hi (r - b)) := by
  subst hD; unfold hi lo; constructor <;> intro h <;> omega
theorem bits_spec (x : Nat) : ∀ f, x < 2 ^ f → x < 2 ^ Lib.bitLenAux f x := by
  intro f
  induction f generalizing x with
  | zero => intro h; simpa [Lib.bitLenAux] using h
  | succ f ih =>
    intro h
    have := ih (x / 2) (by rw [Nat.pow_succ] at h; omega)
    simp only [Lib.bitLenAux]
    split
    · omega
    · rw [Nat.add_comm, Nat.pow_succ]; omega
end Go.Proofs.YtjapjfcennemeaaGreat.wid
end
section
namespace Go.Proofs.YtjapjfcennemeaaGreat.wid
open Go.RowKit Go.Proofs.YtjapjfcennemeaaGreat.mem Go.Proofs.YtjapjfcennemeaaGreat.gro
set_option linter.unusedVariables false
theorem maskN (a : Nat) (ha : a < 18446744073709551616) : bits .and .u64 (a : Int) 4294967295 = ((a % 4294967296 : Nat) : Int) := by
  have h := bits_and_u64_nat a 4294967295 ha (by omega)
  have e : a &&& 4294967295 = a % 4294967296 := Nat.and_two_pow_sub_one_eq_mod a 32
  rw [e] at h
  exact h
theorem divN (a : Nat) : (a : Int) / 4294967296 = ((a / 4294967296 : Nat) : Int) := by omega
theorem mulN (a b : Nat) : (a : Int) * (b : Int) = ((a * b : Nat) : Int) := (Int.natCast_mul a b).symm
theorem addN (a b : Nat) : (a : Int) + (b : Int) = ((a + b : Nat) : Int) := (Int.natCast_add a b).symm
theorem wrapN (a : Nat) (ha : a < 18446744073709551616) : IntKind.u64.wrap (a : Int) = (a : Int) := by rw [IntKind.wrap_u64]; omega
theorem wrapM (a : Nat) : IntKind.u64.wrap (a : Int) = ((a % 18446744073709551616 : Nat) : Int) := by rw [IntKind.wrap_u64]; omega
set_option maxHeartbeats 1000000 in
theorem Mul64_nat (x y : Nat) (hx : x < 18446744073709551616) (hy : y < 18446744073709551616) (w : World) :
    Calls Tryz.prog 88 #[.int .u64 x, .int .u64 y] w fun e w' => e = .returned (.tuple #[.int .u64 (hi (x * y)), .int .u64 (lo (x * y))]) ∧ w = w' := by
  obtain ⟨bd, bt, bw, hhi⟩ := Lib.mul64_hi x y hx hy
  have ba := Lib.half_mul_le (a := x / 4294967296) (b := y / 4294967296) (by omega) (by omega)
  have bb := Lib.half_mul_le (a := x / 4294967296) (b := y % 4294967296) (by omega) (by omega)
  have bc := Lib.half_mul_le (a := x % 4294967296) (b := y / 4294967296) (by omega) (by omega)
  have ba' : x / 4294967296 * (y / 4294967296) < 18446744073709551616 := by omega
  have bb' : x / 4294967296 * (y % 4294967296) < 18446744073709551616 := by omega
  have bc' : x % 4294967296 * (y / 4294967296) < 18446744073709551616 := by omega
  have bh1 : x / 4294967296 * (y / 4294967296) + (x / 4294967296 * (y % 4294967296) + x % 4294967296 * (y % 4294967296) / 4294967296) / 4294967296 < 18446744073709551616 := by omega
  have bh : x / 4294967296 * (y / 4294967296) + (x / 4294967296 * (y % 4294967296) + x % 4294967296 * (y % 4294967296) / 4294967296) / 4294967296 + ((x / 4294967296 * (y % 4294967296) + x % 4294967296 * (y % 4294967296) / 4294967296) % 4294967296 + x % 4294967296 * (y / 4294967296)) / 4294967296 < 18446744073709551616 := by omega
  have HI : Hid (((x * y / 18446744073709551616 : Nat) : Int) = hi (x * y)) := rfl
  have HL : Hid (((x * y % 18446744073709551616 : Nat) : Int) = lo (x * y)) := rfl
  go_enter Tryz.func88, Tryz.ntmps88
  go_wp2
  simp only [maskN x hx, maskN y hy, divN, mulN, addN, wrapN _ bd, wrapN _ bb', wrapN _ bt, maskN _ bt, wrapN _ bc', wrapN _ bw, wrapN _ ba', wrapN _ bh1, wrapN _ bh, wrapM (x * y)]
  rw [hhi, HI.out, HL.out]
  go_ret2
  exact ⟨rfl, rfl⟩
theorem Mul64_any (x y : Int) (hx : 0 ≤ x) (hx2 : x ≤ 18446744073709551615) (hy : 0 ≤ y) (hy2 : y ≤ 18446744073709551615) (w : World) :
    Calls Tryz.prog 88 #[.int .u64 x, .int .u64 y] w fun e w' => e = .returned (.tuple #[.int .u64 (hi (x.toNat * y.toNat)), .int .u64 (lo (x.toNat * y.toNat))]) ∧ w = w' := by
  obtain ⟨x, rfl⟩ := Int.eq_ofNat_of_zero_le hx
  obtain ⟨y, rfl⟩ := Int.eq_ofNat_of_zero_le hy
  exact Mul64_nat x y (by omega) (by omega) w
set_option maxHeartbeats 1000000 in
theorem Product_any (x y : Int) (hx : 0 ≤ x) (hx2 : x ≤ 18446744073709551615) (hy : 0 ≤ y) (hy2 : y ≤ 18446744073709551615) (w : World) :
    Calls Tryz.prog 55 #[.int .u64 x, .int .u64 y] w fun e w' => e = .returned (Value.agg #[Value.int IntKind.u64 (hi (x.toNat * y.toNat)), Value.int IntKind.u64 (lo (x.toNat * y.toNat))]) ∧ Below w.heap.size w w' := by
  have HM := Lib.hid (fun W => Mul64_any x y hx hx2 hy hy2 W)
  generalize x.toNat * y.toNat = m at *
  go_enter Tryz.func55, Tryz.ntmps55
  go_wp2_with (go_at_call 88; refine (HM.out _).mono ?_; rintro e w1 ⟨rfl, rfl⟩)
  refine bodyPost_ret (v := (Value.agg #[Value.int IntKind.u64 (hi (m)), Value.int IntKind.u64 (lo (m))])) (by simp [results, Tryz.results55, go_sem]) rfl ⟨?_, ?_⟩
  · rfl
  · exact (Below.refl _ _).alloc (Nat.le_refl _) _
set_option maxHeartbeats 1000000 in
theorem ProductR_any (x y : Int) (hx : 0 ≤ x) (hx2 : x ≤ 18446744073709551615) (hy : 0 ≤ y) (hy2 : y ≤ 18446744073709551615) (w : World) :
    Calls Tryz.prog 94 #[.int .u64 x, .int .u64 y] w fun e w' => e = .returned (Value.agg #[Value.int IntKind.u64 (hi (x.toNat * y.toNat)), Value.int IntKind.u64 (lo (x.toNat * y.toNat))]) ∧ Below w.heap.size w w' := by
  have HM := Lib.hid (fun W => Mul64_any x y hx hx2 hy hy2 W)
  generalize x.toNat * y.toNat = m at *
  go_enter Tryz.func94, Tryz.ntmps94
  go_wp2_with (go_at_call 88; refine (HM.out _).mono ?_; rintro e w1 ⟨rfl, rfl⟩)
  refine bodyPost_ret (v := (Value.agg #[Value.int IntKind.u64 (hi (m)), Value.int IntKind.u64 (lo (m))])) (by simp [results, Tryz.results94, go_sem]) rfl ⟨?_, ?_⟩
  · rfl
  · exact (Below.refl _ _).alloc (Nat.le_refl _) _
set_option maxHeartbeats 400000 in
theorem Abs_any (a : Int) (w : World) (h0 : -9223372036854775808 ≤ a) (h1 : a ≤ 9223372036854775807) :
    Calls Tryz.prog 104 #[.int .i64 a] w fun e w' => e = .returned (.int .u64 a.natAbs) ∧ w = w' := by
  go_enter Tryz.func104, Tryz.ntmps104
  go_wp2
  · go_ret
    exact ⟨ret_int (by omega), rfl⟩
  · go_ret
    exact ⟨ret_int (by omega), rfl⟩
set_option maxHeartbeats 1000000 in
set_option maxRecDepth 100000 in
theorem double_any (a t : Nat) (ha : a < 340282366920938463463374607431768211456) (ht : t < 2) (w : World) :
    Calls Tryz.prog 100 #[(Value.agg #[Value.int IntKind.u64 (hi (a)), Value.int IntKind.u64 (lo (a))]), .int .u64 t] w fun e w' => e = .returned (.tuple #[(Value.agg #[Value.int IntKind.u64 (hi ((2 * a + t) % 340282366920938463463374607431768211456)), Value.int IntKind.u64 (lo ((2 * a + t) % 340282366920938463463374607431768211456))]), .int .u64 ((2 * a / 340282366920938463463374607431768211456 : Nat) : Int)]) ∧ Below w.heap.size w w' := by
  have hh1 := hi_bd ha
  have hh2 := lo_bd a
  have e0 := top_bit ha
  have e2 := dbl_lo (a := a) t ht
  have e1 : bits BinOp.or IntKind.u64 (IntKind.u64.wrap (hi a * 2)) (lo a / 9223372036854775808) = hi ((2 * a + t) % 340282366920938463463374607431768211456) := dbl_hi ha t ht
  generalize (2 * a + t) % 340282366920938463463374607431768211456 = D at *
  clear ha
  generalize 2 * a / 340282366920938463463374607431768211456 = o at *
  go_enter Tryz.func100, Tryz.ntmps100
  go_wp2_with fail
  obtain ⟨W0, hW, hs0, K0, B0⟩ := start2 w 84 84 #[Value.int IntKind.u64 (hi a), Value.int IntKind.u64 (lo a)] #[Value.int IntKind.u64 0, Value.int IntKind.u64 0]
  rw [hW]
  clear hW
  have R := K0.rules
  simp only [Rules] at R
  go_region
  obtain ⟨W1, hW1, K1, B1, s1⟩ := name_world (Bx.drew (Bx.put2 (u := .int .u64 (hi D)) (v := .int .u64 (lo D)) K0 (by first | (simp; done) | (simp; omega)))) (((B0.setCell (by first | (simp; done) | (simp; omega)) _).setCell (by first | (simp; done) | (simp; omega)) _).drew) (s := 0) (by omega)
  rw [hW1]
  clear hW1 R
  have R := K1.rules
  simp only [Rules] at R
  have HBl := Lib.hid B1
  clear K0 B0 K1 B1
  go_wp2
  refine bodyPost_ret (v := Value.tuple #[(Value.agg #[Value.int IntKind.u64 (hi (D)), Value.int IntKind.u64 (lo (D))]), Value.int IntKind.u64 (o : Int)]) (by simp [results, Tryz.results100, go_sem, R]) rfl ⟨?_, ?_⟩
  · rfl
  · exact HBl.out
end Go.Proofs.YtjapjfcennemeaaGreat.wid
end
