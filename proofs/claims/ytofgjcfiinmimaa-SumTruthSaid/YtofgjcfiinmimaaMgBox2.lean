/- Arith; Gcd; Eql; Box2: texts in one. -/
import Derived.Test.YtofgjcfiinmimaaMgBox
import Derived.Test.YtofgjcfiinmimaaDiv
import Derived.Test.YtofgjcfiinmimaaMgWide
import Derived.Laws.StructEq
/- Contracts of Mul64, Product, Add, Sub, Abs, sign, double. -/
namespace Go.Proofs.Ytofgjcfiinmimaa.wid
open Go.RowKit Go.Proofs.Ytofgjcfiinmimaa.mem Go.Proofs.Ytofgjcfiinmimaa.gro
set_option linter.unusedVariables false
theorem maskN (a : Nat) (ha : a < 18446744073709551616) : bits .and .u64 (a : Int) 4294967295 = ((a % 4294967296 : Nat) : Int) := by
  have h := bits_and_u64_nat a 4294967295 ha (by omega)
  have e : a &&& 4294967295 = a % 4294967296 := Nat.and_two_pow_sub_one_eq_mod a 32
  rw [e] at h
  exact h
theorem divN (a : Nat) : (a : Int) / 4294967296 = ((a / 4294967296 : Nat) : Int) := by omega
theorem mulN (a b : Nat) : (a : Int) * (b : Int) = ((a * b : Nat) : Int) := (Int.natCast_mul a b).symm
theorem addN (a b : Nat) : (a : Int) + (b : Int) = ((a + b : Nat) : Int) := (Int.natCast_add a b).symm
theorem wrapN (a : Nat) (ha : a < 18446744073709551616) : IntKind.u64.wrap (a : Int) = (a : Int) := by rw [IntKind.wrap_u64]; omega
theorem wrapM (a : Nat) : IntKind.u64.wrap (a : Int) = ((a % 18446744073709551616 : Nat) : Int) := by rw [IntKind.wrap_u64]; omega
set_option maxHeartbeats 1000000 in
theorem Mul64_nat (x y : Nat) (hx : x < 18446744073709551616) (hy : y < 18446744073709551616) (w : World) :
    Calls Try.prog 114 #[.int .u64 x, .int .u64 y] w fun e w' => e = .returned (.tuple #[.int .u64 (hi (x * y)), .int .u64 (lo (x * y))]) ∧ w = w' := by
  obtain ⟨bd, bt, bw, hhi⟩ := Lib.mul64_hi x y hx hy
  have ba := Lib.half_mul_le (a := x / 4294967296) (b := y / 4294967296) (by omega) (by omega)
  have bb := Lib.half_mul_le (a := x / 4294967296) (b := y % 4294967296) (by omega) (by omega)
  have bc := Lib.half_mul_le (a := x % 4294967296) (b := y / 4294967296) (by omega) (by omega)
  have ba' : x / 4294967296 * (y / 4294967296) < 18446744073709551616 := by omega
  have bb' : x / 4294967296 * (y % 4294967296) < 18446744073709551616 := by omega
  have bc' : x % 4294967296 * (y / 4294967296) < 18446744073709551616 := by omega
  have bh1 : x / 4294967296 * (y / 4294967296) + (x / 4294967296 * (y % 4294967296) + x % 4294967296 * (y % 4294967296) / 4294967296) / 4294967296 < 18446744073709551616 := by omega
  have bh : x / 4294967296 * (y / 4294967296) + (x / 4294967296 * (y % 4294967296) + x % 4294967296 * (y % 4294967296) / 4294967296) / 4294967296 + ((x / 4294967296 * (y % 4294967296) + x % 4294967296 * (y % 4294967296) / 4294967296) % 4294967296 + x % 4294967296 * (y / 4294967296)) / 4294967296 < 18446744073709551616 := by omega
  have HI : Hid (((x * y / 18446744073709551616 : Nat) : Int) = hi (x * y)) := rfl
  have HL : Hid (((x * y % 18446744073709551616 : Nat) : Int) = lo (x * y)) := rfl
  go_enter Try.func114, Try.ntmps114
  go_wp2
  simp only [maskN x hx, maskN y hy, divN, mulN, addN, wrapN _ bd, wrapN _ bb', wrapN _ bt, maskN _ bt, wrapN _ bc', wrapN _ bw, wrapN _ ba', wrapN _ bh1, wrapN _ bh, wrapM (x * y)]
  rw [hhi, HI.out, HL.out]
  go_ret2
  exact ⟨rfl, rfl⟩
theorem Mul64_any (x y : Int) (hx : 0 ≤ x) (hx2 : x ≤ 18446744073709551615) (hy : 0 ≤ y) (hy2 : y ≤ 18446744073709551615) (w : World) :
    Calls Try.prog 114 #[.int .u64 x, .int .u64 y] w fun e w' => e = .returned (.tuple #[.int .u64 (hi (x.toNat * y.toNat)), .int .u64 (lo (x.toNat * y.toNat))]) ∧ w = w' := by
  obtain ⟨x, rfl⟩ := Int.eq_ofNat_of_zero_le hx
  obtain ⟨y, rfl⟩ := Int.eq_ofNat_of_zero_le hy
  exact Mul64_nat x y (by omega) (by omega) w
set_option maxHeartbeats 1000000 in
theorem Product_any (x y : Int) (hx : 0 ≤ x) (hx2 : x ≤ 18446744073709551615) (hy : 0 ≤ y) (hy2 : y ≤ 18446744073709551615) (w : World) :
    Calls Try.prog 85 #[.int .u64 x, .int .u64 y] w fun e w' => e = .returned (Value.agg #[Value.int IntKind.u64 (hi (x.toNat * y.toNat)), Value.int IntKind.u64 (lo (x.toNat * y.toNat))]) ∧ Below w.heap.size w w' := by
  have HM := Lib.hid (fun W => Mul64_any x y hx hx2 hy hy2 W)
  generalize x.toNat * y.toNat = m at *
  go_enter Try.func85, Try.ntmps85
  go_wp2_with (go_at_call 114; refine (HM.out _).mono ?_; rintro e w1 ⟨rfl, rfl⟩)
  refine bodyPost_ret (v := (Value.agg #[Value.int IntKind.u64 (hi (m)), Value.int IntKind.u64 (lo (m))])) (by simp [results, Try.results85, go_sem]) rfl ⟨?_, ?_⟩
  · rfl
  · exact (Below.refl _ _).alloc (Nat.le_refl _) _
set_option maxHeartbeats 1000000 in
theorem ProductR_any (x y : Int) (hx : 0 ≤ x) (hx2 : x ≤ 18446744073709551615) (hy : 0 ≤ y) (hy2 : y ≤ 18446744073709551615) (w : World) :
    Calls Try.prog 121 #[.int .u64 x, .int .u64 y] w fun e w' => e = .returned (Value.agg #[Value.int IntKind.u64 (hi (x.toNat * y.toNat)), Value.int IntKind.u64 (lo (x.toNat * y.toNat))]) ∧ Below w.heap.size w w' := by
  have HM := Lib.hid (fun W => Mul64_any x y hx hx2 hy hy2 W)
  generalize x.toNat * y.toNat = m at *
  go_enter Try.func121, Try.ntmps121
  go_wp2_with (go_at_call 114; refine (HM.out _).mono ?_; rintro e w1 ⟨rfl, rfl⟩)
  refine bodyPost_ret (v := (Value.agg #[Value.int IntKind.u64 (hi (m)), Value.int IntKind.u64 (lo (m))])) (by simp [results, Try.results121, go_sem]) rfl ⟨?_, ?_⟩
  · rfl
  · exact (Below.refl _ _).alloc (Nat.le_refl _) _
theorem carry_hi {a b : Nat} : (hi a + hi b + (lo a + lo b) / 18446744073709551616) % 18446744073709551616 = hi ((a + b) % 340282366920938463463374607431768211456) := by unfold hi lo; omega
theorem carry_lo {a b : Nat} : (lo a + lo b) % 18446744073709551616 = lo ((a + b) % 340282366920938463463374607431768211456) := by unfold lo; omega
theorem carry_over {a b : Nat} : (hi a + hi b + (lo a + lo b) / 18446744073709551616) / 18446744073709551616 = ((a + b) / 340282366920938463463374607431768211456 : Nat) := by unfold hi lo; omega
set_option maxHeartbeats 1000000 in
set_option maxRecDepth 100000 in
theorem Add_any (a b : Nat) (ha : a < 340282366920938463463374607431768211456) (hb : b < 340282366920938463463374607431768211456) (hs : a + b < 340282366920938463463374607431768211456) (w : World) :
    Calls Try.prog 113 #[(Value.agg #[Value.int IntKind.u64 (hi (a)), Value.int IntKind.u64 (lo (a))]), (Value.agg #[Value.int IntKind.u64 (hi (b)), Value.int IntKind.u64 (lo (b))])] w fun e w' => e = .returned (.tuple #[(Value.agg #[Value.int IntKind.u64 (hi (a + b)), Value.int IntKind.u64 (lo (a + b))]), .bool true]) ∧ Below w.heap.size w w' := by
  have h1 := hi_bd ha
  have h2 := lo_bd a
  have h3 := hi_bd hb
  have h4 := lo_bd b
  have c0 : 0 ≤ (lo a + lo b) / 18446744073709551616 := by omega
  have c1 : (lo a + lo b) / 18446744073709551616 ≤ 1 := by omega
  have e1 : (lo a + lo b) % 18446744073709551616 = lo (a + b) := by rw [carry_lo, Nat.mod_eq_of_lt hs]
  have e2 : (hi a + hi b + (lo a + lo b) / 18446744073709551616) % 18446744073709551616 = hi (a + b) := by rw [carry_hi, Nat.mod_eq_of_lt hs]
  have e3 : (hi a + hi b + (lo a + lo b) / 18446744073709551616) / 18446744073709551616 = 0 := by rw [carry_over, Nat.div_eq_of_lt hs]; rfl
  clear ha hb hs
  generalize a + b = s at *
  go_enter Try.func113, Try.ntmps113
  go_wp2
  refine bodyPost_ret (v := Value.tuple #[(Value.agg #[Value.int IntKind.u64 (hi (s)), Value.int IntKind.u64 (lo (s))]), Value.bool true]) (by simp [results, Try.results113, go_sem]) rfl ⟨?_, ?_⟩
  · rfl
  · exact (((Below.refl _ _).alloc (Nat.le_refl _) _).alloc (by first | (simp; done) | (simp; omega)) _).alloc (by first | (simp; done) | (simp; omega)) _
set_option maxHeartbeats 1000000 in
set_option maxRecDepth 100000 in
theorem AddR_any (a b : Nat) (ha : a < 340282366920938463463374607431768211456) (hb : b < 340282366920938463463374607431768211456) (hs : a + b < 340282366920938463463374607431768211456) (w : World) :
    Calls Try.prog 123 #[(Value.agg #[Value.int IntKind.u64 (hi (a)), Value.int IntKind.u64 (lo (a))]), (Value.agg #[Value.int IntKind.u64 (hi (b)), Value.int IntKind.u64 (lo (b))])] w fun e w' => e = .returned (.tuple #[(Value.agg #[Value.int IntKind.u64 (hi (a + b)), Value.int IntKind.u64 (lo (a + b))]), .bool true]) ∧ Below w.heap.size w w' := by
  have h1 := hi_bd ha
  have h2 := lo_bd a
  have h3 := hi_bd hb
  have h4 := lo_bd b
  have c0 : 0 ≤ (lo a + lo b) / 18446744073709551616 := by omega
  have c1 : (lo a + lo b) / 18446744073709551616 ≤ 1 := by omega
  have e1 : (lo a + lo b) % 18446744073709551616 = lo (a + b) := by rw [carry_lo, Nat.mod_eq_of_lt hs]
  have e2 : (hi a + hi b + (lo a + lo b) / 18446744073709551616) % 18446744073709551616 = hi (a + b) := by rw [carry_hi, Nat.mod_eq_of_lt hs]
  have e3 : (hi a + hi b + (lo a + lo b) / 18446744073709551616) / 18446744073709551616 = 0 := by rw [carry_over, Nat.div_eq_of_lt hs]; rfl
  clear ha hb hs
  generalize a + b = s at *
  go_enter Try.func123, Try.ntmps123
  go_wp2
  refine bodyPost_ret (v := Value.tuple #[(Value.agg #[Value.int IntKind.u64 (hi (s)), Value.int IntKind.u64 (lo (s))]), Value.bool true]) (by simp [results, Try.results123, go_sem]) rfl ⟨?_, ?_⟩
  · rfl
  · exact (((Below.refl _ _).alloc (Nat.le_refl _) _).alloc (by first | (simp; done) | (simp; omega)) _).alloc (by first | (simp; done) | (simp; omega)) _
set_option maxHeartbeats 1000000 in
set_option maxRecDepth 100000 in
theorem Sub_any (a b : Nat) (ha : a < 340282366920938463463374607431768211456) (hs : b ≤ a) (w : World) :
    Calls Try.prog 112 #[(Value.agg #[Value.int IntKind.u64 (hi (a)), Value.int IntKind.u64 (lo (a))]), (Value.agg #[Value.int IntKind.u64 (hi (b)), Value.int IntKind.u64 (lo (b))])] w fun e w' => e = .returned (.tuple #[(Value.agg #[Value.int IntKind.u64 (hi (a - b)), Value.int IntKind.u64 (lo (a - b))]), .bool true]) ∧ Below w.heap.size w w' := by
  have h1 := hi_bd ha
  have h2 := lo_bd a
  have h3 := hi_bd (n := b) (by omega)
  have h4 := lo_bd b
  have ha2 : a = a % 340282366920938463463374607431768211456 := by omega
  have e1 := dif_lo ha2 hs
  have e2 := dif_hi ha2 hs (by omega)
  have h5 := hi_bd (n := a - b) (by omega)
  have h6 := lo_bd (a - b)
  have hle : hi b ≤ hi a := by unfold hi; omega
  have hle2 : hi b + 1 ≤ hi a ∨ lo b ≤ lo a := by unfold hi lo; omega
  by_cases hl : lo a < lo b
  · have e3 := e2.1 hl
    have e4 : bor (lo a) (lo b) 0 = 1 := by unfold bor; rw [if_pos (by omega)]
    have e5 : bor (hi a) (hi b) 1 = 0 := by unfold bor; rw [if_neg (by omega)]
    clear e2 ha ha2 hs hl hle hle2
    generalize a - b = s at *
    go_enter Try.func112, Try.ntmps112
    go_wp2
    refine bodyPost_ret (v := Value.tuple #[(Value.agg #[Value.int IntKind.u64 (hi (s)), Value.int IntKind.u64 (lo (s))]), Value.bool true]) (by simp [results, Try.results112, go_sem]) rfl ⟨?_, ?_⟩
    · rfl
    · exact (((Below.refl _ _).alloc (Nat.le_refl _) _).alloc (by first | (simp; done) | (simp; omega)) _).alloc (by first | (simp; done) | (simp; omega)) _
  · have e3 := e2.2 hl
    have e4 : bor (lo a) (lo b) 0 = 0 := by unfold bor; rw [if_neg (by omega)]
    have e5 : bor (hi a) (hi b) 0 = 0 := by unfold bor; rw [if_neg (by omega)]
    clear e2 ha ha2 hs hl hle hle2
    generalize a - b = s at *
    go_enter Try.func112, Try.ntmps112
    go_wp2
    refine bodyPost_ret (v := Value.tuple #[(Value.agg #[Value.int IntKind.u64 (hi (s)), Value.int IntKind.u64 (lo (s))]), Value.bool true]) (by simp [results, Try.results112, go_sem]) rfl ⟨?_, ?_⟩
    · rfl
    · exact (((Below.refl _ _).alloc (Nat.le_refl _) _).alloc (by first | (simp; done) | (simp; omega)) _).alloc (by first | (simp; done) | (simp; omega)) _
set_option maxHeartbeats 1000000 in
set_option maxRecDepth 100000 in
theorem SubR_any (a b : Nat) (ha : a < 340282366920938463463374607431768211456) (hs : b ≤ a) (w : World) :
    Calls Try.prog 126 #[(Value.agg #[Value.int IntKind.u64 (hi (a)), Value.int IntKind.u64 (lo (a))]), (Value.agg #[Value.int IntKind.u64 (hi (b)), Value.int IntKind.u64 (lo (b))])] w fun e w' => e = .returned (.tuple #[(Value.agg #[Value.int IntKind.u64 (hi (a - b)), Value.int IntKind.u64 (lo (a - b))]), .bool true]) ∧ Below w.heap.size w w' := by
  have h1 := hi_bd ha
  have h2 := lo_bd a
  have h3 := hi_bd (n := b) (by omega)
  have h4 := lo_bd b
  have ha2 : a = a % 340282366920938463463374607431768211456 := by omega
  have e1 := dif_lo ha2 hs
  have e2 := dif_hi ha2 hs (by omega)
  have h5 := hi_bd (n := a - b) (by omega)
  have h6 := lo_bd (a - b)
  have HC := Lib.hid (fun W => CompareR_any a b W)
  have hc : 0 ≤ cmpN a b := by unfold cmpN; rw [if_neg (by omega)]; split <;> omega
  generalize cmpN a b = cm at *
  have fin : ∀ bw : Int, 0 ≤ bw → bw ≤ 1 → bor (lo a) (lo b) 0 = bw → (hi a - hi b - bw) % 18446744073709551616 = hi (a - b) → Calls Try.prog 126 #[(Value.agg #[Value.int IntKind.u64 (hi (a)), Value.int IntKind.u64 (lo (a))]), (Value.agg #[Value.int IntKind.u64 (hi (b)), Value.int IntKind.u64 (lo (b))])] w fun e w' => e = .returned (.tuple #[(Value.agg #[Value.int IntKind.u64 (hi (a - b)), Value.int IntKind.u64 (lo (a - b))]), .bool true]) ∧ Below w.heap.size w w' := by
    intro bw b0 b1 e4 e3
    clear e2 ha ha2 hs
    generalize a - b = s at *
    go_enter Try.func126, Try.ntmps126
    go_wp2_with fail
    obtain ⟨W0, hW, hs0, K0, B0⟩ := start3 w 99 99 99 #[Value.int IntKind.u64 (hi a), Value.int IntKind.u64 (lo a)] #[Value.int IntKind.u64 (hi b), Value.int IntKind.u64 (lo b)] #[Value.int IntKind.u64 0, Value.int IntKind.u64 0]
    rw [hW]
    clear hW
    refine (HC.out _).mono ?_
    rintro e w1 ⟨rfl, hb1⟩
    obtain ⟨K1, B1, z1⟩ := K0.call B0 (by omega) hb1
    have R := K1.rules
    simp only [Rules] at R
    have HBl := Lib.hid B1
    clear K0 K1 B0 B1 hb1 hs0
    go_wp2
    refine bodyPost_ret (v := Value.tuple #[(Value.agg #[Value.int IntKind.u64 (hi (s)), Value.int IntKind.u64 (lo (s))]), Value.bool true]) (by simp [results, Try.results126, go_sem, R]) rfl ⟨?_, ?_⟩
    · rfl
    · exact (HBl.out.setCell (by first | (simp; done) | (simp; omega)) _).setCell (by first | (simp; done) | (simp; omega)) _
  by_cases hl : lo a < lo b
  · exact fin 1 (by omega) (by omega) (by unfold bor; rw [if_pos (by omega)]) (e2.1 hl)
  · exact fin 0 (by omega) (by omega) (by unfold bor; rw [if_neg (by omega)]) (by have := e2.2 hl; rwa [Int.sub_zero])
theorem abs_neg {a : Int} (h0 : -9223372036854775808 ≤ a) (h1 : a < 0) : (a.natAbs : Int) = -(a + 1) + 1 := by omega
set_option maxHeartbeats 400000 in
theorem Abs_any (a : Int) (w : World) (h0 : -9223372036854775808 ≤ a) (h1 : a ≤ 9223372036854775807) :
    Calls Try.prog 122 #[.int .i64 a] w fun e w' => e = .returned (.int .u64 a.natAbs) ∧ w = w' := by
  go_enter Try.func122, Try.ntmps122
  go_wp2
  · go_ret
    exact ⟨ret_int (by omega), rfl⟩
  · go_ret
    exact ⟨ret_int (by omega), rfl⟩
def sgn (a : Int) : Int := if a < 0 then -1 else if 0 < a then 1 else 0
set_option maxHeartbeats 400000 in
theorem sign_any (a : Int) (w : World) :
    Calls Try.prog 141 #[.int .i64 a] w fun e w' => e = .returned (.int .i64 (sgn a)) ∧ w = w' := by
  by_cases h1 : a < 0
  · have hs : Hid (sgn a = -1) := by unfold sgn; rw [Hid, if_pos h1]
    go_enter Try.func141, Try.ntmps141
    go_wp2
    go_ret
    exact ⟨ret_int hs.out.symm, rfl⟩
  · by_cases h2 : 0 < a
    · have hs : Hid (sgn a = 1) := by unfold sgn; rw [Hid, if_neg h1, if_pos h2]
      go_enter Try.func141, Try.ntmps141
      go_wp2
      go_ret
      exact ⟨ret_int hs.out.symm, rfl⟩
    · have hs : Hid (sgn a = 0) := by unfold sgn; rw [Hid, if_neg h1, if_neg h2]
      go_enter Try.func141, Try.ntmps141
      go_wp2
      go_ret
      exact ⟨ret_int hs.out.symm, rfl⟩
set_option maxHeartbeats 1000000 in
set_option maxRecDepth 100000 in
theorem double_any (a t : Nat) (ha : a < 340282366920938463463374607431768211456) (ht : t < 2) (w : World) :
    Calls Try.prog 142 #[(Value.agg #[Value.int IntKind.u64 (hi (a)), Value.int IntKind.u64 (lo (a))]), .int .u64 t] w fun e w' => e = .returned (.tuple #[(Value.agg #[Value.int IntKind.u64 (hi ((2 * a + t) % 340282366920938463463374607431768211456)), Value.int IntKind.u64 (lo ((2 * a + t) % 340282366920938463463374607431768211456))]), .int .u64 ((2 * a / 340282366920938463463374607431768211456 : Nat) : Int)]) ∧ Below w.heap.size w w' := by
  have hh1 := hi_bd ha
  have hh2 := lo_bd a
  have e0 := top_bit ha
  have e2 := dbl_lo (a := a) t ht
  have e1 : bits BinOp.or IntKind.u64 (IntKind.u64.wrap (hi a * 2)) (lo a / 9223372036854775808) = hi ((2 * a + t) % 340282366920938463463374607431768211456) := dbl_hi ha t ht
  generalize (2 * a + t) % 340282366920938463463374607431768211456 = D at *
  clear ha
  generalize 2 * a / 340282366920938463463374607431768211456 = o at *
  go_enter Try.func142, Try.ntmps142
  go_wp2_with fail
  obtain ⟨W0, hW, hs0, K0, B0⟩ := start2 w 99 99 #[Value.int IntKind.u64 (hi a), Value.int IntKind.u64 (lo a)] #[Value.int IntKind.u64 0, Value.int IntKind.u64 0]
  rw [hW]
  clear hW
  have R := K0.rules
  simp only [Rules] at R
  go_region
  obtain ⟨W1, hW1, K1, B1, s1⟩ := name_world (Bx.drew (Bx.put2 (u := .int .u64 (hi D)) (v := .int .u64 (lo D)) K0 (by first | (simp; done) | (simp; omega)))) (((B0.setCell (by first | (simp; done) | (simp; omega)) _).setCell (by first | (simp; done) | (simp; omega)) _).drew) (s := 0) (by omega)
  rw [hW1]
  clear hW1 R
  have R := K1.rules
  simp only [Rules] at R
  have HBl := Lib.hid B1
  clear K0 B0 K1 B1
  go_wp2
  refine bodyPost_ret (v := Value.tuple #[(Value.agg #[Value.int IntKind.u64 (hi (D)), Value.int IntKind.u64 (lo (D))]), Value.int IntKind.u64 (o : Int)]) (by simp [results, Try.results142, go_sem, R]) rfl ⟨?_, ?_⟩
  · rfl
  · exact HBl.out
end Go.Proofs.Ytofgjcfiinmimaa.wid

/- Contracts of the two Gcd, of signed and of Cross. -/
namespace Go.Proofs.Ytofgjcfiinmimaa.wid
open Go.RowKit Go.Proofs.Ytofgjcfiinmimaa.mem Go.Proofs.Ytofgjcfiinmimaa.gro
set_option linter.unusedVariables false
theorem gcd_step {a b : Nat} (h : b ≠ 0) : Nat.gcd b (divr a b) = Nat.gcd a b := by
  unfold divr; rw [if_neg h, Nat.gcd_comm a b, Nat.gcd_rec b a, Nat.gcd_comm]
set_option maxHeartbeats 2000000 in
set_option maxRecDepth 100000 in
theorem Gcd_any (a b : Nat) (ha : a < 340282366920938463463374607431768211456) (hb : b < 340282366920938463463374607431768211456) (w : World) :
    Calls Try.prog 107 #[(Value.agg #[Value.int IntKind.u64 (hi (a)), Value.int IntKind.u64 (lo (a))]), (Value.agg #[Value.int IntKind.u64 (hi (b)), Value.int IntKind.u64 (lo (b))])] w fun e w' => e = .returned (Value.agg #[Value.int IntKind.u64 (hi (Nat.gcd a b)), Value.int IntKind.u64 (lo (Nat.gcd a b))]) ∧ Below w.heap.size w w' := by
  obtain ⟨G, hG⟩ : ∃ G, Nat.gcd a b = G := ⟨_, rfl⟩
  have HG := Lib.hid hG
  rw [hG]
  clear hG
  go_enter Try.func107, Try.ntmps107
  go_wp2_with fail
  obtain ⟨W0, hW, hs0, K0, B0⟩ := start3 w 99 99 99 #[Value.int IntKind.u64 (hi a), Value.int IntKind.u64 (lo a)] #[Value.int IntKind.u64 (hi b), Value.int IntKind.u64 (lo b)] #[Value.int IntKind.u64 0, Value.int IntKind.u64 0]
  rw [hW]
  clear hW
  have HK0 := Lib.hid K0
  have HB0 := Lib.hid B0
  have z0 : w.heap.size + 1 + 1 + 1 ≤ W0.heap.size := by omega
  clear K0 B0 hs0
  go_loopg [] b (fun kx wr => ∃ x y : Nat, x < 340282366920938463463374607431768211456 ∧ y < 340282366920938463463374607431768211456 ∧ y ≤ kx ∧ w.heap.size + 1 + 1 + 1 ≤ wr.heap.size ∧ Hid (Nat.gcd x y = G) ∧ Hid (Below w.heap.size w wr) ∧
    Hid (Bx wr [(w.heap.size + 1 + 1, 99, #[Value.int IntKind.u64 0, Value.int IntKind.u64 0]), (w.heap.size + 1, 99, #[Value.int IntKind.u64 (hi y), Value.int IntKind.u64 (lo y)]), (w.heap.size, 99, #[Value.int IntKind.u64 (hi x), Value.int IntKind.u64 (lo x)])]))
  case atStart => exact ⟨a, b, ha, hb, Nat.le_refl _, z0, HG, HB0, HK0⟩
  case round =>
    obtain ⟨x, y, hx, hy, hyk, hz, HGx, HBx, HKx⟩ := hrel
    clear HG HB0 HK0 z0 hb ha
    have R := HKx.out.rules
    simp only [Rules] at R
    have HZ := Lib.hid (fun W => zero_any y W)
    by_cases h0 : y = 0
    · subst h0
      rw [decide_eq_true rfl] at HZ
      have hGx : Hid (x = G) := by have := HGx.out; rwa [Nat.gcd_zero_right] at this
      go_wp2_with (go_at_call 127; refine (HZ.out _).mono ?_; rintro e w1 ⟨rfl, hb1⟩; have K1 := HKx.out.below hb1; clear R; have R := K1.rules; simp only [Rules] at R; have HK1 := Lib.hid K1; have HB1 := Lib.hid (HBx.out.trans (hb1.mono (by omega))); clear K1 hb1)
      refine bodyPost_ret (v := (Value.agg #[Value.int IntKind.u64 (hi (x)), Value.int IntKind.u64 (lo (x))])) (by simp [results, Try.results107, go_sem, R]) rfl ⟨?_, ?_⟩
      · rw [hGx.out]
      · exact (HB1.out.setCell (by first | (simp; done) | (simp; omega)) _).setCell (by first | (simp; done) | (simp; omega)) _
    · rw [decide_eq_false h0] at HZ
      have HD := Lib.hid (fun W => Div_any x y W hx hy)
      have hGy := Lib.hid ((gcd_step h0).trans HGx.out)
      have hlt : divr x y < y := by unfold divr; rw [if_neg h0]; exact Nat.mod_lt _ (by omega)
      generalize divr x y = rr at *
      generalize divq x y = qq at *
      generalize decide (y ≠ 0) = bb at *
      go_wp2_with fail
      refine (HZ.out _).mono ?_
      rintro e w1 ⟨rfl, hb1⟩
      obtain ⟨K1, B1, z1⟩ := HKx.out.call HBx.out (by omega) hb1
      clear R
      have R := K1.rules
      simp only [Rules] at R
      go_wp2_with fail
      refine (HD.out _).mono ?_
      rintro e w2 ⟨rfl, hb2⟩
      obtain ⟨K2, B2, z2⟩ := K1.call B1 (by omega) hb2
      clear R
      have R := K2.rules
      simp only [Rules] at R
      obtain ⟨s2, hs2⟩ : ∃ s2, w2.heap.size = s2 := ⟨_, rfl⟩
      have HK2 := Lib.hid K2
      have HB2 := Lib.hid B2
      have z3 : w.heap.size + 1 + 1 + 1 ≤ s2 := by omega
      clear K1 B1 K2 B2 hb1 hb2 z1 z2 HKx HBx
      go_wp2_with fail
      go_region
      have KP := (HK2.out.alloc (.cells #[Value.int IntKind.u64 (hi qq), Value.int IntKind.u64 (lo qq)] 99)).alloc (.cells #[Value.int IntKind.u64 (hi rr), Value.int IntKind.u64 (lo rr)] 99)
      have BP := (HB2.out.alloc (by omega) (.cells #[Value.int IntKind.u64 (hi qq), Value.int IntKind.u64 (lo qq)] 99)).alloc (by simp; omega) (.cells #[Value.int IntKind.u64 (hi rr), Value.int IntKind.u64 (lo rr)] 99)
      have sP : w.heap.size + 1 + 1 + 1 ≤ ((w2.alloc (.cells #[Value.int IntKind.u64 (hi qq), Value.int IntKind.u64 (lo qq)] 99)).alloc (.cells #[Value.int IntKind.u64 (hi rr), Value.int IntKind.u64 (lo rr)] 99)).heap.size := by simp; omega
      generalize (w2.alloc (.cells #[Value.int IntKind.u64 (hi qq), Value.int IntKind.u64 (lo qq)] 99)).alloc (.cells #[Value.int IntKind.u64 (hi rr), Value.int IntKind.u64 (lo rr)] 99) = WP at *
      go_wp2_with fail
      go_roundg rr
      case measure => omega
      case rel =>
        refine ⟨y, rr, hy, by omega, by omega, by simp only [World.drew, set2_size]; exact sP, hGy, (((((BP.setCell (by first | (simp; done) | (simp; omega)) _).setCell (by first | (simp; done) | (simp; omega)) _).setCell (by first | (simp; done) | (simp; omega)) _).setCell (by first | (simp; done) | (simp; omega)) _).drew), ?_⟩
        have KQ := KP.perm (L' := [(w.heap.size, 99, #[Value.int IntKind.u64 (hi x), Value.int IntKind.u64 (lo x)]), (w.heap.size + 1, 99, #[Value.int IntKind.u64 (hi y), Value.int IntKind.u64 (lo y)]), (w.heap.size + 1 + 1, 99, #[Value.int IntKind.u64 0, Value.int IntKind.u64 0])]) (by simp)
        exact (Bx.drew (Bx.put2 (Bx.swap (Bx.put2 KQ (by first | (simp; done) | (simp; omega)))) (by first | (simp; done) | (simp; omega)))).perm (by simp)
end Go.Proofs.Ytofgjcfiinmimaa.wid

/- Structs of two numbers, compared. -/
namespace Go.Proofs.Ytofgjcfiinmimaa.wid
open Go.RowKit Go.Proofs.Ytofgjcfiinmimaa.mem Go.Proofs.Ytofgjcfiinmimaa.gro
set_option linter.unusedVariables false
set_option linter.unusedSimpArgs false
theorem wide_eql0 (p q r s : Int) (w : World) : (binOp .eql 99 (Value.agg #[Value.int IntKind.u64 p, Value.int IntKind.u64 q]) (Value.agg #[Value.int IntKind.u64 r, Value.int IntKind.u64 s])).run Try.prog w = .ok (.bool (decide (p = r ∧ q = s))) w := by
  by_cases h1 : p = r
  · subst h1
    by_cases h2 : q = s
    · subst h2
      go_simp
    · go_simp
  · go_simp
theorem ratio_eql0 (p q r s : Int) (w : World) : (binOp .eql 41 (Value.agg #[Value.int IntKind.i64 p, Value.int IntKind.i64 q]) (Value.agg #[Value.int IntKind.i64 r, Value.int IntKind.i64 s])).run Try.prog w = .ok (.bool (decide (p = r ∧ q = s))) w := by
  by_cases h1 : p = r
  · subst h1
    by_cases h2 : q = s
    · subst h2
      go_simp
    · go_simp
  · go_simp
theorem wide_neq0 (p q r s : Int) (w : World) : (binOp .neq 99 (Value.agg #[Value.int IntKind.u64 p, Value.int IntKind.u64 q]) (Value.agg #[Value.int IntKind.u64 r, Value.int IntKind.u64 s])).run Try.prog w = .ok (.bool (!decide (p = r ∧ q = s))) w := by
  by_cases h1 : p = r
  · subst h1
    by_cases h2 : q = s
    · subst h2
      go_simp
    · go_simp
  · go_simp
theorem ratio_neq0 (p q r s : Int) (w : World) : (binOp .neq 41 (Value.agg #[Value.int IntKind.i64 p, Value.int IntKind.i64 q]) (Value.agg #[Value.int IntKind.i64 r, Value.int IntKind.i64 s])).run Try.prog w = .ok (.bool (!decide (p = r ∧ q = s))) w := by
  by_cases h1 : p = r
  · subst h1
    by_cases h2 : q = s
    · subst h2
      go_simp
    · go_simp
  · go_simp
theorem wide_eql (a b : Nat) (w : World) : (binOp .eql 99 (Value.agg #[Value.int IntKind.u64 (hi (a)), Value.int IntKind.u64 (lo (a))]) (Value.agg #[Value.int IntKind.u64 (hi (b)), Value.int IntKind.u64 (lo (b))])).run Try.prog w = .ok (.bool (decide (a = b))) w := by
  rw [wide_eql0, decide_eq_decide.2 ⟨fun h => eq_of h.1 h.2, fun h => by subst h; exact ⟨rfl, rfl⟩⟩]
theorem wide_neq (a b : Nat) (w : World) : (binOp .neq 99 (Value.agg #[Value.int IntKind.u64 (hi (a)), Value.int IntKind.u64 (lo (a))]) (Value.agg #[Value.int IntKind.u64 (hi (b)), Value.int IntKind.u64 (lo (b))])).run Try.prog w = .ok (.bool (!decide (a = b))) w := by
  rw [wide_neq0, decide_eq_decide.2 ⟨fun h => eq_of h.1 h.2, fun h => by subst h; exact ⟨rfl, rfl⟩⟩]
end Go.Proofs.Ytofgjcfiinmimaa.wid

/- Boxes: more of them at once. -/
namespace Go.Proofs.Ytofgjcfiinmimaa.gro
open Go.RowKit Go.Proofs.Ytofgjcfiinmimaa.mem
set_option linter.unusedVariables false
theorem start6 (w : World) (t1 t2 t3 t4 t5 t6 : TypeId) (c1 c2 c3 c4 c5 c6 : Array Value) :
    ∃ W, (((((w.alloc (.cells c1 t1)).alloc (.cells c2 t2)).alloc (.cells c3 t3)).alloc (.cells c4 t4)).alloc (.cells c5 t5)).alloc (.cells c6 t6) = W ∧ W.heap.size = w.heap.size + 1 + 1 + 1 + 1 + 1 + 1 ∧
      Bx W [(w.heap.size + 1 + 1 + 1 + 1 + 1, t6, c6), (w.heap.size + 1 + 1 + 1 + 1, t5, c5), (w.heap.size + 1 + 1 + 1, t4, c4), (w.heap.size + 1 + 1, t3, c3), (w.heap.size + 1, t2, c2), (w.heap.size, t1, c1)] ∧ Below w.heap.size w W := by
  obtain ⟨W, hW, hs, K, B⟩ := start4 w t1 t2 t3 t4 c1 c2 c3 c4
  rw [hW]
  exact ⟨_, rfl, by simp [hs], (K.new hs).new (by simp [hs]), (B.alloc (by omega) _).alloc (by simp; omega) _⟩
end Go.Proofs.Ytofgjcfiinmimaa.gro
