/- Arith; Eql: texts in one. -/
import Derived.Test.YtjapjfcennemeaaMgDiv
import Derived.Test.YtjapjfcennemeaaMgBox
import Derived.Test.YtjapjfcennemeaaMgWide
import Derived.Laws.StructEq
set_option linter.unusedVariables false
set_option linter.unusedSimpArgs false
/- Contracts of Mul64, Product, Add, Sub, Abs, sign, double. -/
namespace Go.Proofs.Ytjapjfcennemeaa.wid
open Go.RowKit Go.Proofs.Ytjapjfcennemeaa.mem Go.Proofs.Ytjapjfcennemeaa.gro
set_option linter.unusedVariables false
theorem maskN (a : Nat) (ha : a < 18446744073709551616) : bits .and .u64 (a : Int) 4294967295 = ((a % 4294967296 : Nat) : Int) := by
  have h := bits_and_u64_nat a 4294967295 ha (by omega)
  have e : a &&& 4294967295 = a % 4294967296 := Nat.and_two_pow_sub_one_eq_mod a 32
  rw [e] at h
  exact h
theorem divN (a : Nat) : (a : Int) / 4294967296 = ((a / 4294967296 : Nat) : Int) := by omega
theorem mulN (a b : Nat) : (a : Int) * (b : Int) = ((a * b : Nat) : Int) := (Int.natCast_mul a b).symm
theorem addN (a b : Nat) : (a : Int) + (b : Int) = ((a + b : Nat) : Int) := (Int.natCast_add a b).symm
theorem wrapN (a : Nat) (ha : a < 18446744073709551616) : IntKind.u64.wrap (a : Int) = (a : Int) := by rw [IntKind.wrap_u64]; omega
theorem wrapM (a : Nat) : IntKind.u64.wrap (a : Int) = ((a % 18446744073709551616 : Nat) : Int) := by rw [IntKind.wrap_u64]; omega
set_option maxHeartbeats 1000000 in
theorem Mul64_nat (x y : Nat) (hx : x < 18446744073709551616) (hy : y < 18446744073709551616) (w : World) :
    Calls Try.prog 135 #[.int .u64 x, .int .u64 y] w fun e w' => e = .returned (.tuple #[.int .u64 (hi (x * y)), .int .u64 (lo (x * y))]) ∧ w = w' := by
  obtain ⟨bd, bt, bw, hhi⟩ := Lib.mul64_hi x y hx hy
  have ba := Lib.half_mul_le (a := x / 4294967296) (b := y / 4294967296) (by omega) (by omega)
  have bb := Lib.half_mul_le (a := x / 4294967296) (b := y % 4294967296) (by omega) (by omega)
  have bc := Lib.half_mul_le (a := x % 4294967296) (b := y / 4294967296) (by omega) (by omega)
  have ba' : x / 4294967296 * (y / 4294967296) < 18446744073709551616 := by omega
  have bb' : x / 4294967296 * (y % 4294967296) < 18446744073709551616 := by omega
  have bc' : x % 4294967296 * (y / 4294967296) < 18446744073709551616 := by omega
  have bh1 : x / 4294967296 * (y / 4294967296) + (x / 4294967296 * (y % 4294967296) + x % 4294967296 * (y % 4294967296) / 4294967296) / 4294967296 < 18446744073709551616 := by omega
  have bh : x / 4294967296 * (y / 4294967296) + (x / 4294967296 * (y % 4294967296) + x % 4294967296 * (y % 4294967296) / 4294967296) / 4294967296 + ((x / 4294967296 * (y % 4294967296) + x % 4294967296 * (y % 4294967296) / 4294967296) % 4294967296 + x % 4294967296 * (y / 4294967296)) / 4294967296 < 18446744073709551616 := by omega
  have HI : Hid (((x * y / 18446744073709551616 : Nat) : Int) = hi (x * y)) := rfl
  have HL : Hid (((x * y % 18446744073709551616 : Nat) : Int) = lo (x * y)) := rfl
  go_enter Try.func135, Try.ntmps135
  go_wp2
  simp only [maskN x hx, maskN y hy, divN, mulN, addN, wrapN _ bd, wrapN _ bb', wrapN _ bt, maskN _ bt, wrapN _ bc', wrapN _ bw, wrapN _ ba', wrapN _ bh1, wrapN _ bh, wrapM (x * y)]
  rw [hhi, HI.out, HL.out]
  go_ret2
  exact ⟨rfl, rfl⟩
theorem Mul64_any (x y : Int) (hx : 0 ≤ x) (hx2 : x ≤ 18446744073709551615) (hy : 0 ≤ y) (hy2 : y ≤ 18446744073709551615) (w : World) :
    Calls Try.prog 135 #[.int .u64 x, .int .u64 y] w fun e w' => e = .returned (.tuple #[.int .u64 (hi (x.toNat * y.toNat)), .int .u64 (lo (x.toNat * y.toNat))]) ∧ w = w' := by
  obtain ⟨x, rfl⟩ := Int.eq_ofNat_of_zero_le hx
  obtain ⟨y, rfl⟩ := Int.eq_ofNat_of_zero_le hy
  exact Mul64_nat x y (by omega) (by omega) w
set_option maxHeartbeats 1000000 in
theorem Product_any (x y : Int) (hx : 0 ≤ x) (hx2 : x ≤ 18446744073709551615) (hy : 0 ≤ y) (hy2 : y ≤ 18446744073709551615) (w : World) :
    Calls Try.prog 115 #[.int .u64 x, .int .u64 y] w fun e w' => e = .returned (Value.agg #[Value.int IntKind.u64 (hi (x.toNat * y.toNat)), Value.int IntKind.u64 (lo (x.toNat * y.toNat))]) ∧ Below w.heap.size w w' := by
  have HM := Lib.hid (fun W => Mul64_any x y hx hx2 hy hy2 W)
  generalize x.toNat * y.toNat = m at *
  go_enter Try.func115, Try.ntmps115
  go_wp2_with (go_at_call 135; refine (HM.out _).mono ?_; rintro e w1 ⟨rfl, rfl⟩)
  refine bodyPost_ret (v := (Value.agg #[Value.int IntKind.u64 (hi (m)), Value.int IntKind.u64 (lo (m))])) (by simp [results, Try.results115, go_sem]) rfl ⟨?_, ?_⟩
  · rfl
  · exact (Below.refl _ _).alloc (Nat.le_refl _) _
set_option maxHeartbeats 1000000 in
theorem ProductR_any (x y : Int) (hx : 0 ≤ x) (hx2 : x ≤ 18446744073709551615) (hy : 0 ≤ y) (hy2 : y ≤ 18446744073709551615) (w : World) :
    Calls Try.prog 97 #[.int .u64 x, .int .u64 y] w fun e w' => e = .returned (Value.agg #[Value.int IntKind.u64 (hi (x.toNat * y.toNat)), Value.int IntKind.u64 (lo (x.toNat * y.toNat))]) ∧ Below w.heap.size w w' := by
  have HM := Lib.hid (fun W => Mul64_any x y hx hx2 hy hy2 W)
  generalize x.toNat * y.toNat = m at *
  go_enter Try.func97, Try.ntmps97
  go_wp2_with (go_at_call 135; refine (HM.out _).mono ?_; rintro e w1 ⟨rfl, rfl⟩)
  refine bodyPost_ret (v := (Value.agg #[Value.int IntKind.u64 (hi (m)), Value.int IntKind.u64 (lo (m))])) (by simp [results, Try.results97, go_sem]) rfl ⟨?_, ?_⟩
  · rfl
  · exact (Below.refl _ _).alloc (Nat.le_refl _) _
theorem carry_hi {a b : Nat} : (hi a + hi b + (lo a + lo b) / 18446744073709551616) % 18446744073709551616 = hi ((a + b) % 340282366920938463463374607431768211456) := by unfold hi lo; omega
theorem carry_lo {a b : Nat} : (lo a + lo b) % 18446744073709551616 = lo ((a + b) % 340282366920938463463374607431768211456) := by unfold lo; omega
theorem carry_over {a b : Nat} : (hi a + hi b + (lo a + lo b) / 18446744073709551616) / 18446744073709551616 = ((a + b) / 340282366920938463463374607431768211456 : Nat) := by unfold hi lo; omega
set_option maxHeartbeats 1000000 in
set_option maxRecDepth 100000 in
theorem Add_any (a b : Nat) (ha : a < 340282366920938463463374607431768211456) (hb : b < 340282366920938463463374607431768211456) (hs : a + b < 340282366920938463463374607431768211456) (w : World) :
    Calls Try.prog 144 #[(Value.agg #[Value.int IntKind.u64 (hi (a)), Value.int IntKind.u64 (lo (a))]), (Value.agg #[Value.int IntKind.u64 (hi (b)), Value.int IntKind.u64 (lo (b))])] w fun e w' => e = .returned (.tuple #[(Value.agg #[Value.int IntKind.u64 (hi (a + b)), Value.int IntKind.u64 (lo (a + b))]), .bool true]) ∧ Below w.heap.size w w' := by
  have h1 := hi_bd ha
  have h2 := lo_bd a
  have h3 := hi_bd hb
  have h4 := lo_bd b
  have c0 : 0 ≤ (lo a + lo b) / 18446744073709551616 := by omega
  have c1 : (lo a + lo b) / 18446744073709551616 ≤ 1 := by omega
  have e1 : (lo a + lo b) % 18446744073709551616 = lo (a + b) := by rw [carry_lo, Nat.mod_eq_of_lt hs]
  have e2 : (hi a + hi b + (lo a + lo b) / 18446744073709551616) % 18446744073709551616 = hi (a + b) := by rw [carry_hi, Nat.mod_eq_of_lt hs]
  have e3 : (hi a + hi b + (lo a + lo b) / 18446744073709551616) / 18446744073709551616 = 0 := by rw [carry_over, Nat.div_eq_of_lt hs]; rfl
  clear ha hb hs
  generalize a + b = s at *
  go_enter Try.func144, Try.ntmps144
  go_wp2
  refine bodyPost_ret (v := Value.tuple #[(Value.agg #[Value.int IntKind.u64 (hi (s)), Value.int IntKind.u64 (lo (s))]), Value.bool true]) (by simp [results, Try.results144, go_sem]) rfl ⟨?_, ?_⟩
  · rfl
  · exact (((Below.refl _ _).alloc (Nat.le_refl _) _).alloc (by first | (simp; done) | (simp; omega)) _).alloc (by first | (simp; done) | (simp; omega)) _
set_option maxHeartbeats 1000000 in
set_option maxRecDepth 100000 in
theorem Sub_any (a b : Nat) (ha : a < 340282366920938463463374607431768211456) (hs : b ≤ a) (w : World) :
    Calls Try.prog 143 #[(Value.agg #[Value.int IntKind.u64 (hi (a)), Value.int IntKind.u64 (lo (a))]), (Value.agg #[Value.int IntKind.u64 (hi (b)), Value.int IntKind.u64 (lo (b))])] w fun e w' => e = .returned (.tuple #[(Value.agg #[Value.int IntKind.u64 (hi (a - b)), Value.int IntKind.u64 (lo (a - b))]), .bool true]) ∧ Below w.heap.size w w' := by
  have h1 := hi_bd ha
  have h2 := lo_bd a
  have h3 := hi_bd (n := b) (by omega)
  have h4 := lo_bd b
  have ha2 : a = a % 340282366920938463463374607431768211456 := by omega
  have e1 := dif_lo ha2 hs
  have e2 := dif_hi ha2 hs (by omega)
  have h5 := hi_bd (n := a - b) (by omega)
  have h6 := lo_bd (a - b)
  have hle : hi b ≤ hi a := by unfold hi; omega
  have hle2 : hi b + 1 ≤ hi a ∨ lo b ≤ lo a := by unfold hi lo; omega
  by_cases hl : lo a < lo b
  · have e3 := e2.1 hl
    have e4 : bor (lo a) (lo b) 0 = 1 := by unfold bor; rw [if_pos (by omega)]
    have e5 : bor (hi a) (hi b) 1 = 0 := by unfold bor; rw [if_neg (by omega)]
    clear e2 ha ha2 hs hl hle hle2
    generalize a - b = s at *
    go_enter Try.func143, Try.ntmps143
    go_wp2
    refine bodyPost_ret (v := Value.tuple #[(Value.agg #[Value.int IntKind.u64 (hi (s)), Value.int IntKind.u64 (lo (s))]), Value.bool true]) (by simp [results, Try.results143, go_sem]) rfl ⟨?_, ?_⟩
    · rfl
    · exact (((Below.refl _ _).alloc (Nat.le_refl _) _).alloc (by first | (simp; done) | (simp; omega)) _).alloc (by first | (simp; done) | (simp; omega)) _
  · have e3 := e2.2 hl
    have e4 : bor (lo a) (lo b) 0 = 0 := by unfold bor; rw [if_neg (by omega)]
    have e5 : bor (hi a) (hi b) 0 = 0 := by unfold bor; rw [if_neg (by omega)]
    clear e2 ha ha2 hs hl hle hle2
    generalize a - b = s at *
    go_enter Try.func143, Try.ntmps143
    go_wp2
    refine bodyPost_ret (v := Value.tuple #[(Value.agg #[Value.int IntKind.u64 (hi (s)), Value.int IntKind.u64 (lo (s))]), Value.bool true]) (by simp [results, Try.results143, go_sem]) rfl ⟨?_, ?_⟩
    · rfl
    · exact (((Below.refl _ _).alloc (Nat.le_refl _) _).alloc (by first | (simp; done) | (simp; omega)) _).alloc (by first | (simp; done) | (simp; omega)) _
theorem abs_neg {a : Int} (h0 : -9223372036854775808 ≤ a) (h1 : a < 0) : (a.natAbs : Int) = -(a + 1) + 1 := by omega
set_option maxHeartbeats 400000 in
theorem Abs_any (a : Int) (w : World) (h0 : -9223372036854775808 ≤ a) (h1 : a ≤ 9223372036854775807) :
    Calls Try.prog 155 #[.int .i64 a] w fun e w' => e = .returned (.int .u64 a.natAbs) ∧ w = w' := by
  go_enter Try.func155, Try.ntmps155
  go_wp2
  · go_ret
    exact ⟨ret_int (by omega), rfl⟩
  · go_ret
    exact ⟨ret_int (by omega), rfl⟩
def sgn (a : Int) : Int := if a < 0 then -1 else if 0 < a then 1 else 0
set_option maxHeartbeats 1000000 in
set_option maxRecDepth 100000 in
theorem double_any (a t : Nat) (ha : a < 340282366920938463463374607431768211456) (ht : t < 2) (w : World) :
    Calls Try.prog 131 #[(Value.agg #[Value.int IntKind.u64 (hi (a)), Value.int IntKind.u64 (lo (a))]), .int .u64 t] w fun e w' => e = .returned (.tuple #[(Value.agg #[Value.int IntKind.u64 (hi ((2 * a + t) % 340282366920938463463374607431768211456)), Value.int IntKind.u64 (lo ((2 * a + t) % 340282366920938463463374607431768211456))]), .int .u64 ((2 * a / 340282366920938463463374607431768211456 : Nat) : Int)]) ∧ Below w.heap.size w w' := by
  have hh1 := hi_bd ha
  have hh2 := lo_bd a
  have e0 := top_bit ha
  have e2 := dbl_lo (a := a) t ht
  have e1 : bits BinOp.or IntKind.u64 (IntKind.u64.wrap (hi a * 2)) (lo a / 9223372036854775808) = hi ((2 * a + t) % 340282366920938463463374607431768211456) := dbl_hi ha t ht
  generalize (2 * a + t) % 340282366920938463463374607431768211456 = D at *
  clear ha
  generalize 2 * a / 340282366920938463463374607431768211456 = o at *
  go_enter Try.func131, Try.ntmps131
  go_wp2_with fail
  obtain ⟨W0, hW, hs0, K0, B0⟩ := start2 w 111 111 #[Value.int IntKind.u64 (hi a), Value.int IntKind.u64 (lo a)] #[Value.int IntKind.u64 0, Value.int IntKind.u64 0]
  rw [hW]
  clear hW
  have R := K0.rules
  simp only [Rules] at R
  go_region
  obtain ⟨W1, hW1, K1, B1, s1⟩ := name_world (Bx.drew (Bx.put2 (u := .int .u64 (hi D)) (v := .int .u64 (lo D)) K0 (by first | (simp; done) | (simp; omega)))) (((B0.setCell (by first | (simp; done) | (simp; omega)) _).setCell (by first | (simp; done) | (simp; omega)) _).drew) (s := 0) (by omega)
  rw [hW1]
  clear hW1 R
  have R := K1.rules
  simp only [Rules] at R
  have HBl := Lib.hid B1
  clear K0 B0 K1 B1
  go_wp2
  refine bodyPost_ret (v := Value.tuple #[(Value.agg #[Value.int IntKind.u64 (hi (D)), Value.int IntKind.u64 (lo (D))]), Value.int IntKind.u64 (o : Int)]) (by simp [results, Try.results131, go_sem, R]) rfl ⟨?_, ?_⟩
  · rfl
  · exact HBl.out
end Go.Proofs.Ytjapjfcennemeaa.wid

/- Structs of two numbers, compared. -/
namespace Go.Proofs.Ytjapjfcennemeaa.wid
open Go.RowKit Go.Proofs.Ytjapjfcennemeaa.mem Go.Proofs.Ytjapjfcennemeaa.gro
set_option linter.unusedVariables false
set_option linter.unusedSimpArgs false
theorem wide_eql0 (p q r s : Int) (w : World) : (binOp .eql 111 (Value.agg #[Value.int IntKind.u64 p, Value.int IntKind.u64 q]) (Value.agg #[Value.int IntKind.u64 r, Value.int IntKind.u64 s])).run Try.prog w = .ok (.bool (decide (p = r ∧ q = s))) w := by
  by_cases h1 : p = r
  · subst h1
    by_cases h2 : q = s
    · subst h2
      go_simp
    · go_simp
  · go_simp
theorem ratio_eql0 (p q r s : Int) (w : World) : (binOp .eql 53 (Value.agg #[Value.int IntKind.i64 p, Value.int IntKind.i64 q]) (Value.agg #[Value.int IntKind.i64 r, Value.int IntKind.i64 s])).run Try.prog w = .ok (.bool (decide (p = r ∧ q = s))) w := by
  by_cases h1 : p = r
  · subst h1
    by_cases h2 : q = s
    · subst h2
      go_simp
    · go_simp
  · go_simp
theorem wide_neq0 (p q r s : Int) (w : World) : (binOp .neq 111 (Value.agg #[Value.int IntKind.u64 p, Value.int IntKind.u64 q]) (Value.agg #[Value.int IntKind.u64 r, Value.int IntKind.u64 s])).run Try.prog w = .ok (.bool (!decide (p = r ∧ q = s))) w := by
  by_cases h1 : p = r
  · subst h1
    by_cases h2 : q = s
    · subst h2
      go_simp
    · go_simp
  · go_simp
theorem ratio_neq0 (p q r s : Int) (w : World) : (binOp .neq 53 (Value.agg #[Value.int IntKind.i64 p, Value.int IntKind.i64 q]) (Value.agg #[Value.int IntKind.i64 r, Value.int IntKind.i64 s])).run Try.prog w = .ok (.bool (!decide (p = r ∧ q = s))) w := by
  by_cases h1 : p = r
  · subst h1
    by_cases h2 : q = s
    · subst h2
      go_simp
    · go_simp
  · go_simp
theorem wide_eql (a b : Nat) (w : World) : (binOp .eql 111 (Value.agg #[Value.int IntKind.u64 (hi (a)), Value.int IntKind.u64 (lo (a))]) (Value.agg #[Value.int IntKind.u64 (hi (b)), Value.int IntKind.u64 (lo (b))])).run Try.prog w = .ok (.bool (decide (a = b))) w := by
  rw [wide_eql0, decide_eq_decide.2 ⟨fun h => eq_of h.1 h.2, fun h => by subst h; exact ⟨rfl, rfl⟩⟩]
theorem wide_neq (a b : Nat) (w : World) : (binOp .neq 111 (Value.agg #[Value.int IntKind.u64 (hi (a)), Value.int IntKind.u64 (lo (a))]) (Value.agg #[Value.int IntKind.u64 (hi (b)), Value.int IntKind.u64 (lo (b))])).run Try.prog w = .ok (.bool (!decide (a = b))) w := by
  rw [wide_neq0, decide_eq_decide.2 ⟨fun h => eq_of h.1 h.2, fun h => by subst h; exact ⟨rfl, rfl⟩⟩]
end Go.Proofs.Ytjapjfcennemeaa.wid
