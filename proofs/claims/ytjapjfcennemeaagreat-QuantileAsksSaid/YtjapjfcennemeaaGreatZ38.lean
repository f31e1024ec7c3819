/- Wide, Eql: proved here in one text, no conditions beyond those that each theorem states. -/
import Derived.Laws.BitsAllLaws
import Derived.Laws.Bits64b
import Derived.Lib.Mul64
import Derived.Laws.StructEq
import Derived.Test.YtjapjfcennemeaaGreatZ15
import Derived.Test.YtjapjfcennemeaaGreatZ7
set_option linter.unusedVariables false
set_option linter.unusedSimpArgs false
section
namespace Go.Proofs.YtjapjfcennemeaaGreat.wid
open Go.RowKit Go.Proofs.YtjapjfcennemeaaGreat.mem Go.Proofs.YtjapjfcennemeaaGreat.gro
set_option linter.unusedVariables false
theorem agg_W {h l : Int} {n : Nat} (e1 : hi n = h) (e2 : lo n = l) : Value.agg #[.int .u64 h, .int .u64 l] = (Value.agg #[Value.int IntKind.u64 (hi (n)), Value.int IntKind.u64 (lo (n))]) := by rw [e1, e2]
set_option maxHeartbeats 400000 in
theorem Of_any (x : Int) (w : World) (h0 : 0 ≤ x) (h1 : x ≤ 18446744073709551615) :
    Calls Tryz.prog 56 #[.int .u64 x] w fun e w' => e = .returned (Value.agg #[Value.int IntKind.u64 (hi (x.toNat)), Value.int IntKind.u64 (lo (x.toNat))]) ∧ Below w.heap.size w w' := by
  go_enter Tryz.func56, Tryz.ntmps56
  go_wp2
  refine bodyPost_ret (v := Value.agg #[Value.int IntKind.u64 0, Value.int IntKind.u64 x]) (by simp [results, Tryz.results56, go_sem]) rfl ⟨?_, ?_⟩
  · rw [agg_W (hi_of h0 h1) (lo_of h0 h1)]
  · exact (Below.refl _ _).alloc (Nat.le_refl _) _
set_option maxHeartbeats 400000 in
theorem zero_any (a : Nat) (w : World) :
    Calls Tryz.prog 83 #[(Value.agg #[Value.int IntKind.u64 (hi (a)), Value.int IntKind.u64 (lo (a))])] w fun e w' => e = .returned (.bool (decide (a = 0))) ∧ Below w.heap.size w w' := by
  have hz := Lib.hid (zero_iff a)
  generalize hi a = h at *
  generalize lo a = l at *
  by_cases h0 : h = 0
  · subst h0
    by_cases l0 : l = 0
    · subst l0
      have hd : Hid (decide (a = 0) = true) := decide_eq_true (hz.out.1 ⟨rfl, rfl⟩)
      go_enter Tryz.func83, Tryz.ntmps83
      go_wp2
      go_ret
      exact ⟨ret_bool hd.out.symm, (Below.refl _ _).alloc (Nat.le_refl _) _⟩
    · have hd : Hid (decide (a = 0) = false) := decide_eq_false (fun h => l0 (hz.out.2 h).2)
      go_enter Tryz.func83, Tryz.ntmps83
      go_wp2
      go_ret
      exact ⟨ret_bool (by rw [hd.out]; simp [l0]), (Below.refl _ _).alloc (Nat.le_refl _) _⟩
  · have hd : Hid (decide (a = 0) = false) := decide_eq_false (fun h => h0 (hz.out.2 h).1)
    go_enter Tryz.func83, Tryz.ntmps83
    go_wp2
    go_ret
    exact ⟨ret_bool (by rw [hd.out]), (Below.refl _ _).alloc (Nat.le_refl _) _⟩
theorem u64_neg {a : Int} (h0 : -9223372036854775808 ≤ a) (h1 : a < 0) : IntKind.u64.wrap (-IntKind.u64.wrap a) = a.natAbs := by
  rw [IntKind.wrap_u64, IntKind.wrap_u64]; omega
set_option maxHeartbeats 400000 in
theorem sizeQ_any (a : Int) (w : World) (h0 : -9223372036854775808 ≤ a) (h1 : a ≤ 9223372036854775807) :
    Calls Tryz.prog 97 #[.int .i64 a] w fun e w' => e = .returned (.int .u64 a.natAbs) ∧ w = w' := by
  go_enter Tryz.func97, Tryz.ntmps97
  go_wp2
  · go_ret
    exact ⟨ret_int (u64_neg h0 (by assumption)), rfl⟩
  · go_ret
    exact ⟨ret_int (by omega), rfl⟩
def cmpN (a b : Nat) : Int := if a < b then -1 else if a = b then 0 else 1
set_option maxHeartbeats 1000000 in
theorem Compare_any (a b : Nat) (w : World) :
    Calls Tryz.prog 86 #[(Value.agg #[Value.int IntKind.u64 (hi (a)), Value.int IntKind.u64 (lo (a))]), (Value.agg #[Value.int IntKind.u64 (hi (b)), Value.int IntKind.u64 (lo (b))])] w fun e w' => e = .returned (.int .i64 (cmpN a b)) ∧ Below w.heap.size w w' := by
  have hb2 : ∀ (o1 o2 : Obj), Below w.heap.size w ((w.alloc o1).alloc o2) := fun o1 o2 => ((Below.refl _ _).alloc (Nat.le_refl _) _).alloc (by simp) _
  have HB := Lib.hid hb2
  clear hb2
  have hlt := lt_iff a b
  have heq := @eq_of a b
  by_cases c1 : hi a < hi b
  · have hd : Hid (cmpN a b = -1) := by unfold cmpN; rw [Hid, if_pos (hlt.1 (.inl c1))]
    clear hlt heq
    generalize hi a = ha at *
    generalize hi b = hb at *
    go_enter Tryz.func86, Tryz.ntmps86
    go_wp2
    go_ret
    exact ⟨ret_int hd.out.symm, HB.out _ _⟩
  · by_cases c2 : hi a = hi b
    · by_cases c3 : lo a < lo b
      · have hd : Hid (cmpN a b = -1) := by unfold cmpN; rw [Hid, if_pos (hlt.1 (.inr ⟨c2, c3⟩))]
        rw [c2]
        clear hlt heq c1 c2
        generalize hi b = hb at *
        go_enter Tryz.func86, Tryz.ntmps86
        go_wp2
        go_ret
        exact ⟨ret_int hd.out.symm, HB.out _ _⟩
      · by_cases c4 : lo a = lo b
        · have he := heq c2 c4
          subst he
          have hd : Hid (cmpN a a = 0) := by unfold cmpN; simp [Hid]
          clear hlt heq c1 c2 c3 c4
          go_enter Tryz.func86, Tryz.ntmps86
          go_wp2
          go_ret
          exact ⟨ret_int hd.out.symm, HB.out _ _⟩
        · have hd : Hid (cmpN a b = 1) := by
            unfold cmpN; rw [Hid, if_neg (fun h => by have := hlt.2 h; omega), if_neg (fun h => c4 (by rw [h]))]
          rw [c2]
          clear hlt heq c1 c2
          generalize hi b = hb at *
          go_enter Tryz.func86, Tryz.ntmps86
          go_wp2
          go_ret
          exact ⟨ret_int hd.out.symm, HB.out _ _⟩
    · have hd : Hid (cmpN a b = 1) := by
        unfold cmpN; rw [Hid, if_neg (fun h => by have := hlt.2 h; omega), if_neg (fun h => c2 (by rw [h]))]
      have c3 : hi b < hi a := by omega
      clear hlt heq
      generalize hi a = ha at *
      generalize hi b = hb at *
      go_enter Tryz.func86, Tryz.ntmps86
      go_wp2
      go_ret
      exact ⟨ret_int hd.out.symm, HB.out _ _⟩
set_option maxHeartbeats 1000000 in
theorem CompareR_any (a b : Nat) (w : World) :
    Calls Tryz.prog 102 #[(Value.agg #[Value.int IntKind.u64 (hi (a)), Value.int IntKind.u64 (lo (a))]), (Value.agg #[Value.int IntKind.u64 (hi (b)), Value.int IntKind.u64 (lo (b))])] w fun e w' => e = .returned (.int .i64 (cmpN a b)) ∧ Below w.heap.size w w' := by
  have hb2 : ∀ (o1 o2 : Obj), Below w.heap.size w ((w.alloc o1).alloc o2) := fun o1 o2 => ((Below.refl _ _).alloc (Nat.le_refl _) _).alloc (by simp) _
  have HB := Lib.hid hb2
  clear hb2
  have hlt := lt_iff a b
  have heq := @eq_of a b
  by_cases c1 : hi a < hi b
  · have hd : Hid (cmpN a b = -1) := by unfold cmpN; rw [Hid, if_pos (hlt.1 (.inl c1))]
    clear hlt heq
    generalize hi a = ha at *
    generalize hi b = hb at *
    go_enter Tryz.func102, Tryz.ntmps102
    go_wp2
    go_ret
    exact ⟨ret_int hd.out.symm, HB.out _ _⟩
  · by_cases c2 : hi a = hi b
    · by_cases c3 : lo a < lo b
      · have hd : Hid (cmpN a b = -1) := by unfold cmpN; rw [Hid, if_pos (hlt.1 (.inr ⟨c2, c3⟩))]
        rw [c2]
        clear hlt heq c1 c2
        generalize hi b = hb at *
        go_enter Tryz.func102, Tryz.ntmps102
        go_wp2
        go_ret
        exact ⟨ret_int hd.out.symm, HB.out _ _⟩
      · by_cases c4 : lo a = lo b
        · have he := heq c2 c4
          subst he
          have hd : Hid (cmpN a a = 0) := by unfold cmpN; simp [Hid]
          clear hlt heq c1 c2 c3 c4
          go_enter Tryz.func102, Tryz.ntmps102
          go_wp2
          go_ret
          exact ⟨ret_int hd.out.symm, HB.out _ _⟩
        · have hd : Hid (cmpN a b = 1) := by
            unfold cmpN; rw [Hid, if_neg (fun h => by have := hlt.2 h; omega), if_neg (fun h => c4 (by rw [h]))]
          rw [c2]
          clear hlt heq c1 c2
          generalize hi b = hb at *
          go_enter Tryz.func102, Tryz.ntmps102
          go_wp2
          go_ret
          exact ⟨ret_int hd.out.symm, HB.out _ _⟩
    · have hd : Hid (cmpN a b = 1) := by
        unfold cmpN; rw [Hid, if_neg (fun h => by have := hlt.2 h; omega), if_neg (fun h => c2 (by rw [h]))]
      have c3 : hi b < hi a := by omega
      clear hlt heq
      generalize hi a = ha at *
      generalize hi b = hb at *
      go_enter Tryz.func102, Tryz.ntmps102
      go_wp2
      go_ret
      exact ⟨ret_int hd.out.symm, HB.out _ _⟩
theorem and_one {x : Int} (h0 : 0 ≤ x) (h1 : x ≤ 18446744073709551615) : bits BinOp.and IntKind.u64 x 1 = x % 2 := by
  rw [u64_and x 1 h0 (by omega) (by omega) (by omega)]
  have : x.toNat &&& (1 : Int).toNat = x.toNat % 2 := Nat.and_two_pow_sub_one_eq_mod x.toNat 1
  rw [this]; omega
theorem bit_hi {a n : Nat} (h1 : 64 ≤ n) : hi a / 2 ^ (n - 64) % 2 = ((a / 2 ^ n % 2 : Nat) : Int) := by
  unfold hi
  have : (2 : Int) ^ (n - 64) = ((2 ^ (n - 64) : Nat) : Int) := by simp
  rw [this, ← Int.natCast_ediv, Nat.div_div_eq_div_mul, show 18446744073709551616 * 2 ^ (n - 64) = 2 ^ n from by
    rw [show (18446744073709551616 : Nat) = 2 ^ 64 from rfl, ← Nat.pow_add]; congr 1; omega]
  omega
theorem bit_lo {a n : Nat} (h1 : n < 64) : lo a / 2 ^ n % 2 = ((a / 2 ^ n % 2 : Nat) : Int) := by
  unfold lo
  have : (2 : Int) ^ n = ((2 ^ n : Nat) : Int) := by simp
  have e : (18446744073709551616 : Nat) = 2 ^ n * 2 ^ (64 - n) := by
    rw [show (18446744073709551616 : Nat) = 2 ^ 64 from rfl, ← Nat.pow_add]; congr 1; omega
  rw [this, ← Int.natCast_ediv, e, Nat.mod_mul_right_div_self]
  have d : 2 ∣ 2 ^ (64 - n) := ⟨2 ^ (63 - n), by rw [← Nat.pow_succ']; congr 1; omega⟩
  have := Nat.mod_mod_of_dvd (a / 2 ^ n) d
  omega
theorem div_pow_bd {x : Int} {n : Nat} (h0 : 0 ≤ x) (h1 : x ≤ 18446744073709551615) : 0 ≤ x / 2 ^ n ∧ x / 2 ^ n ≤ 18446744073709551615 := by
  have hp : (0 : Int) < 2 ^ n := Int.pow_pos (by omega)
  have := Int.ediv_le_self (2 ^ n) h0
  exact ⟨Int.ediv_nonneg h0 (by omega), by omega⟩
set_option maxHeartbeats 1000000 in
theorem bit_any (a : Nat) (n : Nat) (w : World) (hn : n < 128) (ha : a < 340282366920938463463374607431768211456) :
    Calls Tryz.prog 85 #[(Value.agg #[Value.int IntKind.u64 (hi (a)), Value.int IntKind.u64 (lo (a))]), .int .i64 n] w fun e w' => e = .returned (.int .u64 ((a / 2 ^ n % 2 : Nat) : Int)) ∧ Below w.heap.size w w' := by
  have hb1 := hi_bd ha
  have hb2 := lo_bd a
  have HH := Lib.hid (@bit_hi a n)
  have HL := Lib.hid (@bit_lo a n)
  generalize hi a = h at *
  generalize lo a = l at *
  go_enter Tryz.func85, Tryz.ntmps85
  go_wp2
  · go_ret
    exact ⟨ret_int (by rw [and_one (div_pow_bd hb1.1 hb1.2).1 (div_pow_bd hb1.1 hb1.2).2]; exact HH.out (by omega)), (Below.refl _ _).alloc (Nat.le_refl _) _⟩
  · go_ret
    exact ⟨ret_int (by rw [and_one (div_pow_bd hb2.1 hb2.2).1 (div_pow_bd hb2.1 hb2.2).2]; exact HL.out (by omega)), (Below.refl _ _).alloc (Nat.le_refl _) _⟩
set_option maxHeartbeats 1000000 in
theorem bitR_any (a : Nat) (n : Nat) (w : World) (hn : n < 128) (ha : a < 340282366920938463463374607431768211456) :
    Calls Tryz.prog 101 #[(Value.agg #[Value.int IntKind.u64 (hi (a)), Value.int IntKind.u64 (lo (a))]), .int .i64 n] w fun e w' => e = .returned (.int .u64 ((a / 2 ^ n % 2 : Nat) : Int)) ∧ Below w.heap.size w w' := by
  have hb1 := hi_bd ha
  have hb2 := lo_bd a
  have HH := Lib.hid (@bit_hi a n)
  have HL := Lib.hid (@bit_lo a n)
  generalize hi a = h at *
  generalize lo a = l at *
  go_enter Tryz.func101, Tryz.ntmps101
  go_wp2
  · go_ret
    exact ⟨ret_int (by rw [and_one (div_pow_bd hb1.1 hb1.2).1 (div_pow_bd hb1.1 hb1.2).2]; exact HH.out (by omega)), (Below.refl _ _).alloc (Nat.le_refl _) _⟩
  · go_ret
    exact ⟨ret_int (by rw [and_one (div_pow_bd hb2.1 hb2.2).1 (div_pow_bd hb2.1 hb2.2).2]; exact HL.out (by omega)), (Below.refl _ _).alloc (Nat.le_refl _) _⟩
set_option maxRecDepth 100000 in
theorem sub_nat (x y b : Nat) (hb : b ≤ 1) (w : World) : (callFunc 87 #[.int .u64 x, .int .u64 y, .int .u64 b]).run Tryz.prog w =
    .ok (.value (.tuple #[.int .u64 (((x + 18446744073709551616 - y - b) % 18446744073709551616 : Nat) : Int), .int .u64 ((if x < y + b then 1 else 0 : Nat) : Int)])) w := by
  have : b = 0 ∨ b = 1 := by omega
  rcases this with rfl | rfl <;> rfl
def bor (x y b : Int) : Int := if x < y + b then 1 else 0
@[go_sem] theorem run_Sub64 (x y b : Int) (hx : 0 ≤ x) (hx2 : x ≤ 18446744073709551615) (hy : 0 ≤ y) (hy2 : y ≤ 18446744073709551615) (hb : 0 ≤ b) (hb2 : b ≤ 1) (w : World) : (callFunc 87 #[.int .u64 x, .int .u64 y, .int .u64 b]).run Tryz.prog w =
    .ok (.value (.tuple #[.int .u64 ((x - y - b) % 18446744073709551616), .int .u64 (bor x y b)])) w := by
  obtain ⟨x, rfl⟩ := Int.eq_ofNat_of_zero_le hx
  obtain ⟨y, rfl⟩ := Int.eq_ofNat_of_zero_le hy
  obtain ⟨b, rfl⟩ := Int.eq_ofNat_of_zero_le hb
  rw [sub_nat x y b (by omega) w]
  have e1 : (((x + 18446744073709551616 - y - b) % 18446744073709551616 : Nat) : Int) = ((x : Int) - y - b) % 18446744073709551616 := by omega
  have e2 : ((if x < y + b then 1 else 0 : Nat) : Int) = bor x y b := by unfold bor; split <;> split <;> omega
  rw [e1, e2]
end Go.Proofs.YtjapjfcennemeaaGreat.wid
end
section
namespace Go.Proofs.YtjapjfcennemeaaGreat.wid
open Go.RowKit Go.Proofs.YtjapjfcennemeaaGreat.mem Go.Proofs.YtjapjfcennemeaaGreat.gro
set_option linter.unusedVariables false
set_option linter.unusedSimpArgs false
theorem wide_eql0 (p q r s : Int) (w : World) : (binOp .eql 84 (Value.agg #[Value.int IntKind.u64 p, Value.int IntKind.u64 q]) (Value.agg #[Value.int IntKind.u64 r, Value.int IntKind.u64 s])).run Tryz.prog w = .ok (.bool (decide (p = r ∧ q = s))) w := by
  by_cases h1 : p = r
  · subst h1
    by_cases h2 : q = s
    · subst h2
      go_simp
    · go_simp
  · go_simp
theorem wide_neq0 (p q r s : Int) (w : World) : (binOp .neq 84 (Value.agg #[Value.int IntKind.u64 p, Value.int IntKind.u64 q]) (Value.agg #[Value.int IntKind.u64 r, Value.int IntKind.u64 s])).run Tryz.prog w = .ok (.bool (!decide (p = r ∧ q = s))) w := by
  by_cases h1 : p = r
  · subst h1
    by_cases h2 : q = s
    · subst h2
      go_simp
    · go_simp
  · go_simp
theorem wide_eql (a b : Nat) (w : World) : (binOp .eql 84 (Value.agg #[Value.int IntKind.u64 (hi (a)), Value.int IntKind.u64 (lo (a))]) (Value.agg #[Value.int IntKind.u64 (hi (b)), Value.int IntKind.u64 (lo (b))])).run Tryz.prog w = .ok (.bool (decide (a = b))) w := by
  rw [wide_eql0, decide_eq_decide.2 ⟨fun h => eq_of h.1 h.2, fun h => by subst h; exact ⟨rfl, rfl⟩⟩]
theorem wide_neq (a b : Nat) (w : World) : (binOp .neq 84 (Value.agg #[Value.int IntKind.u64 (hi (a)), Value.int IntKind.u64 (lo (a))]) (Value.agg #[Value.int IntKind.u64 (hi (b)), Value.int IntKind.u64 (lo (b))])).run Tryz.prog w = .ok (.bool (!decide (a = b))) w := by
  rw [wide_neq0, decide_eq_decide.2 ⟨fun h => eq_of h.1 h.2, fun h => by subst h; exact ⟨rfl, rfl⟩⟩]
end Go.Proofs.YtjapjfcennemeaaGreat.wid
end
