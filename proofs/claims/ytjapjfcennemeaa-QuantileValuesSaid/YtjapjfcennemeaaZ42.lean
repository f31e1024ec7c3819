/- Within: proved here in one text, no conditions beyond those that each theorem states. -/
import Derived.Test.YtjapjfcennemeaaZ41
import Derived.Test.YtjapjfcennemeaaZ27
import Derived.Test.YtjapjfcennemeaaZ14
set_option linter.unusedVariables false
set_option linter.unusedSimpArgs false
namespace Go.Proofs.Ytjapjfcennemeaa.wid
open Go.RowKit Go.Proofs.Ytjapjfcennemeaa.mem Go.Proofs.Ytjapjfcennemeaa.gro
set_option linter.unusedVariables false
set_option linter.unusedSimpArgs false
theorem quad_eql (p q r s x y z t : Int) (w : World) : (binOp .eql 127 (Value.agg #[Value.int IntKind.u64 p, Value.int IntKind.u64 q, Value.int IntKind.u64 r, Value.int IntKind.u64 s]) (Value.agg #[Value.int IntKind.u64 x, Value.int IntKind.u64 y, Value.int IntKind.u64 z, Value.int IntKind.u64 t])).run Try.prog w = .ok (.bool (decide (p = x ∧ q = y ∧ r = z ∧ s = t))) w := by
  have u3 := Try.underlying109
  have a3 := Try.isAgg109
  have z3 := Try.sizeOf109
  rw [run_eql_struct, show (10000 : Nat) = 9999 + 1 from rfl, Op.equalIn]
  simp only [Sem.run_bind, run_underlying Try.underlying127, Result.andThen_ok]
  simp only [Std.Legacy.Range.forIn_eq_forIn_range', Std.Legacy.Range.size, Nat.sub_zero, Nat.add_sub_cancel, Nat.div_one, List.range'_succ, List.range'_zero, List.forIn_cons, List.forIn_nil]
  go_simp
  by_cases h1 : p = x <;> by_cases h2 : q = y <;> by_cases h3 : r = z <;> by_cases h4 : s = t <;> simp [h1, h2, h3, h4]
@[go_sem] theorem quad_build (a b : Int) (w : World) : (Instr.build 127 #[(0, .int .u64 a), (1, .int .u64 b)]).run Try.prog w = .ok (.agg #[.int .u64 a, .int .u64 b, .int .u64 0, .int .u64 0]) w := run_build w 127 _ _ (by kernel_rfl)
theorem put4 {W : World} {L : List (Nat × TypeId × Array Value)} {g : Nat} {t : TypeId} {x0 x1 x2 x3 u0 u1 u2 u3 : Value} (h : Bx W ((g, t, #[x0, x1, x2, x3]) :: L)) (hd : ∀ q ∈ L, q.1 ≠ g) :
    Bx ((((W.setCell ⟨g, 0, none⟩ u0).setCell ⟨g, 1, none⟩ u1).setCell ⟨g, 2, none⟩ u2).setCell ⟨g, 3, none⟩ u3) ((g, t, #[u0, u1, u2, u3]) :: L) := by
  have := Bx.cons_ ((((h.head.set_ 0 u0).set_ 1 u1).set_ 2 u2).set_ 3 u3) ((((h.tail.far (p := ⟨g, 0, none⟩) hd u0).far (p := ⟨g, 1, none⟩) hd u1).far (p := ⟨g, 2, none⟩) hd u2).far (p := ⟨g, 3, none⟩) hd u3)
  simpa using this
def withB (a0 a1 a2 a3 a4 a5 k n d : Int) : Bool := validB a0 a1 a2 a3 a4 a5 && validQ n d && decide (1 ≤ k) && decide (0 ≤ n) && decide (k * (a4 * a1 - a0 * a5) * d ≤ n * (a1 * a5))
theorem with_nat {a0 a1 a4 a5 k n d : Int} (hk : 1 ≤ k) (hn : 0 ≤ n) (hd : 1 ≤ d) (h1 : 1 ≤ a1) (h2 : 1 ≤ a5) (h : a0 * a5 ≤ a4 * a1) :
    (k * (a4 * a1 - a0 * a5) * d ≤ n * (a1 * a5) ↔ wdN a0 a1 a4 a5 * k.toNat * d.toNat ≤ (a1 * a5).natAbs * n.toNat) := by
  have p : 0 ≤ a1 * a5 := Int.mul_nonneg (by omega) (by omega)
  have e1 : ((wdN a0 a1 a4 a5 * k.toNat * d.toNat : Nat) : Int) = k * (a4 * a1 - a0 * a5) * d := by
    unfold wdN
    rw [Int.natCast_mul, Int.natCast_mul, Int.toNat_of_nonneg (by omega), Int.toNat_of_nonneg (by omega), Int.toNat_of_nonneg (by omega), Int.mul_comm (a4 * a1 - a0 * a5) k]
  have e2 : (((a1 * a5).natAbs * n.toNat : Nat) : Int) = n * (a1 * a5) := by
    rw [Int.natCast_mul, Int.natAbs_of_nonneg p, Int.toNat_of_nonneg hn, Int.mul_comm]
  rw [← e1, ← e2, Int.ofNat_le]
theorem wd_bd {a0 a1 a4 a5 : Int} (h0 : I64 a0) (h1 : I64 a1) (h4 : I64 a4) (h5 : I64 a5) : wdN a0 a1 a4 a5 ≤ 170141183460469231731687303715884105728 := by
  have b1 : a4.natAbs * a1.natAbs ≤ 9223372036854775808 * 9223372036854775808 := Nat.mul_le_mul (by unfold I64 at h4; omega) (by unfold I64 at h1; omega)
  have b2 : a0.natAbs * a5.natAbs ≤ 9223372036854775808 * 9223372036854775808 := Nat.mul_le_mul (by unfold I64 at h0; omega) (by unfold I64 at h5; omega)
  rw [← Int.natAbs_mul] at b1 b2
  unfold wdN
  omega
theorem left_bd {x : Nat} {k d : Int} (hx : x ≤ 170141183460469231731687303715884105728) (hk : I64 k) (hd : I64 d) : x * k.toNat * d.toNat < 115792089237316195423570985008687907853269984665640564039457584007913129639936 := by
  have b1 : x * k.toNat ≤ 170141183460469231731687303715884105728 * 9223372036854775808 := Nat.mul_le_mul hx (by unfold I64 at hk; omega)
  have b2 := Nat.mul_le_mul b1 (show d.toNat ≤ 9223372036854775808 by unfold I64 at hd; omega)
  exact Nat.lt_of_le_of_lt b2 (by decide)
theorem right_bd {a1 a5 n : Int} (h1 : I64 a1) (h5 : I64 a5) (hn : I64 n) : (a1 * a5).natAbs < 340282366920938463463374607431768211456 ∧ (a1 * a5).natAbs * n.toNat < 115792089237316195423570985008687907853269984665640564039457584007913129639936 := by
  have b1 : (a1 * a5).natAbs ≤ 9223372036854775808 * 9223372036854775808 := by
    rw [Int.natAbs_mul]; exact Nat.mul_le_mul (by unfold I64 at h1; omega) (by unfold I64 at h5; omega)
  have b2 := Nat.mul_le_mul b1 (show n.toNat ≤ 9223372036854775808 by unfold I64 at hn; omega)
  exact ⟨by omega, Nat.lt_of_le_of_lt b2 (by decide)⟩
theorem times_wide {D : Nat} {k : Int} (hD : D < 340282366920938463463374607431768211456) (hk0 : 0 ≤ k) (hk : I64 k) (W : World) :
    Calls Try.prog 114 #[.agg #[.int .u64 (lo D), .int .u64 (hi D), .int .u64 0, .int .u64 0], .int .u64 k] W fun e w' => e = .returned (.agg #[.int .u64 (q0 (D * k.toNat) : Nat), .int .u64 (q1 (D * k.toNat) : Nat), .int .u64 (q2 (D * k.toNat) : Nat), .int .u64 (q3 (D * k.toNat) : Nat)]) ∧ Below W.heap.size W w' := by
  have := times_any D k.toNat (by unfold I64 at hk; omega) W
  obtain ⟨e0, e1, e2, e3⟩ := q_wide D hD
  rwa [e0, e1, e2, e3, Int.toNat_of_nonneg hk0] at this
set_option maxHeartbeats 8000000 in
set_option maxRecDepth 100000 in
theorem Within_any (a0 a1 a2 a3 a4 a5 k n d : Int) (ha0 : I64 a0) (ha1 : I64 a1) (ha2 : I64 a2) (ha3 : I64 a3) (ha4 : I64 a4) (ha5 : I64 a5) (hk : I64 k) (hn : I64 n) (hd : I64 d) (w : World) :
    Calls Try.prog 65 #[Value.agg #[Value.int IntKind.i64 a0, Value.int IntKind.i64 a1, Value.int IntKind.i64 a2, Value.int IntKind.i64 a3, Value.int IntKind.i64 a4, Value.int IntKind.i64 a5], .int .i64 k, (Value.agg #[Value.int IntKind.i64 (n), Value.int IntKind.i64 ( d)])] w fun x w' => x = .returned (.bool (withB a0 a1 a2 a3 a4 a5 k n d)) ∧ Below w.heap.size w w' := by
  have H1 := Lib.hid (fun W => ValidB_any a0 a1 a2 a3 a4 a5 ha0 ha1 ha2 ha3 ha4 ha5 W)
  have H2 := Lib.hid (fun W => Valid_any n d hn hd W)
  by_cases hvb : validB a0 a1 a2 a3 a4 a5 = true
  case neg =>
    have e := by simpa using hvb
    rw [show (withB a0 a1 a2 a3 a4 a5 k n d) = false by unfold withB; rw [e]; rfl]
    rw [e] at H1
    clear e hvb ha0 ha1 ha2 ha3 ha4 ha5 hk hn hd
    go_enter Try.func65, Try.ntmps65
    go_wp2_with fail
    obtain ⟨W0, hW, hs0, K0, B0⟩ := start2 w 55 53 #[Value.int IntKind.i64 a0, Value.int IntKind.i64 a1, Value.int IntKind.i64 a2, Value.int IntKind.i64 a3, Value.int IntKind.i64 a4, Value.int IntKind.i64 a5] #[Value.int IntKind.i64 n, Value.int IntKind.i64 d]
    rw [hW]
    clear hW
    have KK := Lib.hid K0
    have BB := Lib.hid B0
    have sz : w.heap.size + 1 + 1 ≤ W0.heap.size := by omega
    have R := K0.rules
    simp only [Rules] at R
    clear K0 B0 hs0
    (with_reducible refine (H1.out _).mono ?_)
    rintro e wv ⟨rfl, hbv⟩; replace BB := Lib.hid (BB.out.trans (hbv.mono BB.out.size)); replace KK := Lib.hid (KK.out.below hbv); replace R := KK.out.rules; simp only [gro.Rules] at R; clear hbv
    go_wp2
    go_ret
    exact ⟨rfl, BB.out⟩
  rw [hvb] at H1
  by_cases hvq : validQ n d = true
  case neg =>
    have e := by simpa using hvq
    rw [show (withB a0 a1 a2 a3 a4 a5 k n d) = false by unfold withB; rw [hvb, e]; rfl]
    rw [e] at H2
    clear e hvb hvq ha0 ha1 ha2 ha3 ha4 ha5 hk hn hd
    go_enter Try.func65, Try.ntmps65
    go_wp2_with fail
    obtain ⟨W0, hW, hs0, K0, B0⟩ := start2 w 55 53 #[Value.int IntKind.i64 a0, Value.int IntKind.i64 a1, Value.int IntKind.i64 a2, Value.int IntKind.i64 a3, Value.int IntKind.i64 a4, Value.int IntKind.i64 a5] #[Value.int IntKind.i64 n, Value.int IntKind.i64 d]
    rw [hW]
    clear hW
    have KK := Lib.hid K0
    have BB := Lib.hid B0
    have sz : w.heap.size + 1 + 1 ≤ W0.heap.size := by omega
    have R := K0.rules
    simp only [Rules] at R
    clear K0 B0 hs0
    (with_reducible refine (H1.out _).mono ?_)
    rintro e wv ⟨rfl, hbv⟩; replace BB := Lib.hid (BB.out.trans (hbv.mono BB.out.size)); replace KK := Lib.hid (KK.out.below hbv); replace R := KK.out.rules; simp only [gro.Rules] at R; clear hbv
    go_wp2_with fail
    (with_reducible refine (H2.out _).mono ?_)
    rintro e wv ⟨rfl, hbv⟩; replace BB := Lib.hid (BB.out.trans (hbv.mono BB.out.size)); replace KK := Lib.hid (KK.out.below hbv); replace R := KK.out.rules; simp only [gro.Rules] at R; clear hbv
    go_wp2
    go_ret
    exact ⟨rfl, BB.out⟩
  rw [hvq] at H2
  by_cases hk1 : 1 ≤ k
  case neg =>
    rw [show (withB a0 a1 a2 a3 a4 a5 k n d) = false by unfold withB; rw [hvb, hvq, decide_eq_false hk1]; rfl]
    have qk : decide (k < 1) = true := decide_eq_true (by omega)
    clear hk1 hvb hvq ha0 ha1 ha2 ha3 ha4 ha5 hk hn hd
    go_enter Try.func65, Try.ntmps65
    go_wp2_with fail
    obtain ⟨W0, hW, hs0, K0, B0⟩ := start2 w 55 53 #[Value.int IntKind.i64 a0, Value.int IntKind.i64 a1, Value.int IntKind.i64 a2, Value.int IntKind.i64 a3, Value.int IntKind.i64 a4, Value.int IntKind.i64 a5] #[Value.int IntKind.i64 n, Value.int IntKind.i64 d]
    rw [hW]
    clear hW
    have KK := Lib.hid K0
    have BB := Lib.hid B0
    have sz : w.heap.size + 1 + 1 ≤ W0.heap.size := by omega
    have R := K0.rules
    simp only [Rules] at R
    clear K0 B0 hs0
    (with_reducible refine (H1.out _).mono ?_)
    rintro e wv ⟨rfl, hbv⟩; replace BB := Lib.hid (BB.out.trans (hbv.mono BB.out.size)); replace KK := Lib.hid (KK.out.below hbv); replace R := KK.out.rules; simp only [gro.Rules] at R; clear hbv
    go_wp2_with fail
    (with_reducible refine (H2.out _).mono ?_)
    rintro e wv ⟨rfl, hbv⟩; replace BB := Lib.hid (BB.out.trans (hbv.mono BB.out.size)); replace KK := Lib.hid (KK.out.below hbv); replace R := KK.out.rules; simp only [gro.Rules] at R; clear hbv
    go_wp2
    go_ret
    exact ⟨rfl, BB.out⟩
  have qk : decide (k < 1) = false := decide_eq_false (by omega)
  by_cases hn1 : 0 ≤ n
  case neg =>
    rw [show (withB a0 a1 a2 a3 a4 a5 k n d) = false by unfold withB; rw [hvb, hvq, decide_eq_true hk1, decide_eq_false hn1]; rfl]
    have qn : decide (n < 0) = true := decide_eq_true (by omega)
    clear hk1 hn1 hvb hvq ha0 ha1 ha2 ha3 ha4 ha5 hk hn hd
    go_enter Try.func65, Try.ntmps65
    go_wp2_with fail
    obtain ⟨W0, hW, hs0, K0, B0⟩ := start2 w 55 53 #[Value.int IntKind.i64 a0, Value.int IntKind.i64 a1, Value.int IntKind.i64 a2, Value.int IntKind.i64 a3, Value.int IntKind.i64 a4, Value.int IntKind.i64 a5] #[Value.int IntKind.i64 n, Value.int IntKind.i64 d]
    rw [hW]
    clear hW
    have KK := Lib.hid K0
    have BB := Lib.hid B0
    have sz : w.heap.size + 1 + 1 ≤ W0.heap.size := by omega
    have R := K0.rules
    simp only [Rules] at R
    clear K0 B0 hs0
    (with_reducible refine (H1.out _).mono ?_)
    rintro e wv ⟨rfl, hbv⟩; replace BB := Lib.hid (BB.out.trans (hbv.mono BB.out.size)); replace KK := Lib.hid (KK.out.below hbv); replace R := KK.out.rules; simp only [gro.Rules] at R; clear hbv
    go_wp2_with fail
    (with_reducible refine (H2.out _).mono ?_)
    rintro e wv ⟨rfl, hbv⟩; replace BB := Lib.hid (BB.out.trans (hbv.mono BB.out.size)); replace KK := Lib.hid (KK.out.below hbv); replace R := KK.out.rules; simp only [gro.Rules] at R; clear hbv
    go_wp2
    go_ret
    exact ⟨rfl, BB.out⟩
  have qn : decide (n < 0) = false := decide_eq_false (by omega)
  have hB : validQ a0 a1 = true ∧ validQ a2 a3 = true ∧ validQ a4 a5 = true ∧ cmpQ a0 a1 a2 a3 ≤ 0 ∧ cmpQ a2 a3 a4 a5 ≤ 0 := by
    have := hvb
    unfold validB at this
    simp only [Bool.and_eq_true, decide_eq_true_eq] at this
    exact ⟨this.1.1.1.1, this.1.1.1.2, this.1.1.2, this.1.2, this.2⟩
  have p1 : 1 ≤ a1 := valid_pos hB.1
  have p5 : 1 ≤ a5 := valid_pos hB.2.2.1
  have pd : 1 ≤ d := valid_pos hvq
  have hle : a0 * a5 ≤ a4 * a1 := (cmpQ_le hB.1 hB.2.2.1).1 (cmpQ_trans hB.1 hB.2.1 hB.2.2.1 hB.2.2.2.1 hB.2.2.2.2)
  have HB : Hid ((withB a0 a1 a2 a3 a4 a5 k n d) = decide (wdN a0 a1 a4 a5 * k.toNat * d.toNat ≤ (a1 * a5).natAbs * n.toNat)) := by
    unfold withB
    rw [hvb, hvq, decide_eq_true hk1, decide_eq_true hn1]
    simp only [Bool.and_self, Bool.true_and]
    exact decide_eq_decide.2 (with_nat hk1 hn1 pd p1 p5 hle)
  have HW := Lib.hid (fun W => width_any a0 a1 a2 a3 a4 a5 ha0 ha1 ha4 ha5 p1 p5 hle W)
  have bW := wd_bd ha0 ha1 ha4 ha5
  have bR := right_bd ha1 ha5 hn
  have bL := left_bd bW hk hd
  have HT1 := Lib.hid (fun W => times_wide (D := wdN a0 a1 a4 a5) (by omega) (show 0 ≤ k by omega) hk W)
  have HT2 : Hid (∀ W : World, Calls Try.prog 114 #[.agg #[.int .u64 (q0 (wdN a0 a1 a4 a5 * k.toNat) : Nat), .int .u64 (q1 (wdN a0 a1 a4 a5 * k.toNat) : Nat), .int .u64 (q2 (wdN a0 a1 a4 a5 * k.toNat) : Nat), .int .u64 (q3 (wdN a0 a1 a4 a5 * k.toNat) : Nat)], .int .u64 d] W fun e w' => e = .returned (.agg #[.int .u64 (q0 (wdN a0 a1 a4 a5 * k.toNat * d.toNat) : Nat), .int .u64 (q1 (wdN a0 a1 a4 a5 * k.toNat * d.toNat) : Nat), .int .u64 (q2 (wdN a0 a1 a4 a5 * k.toNat * d.toNat) : Nat), .int .u64 (q3 (wdN a0 a1 a4 a5 * k.toNat * d.toNat) : Nat)]) ∧ Below W.heap.size W w') := fun W => by
    have := times_any (wdN a0 a1 a4 a5 * k.toNat) d.toNat (by unfold I64 at hd; omega) W
    rwa [Int.toNat_of_nonneg (show 0 ≤ d by omega)] at this
  have HP := Lib.hid (prod_pos (F := 115) (fun x y a b c d W => Product_any x y a b c d W) a1 a5 ha1 ha5 p1 p5)
  have HT3 := Lib.hid (fun W => times_wide (D := (a1 * a5).natAbs) bR.1 hn1 hn W)
  have HQ := q_eq bL bR.2
  have u1 : a1 ≤ 9223372036854775807 := ha1.2
  have u5 : a5 ≤ 9223372036854775807 := ha5.2
  have ud : d ≤ 9223372036854775807 := hd.2
  have uk : k ≤ 9223372036854775807 := hk.2
  have un : n ≤ 9223372036854775807 := hn.2
  generalize (withB a0 a1 a2 a3 a4 a5 k n d) = vB at *
  clear hB hvb hvq hle bW bL bR ha0 ha1 ha2 ha3 ha4 ha5 hk hn hd
  generalize (a1 * a5).natAbs = D at *
  generalize wdN a0 a1 a4 a5 = wd at *
  obtain ⟨g0, hg0⟩ : ∃ g : Int, ((q0 (wd * k.toNat) : Nat) : Int) = g := ⟨_, rfl⟩
  obtain ⟨g1, hg1⟩ : ∃ g : Int, ((q1 (wd * k.toNat) : Nat) : Int) = g := ⟨_, rfl⟩
  obtain ⟨g2, hg2⟩ : ∃ g : Int, ((q2 (wd * k.toNat) : Nat) : Int) = g := ⟨_, rfl⟩
  obtain ⟨g3, hg3⟩ : ∃ g : Int, ((q3 (wd * k.toNat) : Nat) : Int) = g := ⟨_, rfl⟩
  rw [hg0, hg1, hg2, hg3] at HT1 HT2
  clear hg0 hg1 hg2 hg3
  generalize wd * k.toNat * d.toNat = V at *
  generalize D * n.toNat = U at *
  have HQ2 : (((q3 V : Nat) : Int) ≠ (q3 U : Nat) → vB = decide (((q3 V : Nat) : Int) < (q3 U : Nat))) ∧ (((q3 V : Nat) : Int) = (q3 U : Nat) → ((q2 V : Nat) : Int) ≠ (q2 U : Nat) → vB = decide (((q2 V : Nat) : Int) < (q2 U : Nat))) ∧ (((q3 V : Nat) : Int) = (q3 U : Nat) → ((q2 V : Nat) : Int) = (q2 U : Nat) → ((q1 V : Nat) : Int) ≠ (q1 U : Nat) → vB = decide (((q1 V : Nat) : Int) < (q1 U : Nat))) ∧
      (((q3 V : Nat) : Int) = (q3 U : Nat) → ((q2 V : Nat) : Int) = (q2 U : Nat) → ((q1 V : Nat) : Int) = (q1 U : Nat) → ((q0 V : Nat) : Int) ≠ (q0 U : Nat) → vB = decide (((q0 V : Nat) : Int) < (q0 U : Nat))) ∧ (((q3 V : Nat) : Int) = (q3 U : Nat) → ((q2 V : Nat) : Int) = (q2 U : Nat) → ((q1 V : Nat) : Int) = (q1 U : Nat) → ((q0 V : Nat) : Int) = (q0 U : Nat) → vB = true) := by
    obtain ⟨z3, z2, z1, z0, ze⟩ := HQ
    refine ⟨fun h => ?_, fun e3 h => ?_, fun e3 e2 h => ?_, fun e3 e2 e1 h => ?_, fun e3 e2 e1 e0 => ?_⟩
    · have := z3 (by omega); rw [HB.out]; exact decide_eq_decide.2 (by omega)
    · have := z2 (by omega) (by omega); rw [HB.out]; exact decide_eq_decide.2 (by omega)
    · have := z1 (by omega) (by omega) (by omega); rw [HB.out]; exact decide_eq_decide.2 (by omega)
    · have := z0 (by omega) (by omega) (by omega) (by omega); rw [HB.out]; exact decide_eq_decide.2 (by omega)
    · have := ze (by omega) (by omega) (by omega) (by omega); rw [HB.out, this]; simp
  clear HQ HB
  generalize ((q0 V : Nat) : Int) = l0 at *
  generalize ((q0 U : Nat) : Int) = r0 at *
  generalize ((q1 V : Nat) : Int) = l1 at *
  generalize ((q1 U : Nat) : Int) = r1 at *
  generalize ((q2 V : Nat) : Int) = l2 at *
  generalize ((q2 U : Nat) : Int) = r2 at *
  generalize ((q3 V : Nat) : Int) = l3 at *
  generalize ((q3 U : Nat) : Int) = r3 at *
  replace HQ2 := Lib.hid HQ2
  go_enter Try.func65, Try.ntmps65
  go_wp2_with fail
  obtain ⟨W0, hW, hs0, K0, B0⟩ := start2 w 55 53 #[Value.int IntKind.i64 a0, Value.int IntKind.i64 a1, Value.int IntKind.i64 a2, Value.int IntKind.i64 a3, Value.int IntKind.i64 a4, Value.int IntKind.i64 a5] #[Value.int IntKind.i64 n, Value.int IntKind.i64 d]
  rw [hW]
  clear hW
  have KK := Lib.hid K0
  have BB := Lib.hid B0
  have sz : w.heap.size + 1 + 1 ≤ W0.heap.size := by omega
  have R := K0.rules
  simp only [Rules] at R
  clear K0 B0 hs0
  (with_reducible refine (H1.out _).mono ?_)
  rintro e u1 ⟨rfl, hb⟩
  replace BB := Lib.hid (BB.out.trans (hb.mono BB.out.size))
  replace KK := Lib.hid (KK.out.below hb)
  replace sz := Nat.le_trans sz hb.size
  replace R := KK.out.rules
  simp only [Rules] at R
  clear hb
  go_wp2_with fail
  (with_reducible refine (H2.out _).mono ?_)
  rintro e u2 ⟨rfl, hb⟩
  replace BB := Lib.hid (BB.out.trans (hb.mono BB.out.size))
  replace KK := Lib.hid (KK.out.below hb)
  replace sz := Nat.le_trans sz hb.size
  replace R := KK.out.rules
  simp only [Rules] at R
  clear hb
  clear H1 H2
  go_wp2_with fail
  (with_reducible refine (HW.out _).mono ?_)
  rintro e u3 ⟨rfl, hb⟩
  replace BB := Lib.hid (BB.out.trans (hb.mono BB.out.size))
  replace KK := Lib.hid (KK.out.below hb)
  replace sz := Nat.le_trans sz hb.size
  replace R := KK.out.rules
  simp only [Rules] at R
  clear hb
  obtain ⟨s3, hs3⟩ : ∃ s, u3.heap.size = s := ⟨_, rfl⟩
  rw [hs3] at sz
  go_wp2_with fail
  obtain ⟨W3, hW, K1, B1, z1_⟩ := name_world (KK.out.new (t := 111) (c := #[Value.int IntKind.u64 (hi wd), Value.int IntKind.u64 (lo wd)]) hs3) (BB.out.alloc BB.out.size _) (s := s3 + 1) (by simp; omega)
  rw [hW]
  clear hW KK BB
  have KK := Lib.hid K1
  have BB := Lib.hid B1
  replace R := K1.rules
  simp only [Rules] at R
  replace sz : w.heap.size + 1 + 1 ≤ s3 := sz
  clear K1 B1 hs3 HW
  (refine gro.wp_region_steady_n 12 2 (by kernel_rfl) (by kernel_rfl) (by intro _ _ _ _ _ h; exact h) (by kernel_rfl) (by kernel_rfl) (by kernel_rfl) ?_; apply Exists.intro; refine ⟨fun w0 hb0 => ?_, ?_⟩; focus (have KZ := (KK.out).below hb0; have RZ := KZ.rules; simp only [gro.Rules] at RZ; simp only [List.take_succ_cons, List.take_zero]; (repeat (go_big_quiet_step (((go_at_call 114; first | (with_reducible exact call_grown (HT1.out _)) | (with_reducible exact call_grown (HT2.out _))))))); exact wpQuiet_nil rfl))
  refine gro.anyG_one 12 (by kernel_rfl) rfl ?_
  intro y1 hz1 K' hK'
  have KY1 := KK.out.drew.below hz1
  have BY1 := hz1
  go_simp
  refine hK' _ _ ⟨BY1.alloc BY1.size _, ?_⟩
  clear hK' K'
  obtain ⟨p, hp⟩ : ∃ p, y1.heap.size = p := ⟨_, rfl⟩
  have KY2 := KY1.new (t := 127) (c := #[Value.int IntKind.u64 0, Value.int IntKind.u64 0, Value.int IntKind.u64 0, Value.int IntKind.u64 0]) hp
  have BY2 := BY1.alloc BY1.size (.cells #[Value.int IntKind.u64 0, Value.int IntKind.u64 0, Value.int IntKind.u64 0, Value.int IntKind.u64 0] 127)
  have sY2 : (y1.alloc (.cells #[Value.int IntKind.u64 0, Value.int IntKind.u64 0, Value.int IntKind.u64 0, Value.int IntKind.u64 0] 127)).heap.size = p + 1 := by simp [hp]
  have hl := hz1.size
  rw [hp] at hl ⊢
  have hm := hl
  try simp at hm
  generalize y1.alloc (.cells #[Value.int IntKind.u64 0, Value.int IntKind.u64 0, Value.int IntKind.u64 0, Value.int IntKind.u64 0] 127) = y2 at *
  refine gro.anyG_one 13 (by kernel_rfl) rfl ?_
  intro y3 hz3 K' hK'
  have KY3 := KY2.below hz3
  have BY3 := BY2.trans (hz3.mono BY2.size)
  have sY3 := hz3.size
  have RY := KY3.rules
  simp only [gro.Rules] at RY
  go_simp
  refine hK' _ _ ⟨(((BY3.setCell (by first | (simp; done) | (simp; omega)) _).setCell (by first | (simp; done) | (simp; omega)) _).setCell (by first | (simp; done) | (simp; omega)) _).setCell (by first | (simp; done) | (simp; omega)) _, ?_⟩
  clear hK' K' RY
  obtain ⟨y4, hy4, KY4, BY4, sY4⟩ := name_world (put4 (u0 := Value.int IntKind.u64 l0) (u1 := Value.int IntKind.u64 l1) (u2 := Value.int IntKind.u64 l2) (u3 := Value.int IntKind.u64 l3) KY3 (by simp; omega)) ((((BY3.setCell (by first | (simp; done) | (simp; omega)) _).setCell (by first | (simp; done) | (simp; omega)) _).setCell (by first | (simp; done) | (simp; omega)) _).setCell (by first | (simp; done) | (simp; omega)) _) (s := p + 1) (by simp only [set2_size]; omega)
  rw [hy4]
  clear hy4
  refine gro.anyG_done (by kernel_rfl) ?_
  intro y5 hz5
  replace KK := Lib.hid (KY4.below hz5)
  replace BB := Lib.hid (BB.out.drew.trans ((BY4.trans (hz5.mono BY4.size)).mono BB.out.size))
  replace R := KK.out.rules
  simp only [Rules] at R
  have hsp : w.heap.size + 1 + 1 ≤ p := by omega
  have hs3p : s3 < p := by omega
  replace sz : w.heap.size + 1 + 1 ≤ y5.heap.size := by have := hz5.size; omega
  clear KY1 KY2 KY3 KY4 BY1 BY2 BY3 BY4 hz1 hz3 hz5 HT1 HT2 sY2 sY3 sY4 hl hm
  go_wp2_with fail
  (with_reducible refine (HP.out _).mono ?_)
  rintro e u5 ⟨rfl, hb⟩
  replace BB := Lib.hid (BB.out.trans (hb.mono BB.out.size))
  replace KK := Lib.hid (KK.out.below hb)
  replace sz := Nat.le_trans sz hb.size
  replace R := KK.out.rules
  simp only [Rules] at R
  clear hb
  obtain ⟨s5, hs5⟩ : ∃ s, u5.heap.size = s := ⟨_, rfl⟩
  rw [hs5] at sz
  replace KK := Lib.hid (KK.out.new (t := 111) (c := #[Value.int IntKind.u64 (hi D), Value.int IntKind.u64 (lo D)]) hs5)
  replace BB := Lib.hid (BB.out.alloc BB.out.size (.cells #[Value.int IntKind.u64 (hi D), Value.int IntKind.u64 (lo D)] 111))
  replace R := KK.out.rules
  simp only [Rules] at R
  have sz5 : s5 + 1 ≤ (u5.alloc (.cells #[Value.int IntKind.u64 (hi D), Value.int IntKind.u64 (lo D)] 111)).heap.size := by simp; omega
  go_wp2_with fail
  (with_reducible refine (HT3.out _).mono ?_)
  rintro e u6 ⟨rfl, hb⟩
  replace BB := Lib.hid (BB.out.trans (hb.mono BB.out.size))
  replace KK := Lib.hid (KK.out.below hb)
  replace sz5 := Nat.le_trans sz5 hb.size
  replace R := KK.out.rules
  simp only [Rules] at R
  clear hb
  obtain ⟨s6, hs6⟩ : ∃ s, u6.heap.size = s := ⟨_, rfl⟩
  rw [hs6] at sz5
  replace KK := Lib.hid (KK.out.new (t := 127) (c := #[Value.int IntKind.u64 r0, Value.int IntKind.u64 r1, Value.int IntKind.u64 r2, Value.int IntKind.u64 r3]) hs6)
  replace BB := Lib.hid (BB.out.alloc BB.out.size (.cells #[Value.int IntKind.u64 r0, Value.int IntKind.u64 r1, Value.int IntKind.u64 r2, Value.int IntKind.u64 r3] 127))
  replace R := KK.out.rules
  simp only [Rules] at R
  clear HP HT3 hs5
  by_cases h3 : l3 = r3
  case pos =>
    subst h3
    by_cases h2 : l2 = r2
    case pos =>
      subst h2
      by_cases h1 : l1 = r1
      case pos =>
        subst h1
        by_cases h0 : l0 = r0
        case pos =>
          subst h0
          obtain rfl : vB = true := HQ2.out.2.2.2.2 rfl rfl rfl rfl
          have E1 : ∀ W, (binOp .eql 127 (Value.agg #[Value.int IntKind.u64 l0, Value.int IntKind.u64 l1, Value.int IntKind.u64 l2, Value.int IntKind.u64 l3]) (Value.agg #[Value.int IntKind.u64 l0, Value.int IntKind.u64 l1, Value.int IntKind.u64 l2, Value.int IntKind.u64 l3])).run Try.prog W = .ok (.bool true) W := fun W => by rw [quad_eql]; simp
          clear HQ2
          go_wp2
          go_ret
          exact ⟨rfl, BB.out⟩
        case neg =>
          have hv := HQ2.out.2.2.2.1 rfl rfl rfl h0
          clear HQ2
          obtain ⟨bb, hbb⟩ : ∃ b, decide (l0 < r0) = b := ⟨_, rfl⟩
          rw [hbb] at hv
          subst hv
          have E1 : ∀ W, (binOp .eql 127 (Value.agg #[Value.int IntKind.u64 l0, Value.int IntKind.u64 l1, Value.int IntKind.u64 l2, Value.int IntKind.u64 l3]) (Value.agg #[Value.int IntKind.u64 r0, Value.int IntKind.u64 l1, Value.int IntKind.u64 l2, Value.int IntKind.u64 l3])).run Try.prog W = .ok (.bool false) W := fun W => by rw [quad_eql]; simp [h0]
          have hq : (l0 == r0) = false := by simpa using h0
          have hq2 : decide (l0 = r0) = false := decide_eq_false h0
          go_wp2_with fail
          obtain ⟨W6, hW, K6, B6, z6⟩ := name_world KK.out BB.out (s := 0) (by omega)
          rw [hW]
          clear hW KK BB R
          have KK := Lib.hid K6
          have BB := Lib.hid B6
          have R := K6.rules
          simp only [Rules] at R
          clear K6 B6 z6
          refine wp_loop_rounds 4 ?_
          rw [rounds_succ]
          go_wp2_with fail
          (refine gro.wp_region_grown (by kernel_rfl) (by kernel_rfl) ?_; (repeat (go_big_quiet_step ((fail)))); refine wpQuiet_nil ?_; intro _ hw'; obtain ⟨nx, hw''⟩ := hw'; subst hw'')
          replace KK := Lib.hid (KK.out.below (below_grown _ nx))
          replace BB := Lib.hid (BB.out.trans ((below_grown _ nx).mono BB.out.size))
          clear R
          generalize grown _ nx = W7 at *
          have R := KK.out.rules
          simp only [Rules] at R
          go_wp2_with fail
          rw [rounds_succ]
          go_wp2_with fail
          (refine gro.wp_region_grown (by kernel_rfl) (by kernel_rfl) ?_; (repeat (go_big_quiet_step ((fail)))); refine wpQuiet_nil ?_; intro _ hw'; obtain ⟨nx, hw''⟩ := hw'; subst hw'')
          replace KK := Lib.hid (KK.out.below (below_grown _ nx))
          replace BB := Lib.hid (BB.out.trans ((below_grown _ nx).mono BB.out.size))
          clear R
          generalize grown _ nx = W7 at *
          have R := KK.out.rules
          simp only [Rules] at R
          go_wp2_with fail
          rw [rounds_succ]
          go_wp2_with fail
          (refine gro.wp_region_grown (by kernel_rfl) (by kernel_rfl) ?_; (repeat (go_big_quiet_step ((fail)))); refine wpQuiet_nil ?_; intro _ hw'; obtain ⟨nx, hw''⟩ := hw'; subst hw'')
          replace KK := Lib.hid (KK.out.below (below_grown _ nx))
          replace BB := Lib.hid (BB.out.trans ((below_grown _ nx).mono BB.out.size))
          clear R
          generalize grown _ nx = W7 at *
          have R := KK.out.rules
          simp only [Rules] at R
          go_wp2_with fail
          rw [rounds_succ]
          go_wp2_with fail
          (refine gro.wp_region_grown (by kernel_rfl) (by kernel_rfl) ?_; (repeat (go_big_quiet_step ((fail)))); refine wpQuiet_nil ?_; intro _ hw'; obtain ⟨nx, hw''⟩ := hw'; subst hw'')
          replace KK := Lib.hid (KK.out.below (below_grown _ nx))
          replace BB := Lib.hid (BB.out.trans ((below_grown _ nx).mono BB.out.size))
          clear R
          generalize grown _ nx = W7 at *
          have R := KK.out.rules
          simp only [Rules] at R
          go_wp2_with fail
          (refine gro.wp_region_grown (by kernel_rfl) (by kernel_rfl) ?_; (repeat (go_big_quiet_step ((fail)))); refine wpQuiet_nil ?_; intro _ hw'; obtain ⟨nx, hw''⟩ := hw'; subst hw'')
          replace KK := Lib.hid (KK.out.below (below_grown _ nx))
          replace BB := Lib.hid (BB.out.trans ((below_grown _ nx).mono BB.out.size))
          clear R
          generalize grown _ nx = W7 at *
          have R := KK.out.rules
          simp only [Rules] at R
          go_wp2
          go_ret
          exact ⟨rfl, BB.out⟩
      case neg =>
        have hv := HQ2.out.2.2.1 rfl rfl h1
        clear HQ2
        obtain ⟨bb, hbb⟩ : ∃ b, decide (l1 < r1) = b := ⟨_, rfl⟩
        rw [hbb] at hv
        subst hv
        have E1 : ∀ W, (binOp .eql 127 (Value.agg #[Value.int IntKind.u64 l0, Value.int IntKind.u64 l1, Value.int IntKind.u64 l2, Value.int IntKind.u64 l3]) (Value.agg #[Value.int IntKind.u64 r0, Value.int IntKind.u64 r1, Value.int IntKind.u64 l2, Value.int IntKind.u64 l3])).run Try.prog W = .ok (.bool false) W := fun W => by rw [quad_eql]; simp [h1]
        have hq : (l1 == r1) = false := by simpa using h1
        have hq2 : decide (l1 = r1) = false := decide_eq_false h1
        go_wp2_with fail
        obtain ⟨W6, hW, K6, B6, z6⟩ := name_world KK.out BB.out (s := 0) (by omega)
        rw [hW]
        clear hW KK BB R
        have KK := Lib.hid K6
        have BB := Lib.hid B6
        have R := K6.rules
        simp only [Rules] at R
        clear K6 B6 z6
        refine wp_loop_rounds 3 ?_
        rw [rounds_succ]
        go_wp2_with fail
        (refine gro.wp_region_grown (by kernel_rfl) (by kernel_rfl) ?_; (repeat (go_big_quiet_step ((fail)))); refine wpQuiet_nil ?_; intro _ hw'; obtain ⟨nx, hw''⟩ := hw'; subst hw'')
        replace KK := Lib.hid (KK.out.below (below_grown _ nx))
        replace BB := Lib.hid (BB.out.trans ((below_grown _ nx).mono BB.out.size))
        clear R
        generalize grown _ nx = W7 at *
        have R := KK.out.rules
        simp only [Rules] at R
        go_wp2_with fail
        rw [rounds_succ]
        go_wp2_with fail
        (refine gro.wp_region_grown (by kernel_rfl) (by kernel_rfl) ?_; (repeat (go_big_quiet_step ((fail)))); refine wpQuiet_nil ?_; intro _ hw'; obtain ⟨nx, hw''⟩ := hw'; subst hw'')
        replace KK := Lib.hid (KK.out.below (below_grown _ nx))
        replace BB := Lib.hid (BB.out.trans ((below_grown _ nx).mono BB.out.size))
        clear R
        generalize grown _ nx = W7 at *
        have R := KK.out.rules
        simp only [Rules] at R
        go_wp2_with fail
        rw [rounds_succ]
        go_wp2_with fail
        (refine gro.wp_region_grown (by kernel_rfl) (by kernel_rfl) ?_; (repeat (go_big_quiet_step ((fail)))); refine wpQuiet_nil ?_; intro _ hw'; obtain ⟨nx, hw''⟩ := hw'; subst hw'')
        replace KK := Lib.hid (KK.out.below (below_grown _ nx))
        replace BB := Lib.hid (BB.out.trans ((below_grown _ nx).mono BB.out.size))
        clear R
        generalize grown _ nx = W7 at *
        have R := KK.out.rules
        simp only [Rules] at R
        go_wp2_with fail
        (refine gro.wp_region_grown (by kernel_rfl) (by kernel_rfl) ?_; (repeat (go_big_quiet_step ((fail)))); refine wpQuiet_nil ?_; intro _ hw'; obtain ⟨nx, hw''⟩ := hw'; subst hw'')
        replace KK := Lib.hid (KK.out.below (below_grown _ nx))
        replace BB := Lib.hid (BB.out.trans ((below_grown _ nx).mono BB.out.size))
        clear R
        generalize grown _ nx = W7 at *
        have R := KK.out.rules
        simp only [Rules] at R
        go_wp2
        go_ret
        exact ⟨rfl, BB.out⟩
    case neg =>
      have hv := HQ2.out.2.1 rfl h2
      clear HQ2
      obtain ⟨bb, hbb⟩ : ∃ b, decide (l2 < r2) = b := ⟨_, rfl⟩
      rw [hbb] at hv
      subst hv
      have E1 : ∀ W, (binOp .eql 127 (Value.agg #[Value.int IntKind.u64 l0, Value.int IntKind.u64 l1, Value.int IntKind.u64 l2, Value.int IntKind.u64 l3]) (Value.agg #[Value.int IntKind.u64 r0, Value.int IntKind.u64 r1, Value.int IntKind.u64 r2, Value.int IntKind.u64 l3])).run Try.prog W = .ok (.bool false) W := fun W => by rw [quad_eql]; simp [h2]
      have hq : (l2 == r2) = false := by simpa using h2
      have hq2 : decide (l2 = r2) = false := decide_eq_false h2
      go_wp2_with fail
      obtain ⟨W6, hW, K6, B6, z6⟩ := name_world KK.out BB.out (s := 0) (by omega)
      rw [hW]
      clear hW KK BB R
      have KK := Lib.hid K6
      have BB := Lib.hid B6
      have R := K6.rules
      simp only [Rules] at R
      clear K6 B6 z6
      refine wp_loop_rounds 2 ?_
      rw [rounds_succ]
      go_wp2_with fail
      (refine gro.wp_region_grown (by kernel_rfl) (by kernel_rfl) ?_; (repeat (go_big_quiet_step ((fail)))); refine wpQuiet_nil ?_; intro _ hw'; obtain ⟨nx, hw''⟩ := hw'; subst hw'')
      replace KK := Lib.hid (KK.out.below (below_grown _ nx))
      replace BB := Lib.hid (BB.out.trans ((below_grown _ nx).mono BB.out.size))
      clear R
      generalize grown _ nx = W7 at *
      have R := KK.out.rules
      simp only [Rules] at R
      go_wp2_with fail
      rw [rounds_succ]
      go_wp2_with fail
      (refine gro.wp_region_grown (by kernel_rfl) (by kernel_rfl) ?_; (repeat (go_big_quiet_step ((fail)))); refine wpQuiet_nil ?_; intro _ hw'; obtain ⟨nx, hw''⟩ := hw'; subst hw'')
      replace KK := Lib.hid (KK.out.below (below_grown _ nx))
      replace BB := Lib.hid (BB.out.trans ((below_grown _ nx).mono BB.out.size))
      clear R
      generalize grown _ nx = W7 at *
      have R := KK.out.rules
      simp only [Rules] at R
      go_wp2_with fail
      (refine gro.wp_region_grown (by kernel_rfl) (by kernel_rfl) ?_; (repeat (go_big_quiet_step ((fail)))); refine wpQuiet_nil ?_; intro _ hw'; obtain ⟨nx, hw''⟩ := hw'; subst hw'')
      replace KK := Lib.hid (KK.out.below (below_grown _ nx))
      replace BB := Lib.hid (BB.out.trans ((below_grown _ nx).mono BB.out.size))
      clear R
      generalize grown _ nx = W7 at *
      have R := KK.out.rules
      simp only [Rules] at R
      go_wp2
      go_ret
      exact ⟨rfl, BB.out⟩
  case neg =>
    have hv := HQ2.out.1 h3
    clear HQ2
    obtain ⟨bb, hbb⟩ : ∃ b, decide (l3 < r3) = b := ⟨_, rfl⟩
    rw [hbb] at hv
    subst hv
    have E1 : ∀ W, (binOp .eql 127 (Value.agg #[Value.int IntKind.u64 l0, Value.int IntKind.u64 l1, Value.int IntKind.u64 l2, Value.int IntKind.u64 l3]) (Value.agg #[Value.int IntKind.u64 r0, Value.int IntKind.u64 r1, Value.int IntKind.u64 r2, Value.int IntKind.u64 r3])).run Try.prog W = .ok (.bool false) W := fun W => by rw [quad_eql]; simp [h3]
    have hq : (l3 == r3) = false := by simpa using h3
    have hq2 : decide (l3 = r3) = false := decide_eq_false h3
    go_wp2_with fail
    obtain ⟨W6, hW, K6, B6, z6⟩ := name_world KK.out BB.out (s := 0) (by omega)
    rw [hW]
    clear hW KK BB R
    have KK := Lib.hid K6
    have BB := Lib.hid B6
    have R := K6.rules
    simp only [Rules] at R
    clear K6 B6 z6
    refine wp_loop_rounds 1 ?_
    rw [rounds_succ]
    go_wp2_with fail
    (refine gro.wp_region_grown (by kernel_rfl) (by kernel_rfl) ?_; (repeat (go_big_quiet_step ((fail)))); refine wpQuiet_nil ?_; intro _ hw'; obtain ⟨nx, hw''⟩ := hw'; subst hw'')
    replace KK := Lib.hid (KK.out.below (below_grown _ nx))
    replace BB := Lib.hid (BB.out.trans ((below_grown _ nx).mono BB.out.size))
    clear R
    generalize grown _ nx = W7 at *
    have R := KK.out.rules
    simp only [Rules] at R
    go_wp2_with fail
    (refine gro.wp_region_grown (by kernel_rfl) (by kernel_rfl) ?_; (repeat (go_big_quiet_step ((fail)))); refine wpQuiet_nil ?_; intro _ hw'; obtain ⟨nx, hw''⟩ := hw'; subst hw'')
    replace KK := Lib.hid (KK.out.below (below_grown _ nx))
    replace BB := Lib.hid (BB.out.trans ((below_grown _ nx).mono BB.out.size))
    clear R
    generalize grown _ nx = W7 at *
    have R := KK.out.rules
    simp only [Rules] at R
    go_wp2
    go_ret
    exact ⟨rfl, BB.out⟩
end Go.Proofs.Ytjapjfcennemeaa.wid
