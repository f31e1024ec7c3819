/- Contracts of Valid of rational numbers, in the code and in the reference. -/
import Derived.Test.YtnohkjalglogaaaGcdR
import Derived.Test.YtnohkjalglogaaaCross
namespace Go.Proofs.Ytnohkjalglogaaa.wid
open Go.RowKit Go.Proofs.Ytnohkjalglogaaa.mem Go.Proofs.Ytnohkjalglogaaa.gro
set_option linter.unusedVariables false
set_option maxHeartbeats 400000 in
theorem OfR_any (x : Int) (w : World) (h0 : 0 ≤ x) (h1 : x ≤ 18446744073709551615) :
    Calls Try.prog 79 #[.int .u64 x] w fun e w' => e = .returned (Value.agg #[Value.int IntKind.u64 (hi (x.toNat)), Value.int IntKind.u64 (lo (x.toNat))]) ∧ Below w.heap.size w w' := by
  go_enter Try.func79, Try.ntmps79
  go_wp2
  refine bodyPost_ret (v := Value.agg #[Value.int IntKind.u64 0, Value.int IntKind.u64 x]) (by simp [results, Try.results79, go_sem]) rfl ⟨?_, ?_⟩
  · rw [agg_W (hi_of h0 h1) (lo_of h0 h1)]
  · exact (Below.refl _ _).alloc (Nat.le_refl _) _
def RatOk (n d : Int) : Prop := 1 ≤ d ∧ Nat.gcd n.natAbs d.natAbs = 1
def validQ (n d : Int) : Bool := decide (1 ≤ d) && decide (Nat.gcd n.natAbs d.natAbs = 1)
theorem validQ_iff {n d : Int} : validQ n d = true ↔ RatOk n d := by simp [validQ, RatOk]
theorem gcd_lt {a b : Nat} (hb : 0 < b) (h : b < 340282366920938463463374607431768211456) : Nat.gcd a b < 340282366920938463463374607431768211456 :=
  Nat.lt_of_le_of_lt (Nat.gcd_le_right a hb) h
set_option maxHeartbeats 2000000 in
set_option maxRecDepth 100000 in
theorem Valid_any (n d : Int) (hn : I64 n) (hd : I64 d) (w : World) :
    Calls Try.prog 53 #[(Value.agg #[Value.int IntKind.i64 (n), Value.int IntKind.i64 ( d)])] w fun e w' => e = .returned (.bool (validQ n d)) ∧ Below w.heap.size w w' := by
  by_cases hp : 1 ≤ d
  · have HS := Lib.hid (fun W => sizeQ_any n W hn.1 hn.2)
    have HO1 : Hid (∀ W, Calls Try.prog 63 #[.int .u64 n.natAbs] W fun e w' => e = .returned (Value.agg #[Value.int IntKind.u64 (hi (n.natAbs)), Value.int IntKind.u64 (lo (n.natAbs))]) ∧ Below W.heap.size W w') := fun W => by
      have := Of_any n.natAbs W (by omega) (by unfold I64 at hn; omega)
      rwa [Int.toNat_natCast] at this
    have HO2 : Hid (∀ W, Calls Try.prog 63 #[.int .u64 d] W fun e w' => e = .returned (Value.agg #[Value.int IntKind.u64 (hi (d.natAbs)), Value.int IntKind.u64 (lo (d.natAbs))]) ∧ Below W.heap.size W w') := fun W => by
      have := Of_any d W (by omega) (by unfold I64 at hd; omega)
      rwa [show d.toNat = d.natAbs by omega] at this
    have HO3 : Hid (∀ W, Calls Try.prog 63 #[.int .u64 1] W fun e w' => e = .returned (Value.agg #[Value.int IntKind.u64 (hi (1)), Value.int IntKind.u64 (lo (1))]) ∧ Below W.heap.size W w') := fun W => Of_any 1 W (by omega) (by omega)
    have HG := Lib.hid (fun W => Gcd_any n.natAbs d.natAbs (by unfold I64 at hn; omega) (by unfold I64 at hd; omega) W)
    have hv : decide (Nat.gcd n.natAbs d.natAbs = 1) = validQ n d := by unfold validQ; rw [decide_eq_true hp, Bool.true_and]
    have hd2 := hd.2
    clear hn hd
    have heq : ∀ W, (binOp .eql 68 (Value.agg #[Value.int IntKind.u64 (hi (Nat.gcd n.natAbs d.natAbs)), Value.int IntKind.u64 (lo (Nat.gcd n.natAbs d.natAbs))]) (Value.agg #[Value.int IntKind.u64 (hi (1)), Value.int IntKind.u64 (lo (1))])).run Try.prog W = .ok (.bool (validQ n d)) W := fun W => by rw [wide_eql, hv]
    clear hv
    generalize validQ n d = v at *
    generalize Nat.gcd n.natAbs d.natAbs = g at *
    generalize n.natAbs = x at *
    generalize d.natAbs = y at *
    go_enter Try.func53, Try.ntmps53
    go_wp2_with fail
    obtain ⟨W0, hW, hs0, K0, B0⟩ := start1 w 47 #[Value.int IntKind.i64 n, Value.int IntKind.i64 d]
    rw [hW]
    clear hW
    have R := K0.rules
    simp only [Rules] at R
    (refine gro.wp_region_grown (by kernel_rfl) (by kernel_rfl) ?_; (repeat (go_big_quiet_step ((first | (go_at_call 64; exact call_same (HS.out _)) | (go_at_call 63; first | (with_reducible exact call_grown (HO1.out _)) | (with_reducible exact call_grown (HO2.out _)) | (with_reducible exact call_grown (HO3.out _))) | (go_at_call 62; exact call_grown (HG.out _)))))); refine wpQuiet_nil ?_; intro _ hw'; obtain ⟨nx, hw''⟩ := hw'; subst hw'')
    have B1 := Lib.hid (B0.trans ((below_grown W0 nx).mono (by omega)))
    clear R K0 B0
    go_wp2
    go_ret
    exact ⟨rfl, B1.out⟩
  · have hv : Hid (validQ n d = false) := by unfold validQ; rw [Hid, decide_eq_false hp, Bool.false_and]
    have hc : decide (1 ≤ d) = false := decide_eq_false hp
    go_enter Try.func53, Try.ntmps53
    go_wp2_with fail
    obtain ⟨W0, hW, hs0, K0, B0⟩ := start1 w 47 #[Value.int IntKind.i64 n, Value.int IntKind.i64 d]
    rw [hW]
    clear hW
    have R := K0.rules
    simp only [Rules] at R
    (refine gro.wp_region_grown (by kernel_rfl) (by kernel_rfl) ?_; (repeat (go_big_quiet_step ((fail)))); refine wpQuiet_nil ?_; intro _ hw'; obtain ⟨nx, hw''⟩ := hw'; subst hw'')
    have B1 := Lib.hid (B0.trans ((below_grown W0 nx).mono (by omega)))
    clear R K0 B0
    go_wp2
    go_ret
    exact ⟨ret_bool (by rw [hv.out]), B1.out⟩
set_option maxHeartbeats 2000000 in
set_option maxRecDepth 100000 in
theorem ValidR_any (n d : Int) (hn : I64 n) (hd : I64 d) (w : World) :
    Calls Try.prog 71 #[(Value.agg #[Value.int IntKind.i64 (n), Value.int IntKind.i64 ( d)])] w fun e w' => e = .returned (.bool (validQ n d)) ∧ Below w.heap.size w w' := by
  by_cases hp : 1 ≤ d
  · have HS := Lib.hid (fun W => Abs_any n W hn.1 hn.2)
    have HO1 : Hid (∀ W, Calls Try.prog 79 #[.int .u64 n.natAbs] W fun e w' => e = .returned (Value.agg #[Value.int IntKind.u64 (hi (n.natAbs)), Value.int IntKind.u64 (lo (n.natAbs))]) ∧ Below W.heap.size W w') := fun W => by
      have := OfR_any n.natAbs W (by omega) (by unfold I64 at hn; omega)
      rwa [Int.toNat_natCast] at this
    have HO2 : Hid (∀ W, Calls Try.prog 79 #[.int .u64 d] W fun e w' => e = .returned (Value.agg #[Value.int IntKind.u64 (hi (d.natAbs)), Value.int IntKind.u64 (lo (d.natAbs))]) ∧ Below W.heap.size W w') := fun W => by
      have := OfR_any d W (by omega) (by unfold I64 at hd; omega)
      rwa [show d.toNat = d.natAbs by omega] at this
    have HO3 : Hid (∀ W, Calls Try.prog 79 #[.int .u64 1] W fun e w' => e = .returned (Value.agg #[Value.int IntKind.u64 (hi (1)), Value.int IntKind.u64 (lo (1))]) ∧ Below W.heap.size W w') := fun W => OfR_any 1 W (by omega) (by omega)
    have HG := Lib.hid (fun W => GcdR_any n.natAbs d.natAbs (by unfold I64 at hn; omega) (by unfold I64 at hd; omega) W)
    have hv : decide (Nat.gcd n.natAbs d.natAbs = 1) = validQ n d := by unfold validQ; rw [decide_eq_true hp, Bool.true_and]
    have hd2 := hd.2
    clear hn hd
    have heq : ∀ W, (binOp .eql 68 (Value.agg #[Value.int IntKind.u64 (hi (Nat.gcd n.natAbs d.natAbs)), Value.int IntKind.u64 (lo (Nat.gcd n.natAbs d.natAbs))]) (Value.agg #[Value.int IntKind.u64 (hi (1)), Value.int IntKind.u64 (lo (1))])).run Try.prog W = .ok (.bool (validQ n d)) W := fun W => by rw [wide_eql, hv]
    clear hv
    generalize validQ n d = v at *
    generalize Nat.gcd n.natAbs d.natAbs = g at *
    generalize n.natAbs = x at *
    generalize d.natAbs = y at *
    go_enter Try.func71, Try.ntmps71
    go_wp2_with fail
    obtain ⟨W0, hW, hs0, K0, B0⟩ := start1 w 47 #[Value.int IntKind.i64 n, Value.int IntKind.i64 d]
    rw [hW]
    clear hW
    have R := K0.rules
    simp only [Rules] at R
    (refine gro.wp_region_grown (by kernel_rfl) (by kernel_rfl) ?_; (repeat (go_big_quiet_step ((first | (go_at_call 80; exact call_same (HS.out _)) | (go_at_call 79; first | (with_reducible exact call_grown (HO1.out _)) | (with_reducible exact call_grown (HO2.out _)) | (with_reducible exact call_grown (HO3.out _))) | (go_at_call 78; exact call_grown (HG.out _)))))); refine wpQuiet_nil ?_; intro _ hw'; obtain ⟨nx, hw''⟩ := hw'; subst hw'')
    have B1 := Lib.hid (B0.trans ((below_grown W0 nx).mono (by omega)))
    clear R K0 B0
    go_wp2
    go_ret
    exact ⟨rfl, B1.out⟩
  · have hv : Hid (validQ n d = false) := by unfold validQ; rw [Hid, decide_eq_false hp, Bool.false_and]
    have hc : decide (1 ≤ d) = false := decide_eq_false hp
    go_enter Try.func71, Try.ntmps71
    go_wp2_with fail
    obtain ⟨W0, hW, hs0, K0, B0⟩ := start1 w 47 #[Value.int IntKind.i64 n, Value.int IntKind.i64 d]
    rw [hW]
    clear hW
    have R := K0.rules
    simp only [Rules] at R
    (refine gro.wp_region_grown (by kernel_rfl) (by kernel_rfl) ?_; (repeat (go_big_quiet_step ((fail)))); refine wpQuiet_nil ?_; intro _ hw'; obtain ⟨nx, hw''⟩ := hw'; subst hw'')
    have B1 := Lib.hid (B0.trans ((below_grown W0 nx).mono (by omega)))
    clear R K0 B0
    go_wp2
    go_ret
    exact ⟨ret_bool (by rw [hv.out]), B1.out⟩
end Go.Proofs.Ytnohkjalglogaaa.wid
