/- GcdR, Cross, Rat: proved here in one text, no conditions beyond those that each theorem states. -/
import Derived.Deep.DeepCutAuto
import Derived.Test.YtjapjfcennemeaaGreatZ41
import Derived.Test.YtjapjfcennemeaaGreatZ45
import Derived.Test.YtjapjfcennemeaaGreatZ39
import Derived.Test.YtjapjfcennemeaaGreatZ38
import Derived.Test.YtjapjfcennemeaaGreatZ18
import Derived.Test.YtjapjfcennemeaaGreatZ17
set_option linter.unusedVariables false
set_option linter.unusedSimpArgs false
section
namespace Go.Proofs.YtjapjfcennemeaaGreat.wid
open Go.RowKit Go.Proofs.YtjapjfcennemeaaGreat.mem Go.Proofs.YtjapjfcennemeaaGreat.gro
set_option linter.unusedVariables false
set_option maxHeartbeats 2000000 in
set_option maxRecDepth 100000 in
theorem GcdR_any (a b : Nat) (ha : a < 340282366920938463463374607431768211456) (hb : b < 340282366920938463463374607431768211456) (w : World) :
    Calls Tryz.prog 103 #[(Value.agg #[Value.int IntKind.u64 (hi (a)), Value.int IntKind.u64 (lo (a))]), (Value.agg #[Value.int IntKind.u64 (hi (b)), Value.int IntKind.u64 (lo (b))])] w fun e w' => e = .returned (Value.agg #[Value.int IntKind.u64 (hi (Nat.gcd a b)), Value.int IntKind.u64 (lo (Nat.gcd a b))]) ∧ Below w.heap.size w w' := by
  obtain ⟨G, hG⟩ : ∃ G, Nat.gcd a b = G := ⟨_, rfl⟩
  have HG := Lib.hid hG
  rw [hG]
  clear hG
  go_enter Tryz.func103, Tryz.ntmps103
  go_wp2_with fail
  obtain ⟨W0, hW, hs0, K0, B0⟩ := start3 w 84 84 84 #[Value.int IntKind.u64 (hi a), Value.int IntKind.u64 (lo a)] #[Value.int IntKind.u64 (hi b), Value.int IntKind.u64 (lo b)] #[Value.int IntKind.u64 0, Value.int IntKind.u64 0]
  rw [hW]
  clear hW
  have HK0 := Lib.hid K0
  have HB0 := Lib.hid B0
  have z0 : w.heap.size + 1 + 1 + 1 ≤ W0.heap.size := by omega
  clear K0 B0 hs0
  go_loopg [] b (fun kx wr => ∃ x y : Nat, x < 340282366920938463463374607431768211456 ∧ y < 340282366920938463463374607431768211456 ∧ y ≤ kx ∧ w.heap.size + 1 + 1 + 1 ≤ wr.heap.size ∧ Hid (Nat.gcd x y = G) ∧ Hid (Below w.heap.size w wr) ∧
    Hid (Bx wr [(w.heap.size + 1 + 1, 84, #[Value.int IntKind.u64 0, Value.int IntKind.u64 0]), (w.heap.size + 1, 84, #[Value.int IntKind.u64 (hi y), Value.int IntKind.u64 (lo y)]), (w.heap.size, 84, #[Value.int IntKind.u64 (hi x), Value.int IntKind.u64 (lo x)])]))
  case atStart => exact ⟨a, b, ha, hb, Nat.le_refl _, z0, HG, HB0, HK0⟩
  case round =>
    obtain ⟨x, y, hx, hy, hyk, hz, HGx, HBx, HKx⟩ := hrel
    clear HG HB0 HK0 z0 hb ha
    have R := HKx.out.rules
    simp only [Rules] at R
    have hne : ∀ W, (binOp .neq 84 (Value.agg #[Value.int IntKind.u64 (hi (y)), Value.int IntKind.u64 (lo (y))]) (Value.agg #[Value.int IntKind.u64 0, Value.int IntKind.u64 0])).run Tryz.prog W = .ok (.bool (!decide (y = 0))) W := fun W => wide_neq y 0 W
    by_cases h0 : y = 0
    · subst h0
      rw [decide_eq_true rfl, Bool.not_true] at hne
      have hGx : Hid (x = G) := by have := HGx.out; rwa [Nat.gcd_zero_right] at this
      go_wp2
      refine bodyPost_ret (v := (Value.agg #[Value.int IntKind.u64 (hi (x)), Value.int IntKind.u64 (lo (x))])) (by simp [results, Tryz.results103, go_sem, R]) rfl ⟨?_, ?_⟩
      · rw [hGx.out]
      · exact (HBx.out.setCell (by first | (simp; done) | (simp; omega)) _).setCell (by first | (simp; done) | (simp; omega)) _
    · rw [decide_eq_false h0, Bool.not_false] at hne
      have HD := Lib.hid (fun W => DivR_any x y W hx hy)
      have hGy := Lib.hid ((gcd_step h0).trans HGx.out)
      have hlt : divr x y < y := by unfold divr; rw [if_neg h0]; exact Nat.mod_lt _ (by omega)
      generalize divr x y = rr at *
      generalize divq x y = qq at *
      generalize decide (y ≠ 0) = bb at *
      go_wp2_with fail
      refine (HD.out _).mono ?_
      rintro e w2 ⟨rfl, hb2⟩
      obtain ⟨K2, B2, z2⟩ := HKx.out.call HBx.out (by omega) hb2
      clear R
      have R := K2.rules
      simp only [Rules] at R
      obtain ⟨s2, hs2⟩ : ∃ s2, w2.heap.size = s2 := ⟨_, rfl⟩
      have HK2 := Lib.hid K2
      have HB2 := Lib.hid B2
      have z3 : w.heap.size + 1 + 1 + 1 ≤ s2 := by omega
      clear K2 B2 hb2 z2 HKx HBx hne
      go_wp2_with fail
      go_region
      have KP := (HK2.out.alloc (.cells #[Value.int IntKind.u64 (hi qq), Value.int IntKind.u64 (lo qq)] 84)).alloc (.cells #[Value.int IntKind.u64 (hi rr), Value.int IntKind.u64 (lo rr)] 84)
      have BP := (HB2.out.alloc (by omega) (.cells #[Value.int IntKind.u64 (hi qq), Value.int IntKind.u64 (lo qq)] 84)).alloc (by simp; omega) (.cells #[Value.int IntKind.u64 (hi rr), Value.int IntKind.u64 (lo rr)] 84)
      have sP : w.heap.size + 1 + 1 + 1 ≤ ((w2.alloc (.cells #[Value.int IntKind.u64 (hi qq), Value.int IntKind.u64 (lo qq)] 84)).alloc (.cells #[Value.int IntKind.u64 (hi rr), Value.int IntKind.u64 (lo rr)] 84)).heap.size := by simp; omega
      generalize (w2.alloc (.cells #[Value.int IntKind.u64 (hi qq), Value.int IntKind.u64 (lo qq)] 84)).alloc (.cells #[Value.int IntKind.u64 (hi rr), Value.int IntKind.u64 (lo rr)] 84) = WP at *
      go_wp2_with fail
      go_roundg rr
      case measure => omega
      case rel =>
        refine ⟨y, rr, hy, by omega, by omega, by simp only [World.drew, set2_size]; exact sP, hGy, (((((BP.setCell (by first | (simp; done) | (simp; omega)) _).setCell (by first | (simp; done) | (simp; omega)) _).setCell (by first | (simp; done) | (simp; omega)) _).setCell (by first | (simp; done) | (simp; omega)) _).drew), ?_⟩
        have KQ := KP.perm (L' := [(w.heap.size, 84, #[Value.int IntKind.u64 (hi x), Value.int IntKind.u64 (lo x)]), (w.heap.size + 1, 84, #[Value.int IntKind.u64 (hi y), Value.int IntKind.u64 (lo y)]), (w.heap.size + 1 + 1, 84, #[Value.int IntKind.u64 0, Value.int IntKind.u64 0])]) (by simp)
        exact (Bx.drew (Bx.put2 (Bx.swap (Bx.put2 KQ (by first | (simp; done) | (simp; omega)))) (by first | (simp; done) | (simp; omega)))).perm (by simp)
end Go.Proofs.YtjapjfcennemeaaGreat.wid
end
section
namespace Go.Proofs.YtjapjfcennemeaaGreat.wid
open Go.RowKit Go.Proofs.YtjapjfcennemeaaGreat.mem Go.Proofs.YtjapjfcennemeaaGreat.gro
set_option linter.unusedVariables false
def I64 (a : Int) : Prop := -9223372036854775808 ≤ a ∧ a ≤ 9223372036854775807
def cmpZ (X Y : Int) : Int := if X < Y then -1 else if X = Y then 0 else 1
end Go.Proofs.YtjapjfcennemeaaGreat.wid
end
section
namespace Go.Proofs.YtjapjfcennemeaaGreat.wid
open Go.RowKit Go.Proofs.YtjapjfcennemeaaGreat.mem Go.Proofs.YtjapjfcennemeaaGreat.gro
set_option linter.unusedVariables false
set_option maxHeartbeats 400000 in
theorem OfR_any (x : Int) (w : World) (h0 : 0 ≤ x) (h1 : x ≤ 18446744073709551615) :
    Calls Tryz.prog 95 #[.int .u64 x] w fun e w' => e = .returned (Value.agg #[Value.int IntKind.u64 (hi (x.toNat)), Value.int IntKind.u64 (lo (x.toNat))]) ∧ Below w.heap.size w w' := by
  go_enter Tryz.func95, Tryz.ntmps95
  go_wp2
  refine bodyPost_ret (v := Value.agg #[Value.int IntKind.u64 0, Value.int IntKind.u64 x]) (by simp [results, Tryz.results95, go_sem]) rfl ⟨?_, ?_⟩
  · rw [agg_W (hi_of h0 h1) (lo_of h0 h1)]
  · exact (Below.refl _ _).alloc (Nat.le_refl _) _
def validQ (n d : Int) : Bool := decide (1 ≤ d) && decide (Nat.gcd n.natAbs d.natAbs = 1)
set_option maxHeartbeats 2000000 in
set_option maxRecDepth 100000 in
theorem Valid_any (n d : Int) (hn : I64 n) (hd : I64 d) (w : World) :
    Calls Tryz.prog 72 #[(Value.agg #[Value.int IntKind.i64 (n), Value.int IntKind.i64 ( d)])] w fun e w' => e = .returned (.bool (validQ n d)) ∧ Below w.heap.size w w' := by
  by_cases hp : 1 ≤ d
  · have HS := Lib.hid (fun W => sizeQ_any n W hn.1 hn.2)
    have HO1 : Hid (∀ W, Calls Tryz.prog 56 #[.int .u64 n.natAbs] W fun e w' => e = .returned (Value.agg #[Value.int IntKind.u64 (hi (n.natAbs)), Value.int IntKind.u64 (lo (n.natAbs))]) ∧ Below W.heap.size W w') := fun W => by
      have := Of_any n.natAbs W (by omega) (by unfold I64 at hn; omega)
      rwa [Int.toNat_natCast] at this
    have HO2 : Hid (∀ W, Calls Tryz.prog 56 #[.int .u64 d] W fun e w' => e = .returned (Value.agg #[Value.int IntKind.u64 (hi (d.natAbs)), Value.int IntKind.u64 (lo (d.natAbs))]) ∧ Below W.heap.size W w') := fun W => by
      have := Of_any d W (by omega) (by unfold I64 at hd; omega)
      rwa [show d.toNat = d.natAbs by omega] at this
    have HO3 : Hid (∀ W, Calls Tryz.prog 56 #[.int .u64 1] W fun e w' => e = .returned (Value.agg #[Value.int IntKind.u64 (hi (1)), Value.int IntKind.u64 (lo (1))]) ∧ Below W.heap.size W w') := fun W => Of_any 1 W (by omega) (by omega)
    have HG := Lib.hid (fun W => Gcd_any n.natAbs d.natAbs (by unfold I64 at hn; omega) (by unfold I64 at hd; omega) W)
    have hv : decide (Nat.gcd n.natAbs d.natAbs = 1) = validQ n d := by unfold validQ; rw [decide_eq_true hp, Bool.true_and]
    have hd2 := hd.2
    clear hn hd
    have heq : ∀ W, (binOp .eql 84 (Value.agg #[Value.int IntKind.u64 (hi (Nat.gcd n.natAbs d.natAbs)), Value.int IntKind.u64 (lo (Nat.gcd n.natAbs d.natAbs))]) (Value.agg #[Value.int IntKind.u64 (hi (1)), Value.int IntKind.u64 (lo (1))])).run Tryz.prog W = .ok (.bool (validQ n d)) W := fun W => by rw [wide_eql, hv]
    clear hv
    generalize validQ n d = v at *
    generalize Nat.gcd n.natAbs d.natAbs = g at *
    generalize n.natAbs = x at *
    generalize d.natAbs = y at *
    go_enter Tryz.func72, Tryz.ntmps72
    go_wp2_with fail
    obtain ⟨W0, hW, hs0, K0, B0⟩ := start1 w 31 #[Value.int IntKind.i64 n, Value.int IntKind.i64 d]
    rw [hW]
    clear hW
    have R := K0.rules
    simp only [Rules] at R
    (refine gro.wp_region_grown (by kernel_rfl) (by kernel_rfl) ?_; (repeat (go_big_quiet_step ((first | (go_at_call 97; exact call_same (HS.out _)) | (go_at_call 56; first | (with_reducible exact call_grown (HO1.out _)) | (with_reducible exact call_grown (HO2.out _)) | (with_reducible exact call_grown (HO3.out _))) | (go_at_call 96; exact call_grown (HG.out _)))))); refine wpQuiet_nil ?_; intro _ hw'; obtain ⟨nx, hw''⟩ := hw'; subst hw'')
    have B1 := Lib.hid (B0.trans ((below_grown W0 nx).mono (by omega)))
    clear R K0 B0
    go_wp2
    go_ret
    exact ⟨rfl, B1.out⟩
  · have hv : Hid (validQ n d = false) := by unfold validQ; rw [Hid, decide_eq_false hp, Bool.false_and]
    have hc : decide (1 ≤ d) = false := decide_eq_false hp
    go_enter Tryz.func72, Tryz.ntmps72
    go_wp2_with fail
    obtain ⟨W0, hW, hs0, K0, B0⟩ := start1 w 31 #[Value.int IntKind.i64 n, Value.int IntKind.i64 d]
    rw [hW]
    clear hW
    have R := K0.rules
    simp only [Rules] at R
    (refine gro.wp_region_grown (by kernel_rfl) (by kernel_rfl) ?_; (repeat (go_big_quiet_step ((fail)))); refine wpQuiet_nil ?_; intro _ hw'; obtain ⟨nx, hw''⟩ := hw'; subst hw'')
    have B1 := Lib.hid (B0.trans ((below_grown W0 nx).mono (by omega)))
    clear R K0 B0
    go_wp2
    go_ret
    exact ⟨ret_bool (by rw [hv.out]), B1.out⟩
set_option maxHeartbeats 2000000 in
set_option maxRecDepth 100000 in
theorem ValidR_any (n d : Int) (hn : I64 n) (hd : I64 d) (w : World) :
    Calls Tryz.prog 98 #[(Value.agg #[Value.int IntKind.i64 (n), Value.int IntKind.i64 ( d)])] w fun e w' => e = .returned (.bool (validQ n d)) ∧ Below w.heap.size w w' := by
  by_cases hp : 1 ≤ d
  · have HS := Lib.hid (fun W => Abs_any n W hn.1 hn.2)
    have HO1 : Hid (∀ W, Calls Tryz.prog 95 #[.int .u64 n.natAbs] W fun e w' => e = .returned (Value.agg #[Value.int IntKind.u64 (hi (n.natAbs)), Value.int IntKind.u64 (lo (n.natAbs))]) ∧ Below W.heap.size W w') := fun W => by
      have := OfR_any n.natAbs W (by omega) (by unfold I64 at hn; omega)
      rwa [Int.toNat_natCast] at this
    have HO2 : Hid (∀ W, Calls Tryz.prog 95 #[.int .u64 d] W fun e w' => e = .returned (Value.agg #[Value.int IntKind.u64 (hi (d.natAbs)), Value.int IntKind.u64 (lo (d.natAbs))]) ∧ Below W.heap.size W w') := fun W => by
      have := OfR_any d W (by omega) (by unfold I64 at hd; omega)
      rwa [show d.toNat = d.natAbs by omega] at this
    have HO3 : Hid (∀ W, Calls Tryz.prog 95 #[.int .u64 1] W fun e w' => e = .returned (Value.agg #[Value.int IntKind.u64 (hi (1)), Value.int IntKind.u64 (lo (1))]) ∧ Below W.heap.size W w') := fun W => OfR_any 1 W (by omega) (by omega)
    have HG := Lib.hid (fun W => GcdR_any n.natAbs d.natAbs (by unfold I64 at hn; omega) (by unfold I64 at hd; omega) W)
    have hv : decide (Nat.gcd n.natAbs d.natAbs = 1) = validQ n d := by unfold validQ; rw [decide_eq_true hp, Bool.true_and]
    have hd2 := hd.2
    clear hn hd
    have heq : ∀ W, (binOp .eql 84 (Value.agg #[Value.int IntKind.u64 (hi (Nat.gcd n.natAbs d.natAbs)), Value.int IntKind.u64 (lo (Nat.gcd n.natAbs d.natAbs))]) (Value.agg #[Value.int IntKind.u64 (hi (1)), Value.int IntKind.u64 (lo (1))])).run Tryz.prog W = .ok (.bool (validQ n d)) W := fun W => by rw [wide_eql, hv]
    clear hv
    generalize validQ n d = v at *
    generalize Nat.gcd n.natAbs d.natAbs = g at *
    generalize n.natAbs = x at *
    generalize d.natAbs = y at *
    go_enter Tryz.func98, Tryz.ntmps98
    go_wp2_with fail
    obtain ⟨W0, hW, hs0, K0, B0⟩ := start1 w 31 #[Value.int IntKind.i64 n, Value.int IntKind.i64 d]
    rw [hW]
    clear hW
    have R := K0.rules
    simp only [Rules] at R
    (refine gro.wp_region_grown (by kernel_rfl) (by kernel_rfl) ?_; (repeat (go_big_quiet_step ((first | (go_at_call 104; exact call_same (HS.out _)) | (go_at_call 95; first | (with_reducible exact call_grown (HO1.out _)) | (with_reducible exact call_grown (HO2.out _)) | (with_reducible exact call_grown (HO3.out _))) | (go_at_call 103; exact call_grown (HG.out _)))))); refine wpQuiet_nil ?_; intro _ hw'; obtain ⟨nx, hw''⟩ := hw'; subst hw'')
    have B1 := Lib.hid (B0.trans ((below_grown W0 nx).mono (by omega)))
    clear R K0 B0
    go_wp2
    go_ret
    exact ⟨rfl, B1.out⟩
  · have hv : Hid (validQ n d = false) := by unfold validQ; rw [Hid, decide_eq_false hp, Bool.false_and]
    have hc : decide (1 ≤ d) = false := decide_eq_false hp
    go_enter Tryz.func98, Tryz.ntmps98
    go_wp2_with fail
    obtain ⟨W0, hW, hs0, K0, B0⟩ := start1 w 31 #[Value.int IntKind.i64 n, Value.int IntKind.i64 d]
    rw [hW]
    clear hW
    have R := K0.rules
    simp only [Rules] at R
    (refine gro.wp_region_grown (by kernel_rfl) (by kernel_rfl) ?_; (repeat (go_big_quiet_step ((fail)))); refine wpQuiet_nil ?_; intro _ hw'; obtain ⟨nx, hw''⟩ := hw'; subst hw'')
    have B1 := Lib.hid (B0.trans ((below_grown W0 nx).mono (by omega)))
    clear R K0 B0
    go_wp2
    go_ret
    exact ⟨ret_bool (by rw [hv.out]), B1.out⟩
end Go.Proofs.YtjapjfcennemeaaGreat.wid
end
