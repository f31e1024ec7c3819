/- Rat; Red: texts in one. -/
import Derived.Test.YtofgjcfiinmimaaMgGcdR
import Derived.Test.YtofgjcfiinmimaaCross
/- Contracts of Valid of rational numbers, in the code and in the reference. -/
namespace Go.Proofs.Ytofgjcfiinmimaa.wid
open Go.RowKit Go.Proofs.Ytofgjcfiinmimaa.mem Go.Proofs.Ytofgjcfiinmimaa.gro
set_option linter.unusedVariables false
set_option maxHeartbeats 400000 in
theorem OfR_any (x : Int) (w : World) (h0 : 0 ≤ x) (h1 : x ≤ 18446744073709551615) :
    Calls Try.prog 135 #[.int .u64 x] w fun e w' => e = .returned (Value.agg #[Value.int IntKind.u64 (hi (x.toNat)), Value.int IntKind.u64 (lo (x.toNat))]) ∧ Below w.heap.size w w' := by
  go_enter Try.func135, Try.ntmps135
  go_wp2
  refine bodyPost_ret (v := Value.agg #[Value.int IntKind.u64 0, Value.int IntKind.u64 x]) (by simp [results, Try.results135, go_sem]) rfl ⟨?_, ?_⟩
  · rw [agg_W (hi_of h0 h1) (lo_of h0 h1)]
  · exact (Below.refl _ _).alloc (Nat.le_refl _) _
def RatOk (n d : Int) : Prop := 1 ≤ d ∧ Nat.gcd n.natAbs d.natAbs = 1
def validQ (n d : Int) : Bool := decide (1 ≤ d) && decide (Nat.gcd n.natAbs d.natAbs = 1)
theorem validQ_iff {n d : Int} : validQ n d = true ↔ RatOk n d := by simp [validQ, RatOk]
theorem gcd_lt {a b : Nat} (hb : 0 < b) (h : b < 340282366920938463463374607431768211456) : Nat.gcd a b < 340282366920938463463374607431768211456 :=
  Nat.lt_of_le_of_lt (Nat.gcd_le_right a hb) h
set_option maxHeartbeats 2000000 in
set_option maxRecDepth 100000 in
theorem Valid_any (n d : Int) (hn : I64 n) (hd : I64 d) (w : World) :
    Calls Try.prog 81 #[(Value.agg #[Value.int IntKind.i64 (n), Value.int IntKind.i64 ( d)])] w fun e w' => e = .returned (.bool (validQ n d)) ∧ Below w.heap.size w w' := by
  by_cases hp : 1 ≤ d
  · have HS := Lib.hid (fun W => sizeQ_any n W hn.1 hn.2)
    have HO1 : Hid (∀ W, Calls Try.prog 108 #[.int .u64 n.natAbs] W fun e w' => e = .returned (Value.agg #[Value.int IntKind.u64 (hi (n.natAbs)), Value.int IntKind.u64 (lo (n.natAbs))]) ∧ Below W.heap.size W w') := fun W => by
      have := Of_any n.natAbs W (by omega) (by unfold I64 at hn; omega)
      rwa [Int.toNat_natCast] at this
    have HO2 : Hid (∀ W, Calls Try.prog 108 #[.int .u64 d] W fun e w' => e = .returned (Value.agg #[Value.int IntKind.u64 (hi (d.natAbs)), Value.int IntKind.u64 (lo (d.natAbs))]) ∧ Below W.heap.size W w') := fun W => by
      have := Of_any d W (by omega) (by unfold I64 at hd; omega)
      rwa [show d.toNat = d.natAbs by omega] at this
    have HO3 : Hid (∀ W, Calls Try.prog 108 #[.int .u64 1] W fun e w' => e = .returned (Value.agg #[Value.int IntKind.u64 (hi (1)), Value.int IntKind.u64 (lo (1))]) ∧ Below W.heap.size W w') := fun W => Of_any 1 W (by omega) (by omega)
    have HG := Lib.hid (fun W => Gcd_any n.natAbs d.natAbs (by unfold I64 at hn; omega) (by unfold I64 at hd; omega) W)
    have hv : decide (Nat.gcd n.natAbs d.natAbs = 1) = validQ n d := by unfold validQ; rw [decide_eq_true hp, Bool.true_and]
    have hd2 := hd.2
    clear hn hd
    have heq : ∀ W, (binOp .eql 99 (Value.agg #[Value.int IntKind.u64 (hi (Nat.gcd n.natAbs d.natAbs)), Value.int IntKind.u64 (lo (Nat.gcd n.natAbs d.natAbs))]) (Value.agg #[Value.int IntKind.u64 (hi (1)), Value.int IntKind.u64 (lo (1))])).run Try.prog W = .ok (.bool (validQ n d)) W := fun W => by rw [wide_eql, hv]
    clear hv
    generalize validQ n d = v at *
    generalize Nat.gcd n.natAbs d.natAbs = g at *
    generalize n.natAbs = x at *
    generalize d.natAbs = y at *
    go_enter Try.func81, Try.ntmps81
    go_wp2_with fail
    obtain ⟨W0, hW, hs0, K0, B0⟩ := start1 w 41 #[Value.int IntKind.i64 n, Value.int IntKind.i64 d]
    rw [hW]
    clear hW
    have R := K0.rules
    simp only [Rules] at R
    (refine gro.wp_region_grown (by kernel_rfl) (by kernel_rfl) ?_; (repeat (go_big_quiet_step ((first | (go_at_call 109; exact call_same (HS.out _)) | (go_at_call 108; first | (with_reducible exact call_grown (HO1.out _)) | (with_reducible exact call_grown (HO2.out _)) | (with_reducible exact call_grown (HO3.out _))) | (go_at_call 107; exact call_grown (HG.out _)))))); refine wpQuiet_nil ?_; intro _ hw'; obtain ⟨nx, hw''⟩ := hw'; subst hw'')
    have B1 := Lib.hid (B0.trans ((below_grown W0 nx).mono (by omega)))
    clear R K0 B0
    go_wp2
    go_ret
    exact ⟨rfl, B1.out⟩
  · have hv : Hid (validQ n d = false) := by unfold validQ; rw [Hid, decide_eq_false hp, Bool.false_and]
    have hc : decide (1 ≤ d) = false := decide_eq_false hp
    go_enter Try.func81, Try.ntmps81
    go_wp2_with fail
    obtain ⟨W0, hW, hs0, K0, B0⟩ := start1 w 41 #[Value.int IntKind.i64 n, Value.int IntKind.i64 d]
    rw [hW]
    clear hW
    have R := K0.rules
    simp only [Rules] at R
    (refine gro.wp_region_grown (by kernel_rfl) (by kernel_rfl) ?_; (repeat (go_big_quiet_step ((fail)))); refine wpQuiet_nil ?_; intro _ hw'; obtain ⟨nx, hw''⟩ := hw'; subst hw'')
    have B1 := Lib.hid (B0.trans ((below_grown W0 nx).mono (by omega)))
    clear R K0 B0
    go_wp2
    go_ret
    exact ⟨ret_bool (by rw [hv.out]), B1.out⟩
set_option maxHeartbeats 2000000 in
set_option maxRecDepth 100000 in
theorem ValidR_any (n d : Int) (hn : I64 n) (hd : I64 d) (w : World) :
    Calls Try.prog 119 #[(Value.agg #[Value.int IntKind.i64 (n), Value.int IntKind.i64 ( d)])] w fun e w' => e = .returned (.bool (validQ n d)) ∧ Below w.heap.size w w' := by
  by_cases hp : 1 ≤ d
  · have HS := Lib.hid (fun W => Abs_any n W hn.1 hn.2)
    have HO1 : Hid (∀ W, Calls Try.prog 135 #[.int .u64 n.natAbs] W fun e w' => e = .returned (Value.agg #[Value.int IntKind.u64 (hi (n.natAbs)), Value.int IntKind.u64 (lo (n.natAbs))]) ∧ Below W.heap.size W w') := fun W => by
      have := OfR_any n.natAbs W (by omega) (by unfold I64 at hn; omega)
      rwa [Int.toNat_natCast] at this
    have HO2 : Hid (∀ W, Calls Try.prog 135 #[.int .u64 d] W fun e w' => e = .returned (Value.agg #[Value.int IntKind.u64 (hi (d.natAbs)), Value.int IntKind.u64 (lo (d.natAbs))]) ∧ Below W.heap.size W w') := fun W => by
      have := OfR_any d W (by omega) (by unfold I64 at hd; omega)
      rwa [show d.toNat = d.natAbs by omega] at this
    have HO3 : Hid (∀ W, Calls Try.prog 135 #[.int .u64 1] W fun e w' => e = .returned (Value.agg #[Value.int IntKind.u64 (hi (1)), Value.int IntKind.u64 (lo (1))]) ∧ Below W.heap.size W w') := fun W => OfR_any 1 W (by omega) (by omega)
    have HG := Lib.hid (fun W => GcdR_any n.natAbs d.natAbs (by unfold I64 at hn; omega) (by unfold I64 at hd; omega) W)
    have hv : decide (Nat.gcd n.natAbs d.natAbs = 1) = validQ n d := by unfold validQ; rw [decide_eq_true hp, Bool.true_and]
    have hd2 := hd.2
    clear hn hd
    have heq : ∀ W, (binOp .eql 99 (Value.agg #[Value.int IntKind.u64 (hi (Nat.gcd n.natAbs d.natAbs)), Value.int IntKind.u64 (lo (Nat.gcd n.natAbs d.natAbs))]) (Value.agg #[Value.int IntKind.u64 (hi (1)), Value.int IntKind.u64 (lo (1))])).run Try.prog W = .ok (.bool (validQ n d)) W := fun W => by rw [wide_eql, hv]
    clear hv
    generalize validQ n d = v at *
    generalize Nat.gcd n.natAbs d.natAbs = g at *
    generalize n.natAbs = x at *
    generalize d.natAbs = y at *
    go_enter Try.func119, Try.ntmps119
    go_wp2_with fail
    obtain ⟨W0, hW, hs0, K0, B0⟩ := start1 w 41 #[Value.int IntKind.i64 n, Value.int IntKind.i64 d]
    rw [hW]
    clear hW
    have R := K0.rules
    simp only [Rules] at R
    (refine gro.wp_region_grown (by kernel_rfl) (by kernel_rfl) ?_; (repeat (go_big_quiet_step ((first | (go_at_call 122; exact call_same (HS.out _)) | (go_at_call 135; first | (with_reducible exact call_grown (HO1.out _)) | (with_reducible exact call_grown (HO2.out _)) | (with_reducible exact call_grown (HO3.out _))) | (go_at_call 134; exact call_grown (HG.out _)))))); refine wpQuiet_nil ?_; intro _ hw'; obtain ⟨nx, hw''⟩ := hw'; subst hw'')
    have B1 := Lib.hid (B0.trans ((below_grown W0 nx).mono (by omega)))
    clear R K0 B0
    go_wp2
    go_ret
    exact ⟨rfl, B1.out⟩
  · have hv : Hid (validQ n d = false) := by unfold validQ; rw [Hid, decide_eq_false hp, Bool.false_and]
    have hc : decide (1 ≤ d) = false := decide_eq_false hp
    go_enter Try.func119, Try.ntmps119
    go_wp2_with fail
    obtain ⟨W0, hW, hs0, K0, B0⟩ := start1 w 41 #[Value.int IntKind.i64 n, Value.int IntKind.i64 d]
    rw [hW]
    clear hW
    have R := K0.rules
    simp only [Rules] at R
    (refine gro.wp_region_grown (by kernel_rfl) (by kernel_rfl) ?_; (repeat (go_big_quiet_step ((fail)))); refine wpQuiet_nil ?_; intro _ hw'; obtain ⟨nx, hw''⟩ := hw'; subst hw'')
    have B1 := Lib.hid (B0.trans ((below_grown W0 nx).mono (by omega)))
    clear R K0 B0
    go_wp2
    go_ret
    exact ⟨ret_bool (by rw [hv.out]), B1.out⟩
end Go.Proofs.Ytofgjcfiinmimaa.wid

/- Contracts of reduced, in the code and in the reference. -/
namespace Go.Proofs.Ytofgjcfiinmimaa.wid
open Go.RowKit Go.Proofs.Ytofgjcfiinmimaa.mem Go.Proofs.Ytofgjcfiinmimaa.gro
set_option linter.unusedVariables false
def rp (n d : Nat) : Nat := n / Nat.gcd n d
def rq (n d : Nat) : Nat := d / Nat.gcd n d
def fitsP (neg : Bool) (p q : Nat) : Bool := decide (q < 9223372036854775808) && (decide (p < 9223372036854775808) || (decide (p = 9223372036854775808) && neg))
def redOk (neg : Bool) (n d : Nat) : Bool := fitsP neg (rp n d) (rq n d)
def redN (neg : Bool) (n d : Nat) : Int := if redOk neg n d = true then (if neg = true then -(rp n d : Int) else rp n d) else 0
def redD (neg : Bool) (n d : Nat) : Int := if redOk neg n d = true then rq n d else 0
theorem red_no {neg : Bool} {n d : Nat} (h : redOk neg n d = false) : redN neg n d = 0 ∧ redD neg n d = 0 := by unfold redN redD; rw [h]; exact ⟨rfl, rfl⟩
theorem red_yes {neg : Bool} {n d : Nat} (h : redOk neg n d = true) : redN neg n d = (if neg = true then -(rp n d : Int) else rp n d) ∧ redD neg n d = rq n d := by unfold redN redD; rw [h]; exact ⟨rfl, rfl⟩
theorem ret_red {a b c d : Int} {x y : Bool} (h1 : a = c) (h2 : b = d) (h3 : x = y) : Ending.returned (.tuple #[(Value.agg #[Value.int IntKind.i64 (a), Value.int IntKind.i64 ( b)]), .bool x]) = .returned (.tuple #[(Value.agg #[Value.int IntKind.i64 (c), Value.int IntKind.i64 ( d)]), .bool y]) := by rw [h1, h2, h3]
set_option maxHeartbeats 4000000 in
set_option maxRecDepth 100000 in
theorem reduced_any (neg : Bool) (n d : Nat) (hn : n < 340282366920938463463374607431768211456) (hd : d < 340282366920938463463374607431768211456) (h0 : 0 < d) (w : World) :
    Calls Try.prog 133 #[.bool neg, (Value.agg #[Value.int IntKind.u64 (hi (n)), Value.int IntKind.u64 (lo (n))]), (Value.agg #[Value.int IntKind.u64 (hi (d)), Value.int IntKind.u64 (lo (d))])] w fun e w' => e = .returned (.tuple #[(Value.agg #[Value.int IntKind.i64 (redN neg n d), Value.int IntKind.i64 ( redD neg n d)]), .bool (redOk neg n d)]) ∧ Below w.heap.size w w' := by
  have hg := gcd_lt (a := n) h0 hd
  have hg0 : 0 < Nat.gcd n d := Nat.gcd_pos_of_pos_right _ h0
  have HG := Lib.hid (fun W => Gcd_any n d hn hd W)
  have h1 := fun W => Div_any n (Nat.gcd n d) W hn hg
  have h2 := fun W => Div_any d (Nat.gcd n d) W hd hg
  rw [show divq n (Nat.gcd n d) = rp n d by unfold divq rp; rw [if_neg (by omega)]] at h1
  rw [show divq d (Nat.gcd n d) = rq n d by unfold divq rq; rw [if_neg (by omega)]] at h2
  have hp : rp n d < 340282366920938463463374607431768211456 := Nat.lt_of_le_of_lt (Nat.div_le_self _ _) hn
  have hq : rq n d < 340282366920938463463374607431768211456 := Nat.lt_of_le_of_lt (Nat.div_le_self _ _) hd
  have hok : redOk neg n d = fitsP neg (rp n d) (rq n d) := rfl
  have HN := Lib.hid (@red_no neg n d)
  have HY := Lib.hid (@red_yes neg n d)
  have H1 := Lib.hid h1
  have H2 := Lib.hid h2
  have HOK := Lib.hid hok
  clear h1 h2 hok hn hd h0 hg hg0
  generalize decide (Nat.gcd n d ≠ 0) = bb at *
  generalize Nat.gcd n d = g at *
  generalize divr n g = r1 at *
  generalize divr d g = r2 at *
  generalize redOk neg n d = ok at *
  generalize redN neg n d = rn at *
  generalize redD neg n d = rd at *
  generalize rp n d = p at *
  generalize rq n d = q at *
  go_enter Try.func133, Try.ntmps133
  go_wp2_with fail
  obtain ⟨W0, hW, hs0, K0, B0⟩ := start3 w 99 99 41 #[Value.int IntKind.u64 (hi n), Value.int IntKind.u64 (lo n)] #[Value.int IntKind.u64 (hi d), Value.int IntKind.u64 (lo d)] #[Value.int IntKind.i64 0, Value.int IntKind.i64 0]
  rw [hW]
  clear hW
  refine (HG.out _).mono ?_
  rintro e w1 ⟨rfl, hb1⟩
  obtain ⟨K1, B1, z1⟩ := K0.call B0 (by omega) hb1
  obtain ⟨s1, hs1⟩ : ∃ s1, w1.heap.size = s1 := ⟨_, rfl⟩
  have R := K1.rules
  simp only [Rules] at R
  have HK1 := Lib.hid K1
  have HB1 := Lib.hid B1
  clear K0 B0 K1 B1 hb1
  go_wp2_with fail
  obtain ⟨W2, hW2, K2, B2, z2⟩ := name_world (HK1.out.new (t := 99) (c := #[Value.int IntKind.u64 (hi g), Value.int IntKind.u64 (lo g)]) hs1) (HB1.out.alloc (by omega) _) (s := s1 + 1) (by simp; omega)
  rw [hW2]
  clear hW2 R HK1 HB1
  refine (H1.out _).mono ?_
  rintro e w3 ⟨rfl, hb3⟩
  obtain ⟨K3, B3, z3⟩ := K2.call B2 (by omega) hb3
  have R := K3.rules
  simp only [Rules] at R
  have HK3 := Lib.hid K3
  have HB3 := Lib.hid B3
  clear K2 B2 K3 B3 hb3
  go_wp2_with fail
  have KP := HK3.out.perm (L' := [(w.heap.size, 99, #[Value.int IntKind.u64 (hi n), Value.int IntKind.u64 (lo n)]), (w.heap.size + 1, 99, #[Value.int IntKind.u64 (hi d), Value.int IntKind.u64 (lo d)]), (w.heap.size + 1 + 1, 41, #[Value.int IntKind.i64 0, Value.int IntKind.i64 0]), (s1, 99, #[Value.int IntKind.u64 (hi g), Value.int IntKind.u64 (lo g)])]) (by simp)
  obtain ⟨W4, hW4, K4, B4, z4⟩ := name_world (KP.put2 (u := .int .u64 (hi p)) (v := .int .u64 (lo p)) (by simp; omega)) ((HB3.out.setCell (by first | (simp; done) | (simp; omega)) _).setCell (by first | (simp; done) | (simp; omega)) _) (s := s1 + 1) (by simp only [set2_size]; omega)
  rw [hW4]
  clear hW4 R HK3 HB3 KP
  refine (H2.out _).mono ?_
  rintro e w5 ⟨rfl, hb5⟩
  obtain ⟨K5, B5, z5⟩ := K4.call B4 (by omega) hb5
  have R := K5.rules
  simp only [Rules] at R
  have HK5 := Lib.hid K5
  have HB5 := Lib.hid B5
  clear K4 B4 K5 B5 hb5
  have hh1 := hi_bd hp
  have hh2 := lo_bd p
  have hh3 := hi_bd hq
  have hh4 := lo_bd q
  have hps := hi_lo p
  have hqs := hi_lo q
  have HPS := Lib.hid hps
  have HQS := Lib.hid hqs
  clear hps hqs hp hq
  generalize hi p = hp at *
  generalize lo p = lp at *
  generalize hi q = hq at *
  generalize lo q = lq at *
  by_cases c1 : hp = 0
  · by_cases c2 : hq = 0
    · subst c1 c2
      by_cases c3 : lq < 9223372036854775808
      · by_cases c4 : lp ≤ 9223372036854775808
        · cases neg
          · by_cases c5 : lp = 9223372036854775808
            · have hk : ok = false := by have h1 := HPS.out; have h2 := HQS.out; rw [HOK.out]; unfold fitsP; simp; omega
              have c6 : (lp == 9223372036854775808) = true := by simpa using c5
              clear c5
              have HK := Lib.hid hk
              clear hk
              go_wp2
              refine bodyPost_ret (v := Value.tuple #[(Value.agg #[Value.int IntKind.i64 (0), Value.int IntKind.i64 ( 0)]), Value.bool false]) (by simp [results, Try.results133, go_sem, R]) rfl ⟨?_, ?_⟩
              · obtain ⟨e1, e2⟩ := HN.out HK.out
                exact ret_red e1.symm e2.symm HK.out.symm
              · exact (((HB5.out.setCell (by first | (simp; done) | (simp; omega)) _).setCell (by first | (simp; done) | (simp; omega)) _).setCell (by first | (simp; done) | (simp; omega)) _).setCell (by first | (simp; done) | (simp; omega)) _
            · have hk : ok = true := by have h1 := HPS.out; have h2 := HQS.out; rw [HOK.out]; unfold fitsP; simp; omega
              have c6 : (lp == 9223372036854775808) = false := by simpa using c5
              have c7 : lp ≤ 9223372036854775807 := by omega
              clear c5
              have HK := Lib.hid hk
              clear hk
              go_wp2
              refine bodyPost_ret (v := Value.tuple #[(Value.agg #[Value.int IntKind.i64 (lp), Value.int IntKind.i64 ( lq)]), Value.bool true]) (by simp [results, Try.results133, go_sem, R]) rfl ⟨?_, ?_⟩
              · obtain ⟨e1, e2⟩ := HY.out HK.out
                have h1 := HPS.out
                have h2 := HQS.out
                exact ret_red (by rw [e1]; simp; omega) (by rw [e2]; omega) HK.out.symm
              · exact (((HB5.out.setCell (by first | (simp; done) | (simp; omega)) _).setCell (by first | (simp; done) | (simp; omega)) _).setCell (by first | (simp; done) | (simp; omega)) _).setCell (by first | (simp; done) | (simp; omega)) _
          · have hk : ok = true := by have h1 := HPS.out; have h2 := HQS.out; rw [HOK.out]; unfold fitsP; simp; omega
            obtain ⟨un, hun⟩ : ∃ un, IntKind.u64.wrap (-lp) = un := ⟨_, rfl⟩
            have hun2 : wrap64 un = -lp := by rw [← hun, IntKind.wrap_u64]; unfold wrap64; omega
            obtain ⟨bz, hbz⟩ : ∃ bz, (lp == 9223372036854775808) = bz := ⟨_, rfl⟩
            cases bz
            all_goals
              have HK := Lib.hid hk
              clear hk
              go_wp2
              refine bodyPost_ret (v := Value.tuple #[(Value.agg #[Value.int IntKind.i64 (-lp), Value.int IntKind.i64 ( lq)]), Value.bool true]) (by simp [results, Try.results133, go_sem, R]) rfl ⟨?_, ?_⟩
              · obtain ⟨e1, e2⟩ := HY.out HK.out
                have h1 := HPS.out
                have h2 := HQS.out
                exact ret_red (by rw [e1]; simp; omega) (by rw [e2]; omega) HK.out.symm
              · exact (((HB5.out.setCell (by first | (simp; done) | (simp; omega)) _).setCell (by first | (simp; done) | (simp; omega)) _).setCell (by first | (simp; done) | (simp; omega)) _).setCell (by first | (simp; done) | (simp; omega)) _
        · have hk : ok = false := by have h1 := HPS.out; have h2 := HQS.out; rw [HOK.out]; unfold fitsP; simp; omega
          have HK := Lib.hid hk
          clear hk
          go_wp2
          refine bodyPost_ret (v := Value.tuple #[(Value.agg #[Value.int IntKind.i64 (0), Value.int IntKind.i64 ( 0)]), Value.bool false]) (by simp [results, Try.results133, go_sem, R]) rfl ⟨?_, ?_⟩
          · obtain ⟨e1, e2⟩ := HN.out HK.out
            exact ret_red e1.symm e2.symm HK.out.symm
          · exact (((HB5.out.setCell (by first | (simp; done) | (simp; omega)) _).setCell (by first | (simp; done) | (simp; omega)) _).setCell (by first | (simp; done) | (simp; omega)) _).setCell (by first | (simp; done) | (simp; omega)) _
      · have hk : ok = false := by have h1 := HPS.out; have h2 := HQS.out; rw [HOK.out]; unfold fitsP; simp; omega
        have HK := Lib.hid hk
        clear hk
        go_wp2
        refine bodyPost_ret (v := Value.tuple #[(Value.agg #[Value.int IntKind.i64 (0), Value.int IntKind.i64 ( 0)]), Value.bool false]) (by simp [results, Try.results133, go_sem, R]) rfl ⟨?_, ?_⟩
        · obtain ⟨e1, e2⟩ := HN.out HK.out
          exact ret_red e1.symm e2.symm HK.out.symm
        · exact (((HB5.out.setCell (by first | (simp; done) | (simp; omega)) _).setCell (by first | (simp; done) | (simp; omega)) _).setCell (by first | (simp; done) | (simp; omega)) _).setCell (by first | (simp; done) | (simp; omega)) _
    · have hk : ok = false := by have h1 := HPS.out; have h2 := HQS.out; rw [HOK.out]; unfold fitsP; simp; omega
      have HK := Lib.hid hk
      clear hk
      go_wp2
      refine bodyPost_ret (v := Value.tuple #[(Value.agg #[Value.int IntKind.i64 (0), Value.int IntKind.i64 ( 0)]), Value.bool false]) (by simp [results, Try.results133, go_sem, R]) rfl ⟨?_, ?_⟩
      · obtain ⟨e1, e2⟩ := HN.out HK.out
        exact ret_red e1.symm e2.symm HK.out.symm
      · exact (((HB5.out.setCell (by first | (simp; done) | (simp; omega)) _).setCell (by first | (simp; done) | (simp; omega)) _).setCell (by first | (simp; done) | (simp; omega)) _).setCell (by first | (simp; done) | (simp; omega)) _
  · have hk : ok = false := by have h1 := HPS.out; have h2 := HQS.out; rw [HOK.out]; unfold fitsP; simp; omega
    have HK := Lib.hid hk
    clear hk
    go_wp2
    refine bodyPost_ret (v := Value.tuple #[(Value.agg #[Value.int IntKind.i64 (0), Value.int IntKind.i64 ( 0)]), Value.bool false]) (by simp [results, Try.results133, go_sem, R]) rfl ⟨?_, ?_⟩
    · obtain ⟨e1, e2⟩ := HN.out HK.out
      exact ret_red e1.symm e2.symm HK.out.symm
    · exact (((HB5.out.setCell (by first | (simp; done) | (simp; omega)) _).setCell (by first | (simp; done) | (simp; omega)) _).setCell (by first | (simp; done) | (simp; omega)) _).setCell (by first | (simp; done) | (simp; omega)) _
end Go.Proofs.Ytofgjcfiinmimaa.wid
