/- Contracts of Mul and Div of rational numbers. -/
import Derived.Test.YtoejhikcnnppnaaSum
import Derived.Deep.DeepCutAuto
namespace Go.Proofs.Ytoejhikcnnppnaa.wid
open Go.RowKit Go.Proofs.Ytoejhikcnnppnaa.mem Go.Proofs.Ytoejhikcnnppnaa.gro
set_option linter.unusedVariables false
def mulQN (n d m e : Int) : Int := if validQ n d = true ∧ validQ m e = true then rN (n * m) (d * e) else 0
def mulQD (n d m e : Int) : Int := if validQ n d = true ∧ validQ m e = true then rD (n * m) (d * e) else 0
def mulQOk (n d m e : Int) : Bool := validQ n d && validQ m e && rOk (n * m) (d * e)
def dv (n m e : Int) : Int := (if m < 0 then -n else n) * e
def divQN (n d m e : Int) : Int := if validQ n d = true ∧ validQ m e = true ∧ m ≠ 0 then rN (dv n m e) (d * m) else 0
def divQD (n d m e : Int) : Int := if validQ n d = true ∧ validQ m e = true ∧ m ≠ 0 then rD (dv n m e) (d * m) else 0
def divQOk (n d m e : Int) : Bool := validQ n d && validQ m e && decide (m ≠ 0) && rOk (dv n m e) (d * m)
theorem mul_yes {n d m e : Int} (hv : validQ n d = true) (hu : validQ m e = true) : mulQN n d m e = rN (n * m) (d * e) ∧ mulQD n d m e = rD (n * m) (d * e) ∧ mulQOk n d m e = rOk (n * m) (d * e) := by
  unfold mulQN mulQD mulQOk
  rw [if_pos ⟨hv, hu⟩, if_pos ⟨hv, hu⟩, hv, hu]
  exact ⟨rfl, rfl, rfl⟩
theorem mul_no {n d m e : Int} (h : ¬ (validQ n d = true ∧ validQ m e = true)) : mulQN n d m e = 0 ∧ mulQD n d m e = 0 ∧ mulQOk n d m e = false := by
  unfold mulQN mulQD mulQOk
  rw [if_neg h, if_neg h]
  refine ⟨rfl, rfl, ?_⟩
  cases h1 : validQ n d <;> cases h2 : validQ m e <;> simp_all
theorem div_yes {n d m e : Int} (hv : validQ n d = true) (hu : validQ m e = true) (hm : m ≠ 0) : divQN n d m e = rN (dv n m e) (d * m) ∧ divQD n d m e = rD (dv n m e) (d * m) ∧ divQOk n d m e = rOk (dv n m e) (d * m) := by
  unfold divQN divQD divQOk
  rw [if_pos ⟨hv, hu, hm⟩, if_pos ⟨hv, hu, hm⟩, hv, hu, decide_eq_true hm]
  exact ⟨rfl, rfl, rfl⟩
theorem div_no {n d m e : Int} (h : ¬ (validQ n d = true ∧ validQ m e = true ∧ m ≠ 0)) : divQN n d m e = 0 ∧ divQD n d m e = 0 ∧ divQOk n d m e = false := by
  unfold divQN divQD divQOk
  rw [if_neg h, if_neg h]
  refine ⟨rfl, rfl, ?_⟩
  cases h1 : validQ n d <;> cases h2 : validQ m e <;> simp_all
theorem mul_flag {n m : Int} (h : n * m ≠ 0) : (!(decide (n < 0) == decide (m < 0))) = decide (n * m < 0) := by
  rcases Int.lt_trichotomy n 0 with a | a | a <;> rcases Int.lt_trichotomy m 0 with b | b | b
  · have := Int.mul_pos_of_neg_of_neg a b
    simp [a, b]; omega
  · subst b; simp at h
  · have := Int.mul_neg_of_neg_of_pos a b
    simp [a, this]; omega
  · subst a; simp at h
  · subst a; simp at h
  · subst a; simp at h
  · have := Int.mul_neg_of_pos_of_neg a b
    simp [b, this]; omega
  · subst b; simp at h
  · have := Int.mul_pos a b
    rw [decide_eq_false (by omega), decide_eq_false (by omega), decide_eq_false (by omega)]; rfl
theorem div_flag {n m e : Int} (he : 1 ≤ e) (hm : m ≠ 0) (h : dv n m e ≠ 0) : (!(decide (n < 0) == decide (m < 0))) = decide (dv n m e < 0) := by
  unfold dv at *
  have hz : (if m < 0 then -n else n) ≠ 0 := by intro h0; rw [h0] at h; simp at h
  obtain ⟨p1, p2⟩ := @sign_mul_pos (if m < 0 then -n else n) e he
  simp only [p1]
  clear p1 p2 h
  by_cases hc : m < 0
  · simp only [if_pos hc] at hz ⊢
    by_cases ha : n < 0
    · rw [decide_eq_true ha, decide_eq_true hc, decide_eq_false (by omega)]; rfl
    · rw [decide_eq_false ha, decide_eq_true hc, decide_eq_true (by omega)]; rfl
  · simp only [if_neg hc] at hz ⊢
    rw [decide_eq_false hc]
    by_cases ha : n < 0
    · rw [decide_eq_true ha]; rfl
    · rw [decide_eq_false ha]; rfl
theorem dv_abs (n m e : Int) : (dv n m e).natAbs = n.natAbs * e.natAbs := by
  unfold dv; rw [Int.natAbs_mul]; split <;> simp
theorem mul_zero_iff {n m : Int} : n * m = 0 ↔ n.natAbs * m.natAbs = 0 := by rw [← Int.natAbs_mul]; omega
theorem prod_any {F : FuncId} (hP : ∀ (x y : Int), 0 ≤ x → x ≤ 18446744073709551615 → 0 ≤ y → y ≤ 18446744073709551615 → ∀ W : World, Calls Try.prog F #[.int .u64 x, .int .u64 y] W fun e w' => e = .returned (Value.agg #[Value.int IntKind.u64 (hi (x.toNat * y.toNat)), Value.int IntKind.u64 (lo (x.toNat * y.toNat))]) ∧ Below W.heap.size W w')
    (n m : Int) (hn : I64 n) (hm : I64 m) (W : World) : Calls Try.prog F #[.int .u64 n.natAbs, .int .u64 m.natAbs] W fun x w' => x = .returned (Value.agg #[Value.int IntKind.u64 (hi (n.natAbs * m.natAbs)), Value.int IntKind.u64 (lo (n.natAbs * m.natAbs))]) ∧ Below W.heap.size W w' := by
  have := hP n.natAbs m.natAbs (by omega) (by unfold I64 at hn; omega) (by omega) (by unfold I64 at hm; omega) W
  rwa [Int.toNat_natCast, Int.toNat_natCast] at this
theorem prod_by {F : FuncId} (hP : ∀ (x y : Int), 0 ≤ x → x ≤ 18446744073709551615 → 0 ≤ y → y ≤ 18446744073709551615 → ∀ W : World, Calls Try.prog F #[.int .u64 x, .int .u64 y] W fun e w' => e = .returned (Value.agg #[Value.int IntKind.u64 (hi (x.toNat * y.toNat)), Value.int IntKind.u64 (lo (x.toNat * y.toNat))]) ∧ Below W.heap.size W w')
    (d m : Int) (hd : I64 d) (hm : I64 m) (hd1 : 1 ≤ d) (W : World) : Calls Try.prog F #[.int .u64 d, .int .u64 m.natAbs] W fun x w' => x = .returned (Value.agg #[Value.int IntKind.u64 (hi ((d * m).natAbs)), Value.int IntKind.u64 (lo ((d * m).natAbs))]) ∧ Below W.heap.size W w' := by
  have := hP d m.natAbs (by omega) (by unfold I64 at hd; omega) (by omega) (by unfold I64 at hm; omega) W
  rwa [Int.toNat_natCast, show d.toNat = d.natAbs by omega, ← Int.natAbs_mul] at this
set_option maxHeartbeats 8000000 in
set_option maxRecDepth 100000 in
theorem mulQ_any (n d m e : Int) (hn : I64 n) (hd : I64 d) (hm : I64 m) (he : I64 e) (w : World) :
    Calls Try.prog 30 #[(Value.agg #[Value.int IntKind.i64 (n), Value.int IntKind.i64 ( d)]), (Value.agg #[Value.int IntKind.i64 (m), Value.int IntKind.i64 ( e)])] w fun x w' => x = .returned (.tuple #[(Value.agg #[Value.int IntKind.i64 (mulQN n d m e), Value.int IntKind.i64 ( mulQD n d m e)]), .bool (mulQOk n d m e)]) ∧ Below w.heap.size w w' := by
  have HV := Lib.hid (fun W => Valid_any n d hn hd W)
  have HU := Lib.hid (fun W => Valid_any m e hm he W)
  by_cases hv : validQ n d = true
  · by_cases hu : validQ m e = true
    · rw [hv] at HV
      rw [hu] at HU
      have hd1 := (validQ_iff.1 hv).1
      have he1 := (validQ_iff.1 hu).1
      have HE := @mul_yes n d m e hv hu
      have HS1 := Lib.hid (fun W => sizeQ_any n W hn.1 hn.2)
      have HS2 := Lib.hid (fun W => sizeQ_any m W hm.1 hm.2)
      have HP1 := Lib.hid (prod_any (F := 66) (fun x y a b c d W => Product_any x y a b c d W) n m hn hm)
      have HP2 := Lib.hid (prod_pos (F := 66) (fun x y a b c d W => Product_any x y a b c d W) d e hd he hd1 he1)
      have bX : n.natAbs * m.natAbs < 340282366920938463463374607431768211456 := Nat.lt_of_le_of_lt (Nat.mul_le_mul (show n.natAbs ≤ 9223372036854775808 by unfold I64 at hn; omega) (show m.natAbs ≤ 9223372036854775808 by unfold I64 at hm; omega)) (by omega)
      have bD : (d * e).natAbs < 340282366920938463463374607431768211456 ∧ 0 < (d * e).natAbs := by
        rw [Int.natAbs_mul]
        have := Nat.mul_le_mul (show d.natAbs ≤ 9223372036854775808 by unfold I64 at hd; omega) (show e.natAbs ≤ 9223372036854775808 by unfold I64 at he; omega)
        have h2 := Nat.mul_pos (show 0 < d.natAbs by omega) (show 0 < e.natAbs by omega)
        omega
      have hnA : (n * m).natAbs = n.natAbs * m.natAbs := Int.natAbs_mul n m
      have HR : Hid (∀ (f : Bool), (n * m ≠ 0 → f = decide (n * m < 0)) → ∀ W, Calls Try.prog 64 #[.bool f, (Value.agg #[Value.int IntKind.u64 (hi (n.natAbs * m.natAbs)), Value.int IntKind.u64 (lo (n.natAbs * m.natAbs))]), (Value.agg #[Value.int IntKind.u64 (hi ((d * e).natAbs)), Value.int IntKind.u64 (lo ((d * e).natAbs))])] W fun x w' => x = .returned (.tuple #[(Value.agg #[Value.int IntKind.i64 (mulQN n d m e), Value.int IntKind.i64 ( mulQD n d m e)]), .bool (mulQOk n d m e)]) ∧ Below W.heap.size W w') := fun f hf W => by
        have := reduced_any f (n * m).natAbs (d * e).natAbs (by rw [hnA]; exact bX) bD.1 bD.2 W
        rwa [(red_sign (D := d * e) hf).1, (red_sign (D := d * e) hf).2.1, (red_sign (D := d * e) hf).2.2, ← HE.1, ← HE.2.1, ← HE.2.2, hnA] at this
      have HG : Hid (n * m ≠ 0 → (!(decide (n < 0) == decide (m < 0))) = decide (n * m < 0)) := fun h => mul_flag h
      have HZ : Hid (n.natAbs * m.natAbs ≠ 0 ↔ n * m ≠ 0) := by rw [← hnA]; unfold Hid; omega
      obtain ⟨bn, hbn⟩ : ∃ b, decide (n < 0) = b := ⟨_, rfl⟩
      obtain ⟨bm, hbm⟩ : ∃ b, decide (m < 0) = b := ⟨_, rfl⟩
      rw [hbn, hbm] at HG
      have hed : d ≤ 9223372036854775807 := hd.2
      have hee : e ≤ 9223372036854775807 := he.2
      clear HE hnA bX bD hn hd hm he hv hu
      generalize mulQN n d m e = yn at *
      generalize mulQD n d m e = yd at *
      generalize mulQOk n d m e = yk at *
      have HR2 : Hid (∀ W, Calls Try.prog 64 #[.bool (!(bn == bm)), (Value.agg #[Value.int IntKind.u64 (hi (n.natAbs * m.natAbs)), Value.int IntKind.u64 (lo (n.natAbs * m.natAbs))]), (Value.agg #[Value.int IntKind.u64 (hi ((d * e).natAbs)), Value.int IntKind.u64 (lo ((d * e).natAbs))])] W fun x w' => x = .returned (.tuple #[(Value.agg #[Value.int IntKind.i64 (yn), Value.int IntKind.i64 ( yd)]), .bool yk]) ∧ Below W.heap.size W w') := HR.out _ HG.out
      clear HR HG HZ
      generalize (d * e).natAbs = sD at *
      generalize n.natAbs * m.natAbs = sN at *
      generalize n.natAbs = an at *
      generalize m.natAbs = am at *
      cases bn <;> cases bm
      all_goals
        go_enter Try.func30, Try.ntmps30
        go_wp2_with fail
        obtain ⟨W0, hW, hs0, K0, B0⟩ := start3 w 23 23 23 #[Value.int IntKind.i64 (n), Value.int IntKind.i64 (d)] #[Value.int IntKind.i64 (m), Value.int IntKind.i64 (e)] #[Value.int IntKind.i64 (0), Value.int IntKind.i64 (0)]
        rw [hW]
        clear hW
        have KK := Lib.hid K0
        have BB := Lib.hid B0
        have R := K0.rules
        simp only [Rules] at R
        clear K0 B0
        have sz : w.heap.size + 1 + 1 + 1 ≤ W0.heap.size := by omega
        clear hs0
        (with_reducible refine (HV.out _).mono ?_)
        rintro e wv ⟨rfl, hbv⟩; replace BB := Lib.hid (BB.out.trans (hbv.mono BB.out.size)); replace KK := Lib.hid (KK.out.below hbv); replace R := KK.out.rules; simp only [gro.Rules] at R; clear hbv
        go_wp2_with fail
        (with_reducible refine (HU.out _).mono ?_)
        rintro e wv ⟨rfl, hbv⟩; replace BB := Lib.hid (BB.out.trans (hbv.mono BB.out.size)); replace KK := Lib.hid (KK.out.below hbv); replace R := KK.out.rules; simp only [gro.Rules] at R; clear hbv
        clear HV HU
        go_wp2_with fail
        (refine gro.wp_region_grown_tail 24 (by kernel_rfl) (by kernel_rfl) ?_; simp only [List.take_succ_cons, List.take_zero, List.drop_succ_cons, List.drop_zero]; (repeat (go_big_quiet_step ((first | (go_at_call 56; first | (with_reducible exact call_same (HS1.out _)) | (with_reducible exact call_same (HS2.out _))) | (go_at_call 66; first | (with_reducible exact call_grown (HP1.out _)) | (with_reducible exact call_grown (HP2.out _))) | (go_at_call 64; exact call_grown (HR2.out _)))))); refine wpQuiet_nil ?_; intro _ hw'; obtain ⟨nx, hw''⟩ := hw'; subst hw'')
        replace KK := Lib.hid (KK.out.below (below_grown _ nx))
        replace BB := Lib.hid (BB.out.trans ((below_grown _ nx).mono BB.out.size))
        clear R HS1 HS2 HP1 HP2 HR2
        generalize grown _ nx = W4 at *
        have R := KK.out.rules
        simp only [Rules] at R
        go_wp2
        refine bodyPost_ret (v := Value.tuple #[(Value.agg #[Value.int IntKind.i64 (yn), Value.int IntKind.i64 ( yd)]), Value.bool yk]) (by simp [results, Try.results30, go_sem, R]) rfl ⟨?_, ?_⟩
        · rfl
        · exact (BB.out.setCell (by first | (simp; done) | (simp; omega)) _).setCell (by first | (simp; done) | (simp; omega)) _
    · have HNo := @mul_no n d m e (by simp [*])
      rw [HNo.1, HNo.2.1, HNo.2.2]
      clear HNo hn hd hm he
      go_enter Try.func30, Try.ntmps30
      go_wp2_with fail
      obtain ⟨W0, hW, hs0, K0, B0⟩ := start3 w 23 23 23 #[Value.int IntKind.i64 (n), Value.int IntKind.i64 (d)] #[Value.int IntKind.i64 (m), Value.int IntKind.i64 (e)] #[Value.int IntKind.i64 (0), Value.int IntKind.i64 (0)]
      rw [hW]
      clear hW
      have KK := Lib.hid K0
      have BB := Lib.hid B0
      have R := K0.rules
      simp only [Rules] at R
      clear K0 B0 hs0
      rw [hv] at HV
      rw [show validQ m e = false by simpa using hu] at HU
      go_wp2_with (go_at_call 19; first | ((with_reducible refine (HV.out _).mono ?_); rintro e wv ⟨rfl, hbv⟩; replace BB := Lib.hid (BB.out.trans (hbv.mono BB.out.size)); replace KK := Lib.hid (KK.out.below hbv); replace R := KK.out.rules; simp only [gro.Rules] at R; clear hbv) | ((with_reducible refine (HU.out _).mono ?_); rintro e wv ⟨rfl, hbv⟩; replace BB := Lib.hid (BB.out.trans (hbv.mono BB.out.size)); replace KK := Lib.hid (KK.out.below hbv); replace R := KK.out.rules; simp only [gro.Rules] at R; clear hbv))
      refine bodyPost_ret (v := Value.tuple #[(Value.agg #[Value.int IntKind.i64 (0), Value.int IntKind.i64 ( 0)]), Value.bool false]) (by simp [results, Try.results30, go_sem, R]) rfl ⟨?_, ?_⟩
      · rfl
      · exact (BB.out.setCell (by first | (simp; done) | (simp; omega)) _).setCell (by first | (simp; done) | (simp; omega)) _
  · have HNo := @mul_no n d m e (by simp [*])
    rw [HNo.1, HNo.2.1, HNo.2.2]
    clear HNo hn hd hm he
    go_enter Try.func30, Try.ntmps30
    go_wp2_with fail
    obtain ⟨W0, hW, hs0, K0, B0⟩ := start3 w 23 23 23 #[Value.int IntKind.i64 (n), Value.int IntKind.i64 (d)] #[Value.int IntKind.i64 (m), Value.int IntKind.i64 (e)] #[Value.int IntKind.i64 (0), Value.int IntKind.i64 (0)]
    rw [hW]
    clear hW
    have KK := Lib.hid K0
    have BB := Lib.hid B0
    have R := K0.rules
    simp only [Rules] at R
    clear K0 B0 hs0
    rw [show validQ n d = false by simpa using hv] at HV
    go_wp2_with (go_at_call 19; first | ((with_reducible refine (HV.out _).mono ?_); rintro e wv ⟨rfl, hbv⟩; replace BB := Lib.hid (BB.out.trans (hbv.mono BB.out.size)); replace KK := Lib.hid (KK.out.below hbv); replace R := KK.out.rules; simp only [gro.Rules] at R; clear hbv) | ((with_reducible refine (HU.out _).mono ?_); rintro e wv ⟨rfl, hbv⟩; replace BB := Lib.hid (BB.out.trans (hbv.mono BB.out.size)); replace KK := Lib.hid (KK.out.below hbv); replace R := KK.out.rules; simp only [gro.Rules] at R; clear hbv))
    refine bodyPost_ret (v := Value.tuple #[(Value.agg #[Value.int IntKind.i64 (0), Value.int IntKind.i64 ( 0)]), Value.bool false]) (by simp [results, Try.results30, go_sem, R]) rfl ⟨?_, ?_⟩
    · rfl
    · exact (BB.out.setCell (by first | (simp; done) | (simp; omega)) _).setCell (by first | (simp; done) | (simp; omega)) _
set_option maxHeartbeats 8000000 in
set_option maxRecDepth 100000 in
theorem divQ_any (n d m e : Int) (hn : I64 n) (hd : I64 d) (hm : I64 m) (he : I64 e) (w : World) :
    Calls Try.prog 32 #[(Value.agg #[Value.int IntKind.i64 (n), Value.int IntKind.i64 ( d)]), (Value.agg #[Value.int IntKind.i64 (m), Value.int IntKind.i64 ( e)])] w fun x w' => x = .returned (.tuple #[(Value.agg #[Value.int IntKind.i64 (divQN n d m e), Value.int IntKind.i64 ( divQD n d m e)]), .bool (divQOk n d m e)]) ∧ Below w.heap.size w w' := by
  have HV := Lib.hid (fun W => Valid_any n d hn hd W)
  have HU := Lib.hid (fun W => Valid_any m e hm he W)
  by_cases hv : validQ n d = true
  · by_cases hu : validQ m e = true
    · by_cases hm0 : m = 0
      · subst hm0
        have HNo := @div_no n d 0 e (by simp)
        rw [HNo.1, HNo.2.1, HNo.2.2]
        clear HNo hn hd hm he
        go_enter Try.func32, Try.ntmps32
        go_wp2_with fail
        obtain ⟨W0, hW, hs0, K0, B0⟩ := start3 w 23 23 23 #[Value.int IntKind.i64 (n), Value.int IntKind.i64 (d)] #[Value.int IntKind.i64 (0), Value.int IntKind.i64 (e)] #[Value.int IntKind.i64 (0), Value.int IntKind.i64 (0)]
        rw [hW]
        clear hW
        have KK := Lib.hid K0
        have BB := Lib.hid B0
        have R := K0.rules
        simp only [Rules] at R
        clear K0 B0 hs0
        rw [hv] at HV
        rw [hu] at HU
        go_wp2_with (go_at_call 19; first | ((with_reducible refine (HV.out _).mono ?_); rintro e wv ⟨rfl, hbv⟩; replace BB := Lib.hid (BB.out.trans (hbv.mono BB.out.size)); replace KK := Lib.hid (KK.out.below hbv); replace R := KK.out.rules; simp only [gro.Rules] at R; clear hbv) | ((with_reducible refine (HU.out _).mono ?_); rintro e wv ⟨rfl, hbv⟩; replace BB := Lib.hid (BB.out.trans (hbv.mono BB.out.size)); replace KK := Lib.hid (KK.out.below hbv); replace R := KK.out.rules; simp only [gro.Rules] at R; clear hbv))
        refine bodyPost_ret (v := Value.tuple #[(Value.agg #[Value.int IntKind.i64 (0), Value.int IntKind.i64 ( 0)]), Value.bool false]) (by simp [results, Try.results32, go_sem, R]) rfl ⟨?_, ?_⟩
        · rfl
        · exact (BB.out.setCell (by first | (simp; done) | (simp; omega)) _).setCell (by first | (simp; done) | (simp; omega)) _
      · rw [hv] at HV
        rw [hu] at HU
        have hd1 := (validQ_iff.1 hv).1
        have he1 := (validQ_iff.1 hu).1
        have HE := @div_yes n d m e hv hu hm0
        have HS1 := Lib.hid (fun W => sizeQ_any n W hn.1 hn.2)
        have HS2 := Lib.hid (fun W => sizeQ_any m W hm.1 hm.2)
        have HP1 := Lib.hid (prod_at (F := 66) (fun x y a b c d W => Product_any x y a b c d W) n e hn he he1)
        have HP2 := Lib.hid (prod_by (F := 66) (fun x y a b c d W => Product_any x y a b c d W) d m hd hm hd1)
        have bX : n.natAbs * e.natAbs < 340282366920938463463374607431768211456 := Nat.lt_of_le_of_lt (Nat.mul_le_mul (show n.natAbs ≤ 9223372036854775808 by unfold I64 at hn; omega) (show e.natAbs ≤ 9223372036854775808 by unfold I64 at he; omega)) (by omega)
        have bD : (d * m).natAbs < 340282366920938463463374607431768211456 ∧ 0 < (d * m).natAbs := by
          rw [Int.natAbs_mul]
          have := Nat.mul_le_mul (show d.natAbs ≤ 9223372036854775808 by unfold I64 at hd; omega) (show m.natAbs ≤ 9223372036854775808 by unfold I64 at hm; omega)
          have h2 := Nat.mul_pos (show 0 < d.natAbs by omega) (show 0 < m.natAbs by omega)
          omega
        have hnA : (dv n m e).natAbs = n.natAbs * e.natAbs := dv_abs n m e
        have HR : Hid (∀ (f : Bool), (dv n m e ≠ 0 → f = decide (dv n m e < 0)) → ∀ W, Calls Try.prog 64 #[.bool f, (Value.agg #[Value.int IntKind.u64 (hi (n.natAbs * e.natAbs)), Value.int IntKind.u64 (lo (n.natAbs * e.natAbs))]), (Value.agg #[Value.int IntKind.u64 (hi ((d * m).natAbs)), Value.int IntKind.u64 (lo ((d * m).natAbs))])] W fun x w' => x = .returned (.tuple #[(Value.agg #[Value.int IntKind.i64 (divQN n d m e), Value.int IntKind.i64 ( divQD n d m e)]), .bool (divQOk n d m e)]) ∧ Below W.heap.size W w') := fun f hf W => by
          have := reduced_any f (dv n m e).natAbs (d * m).natAbs (by rw [hnA]; exact bX) bD.1 bD.2 W
          rwa [(red_sign (D := d * m) hf).1, (red_sign (D := d * m) hf).2.1, (red_sign (D := d * m) hf).2.2, ← HE.1, ← HE.2.1, ← HE.2.2, hnA] at this
        have HG : Hid (dv n m e ≠ 0 → (!(decide (n < 0) == decide (m < 0))) = decide (dv n m e < 0)) := fun h => div_flag he1 hm0 h
        have HZ : Hid (n.natAbs * e.natAbs ≠ 0 ↔ dv n m e ≠ 0) := by rw [← hnA]; unfold Hid; omega
        obtain ⟨bn, hbn⟩ : ∃ b, decide (n < 0) = b := ⟨_, rfl⟩
        obtain ⟨bm, hbm⟩ : ∃ b, decide (m < 0) = b := ⟨_, rfl⟩
        rw [hbn, hbm] at HG
        have hed : d ≤ 9223372036854775807 := hd.2
        have hee : e ≤ 9223372036854775807 := he.2
        clear HE hnA bX bD hn hd hm he hv hu
        have hmz : (m == 0) = false := by simpa using hm0
        clear hm0
        generalize divQN n d m e = yn at *
        generalize divQD n d m e = yd at *
        generalize divQOk n d m e = yk at *
        have HR2 : Hid (∀ W, Calls Try.prog 64 #[.bool (!(bn == bm)), (Value.agg #[Value.int IntKind.u64 (hi (n.natAbs * e.natAbs)), Value.int IntKind.u64 (lo (n.natAbs * e.natAbs))]), (Value.agg #[Value.int IntKind.u64 (hi ((d * m).natAbs)), Value.int IntKind.u64 (lo ((d * m).natAbs))])] W fun x w' => x = .returned (.tuple #[(Value.agg #[Value.int IntKind.i64 (yn), Value.int IntKind.i64 ( yd)]), .bool yk]) ∧ Below W.heap.size W w') := HR.out _ HG.out
        clear HR HG HZ
        generalize (d * m).natAbs = sD at *
        generalize n.natAbs * e.natAbs = sN at *
        generalize n.natAbs = an at *
        generalize m.natAbs = am at *
        cases bn <;> cases bm
        all_goals
          go_enter Try.func32, Try.ntmps32
          go_wp2_with fail
          obtain ⟨W0, hW, hs0, K0, B0⟩ := start3 w 23 23 23 #[Value.int IntKind.i64 (n), Value.int IntKind.i64 (d)] #[Value.int IntKind.i64 (m), Value.int IntKind.i64 (e)] #[Value.int IntKind.i64 (0), Value.int IntKind.i64 (0)]
          rw [hW]
          clear hW
          have KK := Lib.hid K0
          have BB := Lib.hid B0
          have R := K0.rules
          simp only [Rules] at R
          clear K0 B0
          have sz : w.heap.size + 1 + 1 + 1 ≤ W0.heap.size := by omega
          clear hs0
          (with_reducible refine (HV.out _).mono ?_)
          rintro e wv ⟨rfl, hbv⟩; replace BB := Lib.hid (BB.out.trans (hbv.mono BB.out.size)); replace KK := Lib.hid (KK.out.below hbv); replace R := KK.out.rules; simp only [gro.Rules] at R; clear hbv
          go_wp2_with fail
          (with_reducible refine (HU.out _).mono ?_)
          rintro e wv ⟨rfl, hbv⟩; replace BB := Lib.hid (BB.out.trans (hbv.mono BB.out.size)); replace KK := Lib.hid (KK.out.below hbv); replace R := KK.out.rules; simp only [gro.Rules] at R; clear hbv
          clear HV HU
          go_wp2_with fail
          (refine gro.wp_region_grown_tail 24 (by kernel_rfl) (by kernel_rfl) ?_; simp only [List.take_succ_cons, List.take_zero, List.drop_succ_cons, List.drop_zero]; (repeat (go_big_quiet_step ((first | (go_at_call 56; first | (with_reducible exact call_same (HS1.out _)) | (with_reducible exact call_same (HS2.out _))) | (go_at_call 66; first | (with_reducible exact call_grown (HP1.out _)) | (with_reducible exact call_grown (HP2.out _))) | (go_at_call 64; exact call_grown (HR2.out _)))))); refine wpQuiet_nil ?_; intro _ hw'; obtain ⟨nx, hw''⟩ := hw'; subst hw'')
          replace KK := Lib.hid (KK.out.below (below_grown _ nx))
          replace BB := Lib.hid (BB.out.trans ((below_grown _ nx).mono BB.out.size))
          clear R HS1 HS2 HP1 HP2 HR2
          generalize grown _ nx = W4 at *
          have R := KK.out.rules
          simp only [Rules] at R
          go_wp2
          refine bodyPost_ret (v := Value.tuple #[(Value.agg #[Value.int IntKind.i64 (yn), Value.int IntKind.i64 ( yd)]), Value.bool yk]) (by simp [results, Try.results32, go_sem, R]) rfl ⟨?_, ?_⟩
          · rfl
          · exact (BB.out.setCell (by first | (simp; done) | (simp; omega)) _).setCell (by first | (simp; done) | (simp; omega)) _
    · have HNo := @div_no n d m e (by simp [*])
      rw [HNo.1, HNo.2.1, HNo.2.2]
      clear HNo hn hd hm he
      go_enter Try.func32, Try.ntmps32
      go_wp2_with fail
      obtain ⟨W0, hW, hs0, K0, B0⟩ := start3 w 23 23 23 #[Value.int IntKind.i64 (n), Value.int IntKind.i64 (d)] #[Value.int IntKind.i64 (m), Value.int IntKind.i64 (e)] #[Value.int IntKind.i64 (0), Value.int IntKind.i64 (0)]
      rw [hW]
      clear hW
      have KK := Lib.hid K0
      have BB := Lib.hid B0
      have R := K0.rules
      simp only [Rules] at R
      clear K0 B0 hs0
      rw [hv] at HV
      rw [show validQ m e = false by simpa using hu] at HU
      go_wp2_with (go_at_call 19; first | ((with_reducible refine (HV.out _).mono ?_); rintro e wv ⟨rfl, hbv⟩; replace BB := Lib.hid (BB.out.trans (hbv.mono BB.out.size)); replace KK := Lib.hid (KK.out.below hbv); replace R := KK.out.rules; simp only [gro.Rules] at R; clear hbv) | ((with_reducible refine (HU.out _).mono ?_); rintro e wv ⟨rfl, hbv⟩; replace BB := Lib.hid (BB.out.trans (hbv.mono BB.out.size)); replace KK := Lib.hid (KK.out.below hbv); replace R := KK.out.rules; simp only [gro.Rules] at R; clear hbv))
      refine bodyPost_ret (v := Value.tuple #[(Value.agg #[Value.int IntKind.i64 (0), Value.int IntKind.i64 ( 0)]), Value.bool false]) (by simp [results, Try.results32, go_sem, R]) rfl ⟨?_, ?_⟩
      · rfl
      · exact (BB.out.setCell (by first | (simp; done) | (simp; omega)) _).setCell (by first | (simp; done) | (simp; omega)) _
  · have HNo := @div_no n d m e (by simp [*])
    rw [HNo.1, HNo.2.1, HNo.2.2]
    clear HNo hn hd hm he
    go_enter Try.func32, Try.ntmps32
    go_wp2_with fail
    obtain ⟨W0, hW, hs0, K0, B0⟩ := start3 w 23 23 23 #[Value.int IntKind.i64 (n), Value.int IntKind.i64 (d)] #[Value.int IntKind.i64 (m), Value.int IntKind.i64 (e)] #[Value.int IntKind.i64 (0), Value.int IntKind.i64 (0)]
    rw [hW]
    clear hW
    have KK := Lib.hid K0
    have BB := Lib.hid B0
    have R := K0.rules
    simp only [Rules] at R
    clear K0 B0 hs0
    rw [show validQ n d = false by simpa using hv] at HV
    go_wp2_with (go_at_call 19; first | ((with_reducible refine (HV.out _).mono ?_); rintro e wv ⟨rfl, hbv⟩; replace BB := Lib.hid (BB.out.trans (hbv.mono BB.out.size)); replace KK := Lib.hid (KK.out.below hbv); replace R := KK.out.rules; simp only [gro.Rules] at R; clear hbv) | ((with_reducible refine (HU.out _).mono ?_); rintro e wv ⟨rfl, hbv⟩; replace BB := Lib.hid (BB.out.trans (hbv.mono BB.out.size)); replace KK := Lib.hid (KK.out.below hbv); replace R := KK.out.rules; simp only [gro.Rules] at R; clear hbv))
    refine bodyPost_ret (v := Value.tuple #[(Value.agg #[Value.int IntKind.i64 (0), Value.int IntKind.i64 ( 0)]), Value.bool false]) (by simp [results, Try.results32, go_sem, R]) rfl ⟨?_, ?_⟩
    · rfl
    · exact (BB.out.setCell (by first | (simp; done) | (simp; omega)) _).setCell (by first | (simp; done) | (simp; omega)) _
end Go.Proofs.Ytoejhikcnnppnaa.wid
