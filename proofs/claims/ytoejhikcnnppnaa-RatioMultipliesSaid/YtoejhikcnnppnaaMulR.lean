/- Contracts of Mul and Div of rational numbers in the reference. -/
import Derived.Test.YtoejhikcnnppnaaMul
import Derived.Test.YtoejhikcnnppnaaSteady
namespace Go.Proofs.Ytoejhikcnnppnaa.wid
open Go.RowKit Go.Proofs.Ytoejhikcnnppnaa.mem Go.Proofs.Ytoejhikcnnppnaa.gro
set_option linter.unusedVariables false
set_option maxHeartbeats 8000000 in
set_option maxRecDepth 100000 in
theorem mulQR_any (n d m e : Int) (hn : I64 n) (hd : I64 d) (hm : I64 m) (he : I64 e) (w : World) :
    Calls Try.prog 31 #[(Value.agg #[Value.int IntKind.i64 (n), Value.int IntKind.i64 ( d)]), (Value.agg #[Value.int IntKind.i64 (m), Value.int IntKind.i64 ( e)])] w fun x w' => x = .returned (.tuple #[(Value.agg #[Value.int IntKind.i64 (mulQN n d m e), Value.int IntKind.i64 ( mulQD n d m e)]), .bool (mulQOk n d m e)]) ∧ Below w.heap.size w w' := by
  have HV := Lib.hid (fun W => ValidR_any n d hn hd W)
  have HU := Lib.hid (fun W => ValidR_any m e hm he W)
  by_cases hv : validQ n d = true
  · by_cases hu : validQ m e = true
    · rw [hv] at HV
      rw [hu] at HU
      have hd1 := (validQ_iff.1 hv).1
      have he1 := (validQ_iff.1 hu).1
      have HE := @mul_yes n d m e hv hu
      have HS1 := Lib.hid (fun W => Abs_any n W hn.1 hn.2)
      have HS2 := Lib.hid (fun W => Abs_any m W hm.1 hm.2)
      have HP1 := Lib.hid (prod_any (F := 67) (fun x y a b c d W => ProductR_any x y a b c d W) n m hn hm)
      have HP2 := Lib.hid (prod_pos (F := 67) (fun x y a b c d W => ProductR_any x y a b c d W) d e hd he hd1 he1)
      have bX : n.natAbs * m.natAbs < 340282366920938463463374607431768211456 := Nat.lt_of_le_of_lt (Nat.mul_le_mul (show n.natAbs ≤ 9223372036854775808 by unfold I64 at hn; omega) (show m.natAbs ≤ 9223372036854775808 by unfold I64 at hm; omega)) (by omega)
      have bD : (d * e).natAbs < 340282366920938463463374607431768211456 ∧ 0 < (d * e).natAbs := by
        rw [Int.natAbs_mul]
        have := Nat.mul_le_mul (show d.natAbs ≤ 9223372036854775808 by unfold I64 at hd; omega) (show e.natAbs ≤ 9223372036854775808 by unfold I64 at he; omega)
        have h2 := Nat.mul_pos (show 0 < d.natAbs by omega) (show 0 < e.natAbs by omega)
        omega
      have hnA : (n * m).natAbs = n.natAbs * m.natAbs := Int.natAbs_mul n m
      have HR : Hid (∀ (f : Bool), (n * m ≠ 0 → f = decide (n * m < 0)) → ∀ W, Calls Try.prog 65 #[.bool f, (Value.agg #[Value.int IntKind.u64 (hi (n.natAbs * m.natAbs)), Value.int IntKind.u64 (lo (n.natAbs * m.natAbs))]), (Value.agg #[Value.int IntKind.u64 (hi ((d * e).natAbs)), Value.int IntKind.u64 (lo ((d * e).natAbs))])] W fun x w' => x = .returned (.tuple #[(Value.agg #[Value.int IntKind.i64 (mulQN n d m e), Value.int IntKind.i64 ( mulQD n d m e)]), .bool (mulQOk n d m e)]) ∧ Below W.heap.size W w') := fun f hf W => by
        have := reducedR_any f (n * m).natAbs (d * e).natAbs (by rw [hnA]; exact bX) bD.1 bD.2 W
        rwa [(red_sign (D := d * e) hf).1, (red_sign (D := d * e) hf).2.1, (red_sign (D := d * e) hf).2.2, ← HE.1, ← HE.2.1, ← HE.2.2, hnA] at this
      have HG : Hid (n * m ≠ 0 → (!(decide (n < 0) == decide (m < 0))) = decide (n * m < 0)) := fun h => mul_flag h
      have HZ : Hid (n.natAbs * m.natAbs ≠ 0 ↔ n * m ≠ 0) := by rw [← hnA]; unfold Hid; omega
      obtain ⟨bn, hbn⟩ : ∃ b, decide (n < 0) = b := ⟨_, rfl⟩
      obtain ⟨bm, hbm⟩ : ∃ b, decide (m < 0) = b := ⟨_, rfl⟩
      rw [hbn, hbm] at HG
      have hed : d ≤ 9223372036854775807 := hd.2
      have hee : e ≤ 9223372036854775807 := he.2
      clear HE hnA bX bD hn hd hm he hv hu
      generalize mulQN n d m e = yn at *
      generalize mulQD n d m e = yd at *
      generalize mulQOk n d m e = yk at *
      obtain ⟨bz, hbz⟩ : ∃ b, decide (n.natAbs * m.natAbs = 0) = b := ⟨_, rfl⟩
      have HR2 : Hid (∀ W, Calls Try.prog 65 #[.bool (!(bn == bm) && !bz), (Value.agg #[Value.int IntKind.u64 (hi (n.natAbs * m.natAbs)), Value.int IntKind.u64 (lo (n.natAbs * m.natAbs))]), (Value.agg #[Value.int IntKind.u64 (hi ((d * e).natAbs)), Value.int IntKind.u64 (lo ((d * e).natAbs))])] W fun x w' => x = .returned (.tuple #[(Value.agg #[Value.int IntKind.i64 (yn), Value.int IntKind.i64 ( yd)]), .bool yk]) ∧ Below W.heap.size W w') := HR.out _ (fun h => by
        have h1 := HZ.out.2 h
        rw [← HG.out h, ← hbz, decide_eq_false h1]; simp)
      have HNE := Lib.hid (fun W => wide_neq (n.natAbs * m.natAbs) 0 W)
      rw [hbz] at HNE
      clear HR HG HZ hbz
      generalize (d * e).natAbs = sD at *
      generalize n.natAbs * m.natAbs = sN at *
      generalize n.natAbs = an at *
      generalize m.natAbs = am at *
      cases bn <;> cases bm <;> cases bz
      all_goals
        go_enter Try.func31, Try.ntmps31
        go_wp2_with fail
        obtain ⟨W0, hW, hs0, K0, B0⟩ := start3 w 23 23 23 #[Value.int IntKind.i64 (n), Value.int IntKind.i64 (d)] #[Value.int IntKind.i64 (m), Value.int IntKind.i64 (e)] #[Value.int IntKind.i64 (0), Value.int IntKind.i64 (0)]
        rw [hW]
        clear hW
        have KK := Lib.hid K0
        have BB := Lib.hid B0
        have R := K0.rules
        simp only [Rules] at R
        clear K0 B0
        have sz : w.heap.size + 1 + 1 + 1 ≤ W0.heap.size := by omega
        clear hs0
        (with_reducible refine (HV.out _).mono ?_)
        rintro e wv ⟨rfl, hbv⟩
        replace BB := Lib.hid (BB.out.trans (hbv.mono BB.out.size))
        replace KK := Lib.hid (KK.out.below hbv)
        replace sz := Nat.le_trans sz hbv.size
        replace R := KK.out.rules
        simp only [gro.Rules] at R
        clear hbv
        go_wp2_with fail
        (with_reducible refine (HU.out _).mono ?_)
        rintro e w2 ⟨rfl, hbv⟩
        replace BB := Lib.hid (BB.out.trans (hbv.mono BB.out.size))
        replace KK := Lib.hid (KK.out.below hbv)
        replace sz := Nat.le_trans sz hbv.size
        replace R := KK.out.rules
        simp only [gro.Rules] at R
        clear hbv HV HU
        go_wp2_with fail
        (refine gro.wp_region_steady_n 7 2 (by kernel_rfl) (by kernel_rfl) (by intro _ _ _ _ _ h; exact h) (by kernel_rfl) (by kernel_rfl) (by kernel_rfl) ?_; apply Exists.intro; refine ⟨fun w0 hb0 => ?_, ?_⟩; focus (have KZ := (KK.out).below hb0; have RZ := KZ.rules; simp only [gro.Rules] at RZ; simp only [List.take_succ_cons, List.take_zero]; (repeat (go_big_quiet_step ((first | (go_at_call 59; first | (with_reducible exact call_same (HS1.out _)) | (with_reducible exact call_same (HS2.out _))) | (go_at_call 67; first | (with_reducible exact call_grown (HP1.out _)) | (with_reducible exact call_grown (HP2.out _))))))); exact wpQuiet_nil rfl))
        clear R
        have KA := KK.out.drew
        have BA := BB.out.drew
        refine gro.anyG_one 7 (by kernel_rfl) rfl ?_
        intro y1 hz1 K' hK'
        have KY1 := KA.below hz1
        have BY1 := BA.trans (hz1.mono BA.size)
        have sz1 : w.heap.size + 1 + 1 + 1 ≤ y1.heap.size := Nat.le_trans sz hz1.size
        go_simp
        refine hK' _ _ ⟨hz1.alloc hz1.size _, ?_⟩
        clear hK' K'
        obtain ⟨p, hp⟩ : ∃ p, y1.heap.size = p := ⟨_, rfl⟩
        have KY2 := KY1.new (t := 51) (c := #[Value.int IntKind.u64 0, Value.int IntKind.u64 0]) hp
        have BY2 := BY1.alloc BY1.size (.cells #[Value.int IntKind.u64 0, Value.int IntKind.u64 0] 51)
        have BZ2 := hz1.alloc hz1.size (.cells #[Value.int IntKind.u64 0, Value.int IntKind.u64 0] 51)
        have sp : w2.heap.size ≤ p := by have h := hz1.size; rw [hp] at h; simpa using h
        rw [hp] at sz1 ⊢
        generalize y1.alloc (.cells #[Value.int IntKind.u64 0, Value.int IntKind.u64 0] 51) = y2 at *
        clear hz1 KY1 BY1 hp KA BA
        refine gro.anyG_one 8 (by kernel_rfl) rfl ?_
        intro y3 hz3 K' hK'
        have KY3 := KY2.below hz3
        have BY3 := BY2.trans (hz3.mono BY2.size)
        have BZ3 := BZ2.trans (hz3.mono BZ2.size)
        have RY := KY3.rules
        simp only [gro.Rules] at RY
        go_simp
        refine hK' _ _ ⟨(BZ3.setCell (by first | (simp; done) | (simp; omega)) _).setCell (by first | (simp; done) | (simp; omega)) _, ?_⟩
        clear hK' K' RY
        obtain ⟨y4, hy4, KY4, BY4, sY4⟩ := gro.name_world (gro.Bx.put2 (u := .int .u64 (hi sN)) (v := .int .u64 (lo sN)) KY3 (by first | (simp; done) | (simp; omega))) ((BY3.setCell (by first | (simp; done) | (simp; omega)) _).setCell (by first | (simp; done) | (simp; omega)) _) (s := 0) (by omega)
        rw [hy4]
        clear hy4
        refine gro.anyG_done (by kernel_rfl) ?_
        intro y5 hz5
        have KK := Lib.hid (KY4.below hz5)
        have BB := Lib.hid (BY4.trans (hz5.mono BY4.size))
        have R := KK.out.rules
        simp only [Rules] at R
        clear KY2 BY2 BZ2 KY3 BY3 BZ3 KY4 BY4 hz3 hz5
        have hne : ∀ W, (binOp .neq 51 (Value.agg #[Value.int IntKind.u64 (hi (sN)), Value.int IntKind.u64 (lo (sN))]) (Value.agg #[Value.int IntKind.u64 0, Value.int IntKind.u64 0])).run Try.prog W = _ := HNE.out
        go_wp2_with fail
        (refine gro.wp_region_grown_tail 23 (by kernel_rfl) (by kernel_rfl) ?_; simp only [List.take_succ_cons, List.take_zero, List.drop_succ_cons, List.drop_zero]; (repeat (go_big_quiet_step ((first | (go_at_call 59; (with_reducible exact call_same (HS2.out _))) | (go_at_call 67; (with_reducible exact call_grown (HP2.out _))) | (go_at_call 65; exact call_grown (HR2.out _)))))); refine wpQuiet_nil ?_; intro _ hw'; obtain ⟨nx, hw''⟩ := hw'; subst hw'')
        replace KK := Lib.hid (KK.out.below (below_grown _ nx))
        replace BB := Lib.hid (BB.out.trans ((below_grown _ nx).mono BB.out.size))
        clear R HS1 HS2 HP1 HP2 HR2
        generalize grown _ nx = W4 at *
        have R := KK.out.rules
        simp only [Rules] at R
        go_wp2
        refine bodyPost_ret (v := Value.tuple #[(Value.agg #[Value.int IntKind.i64 (yn), Value.int IntKind.i64 ( yd)]), Value.bool yk]) (by simp [results, Try.results31, go_sem, R]) rfl ⟨?_, ?_⟩
        · rfl
        · exact (BB.out.setCell (by first | (simp; done) | (simp; omega)) _).setCell (by first | (simp; done) | (simp; omega)) _
    · have HNo := @mul_no n d m e (by simp [*])
      rw [HNo.1, HNo.2.1, HNo.2.2]
      clear HNo hn hd hm he
      go_enter Try.func31, Try.ntmps31
      go_wp2_with fail
      obtain ⟨W0, hW, hs0, K0, B0⟩ := start3 w 23 23 23 #[Value.int IntKind.i64 (n), Value.int IntKind.i64 (d)] #[Value.int IntKind.i64 (m), Value.int IntKind.i64 (e)] #[Value.int IntKind.i64 (0), Value.int IntKind.i64 (0)]
      rw [hW]
      clear hW
      have KK := Lib.hid K0
      have BB := Lib.hid B0
      have R := K0.rules
      simp only [Rules] at R
      clear K0 B0 hs0
      rw [hv] at HV
      rw [show validQ m e = false by simpa using hu] at HU
      go_wp2_with (go_at_call 20; first | ((with_reducible refine (HV.out _).mono ?_); rintro e wv ⟨rfl, hbv⟩; replace BB := Lib.hid (BB.out.trans (hbv.mono BB.out.size)); replace KK := Lib.hid (KK.out.below hbv); replace R := KK.out.rules; simp only [gro.Rules] at R; clear hbv) | ((with_reducible refine (HU.out _).mono ?_); rintro e wv ⟨rfl, hbv⟩; replace BB := Lib.hid (BB.out.trans (hbv.mono BB.out.size)); replace KK := Lib.hid (KK.out.below hbv); replace R := KK.out.rules; simp only [gro.Rules] at R; clear hbv))
      refine bodyPost_ret (v := Value.tuple #[(Value.agg #[Value.int IntKind.i64 (0), Value.int IntKind.i64 ( 0)]), Value.bool false]) (by simp [results, Try.results31, go_sem, R]) rfl ⟨?_, ?_⟩
      · rfl
      · exact (BB.out.setCell (by first | (simp; done) | (simp; omega)) _).setCell (by first | (simp; done) | (simp; omega)) _
  · have HNo := @mul_no n d m e (by simp [*])
    rw [HNo.1, HNo.2.1, HNo.2.2]
    clear HNo hn hd hm he
    go_enter Try.func31, Try.ntmps31
    go_wp2_with fail
    obtain ⟨W0, hW, hs0, K0, B0⟩ := start3 w 23 23 23 #[Value.int IntKind.i64 (n), Value.int IntKind.i64 (d)] #[Value.int IntKind.i64 (m), Value.int IntKind.i64 (e)] #[Value.int IntKind.i64 (0), Value.int IntKind.i64 (0)]
    rw [hW]
    clear hW
    have KK := Lib.hid K0
    have BB := Lib.hid B0
    have R := K0.rules
    simp only [Rules] at R
    clear K0 B0 hs0
    rw [show validQ n d = false by simpa using hv] at HV
    go_wp2_with (go_at_call 20; first | ((with_reducible refine (HV.out _).mono ?_); rintro e wv ⟨rfl, hbv⟩; replace BB := Lib.hid (BB.out.trans (hbv.mono BB.out.size)); replace KK := Lib.hid (KK.out.below hbv); replace R := KK.out.rules; simp only [gro.Rules] at R; clear hbv) | ((with_reducible refine (HU.out _).mono ?_); rintro e wv ⟨rfl, hbv⟩; replace BB := Lib.hid (BB.out.trans (hbv.mono BB.out.size)); replace KK := Lib.hid (KK.out.below hbv); replace R := KK.out.rules; simp only [gro.Rules] at R; clear hbv))
    refine bodyPost_ret (v := Value.tuple #[(Value.agg #[Value.int IntKind.i64 (0), Value.int IntKind.i64 ( 0)]), Value.bool false]) (by simp [results, Try.results31, go_sem, R]) rfl ⟨?_, ?_⟩
    · rfl
    · exact (BB.out.setCell (by first | (simp; done) | (simp; omega)) _).setCell (by first | (simp; done) | (simp; omega)) _
set_option maxHeartbeats 8000000 in
set_option maxRecDepth 100000 in
theorem divQR_any (n d m e : Int) (hn : I64 n) (hd : I64 d) (hm : I64 m) (he : I64 e) (w : World) :
    Calls Try.prog 33 #[(Value.agg #[Value.int IntKind.i64 (n), Value.int IntKind.i64 ( d)]), (Value.agg #[Value.int IntKind.i64 (m), Value.int IntKind.i64 ( e)])] w fun x w' => x = .returned (.tuple #[(Value.agg #[Value.int IntKind.i64 (divQN n d m e), Value.int IntKind.i64 ( divQD n d m e)]), .bool (divQOk n d m e)]) ∧ Below w.heap.size w w' := by
  have HV := Lib.hid (fun W => ValidR_any n d hn hd W)
  have HU := Lib.hid (fun W => ValidR_any m e hm he W)
  by_cases hv : validQ n d = true
  · by_cases hu : validQ m e = true
    · by_cases hm0 : m = 0
      · subst hm0
        have HNo := @div_no n d 0 e (by simp)
        rw [HNo.1, HNo.2.1, HNo.2.2]
        clear HNo hn hd hm he
        go_enter Try.func33, Try.ntmps33
        go_wp2_with fail
        obtain ⟨W0, hW, hs0, K0, B0⟩ := start3 w 23 23 23 #[Value.int IntKind.i64 (n), Value.int IntKind.i64 (d)] #[Value.int IntKind.i64 (0), Value.int IntKind.i64 (e)] #[Value.int IntKind.i64 (0), Value.int IntKind.i64 (0)]
        rw [hW]
        clear hW
        have KK := Lib.hid K0
        have BB := Lib.hid B0
        have R := K0.rules
        simp only [Rules] at R
        clear K0 B0 hs0
        rw [hv] at HV
        rw [hu] at HU
        go_wp2_with (go_at_call 20; first | ((with_reducible refine (HV.out _).mono ?_); rintro e wv ⟨rfl, hbv⟩; replace BB := Lib.hid (BB.out.trans (hbv.mono BB.out.size)); replace KK := Lib.hid (KK.out.below hbv); replace R := KK.out.rules; simp only [gro.Rules] at R; clear hbv) | ((with_reducible refine (HU.out _).mono ?_); rintro e wv ⟨rfl, hbv⟩; replace BB := Lib.hid (BB.out.trans (hbv.mono BB.out.size)); replace KK := Lib.hid (KK.out.below hbv); replace R := KK.out.rules; simp only [gro.Rules] at R; clear hbv))
        refine bodyPost_ret (v := Value.tuple #[(Value.agg #[Value.int IntKind.i64 (0), Value.int IntKind.i64 ( 0)]), Value.bool false]) (by simp [results, Try.results33, go_sem, R]) rfl ⟨?_, ?_⟩
        · rfl
        · exact (BB.out.setCell (by first | (simp; done) | (simp; omega)) _).setCell (by first | (simp; done) | (simp; omega)) _
      · rw [hv] at HV
        rw [hu] at HU
        have hd1 := (validQ_iff.1 hv).1
        have he1 := (validQ_iff.1 hu).1
        have HE := @div_yes n d m e hv hu hm0
        have HS1 := Lib.hid (fun W => Abs_any n W hn.1 hn.2)
        have HS2 := Lib.hid (fun W => Abs_any m W hm.1 hm.2)
        have HP1 := Lib.hid (prod_at (F := 67) (fun x y a b c d W => ProductR_any x y a b c d W) n e hn he he1)
        have HP2 := Lib.hid (prod_by (F := 67) (fun x y a b c d W => ProductR_any x y a b c d W) d m hd hm hd1)
        have bX : n.natAbs * e.natAbs < 340282366920938463463374607431768211456 := Nat.lt_of_le_of_lt (Nat.mul_le_mul (show n.natAbs ≤ 9223372036854775808 by unfold I64 at hn; omega) (show e.natAbs ≤ 9223372036854775808 by unfold I64 at he; omega)) (by omega)
        have bD : (d * m).natAbs < 340282366920938463463374607431768211456 ∧ 0 < (d * m).natAbs := by
          rw [Int.natAbs_mul]
          have := Nat.mul_le_mul (show d.natAbs ≤ 9223372036854775808 by unfold I64 at hd; omega) (show m.natAbs ≤ 9223372036854775808 by unfold I64 at hm; omega)
          have h2 := Nat.mul_pos (show 0 < d.natAbs by omega) (show 0 < m.natAbs by omega)
          omega
        have hnA : (dv n m e).natAbs = n.natAbs * e.natAbs := dv_abs n m e
        have HR : Hid (∀ (f : Bool), (dv n m e ≠ 0 → f = decide (dv n m e < 0)) → ∀ W, Calls Try.prog 65 #[.bool f, (Value.agg #[Value.int IntKind.u64 (hi (n.natAbs * e.natAbs)), Value.int IntKind.u64 (lo (n.natAbs * e.natAbs))]), (Value.agg #[Value.int IntKind.u64 (hi ((d * m).natAbs)), Value.int IntKind.u64 (lo ((d * m).natAbs))])] W fun x w' => x = .returned (.tuple #[(Value.agg #[Value.int IntKind.i64 (divQN n d m e), Value.int IntKind.i64 ( divQD n d m e)]), .bool (divQOk n d m e)]) ∧ Below W.heap.size W w') := fun f hf W => by
          have := reducedR_any f (dv n m e).natAbs (d * m).natAbs (by rw [hnA]; exact bX) bD.1 bD.2 W
          rwa [(red_sign (D := d * m) hf).1, (red_sign (D := d * m) hf).2.1, (red_sign (D := d * m) hf).2.2, ← HE.1, ← HE.2.1, ← HE.2.2, hnA] at this
        have HG : Hid (dv n m e ≠ 0 → (!(decide (n < 0) == decide (m < 0))) = decide (dv n m e < 0)) := fun h => div_flag he1 hm0 h
        have HZ : Hid (n.natAbs * e.natAbs ≠ 0 ↔ dv n m e ≠ 0) := by rw [← hnA]; unfold Hid; omega
        obtain ⟨bn, hbn⟩ : ∃ b, decide (n < 0) = b := ⟨_, rfl⟩
        obtain ⟨bm, hbm⟩ : ∃ b, decide (m < 0) = b := ⟨_, rfl⟩
        rw [hbn, hbm] at HG
        have hed : d ≤ 9223372036854775807 := hd.2
        have hee : e ≤ 9223372036854775807 := he.2
        clear HE hnA bX bD hn hd hm he hv hu
        have hmz : (m == 0) = false := by simpa using hm0
        clear hm0
        generalize divQN n d m e = yn at *
        generalize divQD n d m e = yd at *
        generalize divQOk n d m e = yk at *
        obtain ⟨bz, hbz⟩ : ∃ b, decide (n.natAbs * e.natAbs = 0) = b := ⟨_, rfl⟩
        have HR2 : Hid (∀ W, Calls Try.prog 65 #[.bool (!(bn == bm) && !bz), (Value.agg #[Value.int IntKind.u64 (hi (n.natAbs * e.natAbs)), Value.int IntKind.u64 (lo (n.natAbs * e.natAbs))]), (Value.agg #[Value.int IntKind.u64 (hi ((d * m).natAbs)), Value.int IntKind.u64 (lo ((d * m).natAbs))])] W fun x w' => x = .returned (.tuple #[(Value.agg #[Value.int IntKind.i64 (yn), Value.int IntKind.i64 ( yd)]), .bool yk]) ∧ Below W.heap.size W w') := HR.out _ (fun h => by
          have h1 := HZ.out.2 h
          rw [← HG.out h, ← hbz, decide_eq_false h1]; simp)
        have HNE := Lib.hid (fun W => wide_neq (n.natAbs * e.natAbs) 0 W)
        rw [hbz] at HNE
        clear HR HG HZ hbz
        generalize (d * m).natAbs = sD at *
        generalize n.natAbs * e.natAbs = sN at *
        generalize n.natAbs = an at *
        generalize m.natAbs = am at *
        cases bn <;> cases bm <;> cases bz
        all_goals
          go_enter Try.func33, Try.ntmps33
          go_wp2_with fail
          obtain ⟨W0, hW, hs0, K0, B0⟩ := start3 w 23 23 23 #[Value.int IntKind.i64 (n), Value.int IntKind.i64 (d)] #[Value.int IntKind.i64 (m), Value.int IntKind.i64 (e)] #[Value.int IntKind.i64 (0), Value.int IntKind.i64 (0)]
          rw [hW]
          clear hW
          have KK := Lib.hid K0
          have BB := Lib.hid B0
          have R := K0.rules
          simp only [Rules] at R
          clear K0 B0
          have sz : w.heap.size + 1 + 1 + 1 ≤ W0.heap.size := by omega
          clear hs0
          (with_reducible refine (HV.out _).mono ?_)
          rintro e wv ⟨rfl, hbv⟩
          replace BB := Lib.hid (BB.out.trans (hbv.mono BB.out.size))
          replace KK := Lib.hid (KK.out.below hbv)
          replace sz := Nat.le_trans sz hbv.size
          replace R := KK.out.rules
          simp only [gro.Rules] at R
          clear hbv
          go_wp2_with fail
          (with_reducible refine (HU.out _).mono ?_)
          rintro e w2 ⟨rfl, hbv⟩
          replace BB := Lib.hid (BB.out.trans (hbv.mono BB.out.size))
          replace KK := Lib.hid (KK.out.below hbv)
          replace sz := Nat.le_trans sz hbv.size
          replace R := KK.out.rules
          simp only [gro.Rules] at R
          clear hbv HV HU
          go_wp2_with fail
          (refine gro.wp_region_steady_n 7 2 (by kernel_rfl) (by kernel_rfl) (by intro _ _ _ _ _ h; exact h) (by kernel_rfl) (by kernel_rfl) (by kernel_rfl) ?_; apply Exists.intro; refine ⟨fun w0 hb0 => ?_, ?_⟩; focus (have KZ := (KK.out).below hb0; have RZ := KZ.rules; simp only [gro.Rules] at RZ; simp only [List.take_succ_cons, List.take_zero]; (repeat (go_big_quiet_step ((first | (go_at_call 59; first | (with_reducible exact call_same (HS1.out _)) | (with_reducible exact call_same (HS2.out _))) | (go_at_call 67; first | (with_reducible exact call_grown (HP1.out _)) | (with_reducible exact call_grown (HP2.out _))))))); exact wpQuiet_nil rfl))
          clear R
          have KA := KK.out.drew
          have BA := BB.out.drew
          refine gro.anyG_one 7 (by kernel_rfl) rfl ?_
          intro y1 hz1 K' hK'
          have KY1 := KA.below hz1
          have BY1 := BA.trans (hz1.mono BA.size)
          have sz1 : w.heap.size + 1 + 1 + 1 ≤ y1.heap.size := Nat.le_trans sz hz1.size
          go_simp
          refine hK' _ _ ⟨hz1.alloc hz1.size _, ?_⟩
          clear hK' K'
          obtain ⟨p, hp⟩ : ∃ p, y1.heap.size = p := ⟨_, rfl⟩
          have KY2 := KY1.new (t := 51) (c := #[Value.int IntKind.u64 0, Value.int IntKind.u64 0]) hp
          have BY2 := BY1.alloc BY1.size (.cells #[Value.int IntKind.u64 0, Value.int IntKind.u64 0] 51)
          have BZ2 := hz1.alloc hz1.size (.cells #[Value.int IntKind.u64 0, Value.int IntKind.u64 0] 51)
          have sp : w2.heap.size ≤ p := by have h := hz1.size; rw [hp] at h; simpa using h
          rw [hp] at sz1 ⊢
          generalize y1.alloc (.cells #[Value.int IntKind.u64 0, Value.int IntKind.u64 0] 51) = y2 at *
          clear hz1 KY1 BY1 hp KA BA
          refine gro.anyG_one 8 (by kernel_rfl) rfl ?_
          intro y3 hz3 K' hK'
          have KY3 := KY2.below hz3
          have BY3 := BY2.trans (hz3.mono BY2.size)
          have BZ3 := BZ2.trans (hz3.mono BZ2.size)
          have RY := KY3.rules
          simp only [gro.Rules] at RY
          go_simp
          refine hK' _ _ ⟨(BZ3.setCell (by first | (simp; done) | (simp; omega)) _).setCell (by first | (simp; done) | (simp; omega)) _, ?_⟩
          clear hK' K' RY
          obtain ⟨y4, hy4, KY4, BY4, sY4⟩ := gro.name_world (gro.Bx.put2 (u := .int .u64 (hi sN)) (v := .int .u64 (lo sN)) KY3 (by first | (simp; done) | (simp; omega))) ((BY3.setCell (by first | (simp; done) | (simp; omega)) _).setCell (by first | (simp; done) | (simp; omega)) _) (s := 0) (by omega)
          rw [hy4]
          clear hy4
          refine gro.anyG_done (by kernel_rfl) ?_
          intro y5 hz5
          have KK := Lib.hid (KY4.below hz5)
          have BB := Lib.hid (BY4.trans (hz5.mono BY4.size))
          have R := KK.out.rules
          simp only [Rules] at R
          clear KY2 BY2 BZ2 KY3 BY3 BZ3 KY4 BY4 hz3 hz5
          have hne : ∀ W, (binOp .neq 51 (Value.agg #[Value.int IntKind.u64 (hi (sN)), Value.int IntKind.u64 (lo (sN))]) (Value.agg #[Value.int IntKind.u64 0, Value.int IntKind.u64 0])).run Try.prog W = _ := HNE.out
          go_wp2_with fail
          (refine gro.wp_region_grown_tail 23 (by kernel_rfl) (by kernel_rfl) ?_; simp only [List.take_succ_cons, List.take_zero, List.drop_succ_cons, List.drop_zero]; (repeat (go_big_quiet_step ((first | (go_at_call 59; (with_reducible exact call_same (HS2.out _))) | (go_at_call 67; (with_reducible exact call_grown (HP2.out _))) | (go_at_call 65; exact call_grown (HR2.out _)))))); refine wpQuiet_nil ?_; intro _ hw'; obtain ⟨nx, hw''⟩ := hw'; subst hw'')
          replace KK := Lib.hid (KK.out.below (below_grown _ nx))
          replace BB := Lib.hid (BB.out.trans ((below_grown _ nx).mono BB.out.size))
          clear R HS1 HS2 HP1 HP2 HR2
          generalize grown _ nx = W4 at *
          have R := KK.out.rules
          simp only [Rules] at R
          go_wp2
          refine bodyPost_ret (v := Value.tuple #[(Value.agg #[Value.int IntKind.i64 (yn), Value.int IntKind.i64 ( yd)]), Value.bool yk]) (by simp [results, Try.results33, go_sem, R]) rfl ⟨?_, ?_⟩
          · rfl
          · exact (BB.out.setCell (by first | (simp; done) | (simp; omega)) _).setCell (by first | (simp; done) | (simp; omega)) _
    · have HNo := @div_no n d m e (by simp [*])
      rw [HNo.1, HNo.2.1, HNo.2.2]
      clear HNo hn hd hm he
      go_enter Try.func33, Try.ntmps33
      go_wp2_with fail
      obtain ⟨W0, hW, hs0, K0, B0⟩ := start3 w 23 23 23 #[Value.int IntKind.i64 (n), Value.int IntKind.i64 (d)] #[Value.int IntKind.i64 (m), Value.int IntKind.i64 (e)] #[Value.int IntKind.i64 (0), Value.int IntKind.i64 (0)]
      rw [hW]
      clear hW
      have KK := Lib.hid K0
      have BB := Lib.hid B0
      have R := K0.rules
      simp only [Rules] at R
      clear K0 B0 hs0
      rw [hv] at HV
      rw [show validQ m e = false by simpa using hu] at HU
      go_wp2_with (go_at_call 20; first | ((with_reducible refine (HV.out _).mono ?_); rintro e wv ⟨rfl, hbv⟩; replace BB := Lib.hid (BB.out.trans (hbv.mono BB.out.size)); replace KK := Lib.hid (KK.out.below hbv); replace R := KK.out.rules; simp only [gro.Rules] at R; clear hbv) | ((with_reducible refine (HU.out _).mono ?_); rintro e wv ⟨rfl, hbv⟩; replace BB := Lib.hid (BB.out.trans (hbv.mono BB.out.size)); replace KK := Lib.hid (KK.out.below hbv); replace R := KK.out.rules; simp only [gro.Rules] at R; clear hbv))
      refine bodyPost_ret (v := Value.tuple #[(Value.agg #[Value.int IntKind.i64 (0), Value.int IntKind.i64 ( 0)]), Value.bool false]) (by simp [results, Try.results33, go_sem, R]) rfl ⟨?_, ?_⟩
      · rfl
      · exact (BB.out.setCell (by first | (simp; done) | (simp; omega)) _).setCell (by first | (simp; done) | (simp; omega)) _
  · have HNo := @div_no n d m e (by simp [*])
    rw [HNo.1, HNo.2.1, HNo.2.2]
    clear HNo hn hd hm he
    go_enter Try.func33, Try.ntmps33
    go_wp2_with fail
    obtain ⟨W0, hW, hs0, K0, B0⟩ := start3 w 23 23 23 #[Value.int IntKind.i64 (n), Value.int IntKind.i64 (d)] #[Value.int IntKind.i64 (m), Value.int IntKind.i64 (e)] #[Value.int IntKind.i64 (0), Value.int IntKind.i64 (0)]
    rw [hW]
    clear hW
    have KK := Lib.hid K0
    have BB := Lib.hid B0
    have R := K0.rules
    simp only [Rules] at R
    clear K0 B0 hs0
    rw [show validQ n d = false by simpa using hv] at HV
    go_wp2_with (go_at_call 20; first | ((with_reducible refine (HV.out _).mono ?_); rintro e wv ⟨rfl, hbv⟩; replace BB := Lib.hid (BB.out.trans (hbv.mono BB.out.size)); replace KK := Lib.hid (KK.out.below hbv); replace R := KK.out.rules; simp only [gro.Rules] at R; clear hbv) | ((with_reducible refine (HU.out _).mono ?_); rintro e wv ⟨rfl, hbv⟩; replace BB := Lib.hid (BB.out.trans (hbv.mono BB.out.size)); replace KK := Lib.hid (KK.out.below hbv); replace R := KK.out.rules; simp only [gro.Rules] at R; clear hbv))
    refine bodyPost_ret (v := Value.tuple #[(Value.agg #[Value.int IntKind.i64 (0), Value.int IntKind.i64 ( 0)]), Value.bool false]) (by simp [results, Try.results33, go_sem, R]) rfl ⟨?_, ?_⟩
    · rfl
    · exact (BB.out.setCell (by first | (simp; done) | (simp; omega)) _).setCell (by first | (simp; done) | (simp; omega)) _
end Go.Proofs.Ytoejhikcnnppnaa.wid
