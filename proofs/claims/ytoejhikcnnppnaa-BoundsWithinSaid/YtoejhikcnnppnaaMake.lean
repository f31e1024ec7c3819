/- Contracts of Of and Make of rational numbers. -/
import Derived.Test.YtoejhikcnnppnaaSumL
namespace Go.Proofs.Ytoejhikcnnppnaa.wid
open Go.RowKit Go.Proofs.Ytoejhikcnnppnaa.mem Go.Proofs.Ytoejhikcnnppnaa.gro
set_option linter.unusedVariables false
def mkF (n d : Int) : Bool := !(decide (n < 0) == decide (d < 0))
def mkN (n d : Int) : Int := if d = 0 then 0 else redN (mkF n d) n.natAbs d.natAbs
def mkD (n d : Int) : Int := if d = 0 then 0 else redD (mkF n d) n.natAbs d.natAbs
def mkOk (n d : Int) : Bool := if d = 0 then false else redOk (mkF n d) n.natAbs d.natAbs
theorem mk_eq {f : Bool} {n d : Int} (h0 : d ≠ 0) (hf : f = mkF n d ∨ n = 0) : redN f n.natAbs d.natAbs = mkN n d ∧ redD f n.natAbs d.natAbs = mkD n d ∧ redOk f n.natAbs d.natAbs = mkOk n d := by
  unfold mkN mkD mkOk
  rw [if_neg h0, if_neg h0, if_neg h0]
  rcases hf with rfl | rfl
  · exact ⟨rfl, rfl, rfl⟩
  · obtain ⟨h1, h2, h3⟩ := @red_sign f 0 d (fun h => absurd rfl h)
    obtain ⟨g1, g2, g3⟩ := @red_sign (mkF 0 d) 0 d (fun h => absurd rfl h)
    exact ⟨h1.trans g1.symm, h2.trans g2.symm, h3.trans g3.symm⟩
theorem mk_zero (n : Int) : mkN n 0 = 0 ∧ mkD n 0 = 0 ∧ mkOk n 0 = false := ⟨rfl, rfl, rfl⟩
theorem red_valid {f : Bool} {n d : Nat} (h : redOk f n d = true) (h0 : 0 < d) : validQ (redN f n d) (redD f n d) = true ∧ I64 (redN f n d) ∧ I64 (redD f n d) := by
  obtain ⟨e1, e2⟩ := red_yes h
  have hg : 0 < Nat.gcd n d := Nat.gcd_pos_of_pos_right _ h0
  have hq : 0 < rq n d := Nat.div_pos (Nat.le_of_dvd h0 (Nat.gcd_dvd_right n d)) hg
  have hc : Nat.gcd (rp n d) (rq n d) = 1 := Nat.gcd_div_gcd_div_gcd_of_pos_right h0
  unfold redOk fitsP at h
  simp only [Bool.and_eq_true, Bool.or_eq_true, decide_eq_true_eq] at h
  rw [e1, e2]
  have hna : (if f = true then -(rp n d : Int) else rp n d).natAbs = rp n d := by split <;> simp
  refine ⟨validQ_iff.2 ⟨by omega, by rw [hna, Int.natAbs_natCast]; exact hc⟩, ?_, ?_⟩
  · unfold I64
    obtain ⟨h1, h2⟩ := h
    split
    · omega
    · rename_i h3
      rcases h2 with h2 | ⟨h2, h4⟩
      · omega
      · exact absurd h4 h3
  · unfold I64; omega
theorem mk_valid {n d : Int} (h : mkOk n d = true) : validQ (mkN n d) (mkD n d) = true ∧ I64 (mkN n d) ∧ I64 (mkD n d) := by
  by_cases h0 : d = 0
  · subst h0; exact absurd h (by simp [mkOk])
  · obtain ⟨e1, e2, e3⟩ := @mk_eq (mkF n d) n d h0 (Or.inl rfl)
    rw [← e3] at h
    rw [← e1, ← e2]
    exact red_valid h (by omega)
set_option maxRecDepth 100000 in
theorem ofQ_any (n : Int) (w : World) :
    Calls Try.prog 28 #[.int .i64 n] w fun x w' => x = .returned (Value.agg #[Value.int IntKind.i64 (n), Value.int IntKind.i64 ( 1)]) ∧ Below w.heap.size w w' := by
  go_enter Try.func28, Try.ntmps28
  go_wp2_with fail
  obtain ⟨W0, hW, hs0, K0, B0⟩ := start1 w 23 #[Value.int IntKind.i64 n, Value.int IntKind.i64 1]
  rw [hW]
  clear hW
  have R := K0.rules
  simp only [Rules] at R
  refine bodyPost_ret (v := (Value.agg #[Value.int IntKind.i64 (n), Value.int IntKind.i64 ( 1)])) (by simp [results, Try.results28, go_sem, R]) rfl ⟨?_, ?_⟩
  · rfl
  · exact B0
set_option maxRecDepth 100000 in
theorem ofQR_any (n : Int) (w : World) :
    Calls Try.prog 29 #[.int .i64 n] w fun x w' => x = .returned (Value.agg #[Value.int IntKind.i64 (n), Value.int IntKind.i64 ( 1)]) ∧ Below w.heap.size w w' := by
  go_enter Try.func29, Try.ntmps29
  go_wp2_with fail
  obtain ⟨W0, hW, hs0, K0, B0⟩ := start1 w 23 #[Value.int IntKind.i64 n, Value.int IntKind.i64 1]
  rw [hW]
  clear hW
  have R := K0.rules
  simp only [Rules] at R
  refine bodyPost_ret (v := (Value.agg #[Value.int IntKind.i64 (n), Value.int IntKind.i64 ( 1)])) (by simp [results, Try.results29, go_sem, R]) rfl ⟨?_, ?_⟩
  · rfl
  · exact B0
set_option maxHeartbeats 2000000 in
set_option maxRecDepth 100000 in
theorem makeQ_any (n d : Int) (hn : I64 n) (hd : I64 d) (w : World) :
    Calls Try.prog 26 #[.int .i64 n, .int .i64 d] w fun x w' => x = .returned (.tuple #[(Value.agg #[Value.int IntKind.i64 (mkN n d), Value.int IntKind.i64 ( mkD n d)]), .bool (mkOk n d)]) ∧ Below w.heap.size w w' := by
  by_cases h0 : d = 0
  · subst h0
    obtain ⟨e1, e2, e3⟩ := mk_zero n
    rw [e1, e2, e3]
    clear e1 e2 e3
    go_enter Try.func26, Try.ntmps26
    go_wp2_with fail
    obtain ⟨W0, hW, hs0, K0, B0⟩ := start1 w 23 #[Value.int IntKind.i64 (0), Value.int IntKind.i64 (0)]
    rw [hW]
    clear hW
    have R := K0.rules
    simp only [Rules] at R
    go_wp2
    refine bodyPost_ret (v := Value.tuple #[(Value.agg #[Value.int IntKind.i64 (0), Value.int IntKind.i64 ( 0)]), Value.bool false]) (by simp [results, Try.results26, go_sem, R]) rfl ⟨?_, ?_⟩
    · rfl
    · first | exact B0 | exact (B0.setCell (by first | (simp; done) | (simp; omega)) _).setCell (by first | (simp; done) | (simp; omega)) _
  · have HR : Hid (∀ (f : Bool), (f = mkF n d ∨ n = 0) → ∀ W, Calls Try.prog 64 #[.bool f, (Value.agg #[Value.int IntKind.u64 (hi (n.natAbs)), Value.int IntKind.u64 (lo (n.natAbs))]), (Value.agg #[Value.int IntKind.u64 (hi (d.natAbs)), Value.int IntKind.u64 (lo (d.natAbs))])] W fun x w' => x = .returned (.tuple #[(Value.agg #[Value.int IntKind.i64 (mkN n d), Value.int IntKind.i64 ( mkD n d)]), .bool (mkOk n d)]) ∧ Below W.heap.size W w') := fun f hf W => by
      have := reduced_any f n.natAbs d.natAbs (by unfold I64 at hn; omega) (by unfold I64 at hd; omega) (by omega) W
      rwa [(mk_eq h0 hf).1, (mk_eq h0 hf).2.1, (mk_eq h0 hf).2.2] at this
    have HS1 := Lib.hid (fun W => sizeQ_any n W hn.1 hn.2)
    have HS2 := Lib.hid (fun W => sizeQ_any d W hd.1 hd.2)
    have hO1 := fun W => Of_any (n.natAbs : Int) W (by omega) (by unfold I64 at hn; omega)
    have hO2 := fun W => Of_any (d.natAbs : Int) W (by omega) (by unfold I64 at hd; omega)
    simp only [Int.toNat_natCast] at hO1 hO2
    have HO1 := Lib.hid hO1
    have HO2 := Lib.hid hO2
    clear hO1 hO2 hn hd
    obtain ⟨bn, hbn⟩ : ∃ b, decide (n < 0) = b := ⟨_, rfl⟩
    obtain ⟨bd, hbd⟩ : ∃ b, decide (d < 0) = b := ⟨_, rfl⟩
    obtain ⟨bz, hbz⟩ : ∃ b, decide (n = 0) = b := ⟨_, rfl⟩
    have HF : Hid (mkF n d = !(bn == bd) ∧ (bz = true → n = 0)) := ⟨by unfold mkF; rw [hbn, hbd], fun h => by subst h; exact of_decide_eq_true hbz⟩
    have HZZ : Hid (bz = true ↔ n = 0) := by unfold Hid; rw [← hbz]; simp
    have h0b : (d == 0) = false := by simpa using h0
    have hzb : (n == 0) = bz := by rw [← hbz]; exact (by by_cases h : n = 0 <;> simp [h])
    clear h0
    generalize mkN n d = yn at *
    generalize mkD n d = yd at *
    generalize mkOk n d = yk at *
    generalize n.natAbs = an at *
    generalize d.natAbs = ad at *
    have HG : Hid (∀ f : Bool, f = (!(bn == bd) && !bz) ∨ f = (!(bn == bd)) → f = mkF n d ∨ n = 0) := fun f h => by
      obtain ⟨h1, h2⟩ := HF.out
      cases bz
      · left; rw [h1]; simpa using h
      · right; exact h2 rfl
    clear HF
    cases bn <;> cases bd <;> cases bz
    all_goals
      go_enter Try.func26, Try.ntmps26
      go_wp2_with fail
      obtain ⟨W0, hW, hs0, K0, B0⟩ := start1 w 23 #[Value.int IntKind.i64 (0), Value.int IntKind.i64 (0)]
      rw [hW]
      clear hW
      have KK := Lib.hid K0
      have BB := Lib.hid B0
      have R := K0.rules
      simp only [Rules] at R
      clear K0 B0
      first
      | (with_reducible refine (HS1.out _).mono ?_)
        rintro x w1 ⟨rfl, rfl⟩
        go_wp2_with fail
        (with_reducible refine (HO1.out _).mono ?_)
        rintro e wv ⟨rfl, hbv⟩; replace BB := Lib.hid (BB.out.trans (hbv.mono BB.out.size)); replace KK := Lib.hid (KK.out.below hbv); replace R := KK.out.rules; simp only [gro.Rules] at R; clear hbv
        go_wp2_with fail
        (with_reducible refine (HS2.out _).mono ?_)
        rintro x w2 ⟨rfl, rfl⟩
        go_wp2_with fail
        (with_reducible refine (HO2.out _).mono ?_)
        rintro e wv ⟨rfl, hbv⟩; replace BB := Lib.hid (BB.out.trans (hbv.mono BB.out.size)); replace KK := Lib.hid (KK.out.below hbv); replace R := KK.out.rules; simp only [gro.Rules] at R; clear hbv
        go_wp2_with fail
        (with_reducible refine (HR.out _ (HG.out _ (by first | (simp; done) | (have hz := HZZ.out; simp only [true_iff, Bool.false_eq_true, false_iff] at hz; first | (simp [hz]; done) | (simp; omega)))) _).mono ?_)
        rintro e wv ⟨rfl, hbv⟩; replace BB := Lib.hid (BB.out.trans (hbv.mono BB.out.size)); replace KK := Lib.hid (KK.out.below hbv); replace R := KK.out.rules; simp only [gro.Rules] at R; clear hbv
        go_wp2
        refine bodyPost_ret (v := Value.tuple #[(Value.agg #[Value.int IntKind.i64 (yn), Value.int IntKind.i64 ( yd)]), Value.bool yk]) (by simp [results, Try.results26, go_sem, R]) rfl ⟨?_, ?_⟩
        · rfl
        · exact (BB.out.setCell (by first | (simp; done) | (simp; omega)) _).setCell (by first | (simp; done) | (simp; omega)) _
      | trace_state
set_option maxHeartbeats 2000000 in
set_option maxRecDepth 100000 in
theorem makeQR_any (n d : Int) (hn : I64 n) (hd : I64 d) (w : World) :
    Calls Try.prog 27 #[.int .i64 n, .int .i64 d] w fun x w' => x = .returned (.tuple #[(Value.agg #[Value.int IntKind.i64 (mkN n d), Value.int IntKind.i64 ( mkD n d)]), .bool (mkOk n d)]) ∧ Below w.heap.size w w' := by
  by_cases h0 : d = 0
  · subst h0
    obtain ⟨e1, e2, e3⟩ := mk_zero n
    rw [e1, e2, e3]
    clear e1 e2 e3
    go_enter Try.func27, Try.ntmps27
    go_wp2_with fail
    obtain ⟨W0, hW, hs0, K0, B0⟩ := start1 w 23 #[Value.int IntKind.i64 (0), Value.int IntKind.i64 (0)]
    rw [hW]
    clear hW
    have R := K0.rules
    simp only [Rules] at R
    go_wp2
    refine bodyPost_ret (v := Value.tuple #[(Value.agg #[Value.int IntKind.i64 (0), Value.int IntKind.i64 ( 0)]), Value.bool false]) (by simp [results, Try.results27, go_sem, R]) rfl ⟨?_, ?_⟩
    · rfl
    · first | exact B0 | exact (B0.setCell (by first | (simp; done) | (simp; omega)) _).setCell (by first | (simp; done) | (simp; omega)) _
  · have HR : Hid (∀ (f : Bool), (f = mkF n d ∨ n = 0) → ∀ W, Calls Try.prog 65 #[.bool f, (Value.agg #[Value.int IntKind.u64 (hi (n.natAbs)), Value.int IntKind.u64 (lo (n.natAbs))]), (Value.agg #[Value.int IntKind.u64 (hi (d.natAbs)), Value.int IntKind.u64 (lo (d.natAbs))])] W fun x w' => x = .returned (.tuple #[(Value.agg #[Value.int IntKind.i64 (mkN n d), Value.int IntKind.i64 ( mkD n d)]), .bool (mkOk n d)]) ∧ Below W.heap.size W w') := fun f hf W => by
      have := reducedR_any f n.natAbs d.natAbs (by unfold I64 at hn; omega) (by unfold I64 at hd; omega) (by omega) W
      rwa [(mk_eq h0 hf).1, (mk_eq h0 hf).2.1, (mk_eq h0 hf).2.2] at this
    have HS1 := Lib.hid (fun W => Abs_any n W hn.1 hn.2)
    have HS2 := Lib.hid (fun W => Abs_any d W hd.1 hd.2)
    have hO1 := fun W => OfR_any (n.natAbs : Int) W (by omega) (by unfold I64 at hn; omega)
    have hO2 := fun W => OfR_any (d.natAbs : Int) W (by omega) (by unfold I64 at hd; omega)
    simp only [Int.toNat_natCast] at hO1 hO2
    have HO1 := Lib.hid hO1
    have HO2 := Lib.hid hO2
    clear hO1 hO2 hn hd
    obtain ⟨bn, hbn⟩ : ∃ b, decide (n < 0) = b := ⟨_, rfl⟩
    obtain ⟨bd, hbd⟩ : ∃ b, decide (d < 0) = b := ⟨_, rfl⟩
    obtain ⟨bz, hbz⟩ : ∃ b, decide (n = 0) = b := ⟨_, rfl⟩
    have HF : Hid (mkF n d = !(bn == bd) ∧ (bz = true → n = 0)) := ⟨by unfold mkF; rw [hbn, hbd], fun h => by subst h; exact of_decide_eq_true hbz⟩
    have HZZ : Hid (bz = true ↔ n = 0) := by unfold Hid; rw [← hbz]; simp
    have h0b : (d == 0) = false := by simpa using h0
    have hzb : (n == 0) = bz := by rw [← hbz]; exact (by by_cases h : n = 0 <;> simp [h])
    clear h0
    generalize mkN n d = yn at *
    generalize mkD n d = yd at *
    generalize mkOk n d = yk at *
    generalize n.natAbs = an at *
    generalize d.natAbs = ad at *
    have HG : Hid (∀ f : Bool, f = (!(bn == bd) && !bz) ∨ f = (!(bn == bd)) → f = mkF n d ∨ n = 0) := fun f h => by
      obtain ⟨h1, h2⟩ := HF.out
      cases bz
      · left; rw [h1]; simpa using h
      · right; exact h2 rfl
    clear HF
    cases bn <;> cases bd <;> cases bz
    all_goals
      go_enter Try.func27, Try.ntmps27
      go_wp2_with fail
      obtain ⟨W0, hW, hs0, K0, B0⟩ := start1 w 23 #[Value.int IntKind.i64 (0), Value.int IntKind.i64 (0)]
      rw [hW]
      clear hW
      have KK := Lib.hid K0
      have BB := Lib.hid B0
      have R := K0.rules
      simp only [Rules] at R
      clear K0 B0
      first
      | (with_reducible refine (HS1.out _).mono ?_)
        rintro x w1 ⟨rfl, rfl⟩
        go_wp2_with fail
        (with_reducible refine (HO1.out _).mono ?_)
        rintro e wv ⟨rfl, hbv⟩; replace BB := Lib.hid (BB.out.trans (hbv.mono BB.out.size)); replace KK := Lib.hid (KK.out.below hbv); replace R := KK.out.rules; simp only [gro.Rules] at R; clear hbv
        go_wp2_with fail
        (with_reducible refine (HS2.out _).mono ?_)
        rintro x w2 ⟨rfl, rfl⟩
        go_wp2_with fail
        (with_reducible refine (HO2.out _).mono ?_)
        rintro e wv ⟨rfl, hbv⟩; replace BB := Lib.hid (BB.out.trans (hbv.mono BB.out.size)); replace KK := Lib.hid (KK.out.below hbv); replace R := KK.out.rules; simp only [gro.Rules] at R; clear hbv
        go_wp2_with fail
        (with_reducible refine (HR.out _ (HG.out _ (by first | (simp; done) | (have hz := HZZ.out; simp only [true_iff, Bool.false_eq_true, false_iff] at hz; first | (simp [hz]; done) | (simp; omega)))) _).mono ?_)
        rintro e wv ⟨rfl, hbv⟩; replace BB := Lib.hid (BB.out.trans (hbv.mono BB.out.size)); replace KK := Lib.hid (KK.out.below hbv); replace R := KK.out.rules; simp only [gro.Rules] at R; clear hbv
        go_wp2
        refine bodyPost_ret (v := Value.tuple #[(Value.agg #[Value.int IntKind.i64 (yn), Value.int IntKind.i64 ( yd)]), Value.bool yk]) (by simp [results, Try.results27, go_sem, R]) rfl ⟨?_, ?_⟩
        · rfl
        · exact (BB.out.setCell (by first | (simp; done) | (simp; omega)) _).setCell (by first | (simp; done) | (simp; omega)) _
      | trace_state
end Go.Proofs.Ytoejhikcnnppnaa.wid
