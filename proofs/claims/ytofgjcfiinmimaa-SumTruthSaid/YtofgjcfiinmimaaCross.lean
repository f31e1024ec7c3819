/- Contracts of signed and of both Cross. -/
import Derived.Test.YtofgjcfiinmimaaMgBox2
import Derived.Test.YtofgjcfiinmimaaSteady
import Derived.Deep.DeepCutAuto
namespace Go.Proofs.Ytofgjcfiinmimaa.wid
open Go.RowKit Go.Proofs.Ytofgjcfiinmimaa.mem Go.Proofs.Ytofgjcfiinmimaa.gro
set_option linter.unusedVariables false
def I64 (a : Int) : Prop := -9223372036854775808 ≤ a ∧ a ≤ 9223372036854775807
theorem prod_bd {a b : Int} (ha : I64 a) (hb : I64 b) : a.natAbs * b.natAbs < 340282366920938463463374607431768211456 := by
  obtain ⟨a1, a2⟩ := ha
  obtain ⟨b1, b2⟩ := hb
  have := Nat.mul_le_mul (show a.natAbs ≤ 9223372036854775808 by omega) (show b.natAbs ≤ 9223372036854775808 by omega)
  omega
set_option maxHeartbeats 1000000 in
set_option maxRecDepth 100000 in
theorem signed_any (a b : Int) (ha : I64 a) (hb : I64 b) (w : World) :
    Calls Try.prog 129 #[.int .i64 a, .int .i64 b] w fun e w' => e = .returned (.tuple #[.bool (!(decide (a < 0) == decide (b < 0))), (Value.agg #[Value.int IntKind.u64 (hi (a.natAbs * b.natAbs)), Value.int IntKind.u64 (lo (a.natAbs * b.natAbs))])]) ∧ Below w.heap.size w w' := by
  have hA := Lib.hid (fun W => size_any a W ha.1 ha.2)
  have hB := Lib.hid (fun W => size_any b W hb.1 hb.2)
  have hP := fun W => Product_any a.natAbs b.natAbs (by omega) (by unfold I64 at ha; omega) (by omega) (by unfold I64 at hb; omega) W
  simp only [Int.toNat_natCast] at hP
  have HP := Lib.hid hP
  clear hP
  generalize a.natAbs * b.natAbs = m at *
  go_enter Try.func129, Try.ntmps129
  go_wp2_with (first | (go_at_call 140; refine (hA.out _).mono ?_; rintro e w1 ⟨rfl, rfl⟩; clear hA; have hA : Hid True := trivial) | (go_at_call 140; refine (hB.out _).mono ?_; rintro e w1 ⟨rfl, rfl⟩) | fail)
  obtain ⟨W0, hW, hs0, K0, B0⟩ := start1 w 99 #[Value.int IntKind.u64 0, Value.int IntKind.u64 0]
  rw [hW]
  clear hW
  refine (HP.out _).mono ?_
  rintro e w2 ⟨rfl, hb2⟩
  obtain ⟨K2, B2, z2⟩ := K0.call B0 (by omega) hb2
  have R := K2.rules
  simp only [Rules] at R
  have HB2 := Lib.hid B2
  clear K0 B0 K2 B2 hb2 hs0
  go_wp2
  refine bodyPost_ret (v := Value.tuple #[Value.bool (!(decide (a < 0) == decide (b < 0))), (Value.agg #[Value.int IntKind.u64 (hi (m)), Value.int IntKind.u64 (lo (m))])]) (by simp [results, Try.results129, go_sem, R]) rfl ⟨?_, ?_⟩
  · rfl
  · exact (HB2.out.setCell (by first | (simp; done) | (simp; omega)) _).setCell (by first | (simp; done) | (simp; omega)) _
/-- The order of two integers as a number. -/
def cmpZ (X Y : Int) : Int := if X < Y then -1 else if X = Y then 0 else 1
theorem sgn_mul (a b : Int) : sgn a * sgn b = sgn (a * b) := by
  unfold sgn
  rcases Int.lt_trichotomy a 0 with h | h | h <;> rcases Int.lt_trichotomy b 0 with k | k | k
  · have := Int.mul_pos_of_neg_of_neg h k
    rw [if_pos h, if_pos k, if_neg (by omega), if_pos this]; rfl
  · subst k; simp
  · have := Int.mul_neg_of_neg_of_pos h k
    rw [if_pos h, if_neg (by omega), if_pos k, if_pos this]; rfl
  · subst h; simp
  · subst h; simp
  · subst h; simp
  · have := Int.mul_neg_of_pos_of_neg h k
    rw [if_neg (by omega), if_pos h, if_pos k, if_pos this]; rfl
  · subst k; simp
  · have := Int.mul_pos h k
    rw [if_neg (by omega), if_pos h, if_neg (by omega), if_pos k, if_neg (by omega), if_pos this]; rfl
theorem sgn_bd (X : Int) : -1 ≤ sgn X ∧ sgn X ≤ 1 := by unfold sgn; split <;> (try split) <;> omega
theorem cross_ref (X Y : Int) : (sgn X < sgn Y → cmpZ X Y = -1) ∧ (sgn Y < sgn X → cmpZ X Y = 1) ∧ (sgn X = sgn Y → cmpZ X Y = sgn X * cmpN X.natAbs Y.natAbs) := by
  unfold sgn cmpZ cmpN
  refine ⟨fun h => ?_, fun h => ?_, fun h => ?_⟩ <;> repeat' (first | omega | split at h | split)
theorem cmpN_bd (a b : Nat) : -1 ≤ cmpN a b ∧ cmpN a b ≤ 1 := by unfold cmpN; split <;> (try split) <;> omega
theorem mul_bd {p c : Int} (h : -1 ≤ p ∧ p ≤ 1) (k : -1 ≤ c ∧ c ≤ 1) : wrap64 (p * c) = p * c := by
  refine IntWalk.wrap64_in _ ?_
  obtain rfl | rfl | rfl : p = -1 ∨ p = 0 ∨ p = 1 := by omega
  · omega
  · omega
  · omega
set_option maxHeartbeats 1000000 in
set_option maxRecDepth 100000 in
theorem CrossR_any (a b c d : Int) (ha : I64 a) (hb : I64 b) (hc : I64 c) (hd : I64 d) (w : World) :
    Calls Try.prog 136 #[.int .i64 a, .int .i64 b, .int .i64 c, .int .i64 d] w fun e w' => e = .returned (.int .i64 (cmpZ (a * b) (c * d))) ∧ Below w.heap.size w w' := by
  have hS := Lib.hid (fun x W => sign_any x W)
  have hAbs := Lib.hid (fun x W (h : I64 x) => Abs_any x W h.1 h.2)
  have hP := fun (x y : Int) W (hx : I64 x) (hy : I64 y) => ProductR_any x.natAbs y.natAbs (by omega) (by unfold I64 at hx; omega) (by omega) (by unfold I64 at hy; omega) W
  simp only [Int.toNat_natCast] at hP
  have HA := Lib.hid ha
  have HB := Lib.hid hb
  have HC := Lib.hid hc
  have HD := Lib.hid hd
  have HP1 := Lib.hid (fun W => hP a b W ha hb)
  have HP2 := Lib.hid (fun W => hP c d W hc hd)
  clear hP ha hb hc hd
  rw [← Int.natAbs_mul] at HP1 HP2
  have e1 : wrap64 (sgn a * sgn b) = sgn (a * b) := by rw [mul_bd (sgn_bd a) (sgn_bd b), sgn_mul]
  have e2 : wrap64 (sgn c * sgn d) = sgn (c * d) := by rw [mul_bd (sgn_bd c) (sgn_bd d), sgn_mul]
  obtain ⟨X, hX⟩ : ∃ X, a * b = X := ⟨_, rfl⟩
  obtain ⟨Y, hY⟩ : ∃ Y, c * d = Y := ⟨_, rfl⟩
  rw [hX] at HP1 e1
  rw [hY] at HP2 e2
  rw [hX, hY]
  clear hX hY
  have HQ := Lib.hid (cross_ref X Y)
  have hb1 := sgn_bd X
  have hb2 := sgn_bd Y
  have hbc := cmpN_bd X.natAbs Y.natAbs
  have HC2 := Lib.hid (fun W => CompareR_any X.natAbs Y.natAbs W)
  have e3 : wrap64 (sgn X * cmpN X.natAbs Y.natAbs) = sgn X * cmpN X.natAbs Y.natAbs := mul_bd (sgn_bd X) (cmpN_bd _ _)
  generalize cmpZ X Y = Z at *
  generalize cmpN X.natAbs Y.natAbs = cm at *
  generalize X.natAbs = m1 at *
  generalize Y.natAbs = m2 at *
  generalize sgn X = p at *
  generalize sgn Y = q at *
  go_enter Try.func136, Try.ntmps136
  go_wp2_with (first | (go_at_call 122; refine (hAbs.out _ _ (by first | exact HA.out | exact HB.out | exact HC.out | exact HD.out)).mono ?_; rintro e w' ⟨rfl, rfl⟩) | (go_at_call 121; refine (HP1.out _).mono ?_; rintro e w1 ⟨rfl, hb1⟩; have B1 := Lib.hid hb1; clear hb1 HP1; have HP1 : Hid True := trivial) | (go_at_call 121; refine (HP2.out _).mono ?_; rintro e w2 ⟨rfl, hb2⟩; have B2 := Lib.hid (B1.out.trans (hb2.mono B1.out.size)); clear hb2) | (go_at_call 141; refine (hS.out _ _).mono ?_; rintro e w' ⟨rfl, rfl⟩) | (go_at_call 125; refine (HC2.out _).mono ?_; rintro e w3 ⟨rfl, hb3⟩; have B3 := Lib.hid (((B2.out.alloc B2.out.size _).alloc (Nat.le_trans B2.out.size (by first | (simp; done) | (simp; omega))) _).trans (hb3.mono (Nat.le_trans B2.out.size (by simp; omega)))); clear hb3))
  · go_ret
    exact ⟨ret_int (HQ.out.1 (by assumption)).symm, (B2.out.alloc B2.out.size _).alloc (Nat.le_trans B2.out.size (by first | (simp; done) | (simp; omega))) _⟩
  · go_ret
    exact ⟨ret_int (HQ.out.2.1 (by assumption)).symm, (B2.out.alloc B2.out.size _).alloc (Nat.le_trans B2.out.size (by first | (simp; done) | (simp; omega))) _⟩
  · go_ret
    exact ⟨ret_int (by rw [mul_bd (by omega) (by omega)]; exact (HQ.out.2.2 (by omega)).symm), B3.out⟩
/-- Whether a product is negative, as the code asks. -/
theorem cross_sign {a b : Int} (h : a * b ≠ 0) : (!(decide (a < 0) == decide (b < 0))) = decide (a * b < 0) := by
  rcases Int.lt_trichotomy a 0 with h1 | h1 | h1 <;> rcases Int.lt_trichotomy b 0 with k | k | k
  · have := Int.mul_pos_of_neg_of_neg h1 k
    simp [h1, k]; omega
  · subst k; simp at h
  · have := Int.mul_neg_of_neg_of_pos h1 k
    simp [h1, this]; omega
  · subst h1; simp at h
  · subst h1; simp at h
  · subst h1; simp at h
  · have := Int.mul_neg_of_pos_of_neg h1 k
    simp [k, this]; omega
  · subst k; simp at h
  · have := Int.mul_pos h1 k
    rw [decide_eq_false (show ¬ a < 0 by omega), decide_eq_false (show ¬ b < 0 by omega), decide_eq_false (show ¬ a * b < 0 by omega)]; rfl
theorem cross_code (X Y : Int) : (X < 0 → ¬ Y < 0 → cmpZ X Y = -1) ∧ (¬ X < 0 → Y < 0 → cmpZ X Y = 1) ∧ (X < 0 → Y < 0 → cmpZ X Y = cmpN Y.natAbs X.natAbs) ∧ (¬ X < 0 → ¬ Y < 0 → cmpZ X Y = cmpN X.natAbs Y.natAbs) := by
  unfold cmpZ cmpN
  refine ⟨fun h k => ?_, fun h k => ?_, fun h k => ?_, fun h k => ?_⟩ <;> repeat' (first | omega | split)
set_option maxHeartbeats 2000000 in
set_option maxRecDepth 100000 in
theorem Cross_any (a b c d : Int) (ha : I64 a) (hb : I64 b) (hc : I64 c) (hd : I64 d) (w : World) :
    Calls Try.prog 110 #[.int .i64 a, .int .i64 b, .int .i64 c, .int .i64 d] w fun e w' => e = .returned (.int .i64 (cmpZ (a * b) (c * d))) ∧ Below w.heap.size w w' := by
  have hs1 := fun W => signed_any a b ha hb W
  have hs2 := fun W => signed_any c d hc hd W
  have g1 := @cross_sign a b
  have g2 := @cross_sign c d
  rw [← Int.natAbs_mul] at hs1 hs2
  clear ha hb hc hd
  generalize (!(decide (a < 0) == decide (b < 0))) = m at *
  generalize (!(decide (c < 0) == decide (d < 0))) = n at *
  generalize a * b = X at *
  generalize c * d = Y at *
  have HS1 := Lib.hid hs1
  have HS2 := Lib.hid hs2
  clear hs1 hs2
  have HZ1 := Lib.hid (fun W => zero_any X.natAbs W)
  have HZ2 := Lib.hid (fun W => zero_any Y.natAbs W)
  have HCa := Lib.hid (fun W => Compare_any X.natAbs Y.natAbs W)
  have HCb := Lib.hid (fun W => Compare_any Y.natAbs X.natAbs W)
  have HQ := cross_code X Y
  have k1 : ∃ z1, decide (X.natAbs = 0) = z1 ∧ (X < 0 ↔ (m = true ∧ z1 = false)) := ⟨_, rfl, by
    by_cases h : X = 0
    · subst h; simp
    · rw [g1 h]; simp; omega⟩
  have k2 : ∃ z2, decide (Y.natAbs = 0) = z2 ∧ (Y < 0 ↔ (n = true ∧ z2 = false)) := ⟨_, rfl, by
    by_cases h : Y = 0
    · subst h; simp
    · rw [g2 h]; simp; omega⟩
  clear g1 g2
  obtain ⟨z1, hz1, i1⟩ := k1
  obtain ⟨z2, hz2, i2⟩ := k2
  rw [hz1] at HZ1
  rw [hz2] at HZ2
  clear hz1 hz2
  simp only [i1, i2] at HQ
  clear i1 i2
  generalize cmpZ X Y = Z at *
  generalize hc1 : cmpN X.natAbs Y.natAbs = ca at *
  generalize hc2 : cmpN Y.natAbs X.natAbs = cb at *
  clear hc1 hc2
  generalize X.natAbs = x at *
  generalize Y.natAbs = y at *
  have HQ := Lib.hid HQ
  obtain rfl | ⟨rfl, rfl⟩ | ⟨rfl, rfl⟩ : m = false ∨ (m = true ∧ z1 = true) ∨ (m = true ∧ z1 = false) := by cases m <;> cases z1 <;> simp
  all_goals obtain rfl | ⟨rfl, rfl⟩ | ⟨rfl, rfl⟩ : n = false ∨ (n = true ∧ z2 = true) ∨ (n = true ∧ z2 = false) := by cases n <;> cases z2 <;> simp
  all_goals (
    go_enter Try.func110, Try.ntmps110
    go_wp2_with fail
    refine (HS1.out _).mono ?_
    rintro e w1 ⟨rfl, hb1⟩
    go_wp2_with fail
    have K1 := Bx.new (c := #[Value.int IntKind.u64 (hi x), Value.int IntKind.u64 (lo x)]) (t := 99) (Bx.nil_ (W := w1)) rfl
    have B1 := hb1.alloc hb1.size (.cells #[Value.int IntKind.u64 (hi x), Value.int IntKind.u64 (lo x)] 99)
    have z1 := hb1.size
    refine (HS2.out _).mono ?_
    rintro e w2 ⟨rfl, hb2⟩
    have K2 := K1.below hb2
    have B2 := B1.trans (hb2.mono B1.size)
    have z2 := hb2.size
    simp at z2
    have R := K2.rules
    simp only [Rules] at R
    have KK := Lib.hid (Bx.new (c := #[Value.int IntKind.u64 (hi y), Value.int IntKind.u64 (lo y)]) (t := 99) K2 rfl)
    have BB := Lib.hid (B2.alloc B2.size (.cells #[Value.int IntKind.u64 (hi y), Value.int IntKind.u64 (lo y)] 99))
    clear K1 B1 K2 B2 hb1 hb2
    go_wp2_with (first | (go_at_call 127; first | ((with_reducible refine (HZ1.out _).mono ?_); rintro e wv ⟨rfl, hbv⟩; replace BB := Lib.hid (BB.out.trans (hbv.mono BB.out.size)); replace KK := Lib.hid (KK.out.below hbv); replace R := KK.out.rules; simp only [gro.Rules] at R; clear hbv) | ((with_reducible refine (HZ2.out _).mono ?_); rintro e wv ⟨rfl, hbv⟩; replace BB := Lib.hid (BB.out.trans (hbv.mono BB.out.size)); replace KK := Lib.hid (KK.out.below hbv); replace R := KK.out.rules; simp only [gro.Rules] at R; clear hbv)) | (go_at_call 130; first | ((with_reducible refine (HCa.out _).mono ?_); rintro e wv ⟨rfl, hbv⟩; replace BB := Lib.hid (BB.out.trans (hbv.mono BB.out.size)); replace KK := Lib.hid (KK.out.below hbv); replace R := KK.out.rules; simp only [gro.Rules] at R; clear hbv) | ((with_reducible refine (HCb.out _).mono ?_); rintro e wv ⟨rfl, hbv⟩; replace BB := Lib.hid (BB.out.trans (hbv.mono BB.out.size)); replace KK := Lib.hid (KK.out.below hbv); replace R := KK.out.rules; simp only [gro.Rules] at R; clear hbv)))
    go_ret
    exact ⟨ret_int (by have h := HQ.out; simp at h; omega), BB.out⟩)
end Go.Proofs.Ytofgjcfiinmimaa.wid
