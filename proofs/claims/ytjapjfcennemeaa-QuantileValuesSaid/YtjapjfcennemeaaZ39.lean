/- Cross, Rat, Red, SumL, Make, Rat2, RatL: proved here in one text, no conditions beyond those that each theorem states. -/
import Derived.Deep.DeepCutAuto
import Derived.Deep.Cut
import Derived.Test.YtjapjfcennemeaaZ16
import Derived.Test.YtjapjfcennemeaaZ14
import Derived.Test.YtjapjfcennemeaaZ28
import Derived.Test.YtjapjfcennemeaaZ18
import Derived.Test.YtjapjfcennemeaaZ27
import Derived.Test.YtjapjfcennemeaaZ38
import Derived.Test.YtjapjfcennemeaaZ13
set_option linter.unusedVariables false
set_option linter.unusedSimpArgs false
section
namespace Go.Proofs.Ytjapjfcennemeaa.wid
open Go.RowKit Go.Proofs.Ytjapjfcennemeaa.mem Go.Proofs.Ytjapjfcennemeaa.gro
set_option linter.unusedVariables false
def I64 (a : Int) : Prop := -9223372036854775808 ≤ a ∧ a ≤ 9223372036854775807
set_option maxHeartbeats 1000000 in
set_option maxRecDepth 100000 in
theorem signed_any (a b : Int) (ha : I64 a) (hb : I64 b) (w : World) :
    Calls Try.prog 153 #[.int .i64 a, .int .i64 b] w fun e w' => e = .returned (.tuple #[.bool (!(decide (a < 0) == decide (b < 0))), (Value.agg #[Value.int IntKind.u64 (hi (a.natAbs * b.natAbs)), Value.int IntKind.u64 (lo (a.natAbs * b.natAbs))])]) ∧ Below w.heap.size w w' := by
  have hA := Lib.hid (fun W => size_any a W ha.1 ha.2)
  have hB := Lib.hid (fun W => size_any b W hb.1 hb.2)
  have hP := fun W => Product_any a.natAbs b.natAbs (by omega) (by unfold I64 at ha; omega) (by omega) (by unfold I64 at hb; omega) W
  simp only [Int.toNat_natCast] at hP
  have HP := Lib.hid hP
  clear hP
  generalize a.natAbs * b.natAbs = m at *
  go_enter Try.func153, Try.ntmps153
  go_wp2_with (first | (go_at_call 156; refine (hA.out _).mono ?_; rintro e w1 ⟨rfl, rfl⟩; clear hA; have hA : Hid True := trivial) | (go_at_call 156; refine (hB.out _).mono ?_; rintro e w1 ⟨rfl, rfl⟩) | fail)
  obtain ⟨W0, hW, hs0, K0, B0⟩ := start1 w 111 #[Value.int IntKind.u64 0, Value.int IntKind.u64 0]
  rw [hW]
  clear hW
  refine (HP.out _).mono ?_
  rintro e w2 ⟨rfl, hb2⟩
  obtain ⟨K2, B2, z2⟩ := K0.call B0 (by omega) hb2
  have R := K2.rules
  simp only [Rules] at R
  have HB2 := Lib.hid B2
  clear K0 B0 K2 B2 hb2 hs0
  go_wp2
  refine bodyPost_ret (v := Value.tuple #[Value.bool (!(decide (a < 0) == decide (b < 0))), (Value.agg #[Value.int IntKind.u64 (hi (m)), Value.int IntKind.u64 (lo (m))])]) (by simp [results, Try.results153, go_sem, R]) rfl ⟨?_, ?_⟩
  · rfl
  · exact (HB2.out.setCell (by first | (simp; done) | (simp; omega)) _).setCell (by first | (simp; done) | (simp; omega)) _
def cmpZ (X Y : Int) : Int := if X < Y then -1 else if X = Y then 0 else 1
theorem cross_sign {a b : Int} (h : a * b ≠ 0) : (!(decide (a < 0) == decide (b < 0))) = decide (a * b < 0) := by
  rcases Int.lt_trichotomy a 0 with h1 | h1 | h1 <;> rcases Int.lt_trichotomy b 0 with k | k | k
  · have := Int.mul_pos_of_neg_of_neg h1 k
    simp [h1, k]; omega
  · subst k; simp at h
  · have := Int.mul_neg_of_neg_of_pos h1 k
    simp [h1, this]; omega
  · subst h1; simp at h
  · subst h1; simp at h
  · subst h1; simp at h
  · have := Int.mul_neg_of_pos_of_neg h1 k
    simp [k, this]; omega
  · subst k; simp at h
  · have := Int.mul_pos h1 k
    rw [decide_eq_false (show ¬ a < 0 by omega), decide_eq_false (show ¬ b < 0 by omega), decide_eq_false (show ¬ a * b < 0 by omega)]; rfl
theorem cross_code (X Y : Int) : (X < 0 → ¬ Y < 0 → cmpZ X Y = -1) ∧ (¬ X < 0 → Y < 0 → cmpZ X Y = 1) ∧ (X < 0 → Y < 0 → cmpZ X Y = cmpN Y.natAbs X.natAbs) ∧ (¬ X < 0 → ¬ Y < 0 → cmpZ X Y = cmpN X.natAbs Y.natAbs) := by
  unfold cmpZ cmpN
  refine ⟨fun h k => ?_, fun h k => ?_, fun h k => ?_, fun h k => ?_⟩ <;> repeat' (first | omega | split)
set_option maxHeartbeats 2000000 in
set_option maxRecDepth 100000 in
theorem Cross_any (a b c d : Int) (ha : I64 a) (hb : I64 b) (hc : I64 c) (hd : I64 d) (w : World) :
    Calls Try.prog 141 #[.int .i64 a, .int .i64 b, .int .i64 c, .int .i64 d] w fun e w' => e = .returned (.int .i64 (cmpZ (a * b) (c * d))) ∧ Below w.heap.size w w' := by
  have hs1 := fun W => signed_any a b ha hb W
  have hs2 := fun W => signed_any c d hc hd W
  have g1 := @cross_sign a b
  have g2 := @cross_sign c d
  rw [← Int.natAbs_mul] at hs1 hs2
  clear ha hb hc hd
  generalize (!(decide (a < 0) == decide (b < 0))) = m at *
  generalize (!(decide (c < 0) == decide (d < 0))) = n at *
  generalize a * b = X at *
  generalize c * d = Y at *
  have HS1 := Lib.hid hs1
  have HS2 := Lib.hid hs2
  clear hs1 hs2
  have HZ1 := Lib.hid (fun W => zero_any X.natAbs W)
  have HZ2 := Lib.hid (fun W => zero_any Y.natAbs W)
  have HCa := Lib.hid (fun W => Compare_any X.natAbs Y.natAbs W)
  have HCb := Lib.hid (fun W => Compare_any Y.natAbs X.natAbs W)
  have HQ := cross_code X Y
  have k1 : ∃ z1, decide (X.natAbs = 0) = z1 ∧ (X < 0 ↔ (m = true ∧ z1 = false)) := ⟨_, rfl, by
    by_cases h : X = 0
    · subst h; simp
    · rw [g1 h]; simp; omega⟩
  have k2 : ∃ z2, decide (Y.natAbs = 0) = z2 ∧ (Y < 0 ↔ (n = true ∧ z2 = false)) := ⟨_, rfl, by
    by_cases h : Y = 0
    · subst h; simp
    · rw [g2 h]; simp; omega⟩
  clear g1 g2
  obtain ⟨z1, hz1, i1⟩ := k1
  obtain ⟨z2, hz2, i2⟩ := k2
  rw [hz1] at HZ1
  rw [hz2] at HZ2
  clear hz1 hz2
  simp only [i1, i2] at HQ
  clear i1 i2
  generalize cmpZ X Y = Z at *
  generalize hc1 : cmpN X.natAbs Y.natAbs = ca at *
  generalize hc2 : cmpN Y.natAbs X.natAbs = cb at *
  clear hc1 hc2
  generalize X.natAbs = x at *
  generalize Y.natAbs = y at *
  have HQ := Lib.hid HQ
  obtain rfl | ⟨rfl, rfl⟩ | ⟨rfl, rfl⟩ : m = false ∨ (m = true ∧ z1 = true) ∨ (m = true ∧ z1 = false) := by cases m <;> cases z1 <;> simp
  all_goals obtain rfl | ⟨rfl, rfl⟩ | ⟨rfl, rfl⟩ : n = false ∨ (n = true ∧ z2 = true) ∨ (n = true ∧ z2 = false) := by cases n <;> cases z2 <;> simp
  all_goals (
    go_enter Try.func141, Try.ntmps141
    go_wp2_with fail
    refine (HS1.out _).mono ?_
    rintro e w1 ⟨rfl, hb1⟩
    go_wp2_with fail
    have K1 := Bx.new (c := #[Value.int IntKind.u64 (hi x), Value.int IntKind.u64 (lo x)]) (t := 111) (Bx.nil_ (W := w1)) rfl
    have B1 := hb1.alloc hb1.size (.cells #[Value.int IntKind.u64 (hi x), Value.int IntKind.u64 (lo x)] 111)
    have z1 := hb1.size
    refine (HS2.out _).mono ?_
    rintro e w2 ⟨rfl, hb2⟩
    have K2 := K1.below hb2
    have B2 := B1.trans (hb2.mono B1.size)
    have z2 := hb2.size
    simp at z2
    have R := K2.rules
    simp only [Rules] at R
    have KK := Lib.hid (Bx.new (c := #[Value.int IntKind.u64 (hi y), Value.int IntKind.u64 (lo y)]) (t := 111) K2 rfl)
    have BB := Lib.hid (B2.alloc B2.size (.cells #[Value.int IntKind.u64 (hi y), Value.int IntKind.u64 (lo y)] 111))
    clear K1 B1 K2 B2 hb1 hb2
    go_wp2_with (first | (go_at_call 147; first | ((with_reducible refine (HZ1.out _).mono ?_); rintro e wv ⟨rfl, hbv⟩; replace BB := Lib.hid (BB.out.trans (hbv.mono BB.out.size)); replace KK := Lib.hid (KK.out.below hbv); replace R := KK.out.rules; simp only [gro.Rules] at R; clear hbv) | ((with_reducible refine (HZ2.out _).mono ?_); rintro e wv ⟨rfl, hbv⟩; replace BB := Lib.hid (BB.out.trans (hbv.mono BB.out.size)); replace KK := Lib.hid (KK.out.below hbv); replace R := KK.out.rules; simp only [gro.Rules] at R; clear hbv)) | (go_at_call 150; first | ((with_reducible refine (HCa.out _).mono ?_); rintro e wv ⟨rfl, hbv⟩; replace BB := Lib.hid (BB.out.trans (hbv.mono BB.out.size)); replace KK := Lib.hid (KK.out.below hbv); replace R := KK.out.rules; simp only [gro.Rules] at R; clear hbv) | ((with_reducible refine (HCb.out _).mono ?_); rintro e wv ⟨rfl, hbv⟩; replace BB := Lib.hid (BB.out.trans (hbv.mono BB.out.size)); replace KK := Lib.hid (KK.out.below hbv); replace R := KK.out.rules; simp only [gro.Rules] at R; clear hbv)))
    go_ret
    exact ⟨ret_int (by have h := HQ.out; simp at h; omega), BB.out⟩)
end Go.Proofs.Ytjapjfcennemeaa.wid
end
section
namespace Go.Proofs.Ytjapjfcennemeaa.wid
open Go.RowKit Go.Proofs.Ytjapjfcennemeaa.mem Go.Proofs.Ytjapjfcennemeaa.gro
set_option linter.unusedVariables false
set_option maxHeartbeats 400000 in
theorem OfR_any (x : Int) (w : World) (h0 : 0 ≤ x) (h1 : x ≤ 18446744073709551615) :
    Calls Try.prog 98 #[.int .u64 x] w fun e w' => e = .returned (Value.agg #[Value.int IntKind.u64 (hi (x.toNat)), Value.int IntKind.u64 (lo (x.toNat))]) ∧ Below w.heap.size w w' := by
  go_enter Try.func98, Try.ntmps98
  go_wp2
  refine bodyPost_ret (v := Value.agg #[Value.int IntKind.u64 0, Value.int IntKind.u64 x]) (by simp [results, Try.results98, go_sem]) rfl ⟨?_, ?_⟩
  · rw [agg_W (hi_of h0 h1) (lo_of h0 h1)]
  · exact (Below.refl _ _).alloc (Nat.le_refl _) _
def RatOk (n d : Int) : Prop := 1 ≤ d ∧ Nat.gcd n.natAbs d.natAbs = 1
def validQ (n d : Int) : Bool := decide (1 ≤ d) && decide (Nat.gcd n.natAbs d.natAbs = 1)
theorem validQ_iff {n d : Int} : validQ n d = true ↔ RatOk n d := by simp [validQ, RatOk]
set_option maxHeartbeats 2000000 in
set_option maxRecDepth 100000 in
theorem Valid_any (n d : Int) (hn : I64 n) (hd : I64 d) (w : World) :
    Calls Try.prog 111 #[(Value.agg #[Value.int IntKind.i64 (n), Value.int IntKind.i64 ( d)])] w fun e w' => e = .returned (.bool (validQ n d)) ∧ Below w.heap.size w w' := by
  by_cases hp : 1 ≤ d
  · have HS := Lib.hid (fun W => sizeQ_any n W hn.1 hn.2)
    have HO1 : Hid (∀ W, Calls Try.prog 125 #[.int .u64 n.natAbs] W fun e w' => e = .returned (Value.agg #[Value.int IntKind.u64 (hi (n.natAbs)), Value.int IntKind.u64 (lo (n.natAbs))]) ∧ Below W.heap.size W w') := fun W => by
      have := Of_any n.natAbs W (by omega) (by unfold I64 at hn; omega)
      rwa [Int.toNat_natCast] at this
    have HO2 : Hid (∀ W, Calls Try.prog 125 #[.int .u64 d] W fun e w' => e = .returned (Value.agg #[Value.int IntKind.u64 (hi (d.natAbs)), Value.int IntKind.u64 (lo (d.natAbs))]) ∧ Below W.heap.size W w') := fun W => by
      have := Of_any d W (by omega) (by unfold I64 at hd; omega)
      rwa [show d.toNat = d.natAbs by omega] at this
    have HO3 : Hid (∀ W, Calls Try.prog 125 #[.int .u64 1] W fun e w' => e = .returned (Value.agg #[Value.int IntKind.u64 (hi (1)), Value.int IntKind.u64 (lo (1))]) ∧ Below W.heap.size W w') := fun W => Of_any 1 W (by omega) (by omega)
    have HG := Lib.hid (fun W => Gcd_any n.natAbs d.natAbs (by unfold I64 at hn; omega) (by unfold I64 at hd; omega) W)
    have hv : decide (Nat.gcd n.natAbs d.natAbs = 1) = validQ n d := by unfold validQ; rw [decide_eq_true hp, Bool.true_and]
    have hd2 := hd.2
    clear hn hd
    have heq : ∀ W, (binOp .eql 111 (Value.agg #[Value.int IntKind.u64 (hi (Nat.gcd n.natAbs d.natAbs)), Value.int IntKind.u64 (lo (Nat.gcd n.natAbs d.natAbs))]) (Value.agg #[Value.int IntKind.u64 (hi (1)), Value.int IntKind.u64 (lo (1))])).run Try.prog W = .ok (.bool (validQ n d)) W := fun W => by rw [wide_eql, hv]
    clear hv
    generalize validQ n d = v at *
    generalize Nat.gcd n.natAbs d.natAbs = g at *
    generalize n.natAbs = x at *
    generalize d.natAbs = y at *
    go_enter Try.func111, Try.ntmps111
    go_wp2_with fail
    obtain ⟨W0, hW, hs0, K0, B0⟩ := start1 w 53 #[Value.int IntKind.i64 n, Value.int IntKind.i64 d]
    rw [hW]
    clear hW
    have R := K0.rules
    simp only [Rules] at R
    (refine gro.wp_region_grown (by kernel_rfl) (by kernel_rfl) ?_; (repeat (go_big_quiet_step ((first | (go_at_call 140; exact call_same (HS.out _)) | (go_at_call 125; first | (with_reducible exact call_grown (HO1.out _)) | (with_reducible exact call_grown (HO2.out _)) | (with_reducible exact call_grown (HO3.out _))) | (go_at_call 139; exact call_grown (HG.out _)))))); refine wpQuiet_nil ?_; intro _ hw'; obtain ⟨nx, hw''⟩ := hw'; subst hw'')
    have B1 := Lib.hid (B0.trans ((below_grown W0 nx).mono (by omega)))
    clear R K0 B0
    go_wp2
    go_ret
    exact ⟨rfl, B1.out⟩
  · have hv : Hid (validQ n d = false) := by unfold validQ; rw [Hid, decide_eq_false hp, Bool.false_and]
    have hc : decide (1 ≤ d) = false := decide_eq_false hp
    go_enter Try.func111, Try.ntmps111
    go_wp2_with fail
    obtain ⟨W0, hW, hs0, K0, B0⟩ := start1 w 53 #[Value.int IntKind.i64 n, Value.int IntKind.i64 d]
    rw [hW]
    clear hW
    have R := K0.rules
    simp only [Rules] at R
    (refine gro.wp_region_grown (by kernel_rfl) (by kernel_rfl) ?_; (repeat (go_big_quiet_step ((fail)))); refine wpQuiet_nil ?_; intro _ hw'; obtain ⟨nx, hw''⟩ := hw'; subst hw'')
    have B1 := Lib.hid (B0.trans ((below_grown W0 nx).mono (by omega)))
    clear R K0 B0
    go_wp2
    go_ret
    exact ⟨ret_bool (by rw [hv.out]), B1.out⟩
end Go.Proofs.Ytjapjfcennemeaa.wid
end
section
namespace Go.Proofs.Ytjapjfcennemeaa.wid
open Go.RowKit Go.Proofs.Ytjapjfcennemeaa.mem Go.Proofs.Ytjapjfcennemeaa.gro
set_option linter.unusedVariables false
def rp (n d : Nat) : Nat := n / Nat.gcd n d
def rq (n d : Nat) : Nat := d / Nat.gcd n d
def fitsP (neg : Bool) (p q : Nat) : Bool := decide (q < 9223372036854775808) && (decide (p < 9223372036854775808) || (decide (p = 9223372036854775808) && neg))
def redOk (neg : Bool) (n d : Nat) : Bool := fitsP neg (rp n d) (rq n d)
def redN (neg : Bool) (n d : Nat) : Int := if redOk neg n d = true then (if neg = true then -(rp n d : Int) else rp n d) else 0
end Go.Proofs.Ytjapjfcennemeaa.wid
end
section
namespace Go.Proofs.Ytjapjfcennemeaa.wid
open Go.RowKit
set_option linter.unusedVariables false
def rN (N D : Int) : Int := redN (decide (N < 0)) N.natAbs D.natAbs
def sg (minus : Bool) (m : Int) : Int := if minus = true then -m else m
theorem sign_mul_pos {n e : Int} (he : 1 ≤ e) : (n * e < 0 ↔ n < 0) ∧ (n * e = 0 ↔ n = 0) := by
  rcases Int.lt_trichotomy n 0 with h | h | h
  · have := Int.mul_neg_of_neg_of_pos h (show 0 < e by omega)
    omega
  · subst h; simp
  · have := Int.mul_pos h (show 0 < e by omega)
    omega
end Go.Proofs.Ytjapjfcennemeaa.wid
end
section
namespace Go.Proofs.Ytjapjfcennemeaa.wid
open Go.RowKit Go.Proofs.Ytjapjfcennemeaa.mem Go.Proofs.Ytjapjfcennemeaa.gro
set_option linter.unusedVariables false
set_option maxRecDepth 100000 in
theorem ofQ_any (n : Int) (w : World) :
    Calls Try.prog 90 #[.int .i64 n] w fun x w' => x = .returned (Value.agg #[Value.int IntKind.i64 (n), Value.int IntKind.i64 ( 1)]) ∧ Below w.heap.size w w' := by
  go_enter Try.func90, Try.ntmps90
  go_wp2_with fail
  obtain ⟨W0, hW, hs0, K0, B0⟩ := start1 w 53 #[Value.int IntKind.i64 n, Value.int IntKind.i64 1]
  rw [hW]
  clear hW
  have R := K0.rules
  simp only [Rules] at R
  refine bodyPost_ret (v := (Value.agg #[Value.int IntKind.i64 (n), Value.int IntKind.i64 ( 1)])) (by simp [results, Try.results90, go_sem, R]) rfl ⟨?_, ?_⟩
  · rfl
  · exact B0
set_option maxRecDepth 100000 in
theorem ofQR_any (n : Int) (w : World) :
    Calls Try.prog 63 #[.int .i64 n] w fun x w' => x = .returned (Value.agg #[Value.int IntKind.i64 (n), Value.int IntKind.i64 ( 1)]) ∧ Below w.heap.size w w' := by
  go_enter Try.func63, Try.ntmps63
  go_wp2_with fail
  obtain ⟨W0, hW, hs0, K0, B0⟩ := start1 w 53 #[Value.int IntKind.i64 n, Value.int IntKind.i64 1]
  rw [hW]
  clear hW
  have R := K0.rules
  simp only [Rules] at R
  refine bodyPost_ret (v := (Value.agg #[Value.int IntKind.i64 (n), Value.int IntKind.i64 ( 1)])) (by simp [results, Try.results63, go_sem, R]) rfl ⟨?_, ?_⟩
  · rfl
  · exact B0
end Go.Proofs.Ytjapjfcennemeaa.wid
end
section
namespace Go.Proofs.Ytjapjfcennemeaa.wid
open Go.RowKit Go.Proofs.Ytjapjfcennemeaa.mem Go.Proofs.Ytjapjfcennemeaa.gro
set_option linter.unusedVariables false
def cmpQ (n d m e : Int) : Int := if validQ n d = true ∧ validQ m e = true then cmpZ (n * e) (m * d) else 0
set_option maxHeartbeats 2000000 in
theorem CompareQ_any (n d m e : Int) (hn : I64 n) (hd : I64 d) (hm : I64 m) (he : I64 e) (w : World) :
    Calls Try.prog 112 #[(Value.agg #[Value.int IntKind.i64 (n), Value.int IntKind.i64 ( d)]), (Value.agg #[Value.int IntKind.i64 (m), Value.int IntKind.i64 ( e)])] w fun x w' => x = .returned (.int .i64 (cmpQ n d m e)) ∧ Below w.heap.size w w' := by
  have HV := Lib.hid (fun W => Valid_any n d hn hd W)
  have HU := Lib.hid (fun W => Valid_any m e hm he W)
  have HX := Lib.hid (fun W => Cross_any n e m d hn he hm hd W)
  obtain ⟨v, hv⟩ : ∃ v, validQ n d = v := ⟨_, rfl⟩
  obtain ⟨u, hu⟩ : ∃ u, validQ m e = u := ⟨_, rfl⟩
  have hq : Hid (cmpQ n d m e = if v = true ∧ u = true then cmpZ (n * e) (m * d) else 0) := by rw [← hv, ← hu]; rfl
  rw [hv] at HV
  rw [hu] at HU
  generalize cmpZ (n * e) (m * d) = c at *
  clear hv hu hn hd hm he
  cases v <;> cases u <;> (
    go_enter Try.func112, Try.ntmps112
    go_wp2_with fail
    obtain ⟨W0, hW, hs0, K0, B0⟩ := start2 w 53 53 #[Value.int IntKind.i64 n, Value.int IntKind.i64 d] #[Value.int IntKind.i64 m, Value.int IntKind.i64 e]
    rw [hW]
    clear hW
    have KK := Lib.hid K0
    have BB := Lib.hid B0
    have R := K0.rules
    simp only [Rules] at R
    clear K0 B0
    go_wp2_with (first | (go_at_call 111; first | ((with_reducible refine (HV.out _).mono ?_); rintro e wv ⟨rfl, hbv⟩; replace BB := Lib.hid (BB.out.trans (hbv.mono BB.out.size)); replace KK := Lib.hid (KK.out.below hbv); replace R := KK.out.rules; simp only [gro.Rules] at R; clear hbv) | ((with_reducible refine (HU.out _).mono ?_); rintro e wv ⟨rfl, hbv⟩; replace BB := Lib.hid (BB.out.trans (hbv.mono BB.out.size)); replace KK := Lib.hid (KK.out.below hbv); replace R := KK.out.rules; simp only [gro.Rules] at R; clear hbv)) | (go_at_call 141; refine (HX.out _).mono ?_; rintro e wv ⟨rfl, hbv⟩; replace BB := Lib.hid (BB.out.trans (hbv.mono BB.out.size)); replace KK := Lib.hid (KK.out.below hbv); replace R := KK.out.rules; simp only [gro.Rules] at R; clear hbv))
    go_ret
    exact ⟨ret_int (by rw [hq.out]; simp), BB.out⟩)
end Go.Proofs.Ytjapjfcennemeaa.wid
end
section
namespace Go.Proofs.Ytjapjfcennemeaa.wid
open Go.RowKit
theorem cmpZ_le {X Y : Int} : cmpZ X Y ≤ 0 ↔ X ≤ Y := by unfold cmpZ; split <;> (try split) <;> omega
end Go.Proofs.Ytjapjfcennemeaa.wid
end
