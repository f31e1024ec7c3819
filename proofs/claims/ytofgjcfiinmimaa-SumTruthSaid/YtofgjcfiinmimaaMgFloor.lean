/- SumL; Make; MeanL; Whole; Floor: texts in one. -/
import Derived.Test.YtofgjcfiinmimaaRedR
import Derived.Test.YtofgjcfiinmimaaCross
import Derived.Test.YtofgjcfiinmimaaMgClk
import Derived.Test.YtofgjcfiinmimaaMgGrown
/- Sums of fractions as integers; what reduced makes of them. -/
namespace Go.Proofs.Ytofgjcfiinmimaa.wid
open Go.RowKit
set_option linter.unusedVariables false
def rN (N D : Int) : Int := redN (decide (N < 0)) N.natAbs D.natAbs
def rD (N D : Int) : Int := redD (decide (N < 0)) N.natAbs D.natAbs
def rOk (N D : Int) : Bool := redOk (decide (N < 0)) N.natAbs D.natAbs
theorem red_sign {f : Bool} {N D : Int} (h : N ≠ 0 → f = decide (N < 0)) : redN f N.natAbs D.natAbs = rN N D ∧ redD f N.natAbs D.natAbs = rD N D ∧ redOk f N.natAbs D.natAbs = rOk N D := by
  by_cases h0 : N = 0
  · subst h0
    have hk : ∀ f, redOk f (0 : Int).natAbs D.natAbs = redOk false (0 : Int).natAbs D.natAbs := fun f => by
      unfold redOk fitsP rp; simp
    have hn : ∀ f, redN f (0 : Int).natAbs D.natAbs = redN false (0 : Int).natAbs D.natAbs := fun f => by
      unfold redN; rw [hk f]; unfold rp; simp
    have hd : ∀ f, redD f (0 : Int).natAbs D.natAbs = redD false (0 : Int).natAbs D.natAbs := fun f => by
      unfold redD; rw [hk f]
    unfold rN rD rOk
    rw [hn f, hd f, hk f, hn (decide ((0 : Int) < 0)), hd (decide ((0 : Int) < 0)), hk (decide ((0 : Int) < 0))]
    simp
  · rw [h h0]; exact ⟨rfl, rfl, rfl⟩
def sg (minus : Bool) (m : Int) : Int := if minus = true then -m else m
theorem sign_mul_pos {n e : Int} (he : 1 ≤ e) : (n * e < 0 ↔ n < 0) ∧ (n * e = 0 ↔ n = 0) := by
  rcases Int.lt_trichotomy n 0 with h | h | h
  · have := Int.mul_neg_of_neg_of_pos h (show 0 < e by omega)
    omega
  · subst h; simp
  · have := Int.mul_pos h (show 0 < e by omega)
    omega
theorem sum_cases {n d m e : Int} {minus : Bool} (hd : 1 ≤ d) (he : 1 ≤ e) (N : Int) (hN : N = n * e + sg minus m * d) :
    let fm := decide (n < 0)
    let fn := !(decide (m < 0) == minus)
    let X := n.natAbs * e.natAbs
    let Y := m.natAbs * d.natAbs
    (fm = fn → N.natAbs = X + Y ∧ (N ≠ 0 → fm = decide (N < 0))) ∧ (fm ≠ fn → Y ≤ X → N.natAbs = X - Y ∧ (N ≠ 0 → fm = decide (N < 0))) ∧ (fm ≠ fn → X < Y → N.natAbs = Y - X ∧ (N ≠ 0 → fn = decide (N < 0))) := by
  intro fm fn X Y
  have hX : X = (n * e).natAbs := (Int.natAbs_mul n e).symm
  have hs : (sg minus m).natAbs = m.natAbs := by unfold sg; split <;> simp
  have hY : Y = (sg minus m * d).natAbs := by rw [Int.natAbs_mul, hs]
  obtain ⟨p1, p2⟩ := @sign_mul_pos n e he
  obtain ⟨q1, q2⟩ := @sign_mul_pos (sg minus m) d hd
  have hfn : sg minus m ≠ 0 → fn = decide (sg minus m < 0) := by
    intro h
    show (!(decide (m < 0) == minus)) = _
    cases minus
    · simp [sg]
    · have hm : m ≠ 0 := by intro h0; exact h (by simp [sg, h0])
      by_cases h1 : m < 0
      · simp [sg, h1]; omega
      · simp [sg, h1]; omega
  have hfm : fm = decide (n < 0) := rfl
  generalize hP : n * e = P at *
  generalize hQ : sg minus m * d = Q at *
  generalize hM : sg minus m = M at *
  clear_value X Y fm fn
  subst hX hY hN hfm
  by_cases hM0 : M = 0
  · have hQ0 : Q = 0 := q2.2 hM0
    subst hQ0
    refine ⟨fun h => ⟨by simp, fun h0 => by simp [← p1]⟩, fun h hl => ⟨by simp, fun h0 => by simp [← p1]⟩, fun h hl => ?_⟩
    simp at hl
  · rw [hfn hM0]
    refine ⟨fun h => ?_, fun h hl => ?_, fun h hl => ?_⟩
    · rw [decide_eq_decide] at h
      refine ⟨by omega, fun h0 => ?_⟩
      rw [decide_eq_decide]; omega
    · have h' : ¬ ((n < 0) ↔ (M < 0)) := fun h2 => h (decide_eq_decide.2 h2)
      refine ⟨by omega, fun h0 => ?_⟩
      rw [decide_eq_decide]; omega
    · have h' : ¬ ((n < 0) ↔ (M < 0)) := fun h2 => h (decide_eq_decide.2 h2)
      refine ⟨by omega, fun h0 => ?_⟩
      rw [decide_eq_decide]; omega
end Go.Proofs.Ytofgjcfiinmimaa.wid

/- Contracts of Of and Make of rational numbers. -/
namespace Go.Proofs.Ytofgjcfiinmimaa.wid
open Go.RowKit Go.Proofs.Ytofgjcfiinmimaa.mem Go.Proofs.Ytofgjcfiinmimaa.gro
set_option linter.unusedVariables false
def mkF (n d : Int) : Bool := !(decide (n < 0) == decide (d < 0))
def mkN (n d : Int) : Int := if d = 0 then 0 else redN (mkF n d) n.natAbs d.natAbs
def mkD (n d : Int) : Int := if d = 0 then 0 else redD (mkF n d) n.natAbs d.natAbs
def mkOk (n d : Int) : Bool := if d = 0 then false else redOk (mkF n d) n.natAbs d.natAbs
theorem mk_eq {f : Bool} {n d : Int} (h0 : d ≠ 0) (hf : f = mkF n d ∨ n = 0) : redN f n.natAbs d.natAbs = mkN n d ∧ redD f n.natAbs d.natAbs = mkD n d ∧ redOk f n.natAbs d.natAbs = mkOk n d := by
  unfold mkN mkD mkOk
  rw [if_neg h0, if_neg h0, if_neg h0]
  rcases hf with rfl | rfl
  · exact ⟨rfl, rfl, rfl⟩
  · obtain ⟨h1, h2, h3⟩ := @red_sign f 0 d (fun h => absurd rfl h)
    obtain ⟨g1, g2, g3⟩ := @red_sign (mkF 0 d) 0 d (fun h => absurd rfl h)
    exact ⟨h1.trans g1.symm, h2.trans g2.symm, h3.trans g3.symm⟩
theorem mk_zero (n : Int) : mkN n 0 = 0 ∧ mkD n 0 = 0 ∧ mkOk n 0 = false := ⟨rfl, rfl, rfl⟩
theorem red_valid {f : Bool} {n d : Nat} (h : redOk f n d = true) (h0 : 0 < d) : validQ (redN f n d) (redD f n d) = true ∧ I64 (redN f n d) ∧ I64 (redD f n d) := by
  obtain ⟨e1, e2⟩ := red_yes h
  have hg : 0 < Nat.gcd n d := Nat.gcd_pos_of_pos_right _ h0
  have hq : 0 < rq n d := Nat.div_pos (Nat.le_of_dvd h0 (Nat.gcd_dvd_right n d)) hg
  have hc : Nat.gcd (rp n d) (rq n d) = 1 := Nat.gcd_div_gcd_div_gcd_of_pos_right h0
  unfold redOk fitsP at h
  simp only [Bool.and_eq_true, Bool.or_eq_true, decide_eq_true_eq] at h
  rw [e1, e2]
  have hna : (if f = true then -(rp n d : Int) else rp n d).natAbs = rp n d := by split <;> simp
  refine ⟨validQ_iff.2 ⟨by omega, by rw [hna, Int.natAbs_natCast]; exact hc⟩, ?_, ?_⟩
  · unfold I64
    obtain ⟨h1, h2⟩ := h
    split
    · omega
    · rename_i h3
      rcases h2 with h2 | ⟨h2, h4⟩
      · omega
      · exact absurd h4 h3
  · unfold I64; omega
theorem mk_valid {n d : Int} (h : mkOk n d = true) : validQ (mkN n d) (mkD n d) = true ∧ I64 (mkN n d) ∧ I64 (mkD n d) := by
  by_cases h0 : d = 0
  · subst h0; exact absurd h (by simp [mkOk])
  · obtain ⟨e1, e2, e3⟩ := @mk_eq (mkF n d) n d h0 (Or.inl rfl)
    rw [← e3] at h
    rw [← e1, ← e2]
    exact red_valid h (by omega)
set_option maxRecDepth 100000 in
theorem ofQ_any (n : Int) (w : World) :
    Calls Try.prog 98 #[.int .i64 n] w fun x w' => x = .returned (Value.agg #[Value.int IntKind.i64 (n), Value.int IntKind.i64 ( 1)]) ∧ Below w.heap.size w w' := by
  go_enter Try.func98, Try.ntmps98
  go_wp2_with fail
  obtain ⟨W0, hW, hs0, K0, B0⟩ := start1 w 41 #[Value.int IntKind.i64 n, Value.int IntKind.i64 1]
  rw [hW]
  clear hW
  have R := K0.rules
  simp only [Rules] at R
  refine bodyPost_ret (v := (Value.agg #[Value.int IntKind.i64 (n), Value.int IntKind.i64 ( 1)])) (by simp [results, Try.results98, go_sem, R]) rfl ⟨?_, ?_⟩
  · rfl
  · exact B0
set_option maxRecDepth 100000 in
theorem ofQR_any (n : Int) (w : World) :
    Calls Try.prog 49 #[.int .i64 n] w fun x w' => x = .returned (Value.agg #[Value.int IntKind.i64 (n), Value.int IntKind.i64 ( 1)]) ∧ Below w.heap.size w w' := by
  go_enter Try.func49, Try.ntmps49
  go_wp2_with fail
  obtain ⟨W0, hW, hs0, K0, B0⟩ := start1 w 41 #[Value.int IntKind.i64 n, Value.int IntKind.i64 1]
  rw [hW]
  clear hW
  have R := K0.rules
  simp only [Rules] at R
  refine bodyPost_ret (v := (Value.agg #[Value.int IntKind.i64 (n), Value.int IntKind.i64 ( 1)])) (by simp [results, Try.results49, go_sem, R]) rfl ⟨?_, ?_⟩
  · rfl
  · exact B0
end Go.Proofs.Ytofgjcfiinmimaa.wid

/- The mean of two integers by bits. No program in sight. -/
namespace Go.Proofs.Ytofgjcfiinmimaa.wid
open Go
theorem nat_mean : ∀ (k m n : Nat), m < k → m + n = 2 * (m &&& n) + (m ^^^ n)
  | 0, m, n, h => absurd h (Nat.not_lt_zero _)
  | k + 1, m, n, h => by
    by_cases h0 : m = 0
    · subst h0; simp
    · have ih := nat_mean k (m / 2) (n / 2) (by omega)
      have a1 : (m &&& n) / 2 = m / 2 &&& n / 2 := Nat.and_div_two
      have a2 : (m ^^^ n) / 2 = m / 2 ^^^ n / 2 := Nat.xor_div_two
      have a3 : (m &&& n) % 2 = 1 ↔ m % 2 = 1 ∧ n % 2 = 1 := Nat.and_mod_two_eq_one
      have a4 : (m ^^^ n) % 2 = 1 ↔ ¬(m % 2 = 1 ↔ n % 2 = 1) := Nat.xor_mod_two_eq_one
      rw [← a1, ← a2] at ih
      omega
theorem wrap_toInt (v : BitVec 64) : IntKind.i64.wrap (v.toNat : Int) = v.toInt := by
  have := v.isLt
  rw [BitVec.toInt_eq_toNat_cond]
  simp [IntKind.wrap, IntKind.bits, IntKind.signed]
  split <;> omega
theorem bits_sum {x y : Int} (hx : -9223372036854775808 ≤ x ∧ x ≤ 9223372036854775807) (hy : -9223372036854775808 ≤ y ∧ y ≤ 9223372036854775807) :
    x + y = 2 * bits .and .i64 x y + bits .xor .i64 x y := by
  have e1 : bits .and .i64 x y = (BitVec.ofInt 64 x &&& BitVec.ofInt 64 y).toInt := wrap_toInt _
  have e2 : bits .xor .i64 x y = (BitVec.ofInt 64 x ^^^ BitVec.ofInt 64 y).toInt := wrap_toInt _
  have f1 : (BitVec.ofInt 64 x).toInt = x := BitVec.toInt_ofInt_eq_self (by omega) (by omega) (by omega)
  have f2 : (BitVec.ofInt 64 y).toInt = y := BitVec.toInt_ofInt_eq_self (by omega) (by omega) (by omega)
  rw [e1, e2]
  generalize BitVec.ofInt 64 x = a at *
  generalize BitVec.ofInt 64 y = b at *
  have g := nat_mean (a.toNat + 1) a.toNat b.toNat (by omega)
  rw [← f1, ← f2]
  have m1 := BitVec.toInt_eq_msb_cond a
  have m2 := BitVec.toInt_eq_msb_cond b
  have m3 := BitVec.toInt_eq_msb_cond (a &&& b)
  have m4 := BitVec.toInt_eq_msb_cond (a ^^^ b)
  rw [BitVec.msb_and] at m3
  rw [BitVec.msb_xor] at m4
  rw [BitVec.toNat_and] at m3
  rw [BitVec.toNat_xor] at m4
  rw [m1, m2, m3, m4]
  cases a.msb <;> cases b.msb <;> simp <;> omega
theorem bits_mean {x y : Int} (hx : -9223372036854775808 ≤ x ∧ x ≤ 9223372036854775807) (hy : -9223372036854775808 ≤ y ∧ y ≤ 9223372036854775807) :
    bits .and .i64 x y + bits .xor .i64 x y / 2 = (x + y) / 2 := by
  have := bits_sum hx hy
  omega
end Go.Proofs.Ytofgjcfiinmimaa.wid

/- Contract of Whole in the code: bounds of two whole numbers. -/
namespace Go.Proofs.Ytofgjcfiinmimaa.wid
open Go.RowKit Go.Proofs.Ytofgjcfiinmimaa.mem Go.Proofs.Ytofgjcfiinmimaa.gro
set_option linter.unusedVariables false
def whl (x y : Int) (v : Int) : Int := if x ≤ y then v else 0
set_option maxHeartbeats 2000000 in
set_option maxRecDepth 100000 in
theorem WholeB_any (x y : Int) (hx : I64 x) (hy : I64 y) (w : World) : Calls Try.prog 99 #[.int .i64 x, .int .i64 y] w fun e w' => e = .returned (.tuple #[.agg #[.int .i64 (whl x y x), .int .i64 (whl x y 1), .int .i64 (whl x y ((x + y) / 2)), .int .i64 (whl x y 1), .int .i64 (whl x y y), .int .i64 (whl x y 1)], .bool (decide (x ≤ y))]) ∧ Below w.heap.size w w' := by
  have H1 := Lib.hid (fun W => ofQ_any x W)
  have H2 := Lib.hid (fun W => ofQ_any ((x + y) / 2) W)
  have H3 := Lib.hid (fun W => ofQ_any y W)
  have hm := bits_mean hx hy
  have hw : IntKind.i64.wrap ((x + y) / 2) = (x + y) / 2 := IntWalk.i64_in _ (by unfold I64 at hx hy; omega)
  clear hx hy
  by_cases hle : x ≤ y
  · have q : ∀ v, whl x y v = v := fun v => if_pos hle
    rw [q, q, q, q, decide_eq_true hle]
    have hgt : decide (y < x) = false := decide_eq_false (by omega)
    clear q hle
    generalize (x + y) / 2 = m at *
    go_enter Try.func99, Try.ntmps99
    go_wp2_with fail
    obtain ⟨W0, hW, hs0, K0, B0⟩ := start1 w 43 #[Value.int IntKind.i64 0, Value.int IntKind.i64 0, Value.int IntKind.i64 0, Value.int IntKind.i64 0, Value.int IntKind.i64 0, Value.int IntKind.i64 0]
    rw [hW]
    clear hW
    have KK := Lib.hid K0
    have BB := Lib.hid B0
    have R := K0.rules
    simp only [Rules] at R
    clear K0 B0 hs0
    (with_reducible refine (H1.out _).mono ?_)
    rintro e wv ⟨rfl, hbv⟩; replace BB := Lib.hid (BB.out.trans (hbv.mono BB.out.size)); replace KK := Lib.hid (KK.out.below hbv); replace R := KK.out.rules; simp only [gro.Rules] at R; clear hbv
    go_wp2_with fail
    (refine (H2.out _).mono ?_)
    rintro e wv ⟨rfl, hbv⟩; replace BB := Lib.hid (BB.out.trans (hbv.mono BB.out.size)); replace KK := Lib.hid (KK.out.below hbv); replace R := KK.out.rules; simp only [gro.Rules] at R; clear hbv
    go_wp2_with fail
    (with_reducible refine (H3.out _).mono ?_)
    rintro e wv ⟨rfl, hbv⟩; replace BB := Lib.hid (BB.out.trans (hbv.mono BB.out.size)); replace KK := Lib.hid (KK.out.below hbv); replace R := KK.out.rules; simp only [gro.Rules] at R; clear hbv
    go_wp2
    refine bodyPost_ret (v := Value.tuple #[.agg #[.int .i64 x, .int .i64 1, .int .i64 m, .int .i64 1, .int .i64 y, .int .i64 1], .bool true]) (by simp [results, Try.results99, go_sem, R]) rfl ⟨?_, ?_⟩
    · rfl
    · exact (((((BB.out.setCell (by first | (simp; done) | (simp; omega)) _).setCell (by first | (simp; done) | (simp; omega)) _).setCell (by first | (simp; done) | (simp; omega)) _).setCell (by first | (simp; done) | (simp; omega)) _).setCell (by first | (simp; done) | (simp; omega)) _).setCell (by first | (simp; done) | (simp; omega)) _
  · have q : ∀ v, whl x y v = 0 := fun v => if_neg hle
    rw [q, q, q, q, decide_eq_false hle]
    have hgt : decide (y < x) = true := decide_eq_true (by omega)
    clear q hle H1 H2 H3 hm hw
    go_enter Try.func99, Try.ntmps99
    go_wp2_with fail
    obtain ⟨W0, hW, hs0, K0, B0⟩ := start1 w 43 #[Value.int IntKind.i64 0, Value.int IntKind.i64 0, Value.int IntKind.i64 0, Value.int IntKind.i64 0, Value.int IntKind.i64 0, Value.int IntKind.i64 0]
    rw [hW]
    clear hW
    have R := K0.rules
    simp only [Rules] at R
    go_wp2
    refine bodyPost_ret (v := Value.tuple #[.agg #[.int .i64 0, .int .i64 0, .int .i64 0, .int .i64 0, .int .i64 0, .int .i64 0], .bool false]) (by simp [results, Try.results99, go_sem, R]) rfl ⟨?_, ?_⟩
    · rfl
    · first | exact B0 | exact (((((B0.setCell (by first | (simp; done) | (simp; omega)) _).setCell (by first | (simp; done) | (simp; omega)) _).setCell (by first | (simp; done) | (simp; omega)) _).setCell (by first | (simp; done) | (simp; omega)) _).setCell (by first | (simp; done) | (simp; omega)) _).setCell (by first | (simp; done) | (simp; omega)) _
end Go.Proofs.Ytofgjcfiinmimaa.wid

/- Contracts of FloorDiv and CeilDiv by a positive number. -/
namespace Go.Proofs.Ytofgjcfiinmimaa.wid
open Go.RowKit Go.Proofs.Ytofgjcfiinmimaa.mem Go.Proofs.Ytofgjcfiinmimaa.gro
set_option linter.unusedVariables false
theorem neg_parts {a b : Int} (h : a < 0) (hb : 1 ≤ b) : ∃ q r : Int, a.tdiv b = -q ∧ a.tmod b = -r ∧ 0 ≤ q ∧ q ≤ -a ∧ 0 ≤ r ∧ r < b ∧ (r = 0 → a / b = -q ∧ -((-a) / b) = -q) ∧ (r ≠ 0 → a / b = -q - 1 ∧ -((-a) / b) = -q ∧ q + 1 ≤ -a) := by
  refine ⟨(-a) / b, (-a) % b, ?_, ?_, Int.ediv_nonneg (by omega) (by omega), Int.ediv_le_self _ (by omega), Int.emod_nonneg _ (by omega), Int.emod_lt_of_pos _ (by omega), fun h0 => ⟨?_, rfl⟩, fun h0 => ⟨?_, rfl, ?_⟩⟩
  · rw [show a.tdiv b = -((-a).tdiv b) by rw [Int.neg_tdiv, Int.neg_neg], Int.tdiv_eq_ediv_of_nonneg (by omega)]
  · rw [show a.tmod b = -((-a).tmod b) by rw [Int.neg_tmod, Int.neg_neg], Int.tmod_eq_emod_of_nonneg (by omega)]
  · have h1 := Int.mul_ediv_add_emod (-a) b
    rw [h0] at h1
    have : a = b * (-((-a) / b)) := by rw [Int.mul_neg]; omega
    conv => lhs; rw [this]
    exact Int.mul_ediv_cancel_left _ (by omega)
  · have h1 := Int.mul_ediv_add_emod (-a) b
    have h2 := Int.emod_nonneg (-a) (show b ≠ 0 by omega)
    have h3 := Int.emod_lt_of_pos (-a) (show 0 < b by omega)
    generalize (-a) / b = q at *
    generalize (-a) % b = r at *
    have : a = (b - r) + b * (-q - 1) := by rw [Int.mul_sub, Int.mul_neg]; omega
    rw [this, Int.add_mul_ediv_left _ _ (by omega), Int.ediv_eq_zero_of_lt (by omega) (by omega)]
    omega
  · have h1 := Int.mul_ediv_add_emod (-a) b
    have h2 := Int.emod_nonneg (-a) (show b ≠ 0 by omega)
    have h4 := Int.ediv_nonneg (show 0 ≤ -a by omega) (show 0 ≤ b by omega)
    have := Int.mul_le_mul_of_nonneg_right hb h4
    omega
theorem pos_parts {a b : Int} (h : 0 ≤ a) (hb : 1 ≤ b) : 0 ≤ a / b ∧ a / b ≤ a ∧ 0 ≤ a % b ∧ a % b < b ∧ (a % b = 0 → -((-a) / b) = a / b) ∧ (a % b ≠ 0 → -((-a) / b) = a / b + 1 ∧ a / b + 1 ≤ a) := by
  have h1 := Int.mul_ediv_add_emod a b
  have h2 := Int.emod_nonneg a (show b ≠ 0 by omega)
  have h3 := Int.emod_lt_of_pos a (show 0 < b by omega)
  have h4 := Int.ediv_nonneg h (show 0 ≤ b by omega)
  have h5 := Int.mul_le_mul_of_nonneg_right hb h4
  refine ⟨Int.ediv_nonneg h (by omega), Int.ediv_le_self _ h, h2, h3, fun h0 => ?_, fun h0 => ⟨?_, by omega⟩⟩
  · generalize a / b = q at *
    have : -a = b * (-q) := by rw [Int.mul_neg]; omega
    rw [this, Int.mul_ediv_cancel_left _ (by omega)]; omega
  · generalize a / b = q at *
    generalize a % b = r at *
    have : -a = (b - r) + b * (-q - 1) := by rw [Int.mul_sub, Int.mul_neg]; omega
    rw [this, Int.add_mul_ediv_left _ _ (by omega), Int.ediv_eq_zero_of_lt (by omega) (by omega)]
    omega
theorem ret_pair {a b : Int} (h : a = b) : Ending.returned (.tuple #[.int .i64 a, .bool true]) = .returned (.tuple #[.int .i64 b, .bool true]) := by rw [h]
set_option maxHeartbeats 2000000 in
set_option maxRecDepth 100000 in
theorem FloorDivR_any (a b : Int) (ha : -9223372036854775808 ≤ a) (ha2 : a ≤ 9223372036854775807) (hb : 1 ≤ b) (hb2 : b ≤ 9223372036854775807) (w : World) :
    Calls Try.prog 132 #[.int .i64 a, .int .i64 b] w fun e w' => e = .returned (.tuple #[.int .i64 (a / b), .bool true]) ∧ w = w' := by
  have hbz : (b == 0) = false := by simp; omega
  have hbm : (b == -1) = false := by simp; omega
  have hbn : decide (b < 0) = false := by simp; omega
  obtain ⟨bm, hm⟩ : ∃ bm, (a == -9223372036854775808) = bm := ⟨_, rfl⟩
  by_cases h0 : 0 ≤ a
  · obtain ⟨q0, q1, r0, r1, k1, k2⟩ := pos_parts h0 hb
    have K1 := Lib.hid k1
    have K2 := Lib.hid k2
    clear k1 k2
    have han : decide (a < 0) = false := by simp; omega
    obtain ⟨V, hV⟩ : ∃ V, a / b = V := ⟨_, rfl⟩
    rw [hV]
    have HV := Lib.hid hV
    clear hV
    by_cases hr : a % b = 0
    · have hr1 : (a % b != 0) = false := by simp [hr]
      have HR := Lib.hid hr
      clear hr
      cases bm
      all_goals (
        go_enter Try.func132, Try.ntmps132
        go_wp2
        go_ret2
        exact ⟨ret_pair (HV.out), rfl⟩)
    · have hr1 : (a % b != 0) = true := by simp [hr]
      have hbd := (K2.out hr).2
      have HR := Lib.hid hr
      clear hr
      cases bm
      all_goals (
        go_enter Try.func132, Try.ntmps132
        go_wp2
        go_ret2
        exact ⟨ret_pair (HV.out), rfl⟩)
  · obtain ⟨q, r, e1, e2, q0, q1, r0, r1, k1, k2⟩ := neg_parts (show a < 0 by omega) hb
    have K1 := Lib.hid k1
    have K2 := Lib.hid k2
    clear k1 k2
    have han : decide (a < 0) = true := by simp; omega
    obtain ⟨V, hV⟩ : ∃ V, a / b = V := ⟨_, rfl⟩
    rw [hV]
    have HV := Lib.hid hV
    clear hV
    by_cases hr : r = 0
    · have hr1 : (-r != 0) = false := by simp [hr]
      have HR := Lib.hid hr
      clear hr
      cases bm
      all_goals (
        go_enter Try.func132, Try.ntmps132
        go_wp2
        go_ret2
        exact ⟨ret_pair (by rw [← HV.out, (K1.out HR.out).1]), rfl⟩)
    · have hr1 : (-r != 0) = true := by simp; omega
      have hbd := (K2.out hr).2.2
      have HR := Lib.hid hr
      clear hr
      cases bm
      all_goals (
        go_enter Try.func132, Try.ntmps132
        go_wp2
        go_ret2
        exact ⟨ret_pair (by rw [← HV.out, (K2.out HR.out).1]), rfl⟩)
end Go.Proofs.Ytofgjcfiinmimaa.wid
