/- MeanL; Make; Whole: texts in one. -/
import Derived.Test.YtjapjfcennemeaaMgTri
import Derived.Test.YtjapjfcennemeaaMgSumL
set_option linter.unusedVariables false
set_option linter.unusedSimpArgs false
/- The mean of two integers by bits. No program in sight. -/
namespace Go.Proofs.Ytjapjfcennemeaa.wid
open Go
theorem nat_mean : ∀ (k m n : Nat), m < k → m + n = 2 * (m &&& n) + (m ^^^ n)
  | 0, m, n, h => absurd h (Nat.not_lt_zero _)
  | k + 1, m, n, h => by
    by_cases h0 : m = 0
    · subst h0; simp
    · have ih := nat_mean k (m / 2) (n / 2) (by omega)
      have a1 : (m &&& n) / 2 = m / 2 &&& n / 2 := Nat.and_div_two
      have a2 : (m ^^^ n) / 2 = m / 2 ^^^ n / 2 := Nat.xor_div_two
      have a3 : (m &&& n) % 2 = 1 ↔ m % 2 = 1 ∧ n % 2 = 1 := Nat.and_mod_two_eq_one
      have a4 : (m ^^^ n) % 2 = 1 ↔ ¬(m % 2 = 1 ↔ n % 2 = 1) := Nat.xor_mod_two_eq_one
      rw [← a1, ← a2] at ih
      omega
theorem wrap_toInt (v : BitVec 64) : IntKind.i64.wrap (v.toNat : Int) = v.toInt := by
  have := v.isLt
  rw [BitVec.toInt_eq_toNat_cond]
  simp [IntKind.wrap, IntKind.bits, IntKind.signed]
  split <;> omega
theorem bits_sum {x y : Int} (hx : -9223372036854775808 ≤ x ∧ x ≤ 9223372036854775807) (hy : -9223372036854775808 ≤ y ∧ y ≤ 9223372036854775807) :
    x + y = 2 * bits .and .i64 x y + bits .xor .i64 x y := by
  have e1 : bits .and .i64 x y = (BitVec.ofInt 64 x &&& BitVec.ofInt 64 y).toInt := wrap_toInt _
  have e2 : bits .xor .i64 x y = (BitVec.ofInt 64 x ^^^ BitVec.ofInt 64 y).toInt := wrap_toInt _
  have f1 : (BitVec.ofInt 64 x).toInt = x := BitVec.toInt_ofInt_eq_self (by omega) (by omega) (by omega)
  have f2 : (BitVec.ofInt 64 y).toInt = y := BitVec.toInt_ofInt_eq_self (by omega) (by omega) (by omega)
  rw [e1, e2]
  generalize BitVec.ofInt 64 x = a at *
  generalize BitVec.ofInt 64 y = b at *
  have g := nat_mean (a.toNat + 1) a.toNat b.toNat (by omega)
  rw [← f1, ← f2]
  have m1 := BitVec.toInt_eq_msb_cond a
  have m2 := BitVec.toInt_eq_msb_cond b
  have m3 := BitVec.toInt_eq_msb_cond (a &&& b)
  have m4 := BitVec.toInt_eq_msb_cond (a ^^^ b)
  rw [BitVec.msb_and] at m3
  rw [BitVec.msb_xor] at m4
  rw [BitVec.toNat_and] at m3
  rw [BitVec.toNat_xor] at m4
  rw [m1, m2, m3, m4]
  cases a.msb <;> cases b.msb <;> simp <;> omega
theorem bits_mean {x y : Int} (hx : -9223372036854775808 ≤ x ∧ x ≤ 9223372036854775807) (hy : -9223372036854775808 ≤ y ∧ y ≤ 9223372036854775807) :
    bits .and .i64 x y + bits .xor .i64 x y / 2 = (x + y) / 2 := by
  have := bits_sum hx hy
  omega
end Go.Proofs.Ytjapjfcennemeaa.wid

/- Contracts of Of and Make of rational numbers. -/
namespace Go.Proofs.Ytjapjfcennemeaa.wid
open Go.RowKit Go.Proofs.Ytjapjfcennemeaa.mem Go.Proofs.Ytjapjfcennemeaa.gro
set_option linter.unusedVariables false
def mkF (n d : Int) : Bool := !(decide (n < 0) == decide (d < 0))
def mkN (n d : Int) : Int := if d = 0 then 0 else redN (mkF n d) n.natAbs d.natAbs
def mkD (n d : Int) : Int := if d = 0 then 0 else redD (mkF n d) n.natAbs d.natAbs
def mkOk (n d : Int) : Bool := if d = 0 then false else redOk (mkF n d) n.natAbs d.natAbs
theorem mk_eq {f : Bool} {n d : Int} (h0 : d ≠ 0) (hf : f = mkF n d ∨ n = 0) : redN f n.natAbs d.natAbs = mkN n d ∧ redD f n.natAbs d.natAbs = mkD n d ∧ redOk f n.natAbs d.natAbs = mkOk n d := by
  unfold mkN mkD mkOk
  rw [if_neg h0, if_neg h0, if_neg h0]
  rcases hf with rfl | rfl
  · exact ⟨rfl, rfl, rfl⟩
  · obtain ⟨h1, h2, h3⟩ := @red_sign f 0 d (fun h => absurd rfl h)
    obtain ⟨g1, g2, g3⟩ := @red_sign (mkF 0 d) 0 d (fun h => absurd rfl h)
    exact ⟨h1.trans g1.symm, h2.trans g2.symm, h3.trans g3.symm⟩
theorem mk_zero (n : Int) : mkN n 0 = 0 ∧ mkD n 0 = 0 ∧ mkOk n 0 = false := ⟨rfl, rfl, rfl⟩
theorem red_valid {f : Bool} {n d : Nat} (h : redOk f n d = true) (h0 : 0 < d) : validQ (redN f n d) (redD f n d) = true ∧ I64 (redN f n d) ∧ I64 (redD f n d) := by
  obtain ⟨e1, e2⟩ := red_yes h
  have hg : 0 < Nat.gcd n d := Nat.gcd_pos_of_pos_right _ h0
  have hq : 0 < rq n d := Nat.div_pos (Nat.le_of_dvd h0 (Nat.gcd_dvd_right n d)) hg
  have hc : Nat.gcd (rp n d) (rq n d) = 1 := Nat.gcd_div_gcd_div_gcd_of_pos_right h0
  unfold redOk fitsP at h
  simp only [Bool.and_eq_true, Bool.or_eq_true, decide_eq_true_eq] at h
  rw [e1, e2]
  have hna : (if f = true then -(rp n d : Int) else rp n d).natAbs = rp n d := by split <;> simp
  refine ⟨validQ_iff.2 ⟨by omega, by rw [hna, Int.natAbs_natCast]; exact hc⟩, ?_, ?_⟩
  · unfold I64
    obtain ⟨h1, h2⟩ := h
    split
    · omega
    · rename_i h3
      rcases h2 with h2 | ⟨h2, h4⟩
      · omega
      · exact absurd h4 h3
  · unfold I64; omega
theorem mk_valid {n d : Int} (h : mkOk n d = true) : validQ (mkN n d) (mkD n d) = true ∧ I64 (mkN n d) ∧ I64 (mkD n d) := by
  by_cases h0 : d = 0
  · subst h0; exact absurd h (by simp [mkOk])
  · obtain ⟨e1, e2, e3⟩ := @mk_eq (mkF n d) n d h0 (Or.inl rfl)
    rw [← e3] at h
    rw [← e1, ← e2]
    exact red_valid h (by omega)
set_option maxRecDepth 100000 in
theorem ofQ_any (n : Int) (w : World) :
    Calls Try.prog 90 #[.int .i64 n] w fun x w' => x = .returned (Value.agg #[Value.int IntKind.i64 (n), Value.int IntKind.i64 ( 1)]) ∧ Below w.heap.size w w' := by
  go_enter Try.func90, Try.ntmps90
  go_wp2_with fail
  obtain ⟨W0, hW, hs0, K0, B0⟩ := start1 w 53 #[Value.int IntKind.i64 n, Value.int IntKind.i64 1]
  rw [hW]
  clear hW
  have R := K0.rules
  simp only [Rules] at R
  refine bodyPost_ret (v := (Value.agg #[Value.int IntKind.i64 (n), Value.int IntKind.i64 ( 1)])) (by simp [results, Try.results90, go_sem, R]) rfl ⟨?_, ?_⟩
  · rfl
  · exact B0
set_option maxRecDepth 100000 in
theorem ofQR_any (n : Int) (w : World) :
    Calls Try.prog 63 #[.int .i64 n] w fun x w' => x = .returned (Value.agg #[Value.int IntKind.i64 (n), Value.int IntKind.i64 ( 1)]) ∧ Below w.heap.size w w' := by
  go_enter Try.func63, Try.ntmps63
  go_wp2_with fail
  obtain ⟨W0, hW, hs0, K0, B0⟩ := start1 w 53 #[Value.int IntKind.i64 n, Value.int IntKind.i64 1]
  rw [hW]
  clear hW
  have R := K0.rules
  simp only [Rules] at R
  refine bodyPost_ret (v := (Value.agg #[Value.int IntKind.i64 (n), Value.int IntKind.i64 ( 1)])) (by simp [results, Try.results63, go_sem, R]) rfl ⟨?_, ?_⟩
  · rfl
  · exact B0
end Go.Proofs.Ytjapjfcennemeaa.wid

/- Contract of Whole in the code: bounds of two whole numbers. -/
namespace Go.Proofs.Ytjapjfcennemeaa.wid
open Go.RowKit Go.Proofs.Ytjapjfcennemeaa.mem Go.Proofs.Ytjapjfcennemeaa.gro
set_option linter.unusedVariables false
def whl (x y : Int) (v : Int) : Int := if x ≤ y then v else 0
set_option maxHeartbeats 2000000 in
set_option maxRecDepth 100000 in
theorem WholeB_any (x y : Int) (hx : I64 x) (hy : I64 y) (w : World) : Calls Try.prog 92 #[.int .i64 x, .int .i64 y] w fun e w' => e = .returned (.tuple #[.agg #[.int .i64 (whl x y x), .int .i64 (whl x y 1), .int .i64 (whl x y ((x + y) / 2)), .int .i64 (whl x y 1), .int .i64 (whl x y y), .int .i64 (whl x y 1)], .bool (decide (x ≤ y))]) ∧ Below w.heap.size w w' := by
  have H1 := Lib.hid (fun W => ofQ_any x W)
  have H2 := Lib.hid (fun W => ofQ_any ((x + y) / 2) W)
  have H3 := Lib.hid (fun W => ofQ_any y W)
  have hm := bits_mean hx hy
  have hw : IntKind.i64.wrap ((x + y) / 2) = (x + y) / 2 := IntWalk.i64_in _ (by unfold I64 at hx hy; omega)
  clear hx hy
  by_cases hle : x ≤ y
  · have q : ∀ v, whl x y v = v := fun v => if_pos hle
    rw [q, q, q, q, decide_eq_true hle]
    have hgt : decide (y < x) = false := decide_eq_false (by omega)
    clear q hle
    generalize (x + y) / 2 = m at *
    go_enter Try.func92, Try.ntmps92
    go_wp2_with fail
    obtain ⟨W0, hW, hs0, K0, B0⟩ := start1 w 55 #[Value.int IntKind.i64 0, Value.int IntKind.i64 0, Value.int IntKind.i64 0, Value.int IntKind.i64 0, Value.int IntKind.i64 0, Value.int IntKind.i64 0]
    rw [hW]
    clear hW
    have KK := Lib.hid K0
    have BB := Lib.hid B0
    have R := K0.rules
    simp only [Rules] at R
    clear K0 B0 hs0
    (with_reducible refine (H1.out _).mono ?_)
    rintro e wv ⟨rfl, hbv⟩; replace BB := Lib.hid (BB.out.trans (hbv.mono BB.out.size)); replace KK := Lib.hid (KK.out.below hbv); replace R := KK.out.rules; simp only [gro.Rules] at R; clear hbv
    go_wp2_with fail
    (refine (H2.out _).mono ?_)
    rintro e wv ⟨rfl, hbv⟩; replace BB := Lib.hid (BB.out.trans (hbv.mono BB.out.size)); replace KK := Lib.hid (KK.out.below hbv); replace R := KK.out.rules; simp only [gro.Rules] at R; clear hbv
    go_wp2_with fail
    (with_reducible refine (H3.out _).mono ?_)
    rintro e wv ⟨rfl, hbv⟩; replace BB := Lib.hid (BB.out.trans (hbv.mono BB.out.size)); replace KK := Lib.hid (KK.out.below hbv); replace R := KK.out.rules; simp only [gro.Rules] at R; clear hbv
    go_wp2
    refine bodyPost_ret (v := Value.tuple #[.agg #[.int .i64 x, .int .i64 1, .int .i64 m, .int .i64 1, .int .i64 y, .int .i64 1], .bool true]) (by simp [results, Try.results92, go_sem, R]) rfl ⟨?_, ?_⟩
    · rfl
    · exact (((((BB.out.setCell (by first | (simp; done) | (simp; omega)) _).setCell (by first | (simp; done) | (simp; omega)) _).setCell (by first | (simp; done) | (simp; omega)) _).setCell (by first | (simp; done) | (simp; omega)) _).setCell (by first | (simp; done) | (simp; omega)) _).setCell (by first | (simp; done) | (simp; omega)) _
  · have q : ∀ v, whl x y v = 0 := fun v => if_neg hle
    rw [q, q, q, q, decide_eq_false hle]
    have hgt : decide (y < x) = true := decide_eq_true (by omega)
    clear q hle H1 H2 H3 hm hw
    go_enter Try.func92, Try.ntmps92
    go_wp2_with fail
    obtain ⟨W0, hW, hs0, K0, B0⟩ := start1 w 55 #[Value.int IntKind.i64 0, Value.int IntKind.i64 0, Value.int IntKind.i64 0, Value.int IntKind.i64 0, Value.int IntKind.i64 0, Value.int IntKind.i64 0]
    rw [hW]
    clear hW
    have R := K0.rules
    simp only [Rules] at R
    go_wp2
    refine bodyPost_ret (v := Value.tuple #[.agg #[.int .i64 0, .int .i64 0, .int .i64 0, .int .i64 0, .int .i64 0, .int .i64 0], .bool false]) (by simp [results, Try.results92, go_sem, R]) rfl ⟨?_, ?_⟩
    · rfl
    · first | exact B0 | exact (((((B0.setCell (by first | (simp; done) | (simp; omega)) _).setCell (by first | (simp; done) | (simp; omega)) _).setCell (by first | (simp; done) | (simp; omega)) _).setCell (by first | (simp; done) | (simp; omega)) _).setCell (by first | (simp; done) | (simp; omega)) _).setCell (by first | (simp; done) | (simp; omega)) _
end Go.Proofs.Ytjapjfcennemeaa.wid
