/- Whole, Exact, MakesL, Sum, Width, Ord: proved here in one text, no conditions beyond those that each theorem states. -/
import Derived.Deep.DeepCutAuto
import Derived.Test.YtjapjfcennemeaaZ39
import Derived.Test.YtjapjfcennemeaaZ3
import Derived.Test.YtjapjfcennemeaaZ40
import Derived.Test.YtjapjfcennemeaaZ13
import Derived.Test.YtjapjfcennemeaaZ14
import Derived.Test.YtjapjfcennemeaaZ18
set_option linter.unusedVariables false
set_option linter.unusedSimpArgs false
section
namespace Go.Proofs.Ytjapjfcennemeaa.wid
open Go.RowKit Go.Proofs.Ytjapjfcennemeaa.mem Go.Proofs.Ytjapjfcennemeaa.gro
set_option linter.unusedVariables false
def whl (x y : Int) (v : Int) : Int := if x ≤ y then v else 0
set_option maxHeartbeats 2000000 in
set_option maxRecDepth 100000 in
theorem WholeB_any (x y : Int) (hx : I64 x) (hy : I64 y) (w : World) : Calls Try.prog 92 #[.int .i64 x, .int .i64 y] w fun e w' => e = .returned (.tuple #[.agg #[.int .i64 (whl x y x), .int .i64 (whl x y 1), .int .i64 (whl x y ((x + y) / 2)), .int .i64 (whl x y 1), .int .i64 (whl x y y), .int .i64 (whl x y 1)], .bool (decide (x ≤ y))]) ∧ Below w.heap.size w w' := by
  have H1 := Lib.hid (fun W => ofQ_any x W)
  have H2 := Lib.hid (fun W => ofQ_any ((x + y) / 2) W)
  have H3 := Lib.hid (fun W => ofQ_any y W)
  have hm := bits_mean hx hy
  have hw : IntKind.i64.wrap ((x + y) / 2) = (x + y) / 2 := IntWalk.i64_in _ (by unfold I64 at hx hy; omega)
  clear hx hy
  by_cases hle : x ≤ y
  · have q : ∀ v, whl x y v = v := fun v => if_pos hle
    rw [q, q, q, q, decide_eq_true hle]
    have hgt : decide (y < x) = false := decide_eq_false (by omega)
    clear q hle
    generalize (x + y) / 2 = m at *
    go_enter Try.func92, Try.ntmps92
    go_wp2_with fail
    obtain ⟨W0, hW, hs0, K0, B0⟩ := start1 w 55 #[Value.int IntKind.i64 0, Value.int IntKind.i64 0, Value.int IntKind.i64 0, Value.int IntKind.i64 0, Value.int IntKind.i64 0, Value.int IntKind.i64 0]
    rw [hW]
    clear hW
    have KK := Lib.hid K0
    have BB := Lib.hid B0
    have R := K0.rules
    simp only [Rules] at R
    clear K0 B0 hs0
    (with_reducible refine (H1.out _).mono ?_)
    rintro e wv ⟨rfl, hbv⟩; replace BB := Lib.hid (BB.out.trans (hbv.mono BB.out.size)); replace KK := Lib.hid (KK.out.below hbv); replace R := KK.out.rules; simp only [gro.Rules] at R; clear hbv
    go_wp2_with fail
    (refine (H2.out _).mono ?_)
    rintro e wv ⟨rfl, hbv⟩; replace BB := Lib.hid (BB.out.trans (hbv.mono BB.out.size)); replace KK := Lib.hid (KK.out.below hbv); replace R := KK.out.rules; simp only [gro.Rules] at R; clear hbv
    go_wp2_with fail
    (with_reducible refine (H3.out _).mono ?_)
    rintro e wv ⟨rfl, hbv⟩; replace BB := Lib.hid (BB.out.trans (hbv.mono BB.out.size)); replace KK := Lib.hid (KK.out.below hbv); replace R := KK.out.rules; simp only [gro.Rules] at R; clear hbv
    go_wp2
    refine bodyPost_ret (v := Value.tuple #[.agg #[.int .i64 x, .int .i64 1, .int .i64 m, .int .i64 1, .int .i64 y, .int .i64 1], .bool true]) (by simp [results, Try.results92, go_sem, R]) rfl ⟨?_, ?_⟩
    · rfl
    · exact (((((BB.out.setCell (by first | (simp; done) | (simp; omega)) _).setCell (by first | (simp; done) | (simp; omega)) _).setCell (by first | (simp; done) | (simp; omega)) _).setCell (by first | (simp; done) | (simp; omega)) _).setCell (by first | (simp; done) | (simp; omega)) _).setCell (by first | (simp; done) | (simp; omega)) _
  · have q : ∀ v, whl x y v = 0 := fun v => if_neg hle
    rw [q, q, q, q, decide_eq_false hle]
    have hgt : decide (y < x) = true := decide_eq_true (by omega)
    clear q hle H1 H2 H3 hm hw
    go_enter Try.func92, Try.ntmps92
    go_wp2_with fail
    obtain ⟨W0, hW, hs0, K0, B0⟩ := start1 w 55 #[Value.int IntKind.i64 0, Value.int IntKind.i64 0, Value.int IntKind.i64 0, Value.int IntKind.i64 0, Value.int IntKind.i64 0, Value.int IntKind.i64 0]
    rw [hW]
    clear hW
    have R := K0.rules
    simp only [Rules] at R
    go_wp2
    refine bodyPost_ret (v := Value.tuple #[.agg #[.int .i64 0, .int .i64 0, .int .i64 0, .int .i64 0, .int .i64 0, .int .i64 0], .bool false]) (by simp [results, Try.results92, go_sem, R]) rfl ⟨?_, ?_⟩
    · rfl
    · first | exact B0 | exact (((((B0.setCell (by first | (simp; done) | (simp; omega)) _).setCell (by first | (simp; done) | (simp; omega)) _).setCell (by first | (simp; done) | (simp; omega)) _).setCell (by first | (simp; done) | (simp; omega)) _).setCell (by first | (simp; done) | (simp; omega)) _).setCell (by first | (simp; done) | (simp; omega)) _
end Go.Proofs.Ytjapjfcennemeaa.wid
end
section
namespace Go.Proofs.Ytjapjfcennemeaa.wid
open Go.RowKit Go.Proofs.Ytjapjfcennemeaa.mem Go.Proofs.Ytjapjfcennemeaa.gro
set_option linter.unusedVariables false
def exN (n d : Int) : Int := if validQ n d = true then n else 0
def exD (n d : Int) : Int := if validQ n d = true then d else 0
set_option maxHeartbeats 2000000 in
set_option maxRecDepth 100000 in
theorem ExactB_any (n d : Int) (hn : I64 n) (hd : I64 d) (w : World) :
    Calls Try.prog 89 #[(Value.agg #[Value.int IntKind.i64 (n), Value.int IntKind.i64 ( d)])] w fun x w' => x = .returned (.agg #[.int .i64 (exN n d), .int .i64 (exD n d), .int .i64 (exN n d), .int .i64 (exD n d), .int .i64 (exN n d), .int .i64 (exD n d)]) ∧ Below w.heap.size w w' := by
  have HV := Lib.hid (fun W => Valid_any n d hn hd W)
  clear hn hd
  have e1 : exN n d = if validQ n d = true then n else 0 := rfl
  have e2 : exD n d = if validQ n d = true then d else 0 := rfl
  generalize validQ n d = v at *
  cases v
  case false =>
    rw [e1, e2]
    clear e1 e2
    go_enter Try.func89, Try.ntmps89
    go_wp2_with fail
    obtain ⟨W0, hW, hs0, K0, B0⟩ := start2 w 53 55 #[Value.int IntKind.i64 n, Value.int IntKind.i64 d] #[Value.int IntKind.i64 0, Value.int IntKind.i64 0, Value.int IntKind.i64 0, Value.int IntKind.i64 0, Value.int IntKind.i64 0, Value.int IntKind.i64 0]
    rw [hW]
    clear hW
    have KK := Lib.hid K0
    have BB := Lib.hid B0
    have R := K0.rules
    simp only [Rules] at R
    clear K0 B0
    (with_reducible refine (HV.out _).mono ?_)
    rintro e wv ⟨rfl, hbv⟩; replace BB := Lib.hid (BB.out.trans (hbv.mono BB.out.size)); replace KK := Lib.hid (KK.out.below hbv); replace R := KK.out.rules; simp only [gro.Rules] at R; clear hbv
    go_wp2
    refine bodyPost_ret (v := Value.agg #[.int .i64 0, .int .i64 0, .int .i64 0, .int .i64 0, .int .i64 0, .int .i64 0]) (by simp [results, Try.results89, go_sem, R]) rfl ⟨?_, ?_⟩
    · rfl
    · exact (((((BB.out.setCell (by first | (simp; done) | (simp; omega)) _).setCell (by first | (simp; done) | (simp; omega)) _).setCell (by first | (simp; done) | (simp; omega)) _).setCell (by first | (simp; done) | (simp; omega)) _).setCell (by first | (simp; done) | (simp; omega)) _).setCell (by first | (simp; done) | (simp; omega)) _
  case true =>
    rw [e1, e2]
    clear e1 e2
    go_enter Try.func89, Try.ntmps89
    go_wp2_with fail
    obtain ⟨W0, hW, hs0, K0, B0⟩ := start2 w 53 55 #[Value.int IntKind.i64 n, Value.int IntKind.i64 d] #[Value.int IntKind.i64 0, Value.int IntKind.i64 0, Value.int IntKind.i64 0, Value.int IntKind.i64 0, Value.int IntKind.i64 0, Value.int IntKind.i64 0]
    rw [hW]
    clear hW
    have KK := Lib.hid K0
    have BB := Lib.hid B0
    have R := K0.rules
    simp only [Rules] at R
    clear K0 B0
    (with_reducible refine (HV.out _).mono ?_)
    rintro e wv ⟨rfl, hbv⟩; replace BB := Lib.hid (BB.out.trans (hbv.mono BB.out.size)); replace KK := Lib.hid (KK.out.below hbv); replace R := KK.out.rules; simp only [gro.Rules] at R; clear hbv
    go_wp2
    refine bodyPost_ret (v := Value.agg #[.int .i64 n, .int .i64 d, .int .i64 n, .int .i64 d, .int .i64 n, .int .i64 d]) (by simp [results, Try.results89, go_sem, R]) rfl ⟨?_, ?_⟩
    · rfl
    · exact (((((BB.out.setCell (by first | (simp; done) | (simp; omega)) _).setCell (by first | (simp; done) | (simp; omega)) _).setCell (by first | (simp; done) | (simp; omega)) _).setCell (by first | (simp; done) | (simp; omega)) _).setCell (by first | (simp; done) | (simp; omega)) _).setCell (by first | (simp; done) | (simp; omega)) _
end Go.Proofs.Ytjapjfcennemeaa.wid
end
section
namespace Go.Proofs.Ytjapjfcennemeaa.wid
open Go.RowKit Go.Proofs.Ytjapjfcennemeaa.mem Go.Proofs.Ytjapjfcennemeaa.gro
set_option linter.unusedVariables false
set_option linter.unusedSimpArgs false
theorem valid_one (x : Int) : validQ x 1 = true := validQ_iff.2 ⟨by omega, by simp⟩
theorem cmp_one {x y : Int} (h : x ≤ y) : cmpQ x 1 y 1 ≤ 0 := by
  unfold cmpQ cmpZ
  rw [if_pos ⟨valid_one x, valid_one y⟩, Int.mul_one, Int.mul_one]
  split
  · omega
  · split <;> omega
theorem whole_valid {x y : Int} (h : x ≤ y) : validB x 1 ((x + y) / 2) 1 y 1 = true := by
  unfold validB
  rw [valid_one, valid_one, valid_one, decide_eq_true (cmp_one (show x ≤ (x + y) / 2 by omega)), decide_eq_true (cmp_one (show (x + y) / 2 ≤ y by omega))]
  rfl
end Go.Proofs.Ytjapjfcennemeaa.wid
end
section
namespace Go.Proofs.Ytjapjfcennemeaa.wid
open Go.RowKit Go.Proofs.Ytjapjfcennemeaa.mem Go.Proofs.Ytjapjfcennemeaa.gro
set_option linter.unusedVariables false
def sumN (n d m e : Int) (minus : Bool) : Int := if validQ n d = true ∧ validQ m e = true then rN (n * e + sg minus m * d) (d * e) else 0
theorem prod_at {F : FuncId} (hP : ∀ (x y : Int), 0 ≤ x → x ≤ 18446744073709551615 → 0 ≤ y → y ≤ 18446744073709551615 → ∀ W : World, Calls Try.prog F #[.int .u64 x, .int .u64 y] W fun e w' => e = .returned (Value.agg #[Value.int IntKind.u64 (hi (x.toNat * y.toNat)), Value.int IntKind.u64 (lo (x.toNat * y.toNat))]) ∧ Below W.heap.size W w')
    (n e : Int) (hn : I64 n) (he : I64 e) (he1 : 1 ≤ e) (W : World) : Calls Try.prog F #[.int .u64 n.natAbs, .int .u64 e] W fun x w' => x = .returned (Value.agg #[Value.int IntKind.u64 (hi (n.natAbs * e.natAbs)), Value.int IntKind.u64 (lo (n.natAbs * e.natAbs))]) ∧ Below W.heap.size W w' := by
  have := hP n.natAbs e (by omega) (by unfold I64 at hn; omega) (by omega) (by unfold I64 at he; omega) W
  rwa [Int.toNat_natCast, show e.toNat = e.natAbs by omega] at this
theorem prod_pos {F : FuncId} (hP : ∀ (x y : Int), 0 ≤ x → x ≤ 18446744073709551615 → 0 ≤ y → y ≤ 18446744073709551615 → ∀ W : World, Calls Try.prog F #[.int .u64 x, .int .u64 y] W fun e w' => e = .returned (Value.agg #[Value.int IntKind.u64 (hi (x.toNat * y.toNat)), Value.int IntKind.u64 (lo (x.toNat * y.toNat))]) ∧ Below W.heap.size W w')
    (d e : Int) (hd : I64 d) (he : I64 e) (hd1 : 1 ≤ d) (he1 : 1 ≤ e) (W : World) : Calls Try.prog F #[.int .u64 d, .int .u64 e] W fun x w' => x = .returned (Value.agg #[Value.int IntKind.u64 (hi ((d * e).natAbs)), Value.int IntKind.u64 (lo ((d * e).natAbs))]) ∧ Below W.heap.size W w' := by
  have := hP d e (by omega) (by unfold I64 at hd; omega) (by omega) (by unfold I64 at he; omega) W
  rwa [show d.toNat = d.natAbs by omega, show e.toNat = e.natAbs by omega, ← Int.natAbs_mul] at this
end Go.Proofs.Ytjapjfcennemeaa.wid
end
section
namespace Go.Proofs.Ytjapjfcennemeaa.wid
open Go.RowKit Go.Proofs.Ytjapjfcennemeaa.mem Go.Proofs.Ytjapjfcennemeaa.gro
set_option linter.unusedVariables false
set_option linter.unusedSimpArgs false
def wdN (a0 a1 c0 c1 : Int) : Nat := (c0 * a1 - a0 * c1).toNat
theorem wd_facts {a0 a1 c0 c1 : Int} (h1 : 1 ≤ a1) (h2 : 1 ≤ c1) (h : a0 * c1 ≤ c0 * a1) :
    (c0 < 0 → c0.natAbs * a1.natAbs ≤ a0.natAbs * c1.natAbs ∧ wdN a0 a1 c0 c1 = a0.natAbs * c1.natAbs - c0.natAbs * a1.natAbs) ∧
    (¬ c0 < 0 → a0 < 0 → wdN a0 a1 c0 c1 = c0.natAbs * a1.natAbs + a0.natAbs * c1.natAbs) ∧
    (¬ c0 < 0 → ¬ a0 < 0 → a0.natAbs * c1.natAbs ≤ c0.natAbs * a1.natAbs ∧ wdN a0 a1 c0 c1 = c0.natAbs * a1.natAbs - a0.natAbs * c1.natAbs) := by
  unfold wdN
  obtain ⟨p1, p2⟩ := @sign_mul_pos c0 a1 h1
  obtain ⟨r1, r2⟩ := @sign_mul_pos a0 c1 h2
  rw [← Int.natAbs_mul, ← Int.natAbs_mul]
  generalize c0 * a1 = P at *
  generalize a0 * c1 = Q at *
  omega
set_option maxHeartbeats 4000000 in
set_option maxRecDepth 100000 in
theorem width_any (a0 a1 b0 b1 c0 c1 : Int) (ha0 : I64 a0) (ha1 : I64 a1) (hc0 : I64 c0) (hc1 : I64 c1) (hd1 : 1 ≤ a1) (he1 : 1 ≤ c1) (hle : a0 * c1 ≤ c0 * a1) (w : World) :
    Calls Try.prog 113 #[Value.agg #[Value.int IntKind.i64 a0, Value.int IntKind.i64 a1, Value.int IntKind.i64 b0, Value.int IntKind.i64 b1, Value.int IntKind.i64 c0, Value.int IntKind.i64 c1]] w fun x w' => x = .returned (Value.agg #[Value.int IntKind.u64 (hi (wdN a0 a1 c0 c1)), Value.int IntKind.u64 (lo (wdN a0 a1 c0 c1))]) ∧ Below w.heap.size w w' := by
  have HF := wd_facts hd1 he1 hle
  have HS1 := Lib.hid (fun W => sizeB_any c0 W hc0.1 hc0.2)
  have HS2 := Lib.hid (fun W => sizeB_any a0 W ha0.1 ha0.2)
  have HP1 := Lib.hid (prod_at (F := 115) (fun x y a b c d W => Product_any x y a b c d W) c0 a1 hc0 ha1 hd1)
  have HP2 := Lib.hid (prod_at (F := 115) (fun x y a b c d W => Product_any x y a b c d W) a0 c1 ha0 hc1 he1)
  have bX : c0.natAbs * a1.natAbs ≤ 85070591730234615865843651857942052864 := Nat.mul_le_mul (show c0.natAbs ≤ 9223372036854775808 by unfold I64 at hc0; omega) (show a1.natAbs ≤ 9223372036854775808 by unfold I64 at ha1; omega)
  have bY : a0.natAbs * c1.natAbs ≤ 85070591730234615865843651857942052864 := Nat.mul_le_mul (show a0.natAbs ≤ 9223372036854775808 by unfold I64 at ha0; omega) (show c1.natAbs ≤ 9223372036854775808 by unfold I64 at hc1; omega)
  have hed : a1 ≤ 9223372036854775807 := ha1.2
  have hee : c1 ≤ 9223372036854775807 := hc1.2
  clear ha0 ha1 hc0 hc1 hle
  generalize wdN a0 a1 c0 c1 = N at *
  generalize c0.natAbs * a1.natAbs = X at *
  generalize a0.natAbs * c1.natAbs = Y at *
  generalize c0.natAbs = an at *
  generalize a0.natAbs = am at *
  obtain ⟨F, hFn, hF⟩ : ∃ F : Hid (∀ W, (c0 < 0 → Calls Try.prog 143 #[(Value.agg #[Value.int IntKind.u64 (hi (Y)), Value.int IntKind.u64 (lo (Y))]), (Value.agg #[Value.int IntKind.u64 (hi (X)), Value.int IntKind.u64 (lo (X))])] W fun e w' => e = .returned (.tuple #[(Value.agg #[Value.int IntKind.u64 (hi (N)), Value.int IntKind.u64 (lo (N))]), .bool true]) ∧ Below W.heap.size W w') ∧
      (¬ c0 < 0 → a0 < 0 → Calls Try.prog 144 #[(Value.agg #[Value.int IntKind.u64 (hi (X)), Value.int IntKind.u64 (lo (X))]), (Value.agg #[Value.int IntKind.u64 (hi (Y)), Value.int IntKind.u64 (lo (Y))])] W fun e w' => e = .returned (.tuple #[(Value.agg #[Value.int IntKind.u64 (hi (N)), Value.int IntKind.u64 (lo (N))]), .bool true]) ∧ Below W.heap.size W w') ∧
      (¬ c0 < 0 → ¬ a0 < 0 → Calls Try.prog 143 #[(Value.agg #[Value.int IntKind.u64 (hi (X)), Value.int IntKind.u64 (lo (X))]), (Value.agg #[Value.int IntKind.u64 (hi (Y)), Value.int IntKind.u64 (lo (Y))])] W fun e w' => e = .returned (.tuple #[(Value.agg #[Value.int IntKind.u64 (hi (N)), Value.int IntKind.u64 (lo (N))]), .bool true]) ∧ Below W.heap.size W w')), True ∧ True := by
    refine ⟨fun W => ⟨fun h => ?_, fun h h2 => ?_, fun h h2 => ?_⟩, trivial, trivial⟩
    · obtain ⟨e1, e2⟩ := HF.1 h
      rw [e2]; exact Sub_any Y X (by omega) e1 W
    · rw [HF.2.1 h h2]; exact Add_any X Y (by omega) (by omega) (by omega) W
    · obtain ⟨e1, e2⟩ := HF.2.2 h h2
      rw [e2]; exact Sub_any X Y (by omega) e1 W
  clear hFn hF HF bX bY
  go_enter Try.func113, Try.ntmps113
  go_wp2_with fail
  obtain ⟨W0, hW, hs0, K0, B0⟩ := start2 w 55 111 #[Value.int IntKind.i64 a0, Value.int IntKind.i64 a1, Value.int IntKind.i64 b0, Value.int IntKind.i64 b1, Value.int IntKind.i64 c0, Value.int IntKind.i64 c1] #[Value.int IntKind.u64 0, Value.int IntKind.u64 0]
  rw [hW]
  clear hW
  have KK := Lib.hid K0
  have BB := Lib.hid B0
  have sz : w.heap.size + 1 + 1 ≤ W0.heap.size := by omega
  have R := K0.rules
  simp only [Rules] at R
  clear K0 B0 hs0
  go_cut [3, 4] (fun s8 s9 wx => ∃ p q : Nat, s8 = .pointer (some ⟨p, 0, none⟩) ∧ s9 = .pointer (some ⟨q, 0, none⟩) ∧ p ≠ q ∧ w.heap.size + 1 + 1 ≤ p ∧ w.heap.size + 1 + 1 ≤ q ∧ p < wx.heap.size ∧ q < wx.heap.size ∧ Hid (Below w.heap.size w wx) ∧
    Hid (Bx wx [(q, 111, #[Value.int IntKind.u64 (hi Y), Value.int IntKind.u64 (lo Y)]), (p, 111, #[Value.int IntKind.u64 (hi X), Value.int IntKind.u64 (lo X)]), (w.heap.size + 1, 111, #[Value.int IntKind.u64 0, Value.int IntKind.u64 0]), (w.heap.size, 55, #[Value.int IntKind.i64 a0, Value.int IntKind.i64 a1, Value.int IntKind.i64 b0, Value.int IntKind.i64 b1, Value.int IntKind.i64 c0, Value.int IntKind.i64 c1])]))
  case first =>
    (refine gro.wp_region_steady_n 18 4 (by kernel_rfl) (by kernel_rfl) (by intro _ _ _ _ _ h; exact h) (by kernel_rfl) (by kernel_rfl) (by kernel_rfl) ?_; apply Exists.intro; refine ⟨fun w0 hb0 => ?_, ?_⟩; focus (have KZ := (KK.out).below hb0; have RZ := KZ.rules; simp only [gro.Rules] at RZ; simp only [List.take_succ_cons, List.take_zero]; (repeat (go_big_quiet_step ((first | (go_at_call 142; first | (with_reducible exact call_same (HS1.out _)) | (with_reducible exact call_same (HS2.out _))) | (go_at_call 115; first | (with_reducible exact call_grown (HP1.out _)) | (with_reducible exact call_grown (HP2.out _))))))); exact wpQuiet_nil rfl))
    have hBn : w.heap.size + 1 + 1 ≤ W0.drew.heap.size := sz
    refine gro.anyG_two 18 19 (by kernel_rfl) rfl rfl ?_ ?_
    · intro y1 hz1 K' hK'
      have KY1 := (KK.out).drew.below hz1
      have BY1 := hz1
      go_simp
      refine hK' _ _ ⟨BY1.alloc BY1.size _, ?_⟩
      clear hK' K'
      obtain ⟨p, hp⟩ : ∃ p, y1.heap.size = p := ⟨_, rfl⟩
      have KY2 := KY1.new (t := 111) (c := #[Value.int IntKind.u64 0, Value.int IntKind.u64 0]) hp
      have BY2 := BY1.alloc BY1.size (.cells #[Value.int IntKind.u64 0, Value.int IntKind.u64 0] 111)
      have sY2 : (y1.alloc (.cells #[Value.int IntKind.u64 0, Value.int IntKind.u64 0] 111)).heap.size = p + 1 := by simp [hp]
      have hlp := hz1.size
      rw [hp] at hlp ⊢
      have hmp := hlp
      try simp at hmp
      generalize y1.alloc (.cells #[Value.int IntKind.u64 0, Value.int IntKind.u64 0] 111) = y2 at *
      refine gro.anyG_one 19 (by kernel_rfl) rfl ?_
      intro y3 hz3 K' hK'
      have KY3 := KY2.below hz3
      have BY3 := BY2.trans (hz3.mono BY2.size)
      go_simp
      refine hK' _ _ ⟨BY3.alloc BY3.size _, ?_⟩
      clear hK' K'
      obtain ⟨q, hq⟩ : ∃ q, y3.heap.size = q := ⟨_, rfl⟩
      have hlq := hz3.size
      rw [sY2, hq] at hlq
      rw [hq]
      have KY4 := KY3.new (t := 111) (c := #[Value.int IntKind.u64 0, Value.int IntKind.u64 0]) hq
      have BY4 := BY3.alloc BY3.size (.cells #[Value.int IntKind.u64 0, Value.int IntKind.u64 0] 111)
      have sY4 : (y3.alloc (.cells #[Value.int IntKind.u64 0, Value.int IntKind.u64 0] 111)).heap.size = q + 1 := by simp [hq]
      generalize y3.alloc (.cells #[Value.int IntKind.u64 0, Value.int IntKind.u64 0] 111) = y4 at *
      replace KY4 := KY4.swap
      clear hz1 hz3 KY1 KY2 KY3 BY1 BY2 BY3
      refine gro.anyG_one 20 (by kernel_rfl) rfl ?_
      intro y5 hz5 K' hK'
      have KY5 := KY4.below hz5
      have BY5 := BY4.trans (hz5.mono BY4.size)
      have sY5 := hz5.size
      have RY := KY5.rules
      simp only [gro.Rules] at RY
      go_simp
      refine hK' _ _ ⟨(BY5.setCell (by first | (simp; done) | (simp; omega)) _).setCell (by first | (simp; done) | (simp; omega)) _, ?_⟩
      clear hK' K' RY
      obtain ⟨y6, hy6, KY6, BY6, sY6⟩ := gro.name_world (gro.Bx.put2 (u := .int .u64 (hi X)) (v := .int .u64 (lo X)) KY5 (by first | (simp; done) | (simp; omega))).swap ((BY5.setCell (by first | (simp; done) | (simp; omega)) _).setCell (by first | (simp; done) | (simp; omega)) _) (s := q + 1) (by simp only [gro.set2_size]; omega)
      rw [hy6]
      clear hy6
      refine gro.anyG_one 21 (by kernel_rfl) rfl ?_
      intro y7 hz7 K' hK'
      have KY7 := KY6.below hz7
      have BY7 := BY6.trans (hz7.mono BY6.size)
      have sY7 := hz7.size
      have RY := KY7.rules
      simp only [gro.Rules] at RY
      go_simp
      refine hK' _ _ ⟨(BY7.setCell (by first | (simp; done) | (simp; omega)) _).setCell (by first | (simp; done) | (simp; omega)) _, ?_⟩
      clear hK' K' RY
      obtain ⟨y8, hy8, KY8, BY8, sY8⟩ := gro.name_world (gro.Bx.put2 (u := .int .u64 (hi Y)) (v := .int .u64 (lo Y)) KY7 (by first | (simp; done) | (simp; omega))) ((BY7.setCell (by first | (simp; done) | (simp; omega)) _).setCell (by first | (simp; done) | (simp; omega)) _) (s := q + 1) (by simp only [gro.set2_size]; omega)
      rw [hy8]
      clear hy8
      refine gro.anyG_done (by kernel_rfl) ?_
      intro y9 hz9
      have KP := KY8.below hz9
      have BP := (BB.out).drew.trans ((BY8.trans (hz9.mono BY8.size)).mono (BB.out).size)
      have sP := hz9.size
      clear KY4 BY4 KY5 BY5 KY6 BY6 KY7 BY7 KY8 BY8 hz5 hz7 hz9
      go_wp2_with fail; go_meet; case rel => exact ⟨p, q, rfl, rfl, by omega, by omega, by omega, by omega, by omega, BP, KP⟩
    · intro y1 hz1 K' hK'
      have KY1 := (KK.out).drew.below hz1
      have BY1 := hz1
      go_simp
      refine hK' _ _ ⟨BY1.alloc BY1.size _, ?_⟩
      clear hK' K'
      obtain ⟨q, hq⟩ : ∃ q, y1.heap.size = q := ⟨_, rfl⟩
      have KY2 := KY1.new (t := 111) (c := #[Value.int IntKind.u64 0, Value.int IntKind.u64 0]) hq
      have BY2 := BY1.alloc BY1.size (.cells #[Value.int IntKind.u64 0, Value.int IntKind.u64 0] 111)
      have sY2 : (y1.alloc (.cells #[Value.int IntKind.u64 0, Value.int IntKind.u64 0] 111)).heap.size = q + 1 := by simp [hq]
      have hlq := hz1.size
      rw [hq] at hlq ⊢
      have hmq := hlq
      try simp at hmq
      generalize y1.alloc (.cells #[Value.int IntKind.u64 0, Value.int IntKind.u64 0] 111) = y2 at *
      refine gro.anyG_one 18 (by kernel_rfl) rfl ?_
      intro y3 hz3 K' hK'
      have KY3 := KY2.below hz3
      have BY3 := BY2.trans (hz3.mono BY2.size)
      go_simp
      refine hK' _ _ ⟨BY3.alloc BY3.size _, ?_⟩
      clear hK' K'
      obtain ⟨p, hp⟩ : ∃ p, y3.heap.size = p := ⟨_, rfl⟩
      have hlp := hz3.size
      rw [sY2, hp] at hlp
      rw [hp]
      have KY4 := KY3.new (t := 111) (c := #[Value.int IntKind.u64 0, Value.int IntKind.u64 0]) hp
      have BY4 := BY3.alloc BY3.size (.cells #[Value.int IntKind.u64 0, Value.int IntKind.u64 0] 111)
      have sY4 : (y3.alloc (.cells #[Value.int IntKind.u64 0, Value.int IntKind.u64 0] 111)).heap.size = p + 1 := by simp [hp]
      generalize y3.alloc (.cells #[Value.int IntKind.u64 0, Value.int IntKind.u64 0] 111) = y4 at *
      clear hz1 hz3 KY1 KY2 KY3 BY1 BY2 BY3
      refine gro.anyG_one 20 (by kernel_rfl) rfl ?_
      intro y5 hz5 K' hK'
      have KY5 := KY4.below hz5
      have BY5 := BY4.trans (hz5.mono BY4.size)
      have sY5 := hz5.size
      have RY := KY5.rules
      simp only [gro.Rules] at RY
      go_simp
      refine hK' _ _ ⟨(BY5.setCell (by first | (simp; done) | (simp; omega)) _).setCell (by first | (simp; done) | (simp; omega)) _, ?_⟩
      clear hK' K' RY
      obtain ⟨y6, hy6, KY6, BY6, sY6⟩ := gro.name_world (gro.Bx.put2 (u := .int .u64 (hi X)) (v := .int .u64 (lo X)) KY5 (by first | (simp; done) | (simp; omega))).swap ((BY5.setCell (by first | (simp; done) | (simp; omega)) _).setCell (by first | (simp; done) | (simp; omega)) _) (s := p + 1) (by simp only [gro.set2_size]; omega)
      rw [hy6]
      clear hy6
      refine gro.anyG_one 21 (by kernel_rfl) rfl ?_
      intro y7 hz7 K' hK'
      have KY7 := KY6.below hz7
      have BY7 := BY6.trans (hz7.mono BY6.size)
      have sY7 := hz7.size
      have RY := KY7.rules
      simp only [gro.Rules] at RY
      go_simp
      refine hK' _ _ ⟨(BY7.setCell (by first | (simp; done) | (simp; omega)) _).setCell (by first | (simp; done) | (simp; omega)) _, ?_⟩
      clear hK' K' RY
      obtain ⟨y8, hy8, KY8, BY8, sY8⟩ := gro.name_world (gro.Bx.put2 (u := .int .u64 (hi Y)) (v := .int .u64 (lo Y)) KY7 (by first | (simp; done) | (simp; omega))) ((BY7.setCell (by first | (simp; done) | (simp; omega)) _).setCell (by first | (simp; done) | (simp; omega)) _) (s := p + 1) (by simp only [gro.set2_size]; omega)
      rw [hy8]
      clear hy8
      refine gro.anyG_done (by kernel_rfl) ?_
      intro y9 hz9
      have KP := KY8.below hz9
      have BP := (BB.out).drew.trans ((BY8.trans (hz9.mono BY8.size)).mono (BB.out).size)
      have sP := hz9.size
      clear KY4 BY4 KY5 BY5 KY6 BY6 KY7 BY7 KY8 BY8 hz5 hz7 hz9
      go_wp2_with fail; go_meet; case rel => exact ⟨p, q, rfl, rfl, by omega, by omega, by omega, by omega, by omega, BP, KP⟩
  case rest =>
    obtain ⟨p, q, rfl, rfl, hpq, hp, hq, hpl, hql, HBc, HKc⟩ := hcut
    clear R sz KK BB HS1 HS2 HP1 HP2
    obtain ⟨s5, hs5⟩ : ∃ s5, wc.heap.size = s5 := ⟨_, rfl⟩
    have KK := Lib.hid (HKc.out.new (t := 111) (c := #[Value.int IntKind.u64 0, Value.int IntKind.u64 0]) hs5)
    have BB := Lib.hid (HBc.out.alloc HBc.out.size (.cells #[Value.int IntKind.u64 0, Value.int IntKind.u64 0] 111))
    have R := KK.out.rules
    simp only [Rules] at R
    clear HKc HBc
    by_cases c1n : c0 < 0
    · have HA : Hid (∀ W, Calls Try.prog 143 #[(Value.agg #[Value.int IntKind.u64 (hi (Y)), Value.int IntKind.u64 (lo (Y))]), (Value.agg #[Value.int IntKind.u64 (hi (X)), Value.int IntKind.u64 (lo (X))])] W fun e w' => e = .returned (.tuple #[(Value.agg #[Value.int IntKind.u64 (hi (N)), Value.int IntKind.u64 (lo (N))]), .bool true]) ∧ Below W.heap.size W w') := fun W => (F.out W).1 (by omega)
      clear F
      go_wp2_with fail
      (with_reducible refine (HA.out _).mono ?_)
      rintro e wv ⟨rfl, hbv⟩; replace BB := Lib.hid (BB.out.trans (hbv.mono BB.out.size)); replace KK := Lib.hid (KK.out.below hbv); replace R := KK.out.rules; simp only [gro.Rules] at R; clear hbv
      go_wp2
      refine bodyPost_ret (v := (Value.agg #[Value.int IntKind.u64 (hi (N)), Value.int IntKind.u64 (lo (N))])) (by simp [results, Try.results113, go_sem, R]) rfl ⟨rfl, ?_⟩
      exact (((BB.out.setCell (by first | (simp; done) | (simp; omega)) _).setCell (by first | (simp; done) | (simp; omega)) _).setCell (by first | (simp; done) | (simp; omega)) _).setCell (by first | (simp; done) | (simp; omega)) _
    · by_cases c2n : a0 < 0
      · have HA : Hid (∀ W, Calls Try.prog 144 #[(Value.agg #[Value.int IntKind.u64 (hi (X)), Value.int IntKind.u64 (lo (X))]), (Value.agg #[Value.int IntKind.u64 (hi (Y)), Value.int IntKind.u64 (lo (Y))])] W fun e w' => e = .returned (.tuple #[(Value.agg #[Value.int IntKind.u64 (hi (N)), Value.int IntKind.u64 (lo (N))]), .bool true]) ∧ Below W.heap.size W w') := fun W => (F.out W).2.1 (by omega) (by omega)
        clear F
        go_wp2_with fail
        (with_reducible refine (HA.out _).mono ?_)
        rintro e wv ⟨rfl, hbv⟩; replace BB := Lib.hid (BB.out.trans (hbv.mono BB.out.size)); replace KK := Lib.hid (KK.out.below hbv); replace R := KK.out.rules; simp only [gro.Rules] at R; clear hbv
        go_wp2
        refine bodyPost_ret (v := (Value.agg #[Value.int IntKind.u64 (hi (N)), Value.int IntKind.u64 (lo (N))])) (by simp [results, Try.results113, go_sem, R]) rfl ⟨rfl, ?_⟩
        exact (((BB.out.setCell (by first | (simp; done) | (simp; omega)) _).setCell (by first | (simp; done) | (simp; omega)) _).setCell (by first | (simp; done) | (simp; omega)) _).setCell (by first | (simp; done) | (simp; omega)) _
      · have HA : Hid (∀ W, Calls Try.prog 143 #[(Value.agg #[Value.int IntKind.u64 (hi (X)), Value.int IntKind.u64 (lo (X))]), (Value.agg #[Value.int IntKind.u64 (hi (Y)), Value.int IntKind.u64 (lo (Y))])] W fun e w' => e = .returned (.tuple #[(Value.agg #[Value.int IntKind.u64 (hi (N)), Value.int IntKind.u64 (lo (N))]), .bool true]) ∧ Below W.heap.size W w') := fun W => (F.out W).2.2 (by omega) (by omega)
        clear F
        go_wp2_with fail
        (with_reducible refine (HA.out _).mono ?_)
        rintro e wv ⟨rfl, hbv⟩; replace BB := Lib.hid (BB.out.trans (hbv.mono BB.out.size)); replace KK := Lib.hid (KK.out.below hbv); replace R := KK.out.rules; simp only [gro.Rules] at R; clear hbv
        go_wp2
        refine bodyPost_ret (v := (Value.agg #[Value.int IntKind.u64 (hi (N)), Value.int IntKind.u64 (lo (N))])) (by simp [results, Try.results113, go_sem, R]) rfl ⟨rfl, ?_⟩
        exact (((BB.out.setCell (by first | (simp; done) | (simp; omega)) _).setCell (by first | (simp; done) | (simp; omega)) _).setCell (by first | (simp; done) | (simp; omega)) _).setCell (by first | (simp; done) | (simp; omega)) _
end Go.Proofs.Ytjapjfcennemeaa.wid
end
section
namespace Go.Proofs.Ytjapjfcennemeaa.wid
open Go.RowKit
set_option linter.unusedVariables false
theorem cmpQ_le {n d m e : Int} (hv : validQ n d = true) (hu : validQ m e = true) : cmpQ n d m e ≤ 0 ↔ n * e ≤ m * d := by
  rw [show cmpQ n d m e = cmpZ (n * e) (m * d) from if_pos ⟨hv, hu⟩, cmpZ_le]
theorem q_trans {n d m e k f : Int} (hd : 1 ≤ d) (he : 1 ≤ e) (hf : 1 ≤ f) (h : n * e ≤ m * d) (h2 : m * f ≤ k * e) : n * f ≤ k * d := by
  have h3 := Int.mul_le_mul_of_nonneg_right h (show 0 ≤ f by omega)
  have h4 := Int.mul_le_mul_of_nonneg_right h2 (show 0 ≤ d by omega)
  have h5 : (n * f) * e ≤ (k * d) * e := by
    have e1 : n * e * f = n * f * e := Int.mul_right_comm ..
    have e2 : m * d * f = m * f * d := Int.mul_right_comm ..
    have e3 : k * e * d = k * d * e := Int.mul_right_comm ..
    omega
  exact Int.le_of_mul_le_mul_right h5 (by omega)
theorem valid_pos {n d : Int} (hv : validQ n d = true) : 1 ≤ d := (validQ_iff.1 hv).1
theorem cmpQ_trans {n d m e k f : Int} (hv : validQ n d = true) (hu : validQ m e = true) (ht : validQ k f = true) (h : cmpQ n d m e ≤ 0) (h2 : cmpQ m e k f ≤ 0) : cmpQ n d k f ≤ 0 :=
  (cmpQ_le hv ht).2 (q_trans (valid_pos hv) (valid_pos hu) (valid_pos ht) ((cmpQ_le hv hu).1 h) ((cmpQ_le hu ht).1 h2))
end Go.Proofs.Ytjapjfcennemeaa.wid
end
