/- Bnd, Hold: proved here in one text, no conditions beyond those that each theorem states. -/
import Derived.Test.YtjapjfcennemeaaZ39
set_option linter.unusedVariables false
set_option linter.unusedSimpArgs false
section
namespace Go.Proofs.Ytjapjfcennemeaa.wid
open Go.RowKit Go.Proofs.Ytjapjfcennemeaa.mem Go.Proofs.Ytjapjfcennemeaa.gro
set_option linter.unusedVariables false
set_option linter.unusedSimpArgs false
def validB (a0 a1 b0 b1 c0 c1 : Int) : Bool := validQ a0 a1 && validQ b0 b1 && validQ c0 c1 && decide (cmpQ a0 a1 b0 b1 ≤ 0) && decide (cmpQ b0 b1 c0 c1 ≤ 0)
set_option maxHeartbeats 2000000 in
set_option maxRecDepth 100000 in
theorem ValidB_any (a0 a1 b0 b1 c0 c1 : Int) (ha0 : I64 a0) (ha1 : I64 a1) (hb0 : I64 b0) (hb1 : I64 b1) (hc0 : I64 c0) (hc1 : I64 c1) (w : World) :
    Calls Try.prog 110 #[Value.agg #[Value.int IntKind.i64 a0, Value.int IntKind.i64 a1, Value.int IntKind.i64 b0, Value.int IntKind.i64 b1, Value.int IntKind.i64 c0, Value.int IntKind.i64 c1]] w fun x w' => x = .returned (.bool (validB a0 a1 b0 b1 c0 c1)) ∧ Below w.heap.size w w' := by
  have H0 := Lib.hid (fun W => Valid_any a0 a1 ha0 ha1 W)
  have H1 := Lib.hid (fun W => Valid_any b0 b1 hb0 hb1 W)
  have H2 := Lib.hid (fun W => Valid_any c0 c1 hc0 hc1 W)
  have H3 := Lib.hid (fun W => CompareQ_any a0 a1 b0 b1 ha0 ha1 hb0 hb1 W)
  have H4 := Lib.hid (fun W => CompareQ_any b0 b1 c0 c1 hb0 hb1 hc0 hc1 W)
  have HB : Hid (validB a0 a1 b0 b1 c0 c1 = (validQ a0 a1 && validQ b0 b1 && validQ c0 c1 && decide (cmpQ a0 a1 b0 b1 ≤ 0) && decide (cmpQ b0 b1 c0 c1 ≤ 0))) := rfl
  clear ha0 ha1 hb0 hb1 hc0 hc1
  generalize validQ a0 a1 = v0 at *
  generalize validQ b0 b1 = v1 at *
  generalize validQ c0 c1 = v2 at *
  generalize cmpQ a0 a1 b0 b1 = u3 at *
  generalize cmpQ b0 b1 c0 c1 = u4 at *
  generalize validB a0 a1 b0 b1 c0 c1 = vB at *
  obtain ⟨v3, q3⟩ : ∃ v, decide (u3 ≤ 0) = v := ⟨_, rfl⟩
  obtain ⟨v4, q4⟩ : ∃ v, decide (u4 ≤ 0) = v := ⟨_, rfl⟩
  rw [q3, q4] at HB
  cases v0
  case false =>
    obtain rfl : vB = false := by rw [HB.out]; simp
    clear HB
    go_enter Try.func110, Try.ntmps110
    go_wp2_with fail
    obtain ⟨W0, hW, hs0, K0, B0⟩ := start1 w 55 #[Value.int IntKind.i64 a0, Value.int IntKind.i64 a1, Value.int IntKind.i64 b0, Value.int IntKind.i64 b1, Value.int IntKind.i64 c0, Value.int IntKind.i64 c1]
    rw [hW]
    clear hW
    have KK := Lib.hid K0
    have BB := Lib.hid B0
    have R := K0.rules
    simp only [Rules] at R
    clear K0 B0 hs0
    (with_reducible refine (H0.out _).mono ?_)
    rintro e wv ⟨rfl, hbv⟩; replace BB := Lib.hid (BB.out.trans (hbv.mono BB.out.size)); replace KK := Lib.hid (KK.out.below hbv); replace R := KK.out.rules; simp only [gro.Rules] at R; clear hbv
    go_wp2
    go_ret
    exact ⟨rfl, BB.out⟩
  cases v1
  case false =>
    obtain rfl : vB = false := by rw [HB.out]; simp
    clear HB
    go_enter Try.func110, Try.ntmps110
    go_wp2_with fail
    obtain ⟨W0, hW, hs0, K0, B0⟩ := start1 w 55 #[Value.int IntKind.i64 a0, Value.int IntKind.i64 a1, Value.int IntKind.i64 b0, Value.int IntKind.i64 b1, Value.int IntKind.i64 c0, Value.int IntKind.i64 c1]
    rw [hW]
    clear hW
    have KK := Lib.hid K0
    have BB := Lib.hid B0
    have R := K0.rules
    simp only [Rules] at R
    clear K0 B0 hs0
    (with_reducible refine (H0.out _).mono ?_)
    rintro e wv ⟨rfl, hbv⟩; replace BB := Lib.hid (BB.out.trans (hbv.mono BB.out.size)); replace KK := Lib.hid (KK.out.below hbv); replace R := KK.out.rules; simp only [gro.Rules] at R; clear hbv
    go_wp2_with fail
    (with_reducible refine (H1.out _).mono ?_)
    rintro e wv ⟨rfl, hbv⟩; replace BB := Lib.hid (BB.out.trans (hbv.mono BB.out.size)); replace KK := Lib.hid (KK.out.below hbv); replace R := KK.out.rules; simp only [gro.Rules] at R; clear hbv
    go_wp2
    go_ret
    exact ⟨rfl, BB.out⟩
  cases v2
  case false =>
    obtain rfl : vB = false := by rw [HB.out]; simp
    clear HB
    go_enter Try.func110, Try.ntmps110
    go_wp2_with fail
    obtain ⟨W0, hW, hs0, K0, B0⟩ := start1 w 55 #[Value.int IntKind.i64 a0, Value.int IntKind.i64 a1, Value.int IntKind.i64 b0, Value.int IntKind.i64 b1, Value.int IntKind.i64 c0, Value.int IntKind.i64 c1]
    rw [hW]
    clear hW
    have KK := Lib.hid K0
    have BB := Lib.hid B0
    have R := K0.rules
    simp only [Rules] at R
    clear K0 B0 hs0
    (with_reducible refine (H0.out _).mono ?_)
    rintro e wv ⟨rfl, hbv⟩; replace BB := Lib.hid (BB.out.trans (hbv.mono BB.out.size)); replace KK := Lib.hid (KK.out.below hbv); replace R := KK.out.rules; simp only [gro.Rules] at R; clear hbv
    go_wp2_with fail
    (with_reducible refine (H1.out _).mono ?_)
    rintro e wv ⟨rfl, hbv⟩; replace BB := Lib.hid (BB.out.trans (hbv.mono BB.out.size)); replace KK := Lib.hid (KK.out.below hbv); replace R := KK.out.rules; simp only [gro.Rules] at R; clear hbv
    go_wp2_with fail
    (with_reducible refine (H2.out _).mono ?_)
    rintro e wv ⟨rfl, hbv⟩; replace BB := Lib.hid (BB.out.trans (hbv.mono BB.out.size)); replace KK := Lib.hid (KK.out.below hbv); replace R := KK.out.rules; simp only [gro.Rules] at R; clear hbv
    go_wp2
    go_ret
    exact ⟨rfl, BB.out⟩
  cases v3
  case false =>
    obtain rfl : vB = false := by rw [HB.out]; simp
    clear HB
    go_enter Try.func110, Try.ntmps110
    go_wp2_with fail
    obtain ⟨W0, hW, hs0, K0, B0⟩ := start1 w 55 #[Value.int IntKind.i64 a0, Value.int IntKind.i64 a1, Value.int IntKind.i64 b0, Value.int IntKind.i64 b1, Value.int IntKind.i64 c0, Value.int IntKind.i64 c1]
    rw [hW]
    clear hW
    have KK := Lib.hid K0
    have BB := Lib.hid B0
    have R := K0.rules
    simp only [Rules] at R
    clear K0 B0 hs0
    (with_reducible refine (H0.out _).mono ?_)
    rintro e wv ⟨rfl, hbv⟩; replace BB := Lib.hid (BB.out.trans (hbv.mono BB.out.size)); replace KK := Lib.hid (KK.out.below hbv); replace R := KK.out.rules; simp only [gro.Rules] at R; clear hbv
    go_wp2_with fail
    (with_reducible refine (H1.out _).mono ?_)
    rintro e wv ⟨rfl, hbv⟩; replace BB := Lib.hid (BB.out.trans (hbv.mono BB.out.size)); replace KK := Lib.hid (KK.out.below hbv); replace R := KK.out.rules; simp only [gro.Rules] at R; clear hbv
    go_wp2_with fail
    (with_reducible refine (H2.out _).mono ?_)
    rintro e wv ⟨rfl, hbv⟩; replace BB := Lib.hid (BB.out.trans (hbv.mono BB.out.size)); replace KK := Lib.hid (KK.out.below hbv); replace R := KK.out.rules; simp only [gro.Rules] at R; clear hbv
    go_wp2_with fail
    (with_reducible refine (H3.out _).mono ?_)
    rintro e wv ⟨rfl, hbv⟩; replace BB := Lib.hid (BB.out.trans (hbv.mono BB.out.size)); replace KK := Lib.hid (KK.out.below hbv); replace R := KK.out.rules; simp only [gro.Rules] at R; clear hbv
    go_wp2
    go_ret
    exact ⟨rfl, BB.out⟩
  cases v4
  case false =>
    obtain rfl : vB = false := by rw [HB.out]; simp
    clear HB
    go_enter Try.func110, Try.ntmps110
    go_wp2_with fail
    obtain ⟨W0, hW, hs0, K0, B0⟩ := start1 w 55 #[Value.int IntKind.i64 a0, Value.int IntKind.i64 a1, Value.int IntKind.i64 b0, Value.int IntKind.i64 b1, Value.int IntKind.i64 c0, Value.int IntKind.i64 c1]
    rw [hW]
    clear hW
    have KK := Lib.hid K0
    have BB := Lib.hid B0
    have R := K0.rules
    simp only [Rules] at R
    clear K0 B0 hs0
    (with_reducible refine (H0.out _).mono ?_)
    rintro e wv ⟨rfl, hbv⟩; replace BB := Lib.hid (BB.out.trans (hbv.mono BB.out.size)); replace KK := Lib.hid (KK.out.below hbv); replace R := KK.out.rules; simp only [gro.Rules] at R; clear hbv
    go_wp2_with fail
    (with_reducible refine (H1.out _).mono ?_)
    rintro e wv ⟨rfl, hbv⟩; replace BB := Lib.hid (BB.out.trans (hbv.mono BB.out.size)); replace KK := Lib.hid (KK.out.below hbv); replace R := KK.out.rules; simp only [gro.Rules] at R; clear hbv
    go_wp2_with fail
    (with_reducible refine (H2.out _).mono ?_)
    rintro e wv ⟨rfl, hbv⟩; replace BB := Lib.hid (BB.out.trans (hbv.mono BB.out.size)); replace KK := Lib.hid (KK.out.below hbv); replace R := KK.out.rules; simp only [gro.Rules] at R; clear hbv
    go_wp2_with fail
    (with_reducible refine (H3.out _).mono ?_)
    rintro e wv ⟨rfl, hbv⟩; replace BB := Lib.hid (BB.out.trans (hbv.mono BB.out.size)); replace KK := Lib.hid (KK.out.below hbv); replace R := KK.out.rules; simp only [gro.Rules] at R; clear hbv
    go_wp2_with fail
    (with_reducible refine (H4.out _).mono ?_)
    rintro e wv ⟨rfl, hbv⟩; replace BB := Lib.hid (BB.out.trans (hbv.mono BB.out.size)); replace KK := Lib.hid (KK.out.below hbv); replace R := KK.out.rules; simp only [gro.Rules] at R; clear hbv
    go_wp2
    go_ret
    exact ⟨rfl, BB.out⟩
  obtain rfl : vB = true := by rw [HB.out]; simp
  clear HB
  go_enter Try.func110, Try.ntmps110
  go_wp2_with fail
  obtain ⟨W0, hW, hs0, K0, B0⟩ := start1 w 55 #[Value.int IntKind.i64 a0, Value.int IntKind.i64 a1, Value.int IntKind.i64 b0, Value.int IntKind.i64 b1, Value.int IntKind.i64 c0, Value.int IntKind.i64 c1]
  rw [hW]
  clear hW
  have KK := Lib.hid K0
  have BB := Lib.hid B0
  have R := K0.rules
  simp only [Rules] at R
  clear K0 B0 hs0
  (with_reducible refine (H0.out _).mono ?_)
  rintro e wv ⟨rfl, hbv⟩; replace BB := Lib.hid (BB.out.trans (hbv.mono BB.out.size)); replace KK := Lib.hid (KK.out.below hbv); replace R := KK.out.rules; simp only [gro.Rules] at R; clear hbv
  go_wp2_with fail
  (with_reducible refine (H1.out _).mono ?_)
  rintro e wv ⟨rfl, hbv⟩; replace BB := Lib.hid (BB.out.trans (hbv.mono BB.out.size)); replace KK := Lib.hid (KK.out.below hbv); replace R := KK.out.rules; simp only [gro.Rules] at R; clear hbv
  go_wp2_with fail
  (with_reducible refine (H2.out _).mono ?_)
  rintro e wv ⟨rfl, hbv⟩; replace BB := Lib.hid (BB.out.trans (hbv.mono BB.out.size)); replace KK := Lib.hid (KK.out.below hbv); replace R := KK.out.rules; simp only [gro.Rules] at R; clear hbv
  go_wp2_with fail
  (with_reducible refine (H3.out _).mono ?_)
  rintro e wv ⟨rfl, hbv⟩; replace BB := Lib.hid (BB.out.trans (hbv.mono BB.out.size)); replace KK := Lib.hid (KK.out.below hbv); replace R := KK.out.rules; simp only [gro.Rules] at R; clear hbv
  go_wp2_with fail
  (with_reducible refine (H4.out _).mono ?_)
  rintro e wv ⟨rfl, hbv⟩; replace BB := Lib.hid (BB.out.trans (hbv.mono BB.out.size)); replace KK := Lib.hid (KK.out.below hbv); replace R := KK.out.rules; simp only [gro.Rules] at R; clear hbv
  go_wp2
  go_ret
  exact ⟨rfl, BB.out⟩
end Go.Proofs.Ytjapjfcennemeaa.wid
end
section
namespace Go.Proofs.Ytjapjfcennemeaa.wid
open Go.RowKit Go.Proofs.Ytjapjfcennemeaa.mem Go.Proofs.Ytjapjfcennemeaa.gro
set_option linter.unusedVariables false
set_option linter.unusedSimpArgs false
def holdB (a0 a1 b0 b1 c0 c1 n d : Int) : Bool := validB a0 a1 b0 b1 c0 c1 && validQ n d && decide (cmpQ a0 a1 n d ≤ 0) && decide (cmpQ n d c0 c1 ≤ 0)
set_option maxHeartbeats 2000000 in
set_option maxRecDepth 100000 in
theorem HoldB_any (a0 a1 b0 b1 c0 c1 n d : Int) (ha0 : I64 a0) (ha1 : I64 a1) (hb0 : I64 b0) (hb1 : I64 b1) (hc0 : I64 c0) (hc1 : I64 c1) (hn : I64 n) (hd : I64 d) (w : World) :
    Calls Try.prog 64 #[Value.agg #[Value.int IntKind.i64 a0, Value.int IntKind.i64 a1, Value.int IntKind.i64 b0, Value.int IntKind.i64 b1, Value.int IntKind.i64 c0, Value.int IntKind.i64 c1], (Value.agg #[Value.int IntKind.i64 (n), Value.int IntKind.i64 ( d)])] w fun x w' => x = .returned (.bool (holdB a0 a1 b0 b1 c0 c1 n d)) ∧ Below w.heap.size w w' := by
  have H0 := Lib.hid (fun W => ValidB_any a0 a1 b0 b1 c0 c1 ha0 ha1 hb0 hb1 hc0 hc1 W)
  have H1 := Lib.hid (fun W => Valid_any n d hn hd W)
  have H2 := Lib.hid (fun W => CompareQ_any a0 a1 n d ha0 ha1 hn hd W)
  have H3 := Lib.hid (fun W => CompareQ_any n d c0 c1 hn hd hc0 hc1 W)
  have HB : Hid (holdB a0 a1 b0 b1 c0 c1 n d = (validB a0 a1 b0 b1 c0 c1 && validQ n d && decide (cmpQ a0 a1 n d ≤ 0) && decide (cmpQ n d c0 c1 ≤ 0))) := rfl
  clear ha0 ha1 hb0 hb1 hc0 hc1 hn hd
  generalize validB a0 a1 b0 b1 c0 c1 = v0 at *
  generalize validQ n d = v1 at *
  generalize cmpQ a0 a1 n d = u2 at *
  generalize cmpQ n d c0 c1 = u3 at *
  generalize holdB a0 a1 b0 b1 c0 c1 n d = vB at *
  obtain ⟨v2, q2⟩ : ∃ v, decide (u2 ≤ 0) = v := ⟨_, rfl⟩
  obtain ⟨v3, q3⟩ : ∃ v, decide (u3 ≤ 0) = v := ⟨_, rfl⟩
  rw [q2, q3] at HB
  cases v0
  case false =>
    obtain rfl : vB = false := by rw [HB.out]; simp
    clear HB
    go_enter Try.func64, Try.ntmps64
    go_wp2_with fail
    obtain ⟨W0, hW, hs0, K0, B0⟩ := start2 w 55 53 #[Value.int IntKind.i64 a0, Value.int IntKind.i64 a1, Value.int IntKind.i64 b0, Value.int IntKind.i64 b1, Value.int IntKind.i64 c0, Value.int IntKind.i64 c1] #[Value.int IntKind.i64 n, Value.int IntKind.i64 d]
    rw [hW]
    clear hW
    have KK := Lib.hid K0
    have BB := Lib.hid B0
    have R := K0.rules
    simp only [Rules] at R
    clear K0 B0 hs0
    (with_reducible refine (H0.out _).mono ?_)
    rintro e wv ⟨rfl, hbv⟩; replace BB := Lib.hid (BB.out.trans (hbv.mono BB.out.size)); replace KK := Lib.hid (KK.out.below hbv); replace R := KK.out.rules; simp only [gro.Rules] at R; clear hbv
    go_wp2
    go_ret
    exact ⟨rfl, BB.out⟩
  cases v1
  case false =>
    obtain rfl : vB = false := by rw [HB.out]; simp
    clear HB
    go_enter Try.func64, Try.ntmps64
    go_wp2_with fail
    obtain ⟨W0, hW, hs0, K0, B0⟩ := start2 w 55 53 #[Value.int IntKind.i64 a0, Value.int IntKind.i64 a1, Value.int IntKind.i64 b0, Value.int IntKind.i64 b1, Value.int IntKind.i64 c0, Value.int IntKind.i64 c1] #[Value.int IntKind.i64 n, Value.int IntKind.i64 d]
    rw [hW]
    clear hW
    have KK := Lib.hid K0
    have BB := Lib.hid B0
    have R := K0.rules
    simp only [Rules] at R
    clear K0 B0 hs0
    (with_reducible refine (H0.out _).mono ?_)
    rintro e wv ⟨rfl, hbv⟩; replace BB := Lib.hid (BB.out.trans (hbv.mono BB.out.size)); replace KK := Lib.hid (KK.out.below hbv); replace R := KK.out.rules; simp only [gro.Rules] at R; clear hbv
    go_wp2_with fail
    (with_reducible refine (H1.out _).mono ?_)
    rintro e wv ⟨rfl, hbv⟩; replace BB := Lib.hid (BB.out.trans (hbv.mono BB.out.size)); replace KK := Lib.hid (KK.out.below hbv); replace R := KK.out.rules; simp only [gro.Rules] at R; clear hbv
    go_wp2
    go_ret
    exact ⟨rfl, BB.out⟩
  cases v2
  case false =>
    obtain rfl : vB = false := by rw [HB.out]; simp
    clear HB
    go_enter Try.func64, Try.ntmps64
    go_wp2_with fail
    obtain ⟨W0, hW, hs0, K0, B0⟩ := start2 w 55 53 #[Value.int IntKind.i64 a0, Value.int IntKind.i64 a1, Value.int IntKind.i64 b0, Value.int IntKind.i64 b1, Value.int IntKind.i64 c0, Value.int IntKind.i64 c1] #[Value.int IntKind.i64 n, Value.int IntKind.i64 d]
    rw [hW]
    clear hW
    have KK := Lib.hid K0
    have BB := Lib.hid B0
    have R := K0.rules
    simp only [Rules] at R
    clear K0 B0 hs0
    (with_reducible refine (H0.out _).mono ?_)
    rintro e wv ⟨rfl, hbv⟩; replace BB := Lib.hid (BB.out.trans (hbv.mono BB.out.size)); replace KK := Lib.hid (KK.out.below hbv); replace R := KK.out.rules; simp only [gro.Rules] at R; clear hbv
    go_wp2_with fail
    (with_reducible refine (H1.out _).mono ?_)
    rintro e wv ⟨rfl, hbv⟩; replace BB := Lib.hid (BB.out.trans (hbv.mono BB.out.size)); replace KK := Lib.hid (KK.out.below hbv); replace R := KK.out.rules; simp only [gro.Rules] at R; clear hbv
    go_wp2_with fail
    (with_reducible refine (H2.out _).mono ?_)
    rintro e wv ⟨rfl, hbv⟩; replace BB := Lib.hid (BB.out.trans (hbv.mono BB.out.size)); replace KK := Lib.hid (KK.out.below hbv); replace R := KK.out.rules; simp only [gro.Rules] at R; clear hbv
    go_wp2
    go_ret
    exact ⟨rfl, BB.out⟩
  cases v3
  case false =>
    obtain rfl : vB = false := by rw [HB.out]; simp
    clear HB
    go_enter Try.func64, Try.ntmps64
    go_wp2_with fail
    obtain ⟨W0, hW, hs0, K0, B0⟩ := start2 w 55 53 #[Value.int IntKind.i64 a0, Value.int IntKind.i64 a1, Value.int IntKind.i64 b0, Value.int IntKind.i64 b1, Value.int IntKind.i64 c0, Value.int IntKind.i64 c1] #[Value.int IntKind.i64 n, Value.int IntKind.i64 d]
    rw [hW]
    clear hW
    have KK := Lib.hid K0
    have BB := Lib.hid B0
    have R := K0.rules
    simp only [Rules] at R
    clear K0 B0 hs0
    (with_reducible refine (H0.out _).mono ?_)
    rintro e wv ⟨rfl, hbv⟩; replace BB := Lib.hid (BB.out.trans (hbv.mono BB.out.size)); replace KK := Lib.hid (KK.out.below hbv); replace R := KK.out.rules; simp only [gro.Rules] at R; clear hbv
    go_wp2_with fail
    (with_reducible refine (H1.out _).mono ?_)
    rintro e wv ⟨rfl, hbv⟩; replace BB := Lib.hid (BB.out.trans (hbv.mono BB.out.size)); replace KK := Lib.hid (KK.out.below hbv); replace R := KK.out.rules; simp only [gro.Rules] at R; clear hbv
    go_wp2_with fail
    (with_reducible refine (H2.out _).mono ?_)
    rintro e wv ⟨rfl, hbv⟩; replace BB := Lib.hid (BB.out.trans (hbv.mono BB.out.size)); replace KK := Lib.hid (KK.out.below hbv); replace R := KK.out.rules; simp only [gro.Rules] at R; clear hbv
    go_wp2_with fail
    (with_reducible refine (H3.out _).mono ?_)
    rintro e wv ⟨rfl, hbv⟩; replace BB := Lib.hid (BB.out.trans (hbv.mono BB.out.size)); replace KK := Lib.hid (KK.out.below hbv); replace R := KK.out.rules; simp only [gro.Rules] at R; clear hbv
    go_wp2
    go_ret
    exact ⟨rfl, BB.out⟩
  obtain rfl : vB = true := by rw [HB.out]; simp
  clear HB
  go_enter Try.func64, Try.ntmps64
  go_wp2_with fail
  obtain ⟨W0, hW, hs0, K0, B0⟩ := start2 w 55 53 #[Value.int IntKind.i64 a0, Value.int IntKind.i64 a1, Value.int IntKind.i64 b0, Value.int IntKind.i64 b1, Value.int IntKind.i64 c0, Value.int IntKind.i64 c1] #[Value.int IntKind.i64 n, Value.int IntKind.i64 d]
  rw [hW]
  clear hW
  have KK := Lib.hid K0
  have BB := Lib.hid B0
  have R := K0.rules
  simp only [Rules] at R
  clear K0 B0 hs0
  (with_reducible refine (H0.out _).mono ?_)
  rintro e wv ⟨rfl, hbv⟩; replace BB := Lib.hid (BB.out.trans (hbv.mono BB.out.size)); replace KK := Lib.hid (KK.out.below hbv); replace R := KK.out.rules; simp only [gro.Rules] at R; clear hbv
  go_wp2_with fail
  (with_reducible refine (H1.out _).mono ?_)
  rintro e wv ⟨rfl, hbv⟩; replace BB := Lib.hid (BB.out.trans (hbv.mono BB.out.size)); replace KK := Lib.hid (KK.out.below hbv); replace R := KK.out.rules; simp only [gro.Rules] at R; clear hbv
  go_wp2_with fail
  (with_reducible refine (H2.out _).mono ?_)
  rintro e wv ⟨rfl, hbv⟩; replace BB := Lib.hid (BB.out.trans (hbv.mono BB.out.size)); replace KK := Lib.hid (KK.out.below hbv); replace R := KK.out.rules; simp only [gro.Rules] at R; clear hbv
  go_wp2_with fail
  (with_reducible refine (H3.out _).mono ?_)
  rintro e wv ⟨rfl, hbv⟩; replace BB := Lib.hid (BB.out.trans (hbv.mono BB.out.size)); replace KK := Lib.hid (KK.out.below hbv); replace R := KK.out.rules; simp only [gro.Rules] at R; clear hbv
  go_wp2
  go_ret
  exact ⟨rfl, BB.out⟩
end Go.Proofs.Ytjapjfcennemeaa.wid
end
