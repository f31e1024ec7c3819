/- Contracts of Holds of bounds. -/
import Derived.Test.YtoejhikcnnppnaaBnd
namespace Go.Proofs.Ytoejhikcnnppnaa.wid
open Go.RowKit Go.Proofs.Ytoejhikcnnppnaa.mem Go.Proofs.Ytoejhikcnnppnaa.gro
set_option linter.unusedVariables false
set_option linter.unusedSimpArgs false
def holdB (a0 a1 b0 b1 c0 c1 n d : Int) : Bool := validB a0 a1 b0 b1 c0 c1 && validQ n d && decide (cmpQ a0 a1 n d ≤ 0) && decide (cmpQ n d c0 c1 ≤ 0)
set_option maxHeartbeats 2000000 in
set_option maxRecDepth 100000 in
theorem HoldB_any (a0 a1 b0 b1 c0 c1 n d : Int) (ha0 : I64 a0) (ha1 : I64 a1) (hb0 : I64 b0) (hb1 : I64 b1) (hc0 : I64 c0) (hc1 : I64 c1) (hn : I64 n) (hd : I64 d) (w : World) :
    Calls Try.prog 42 #[Value.agg #[Value.int IntKind.i64 a0, Value.int IntKind.i64 a1, Value.int IntKind.i64 b0, Value.int IntKind.i64 b1, Value.int IntKind.i64 c0, Value.int IntKind.i64 c1], (Value.agg #[Value.int IntKind.i64 (n), Value.int IntKind.i64 ( d)])] w fun x w' => x = .returned (.bool (holdB a0 a1 b0 b1 c0 c1 n d)) ∧ Below w.heap.size w w' := by
  have H0 := Lib.hid (fun W => ValidB_any a0 a1 b0 b1 c0 c1 ha0 ha1 hb0 hb1 hc0 hc1 W)
  have H1 := Lib.hid (fun W => Valid_any n d hn hd W)
  have H2 := Lib.hid (fun W => CompareQ_any a0 a1 n d ha0 ha1 hn hd W)
  have H3 := Lib.hid (fun W => CompareQ_any n d c0 c1 hn hd hc0 hc1 W)
  have HB : Hid (holdB a0 a1 b0 b1 c0 c1 n d = (validB a0 a1 b0 b1 c0 c1 && validQ n d && decide (cmpQ a0 a1 n d ≤ 0) && decide (cmpQ n d c0 c1 ≤ 0))) := rfl
  clear ha0 ha1 hb0 hb1 hc0 hc1 hn hd
  generalize validB a0 a1 b0 b1 c0 c1 = v0 at *
  generalize validQ n d = v1 at *
  generalize cmpQ a0 a1 n d = u2 at *
  generalize cmpQ n d c0 c1 = u3 at *
  generalize holdB a0 a1 b0 b1 c0 c1 n d = vB at *
  obtain ⟨v2, q2⟩ : ∃ v, decide (u2 ≤ 0) = v := ⟨_, rfl⟩
  obtain ⟨v3, q3⟩ : ∃ v, decide (u3 ≤ 0) = v := ⟨_, rfl⟩
  rw [q2, q3] at HB
  cases v0
  case false =>
    obtain rfl : vB = false := by rw [HB.out]; simp
    clear HB
    go_enter Try.func42, Try.ntmps42
    go_wp2_with fail
    obtain ⟨W0, hW, hs0, K0, B0⟩ := start2 w 36 23 #[Value.int IntKind.i64 a0, Value.int IntKind.i64 a1, Value.int IntKind.i64 b0, Value.int IntKind.i64 b1, Value.int IntKind.i64 c0, Value.int IntKind.i64 c1] #[Value.int IntKind.i64 n, Value.int IntKind.i64 d]
    rw [hW]
    clear hW
    have KK := Lib.hid K0
    have BB := Lib.hid B0
    have R := K0.rules
    simp only [Rules] at R
    clear K0 B0 hs0
    (with_reducible refine (H0.out _).mono ?_)
    rintro e wv ⟨rfl, hbv⟩; replace BB := Lib.hid (BB.out.trans (hbv.mono BB.out.size)); replace KK := Lib.hid (KK.out.below hbv); replace R := KK.out.rules; simp only [gro.Rules] at R; clear hbv
    go_wp2
    go_ret
    exact ⟨rfl, BB.out⟩
  cases v1
  case false =>
    obtain rfl : vB = false := by rw [HB.out]; simp
    clear HB
    go_enter Try.func42, Try.ntmps42
    go_wp2_with fail
    obtain ⟨W0, hW, hs0, K0, B0⟩ := start2 w 36 23 #[Value.int IntKind.i64 a0, Value.int IntKind.i64 a1, Value.int IntKind.i64 b0, Value.int IntKind.i64 b1, Value.int IntKind.i64 c0, Value.int IntKind.i64 c1] #[Value.int IntKind.i64 n, Value.int IntKind.i64 d]
    rw [hW]
    clear hW
    have KK := Lib.hid K0
    have BB := Lib.hid B0
    have R := K0.rules
    simp only [Rules] at R
    clear K0 B0 hs0
    (with_reducible refine (H0.out _).mono ?_)
    rintro e wv ⟨rfl, hbv⟩; replace BB := Lib.hid (BB.out.trans (hbv.mono BB.out.size)); replace KK := Lib.hid (KK.out.below hbv); replace R := KK.out.rules; simp only [gro.Rules] at R; clear hbv
    go_wp2_with fail
    (with_reducible refine (H1.out _).mono ?_)
    rintro e wv ⟨rfl, hbv⟩; replace BB := Lib.hid (BB.out.trans (hbv.mono BB.out.size)); replace KK := Lib.hid (KK.out.below hbv); replace R := KK.out.rules; simp only [gro.Rules] at R; clear hbv
    go_wp2
    go_ret
    exact ⟨rfl, BB.out⟩
  cases v2
  case false =>
    obtain rfl : vB = false := by rw [HB.out]; simp
    clear HB
    go_enter Try.func42, Try.ntmps42
    go_wp2_with fail
    obtain ⟨W0, hW, hs0, K0, B0⟩ := start2 w 36 23 #[Value.int IntKind.i64 a0, Value.int IntKind.i64 a1, Value.int IntKind.i64 b0, Value.int IntKind.i64 b1, Value.int IntKind.i64 c0, Value.int IntKind.i64 c1] #[Value.int IntKind.i64 n, Value.int IntKind.i64 d]
    rw [hW]
    clear hW
    have KK := Lib.hid K0
    have BB := Lib.hid B0
    have R := K0.rules
    simp only [Rules] at R
    clear K0 B0 hs0
    (with_reducible refine (H0.out _).mono ?_)
    rintro e wv ⟨rfl, hbv⟩; replace BB := Lib.hid (BB.out.trans (hbv.mono BB.out.size)); replace KK := Lib.hid (KK.out.below hbv); replace R := KK.out.rules; simp only [gro.Rules] at R; clear hbv
    go_wp2_with fail
    (with_reducible refine (H1.out _).mono ?_)
    rintro e wv ⟨rfl, hbv⟩; replace BB := Lib.hid (BB.out.trans (hbv.mono BB.out.size)); replace KK := Lib.hid (KK.out.below hbv); replace R := KK.out.rules; simp only [gro.Rules] at R; clear hbv
    go_wp2_with fail
    (with_reducible refine (H2.out _).mono ?_)
    rintro e wv ⟨rfl, hbv⟩; replace BB := Lib.hid (BB.out.trans (hbv.mono BB.out.size)); replace KK := Lib.hid (KK.out.below hbv); replace R := KK.out.rules; simp only [gro.Rules] at R; clear hbv
    go_wp2
    go_ret
    exact ⟨rfl, BB.out⟩
  cases v3
  case false =>
    obtain rfl : vB = false := by rw [HB.out]; simp
    clear HB
    go_enter Try.func42, Try.ntmps42
    go_wp2_with fail
    obtain ⟨W0, hW, hs0, K0, B0⟩ := start2 w 36 23 #[Value.int IntKind.i64 a0, Value.int IntKind.i64 a1, Value.int IntKind.i64 b0, Value.int IntKind.i64 b1, Value.int IntKind.i64 c0, Value.int IntKind.i64 c1] #[Value.int IntKind.i64 n, Value.int IntKind.i64 d]
    rw [hW]
    clear hW
    have KK := Lib.hid K0
    have BB := Lib.hid B0
    have R := K0.rules
    simp only [Rules] at R
    clear K0 B0 hs0
    (with_reducible refine (H0.out _).mono ?_)
    rintro e wv ⟨rfl, hbv⟩; replace BB := Lib.hid (BB.out.trans (hbv.mono BB.out.size)); replace KK := Lib.hid (KK.out.below hbv); replace R := KK.out.rules; simp only [gro.Rules] at R; clear hbv
    go_wp2_with fail
    (with_reducible refine (H1.out _).mono ?_)
    rintro e wv ⟨rfl, hbv⟩; replace BB := Lib.hid (BB.out.trans (hbv.mono BB.out.size)); replace KK := Lib.hid (KK.out.below hbv); replace R := KK.out.rules; simp only [gro.Rules] at R; clear hbv
    go_wp2_with fail
    (with_reducible refine (H2.out _).mono ?_)
    rintro e wv ⟨rfl, hbv⟩; replace BB := Lib.hid (BB.out.trans (hbv.mono BB.out.size)); replace KK := Lib.hid (KK.out.below hbv); replace R := KK.out.rules; simp only [gro.Rules] at R; clear hbv
    go_wp2_with fail
    (with_reducible refine (H3.out _).mono ?_)
    rintro e wv ⟨rfl, hbv⟩; replace BB := Lib.hid (BB.out.trans (hbv.mono BB.out.size)); replace KK := Lib.hid (KK.out.below hbv); replace R := KK.out.rules; simp only [gro.Rules] at R; clear hbv
    go_wp2
    go_ret
    exact ⟨rfl, BB.out⟩
  obtain rfl : vB = true := by rw [HB.out]; simp
  clear HB
  go_enter Try.func42, Try.ntmps42
  go_wp2_with fail
  obtain ⟨W0, hW, hs0, K0, B0⟩ := start2 w 36 23 #[Value.int IntKind.i64 a0, Value.int IntKind.i64 a1, Value.int IntKind.i64 b0, Value.int IntKind.i64 b1, Value.int IntKind.i64 c0, Value.int IntKind.i64 c1] #[Value.int IntKind.i64 n, Value.int IntKind.i64 d]
  rw [hW]
  clear hW
  have KK := Lib.hid K0
  have BB := Lib.hid B0
  have R := K0.rules
  simp only [Rules] at R
  clear K0 B0 hs0
  (with_reducible refine (H0.out _).mono ?_)
  rintro e wv ⟨rfl, hbv⟩; replace BB := Lib.hid (BB.out.trans (hbv.mono BB.out.size)); replace KK := Lib.hid (KK.out.below hbv); replace R := KK.out.rules; simp only [gro.Rules] at R; clear hbv
  go_wp2_with fail
  (with_reducible refine (H1.out _).mono ?_)
  rintro e wv ⟨rfl, hbv⟩; replace BB := Lib.hid (BB.out.trans (hbv.mono BB.out.size)); replace KK := Lib.hid (KK.out.below hbv); replace R := KK.out.rules; simp only [gro.Rules] at R; clear hbv
  go_wp2_with fail
  (with_reducible refine (H2.out _).mono ?_)
  rintro e wv ⟨rfl, hbv⟩; replace BB := Lib.hid (BB.out.trans (hbv.mono BB.out.size)); replace KK := Lib.hid (KK.out.below hbv); replace R := KK.out.rules; simp only [gro.Rules] at R; clear hbv
  go_wp2_with fail
  (with_reducible refine (H3.out _).mono ?_)
  rintro e wv ⟨rfl, hbv⟩; replace BB := Lib.hid (BB.out.trans (hbv.mono BB.out.size)); replace KK := Lib.hid (KK.out.below hbv); replace R := KK.out.rules; simp only [gro.Rules] at R; clear hbv
  go_wp2
  go_ret
  exact ⟨rfl, BB.out⟩
set_option maxHeartbeats 2000000 in
set_option maxRecDepth 100000 in
theorem HoldBR_any (a0 a1 b0 b1 c0 c1 n d : Int) (ha0 : I64 a0) (ha1 : I64 a1) (hb0 : I64 b0) (hb1 : I64 b1) (hc0 : I64 c0) (hc1 : I64 c1) (hn : I64 n) (hd : I64 d) (w : World) :
    Calls Try.prog 43 #[Value.agg #[Value.int IntKind.i64 a0, Value.int IntKind.i64 a1, Value.int IntKind.i64 b0, Value.int IntKind.i64 b1, Value.int IntKind.i64 c0, Value.int IntKind.i64 c1], (Value.agg #[Value.int IntKind.i64 (n), Value.int IntKind.i64 ( d)])] w fun x w' => x = .returned (.bool (holdB a0 a1 b0 b1 c0 c1 n d)) ∧ Below w.heap.size w w' := by
  have H0 := Lib.hid (fun W => ValidBR_any a0 a1 b0 b1 c0 c1 ha0 ha1 hb0 hb1 hc0 hc1 W)
  have H1 := Lib.hid (fun W => ValidR_any n d hn hd W)
  have H2 := Lib.hid (fun W => CompareQR_any a0 a1 n d ha0 ha1 hn hd W)
  have H3 := Lib.hid (fun W => CompareQR_any n d c0 c1 hn hd hc0 hc1 W)
  have HB : Hid (holdB a0 a1 b0 b1 c0 c1 n d = (validB a0 a1 b0 b1 c0 c1 && validQ n d && decide (cmpQ a0 a1 n d ≤ 0) && decide (cmpQ n d c0 c1 ≤ 0))) := rfl
  clear ha0 ha1 hb0 hb1 hc0 hc1 hn hd
  generalize validB a0 a1 b0 b1 c0 c1 = v0 at *
  generalize validQ n d = v1 at *
  generalize cmpQ a0 a1 n d = u2 at *
  generalize cmpQ n d c0 c1 = u3 at *
  generalize holdB a0 a1 b0 b1 c0 c1 n d = vB at *
  obtain ⟨v2, q2⟩ : ∃ v, decide (u2 ≤ 0) = v := ⟨_, rfl⟩
  obtain ⟨v3, q3⟩ : ∃ v, decide (u3 ≤ 0) = v := ⟨_, rfl⟩
  rw [q2, q3] at HB
  cases v0
  case false =>
    obtain rfl : vB = false := by rw [HB.out]; simp
    clear HB
    go_enter Try.func43, Try.ntmps43
    go_wp2_with fail
    obtain ⟨W0, hW, hs0, K0, B0⟩ := start2 w 36 23 #[Value.int IntKind.i64 a0, Value.int IntKind.i64 a1, Value.int IntKind.i64 b0, Value.int IntKind.i64 b1, Value.int IntKind.i64 c0, Value.int IntKind.i64 c1] #[Value.int IntKind.i64 n, Value.int IntKind.i64 d]
    rw [hW]
    clear hW
    have KK := Lib.hid K0
    have BB := Lib.hid B0
    have R := K0.rules
    simp only [Rules] at R
    clear K0 B0 hs0
    (with_reducible refine (H0.out _).mono ?_)
    rintro e wv ⟨rfl, hbv⟩; replace BB := Lib.hid (BB.out.trans (hbv.mono BB.out.size)); replace KK := Lib.hid (KK.out.below hbv); replace R := KK.out.rules; simp only [gro.Rules] at R; clear hbv
    go_wp2
    go_ret
    exact ⟨rfl, BB.out⟩
  cases v1
  case false =>
    obtain rfl : vB = false := by rw [HB.out]; simp
    clear HB
    go_enter Try.func43, Try.ntmps43
    go_wp2_with fail
    obtain ⟨W0, hW, hs0, K0, B0⟩ := start2 w 36 23 #[Value.int IntKind.i64 a0, Value.int IntKind.i64 a1, Value.int IntKind.i64 b0, Value.int IntKind.i64 b1, Value.int IntKind.i64 c0, Value.int IntKind.i64 c1] #[Value.int IntKind.i64 n, Value.int IntKind.i64 d]
    rw [hW]
    clear hW
    have KK := Lib.hid K0
    have BB := Lib.hid B0
    have R := K0.rules
    simp only [Rules] at R
    clear K0 B0 hs0
    (with_reducible refine (H0.out _).mono ?_)
    rintro e wv ⟨rfl, hbv⟩; replace BB := Lib.hid (BB.out.trans (hbv.mono BB.out.size)); replace KK := Lib.hid (KK.out.below hbv); replace R := KK.out.rules; simp only [gro.Rules] at R; clear hbv
    go_wp2_with fail
    (with_reducible refine (H1.out _).mono ?_)
    rintro e wv ⟨rfl, hbv⟩; replace BB := Lib.hid (BB.out.trans (hbv.mono BB.out.size)); replace KK := Lib.hid (KK.out.below hbv); replace R := KK.out.rules; simp only [gro.Rules] at R; clear hbv
    go_wp2
    go_ret
    exact ⟨rfl, BB.out⟩
  cases v2
  case false =>
    obtain rfl : vB = false := by rw [HB.out]; simp
    clear HB
    go_enter Try.func43, Try.ntmps43
    go_wp2_with fail
    obtain ⟨W0, hW, hs0, K0, B0⟩ := start2 w 36 23 #[Value.int IntKind.i64 a0, Value.int IntKind.i64 a1, Value.int IntKind.i64 b0, Value.int IntKind.i64 b1, Value.int IntKind.i64 c0, Value.int IntKind.i64 c1] #[Value.int IntKind.i64 n, Value.int IntKind.i64 d]
    rw [hW]
    clear hW
    have KK := Lib.hid K0
    have BB := Lib.hid B0
    have R := K0.rules
    simp only [Rules] at R
    clear K0 B0 hs0
    (with_reducible refine (H0.out _).mono ?_)
    rintro e wv ⟨rfl, hbv⟩; replace BB := Lib.hid (BB.out.trans (hbv.mono BB.out.size)); replace KK := Lib.hid (KK.out.below hbv); replace R := KK.out.rules; simp only [gro.Rules] at R; clear hbv
    go_wp2_with fail
    (with_reducible refine (H1.out _).mono ?_)
    rintro e wv ⟨rfl, hbv⟩; replace BB := Lib.hid (BB.out.trans (hbv.mono BB.out.size)); replace KK := Lib.hid (KK.out.below hbv); replace R := KK.out.rules; simp only [gro.Rules] at R; clear hbv
    go_wp2_with fail
    (with_reducible refine (H2.out _).mono ?_)
    rintro e wv ⟨rfl, hbv⟩; replace BB := Lib.hid (BB.out.trans (hbv.mono BB.out.size)); replace KK := Lib.hid (KK.out.below hbv); replace R := KK.out.rules; simp only [gro.Rules] at R; clear hbv
    go_wp2
    go_ret
    exact ⟨rfl, BB.out⟩
  cases v3
  case false =>
    obtain rfl : vB = false := by rw [HB.out]; simp
    clear HB
    go_enter Try.func43, Try.ntmps43
    go_wp2_with fail
    obtain ⟨W0, hW, hs0, K0, B0⟩ := start2 w 36 23 #[Value.int IntKind.i64 a0, Value.int IntKind.i64 a1, Value.int IntKind.i64 b0, Value.int IntKind.i64 b1, Value.int IntKind.i64 c0, Value.int IntKind.i64 c1] #[Value.int IntKind.i64 n, Value.int IntKind.i64 d]
    rw [hW]
    clear hW
    have KK := Lib.hid K0
    have BB := Lib.hid B0
    have R := K0.rules
    simp only [Rules] at R
    clear K0 B0 hs0
    (with_reducible refine (H0.out _).mono ?_)
    rintro e wv ⟨rfl, hbv⟩; replace BB := Lib.hid (BB.out.trans (hbv.mono BB.out.size)); replace KK := Lib.hid (KK.out.below hbv); replace R := KK.out.rules; simp only [gro.Rules] at R; clear hbv
    go_wp2_with fail
    (with_reducible refine (H1.out _).mono ?_)
    rintro e wv ⟨rfl, hbv⟩; replace BB := Lib.hid (BB.out.trans (hbv.mono BB.out.size)); replace KK := Lib.hid (KK.out.below hbv); replace R := KK.out.rules; simp only [gro.Rules] at R; clear hbv
    go_wp2_with fail
    (with_reducible refine (H2.out _).mono ?_)
    rintro e wv ⟨rfl, hbv⟩; replace BB := Lib.hid (BB.out.trans (hbv.mono BB.out.size)); replace KK := Lib.hid (KK.out.below hbv); replace R := KK.out.rules; simp only [gro.Rules] at R; clear hbv
    go_wp2_with fail
    (with_reducible refine (H3.out _).mono ?_)
    rintro e wv ⟨rfl, hbv⟩; replace BB := Lib.hid (BB.out.trans (hbv.mono BB.out.size)); replace KK := Lib.hid (KK.out.below hbv); replace R := KK.out.rules; simp only [gro.Rules] at R; clear hbv
    go_wp2
    go_ret
    exact ⟨rfl, BB.out⟩
  obtain rfl : vB = true := by rw [HB.out]; simp
  clear HB
  go_enter Try.func43, Try.ntmps43
  go_wp2_with fail
  obtain ⟨W0, hW, hs0, K0, B0⟩ := start2 w 36 23 #[Value.int IntKind.i64 a0, Value.int IntKind.i64 a1, Value.int IntKind.i64 b0, Value.int IntKind.i64 b1, Value.int IntKind.i64 c0, Value.int IntKind.i64 c1] #[Value.int IntKind.i64 n, Value.int IntKind.i64 d]
  rw [hW]
  clear hW
  have KK := Lib.hid K0
  have BB := Lib.hid B0
  have R := K0.rules
  simp only [Rules] at R
  clear K0 B0 hs0
  (with_reducible refine (H0.out _).mono ?_)
  rintro e wv ⟨rfl, hbv⟩; replace BB := Lib.hid (BB.out.trans (hbv.mono BB.out.size)); replace KK := Lib.hid (KK.out.below hbv); replace R := KK.out.rules; simp only [gro.Rules] at R; clear hbv
  go_wp2_with fail
  (with_reducible refine (H1.out _).mono ?_)
  rintro e wv ⟨rfl, hbv⟩; replace BB := Lib.hid (BB.out.trans (hbv.mono BB.out.size)); replace KK := Lib.hid (KK.out.below hbv); replace R := KK.out.rules; simp only [gro.Rules] at R; clear hbv
  go_wp2_with fail
  (with_reducible refine (H2.out _).mono ?_)
  rintro e wv ⟨rfl, hbv⟩; replace BB := Lib.hid (BB.out.trans (hbv.mono BB.out.size)); replace KK := Lib.hid (KK.out.below hbv); replace R := KK.out.rules; simp only [gro.Rules] at R; clear hbv
  go_wp2_with fail
  (with_reducible refine (H3.out _).mono ?_)
  rintro e wv ⟨rfl, hbv⟩; replace BB := Lib.hid (BB.out.trans (hbv.mono BB.out.size)); replace KK := Lib.hid (KK.out.below hbv); replace R := KK.out.rules; simp only [gro.Rules] at R; clear hbv
  go_wp2
  go_ret
  exact ⟨rfl, BB.out⟩
end Go.Proofs.Ytoejhikcnnppnaa.wid
