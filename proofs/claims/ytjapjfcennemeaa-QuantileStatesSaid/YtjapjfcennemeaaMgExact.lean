/- Rat2; Bnd; Exact: texts in one. -/
import Derived.Test.YtjapjfcennemeaaMgRat
import Derived.Test.YtjapjfcennemeaaMgBAllow
set_option linter.unusedVariables false
set_option linter.unusedSimpArgs false
/- Contracts of Floor, Ceil, Compare of rational numbers, in the code and in the reference; of the statements' awake. -/
namespace Go.Proofs.Ytjapjfcennemeaa.wid
open Go.RowKit Go.Proofs.Ytjapjfcennemeaa.mem Go.Proofs.Ytjapjfcennemeaa.gro
set_option linter.unusedVariables false
def floorQ (n d : Int) : Int := if validQ n d = true then n / d else 0
def ceilQ (n d : Int) : Int := if validQ n d = true then -((-n) / d) else 0
def cmpQ (n d m e : Int) : Int := if validQ n d = true ∧ validQ m e = true then cmpZ (n * e) (m * d) else 0
set_option maxHeartbeats 2000000 in
theorem CompareQ_any (n d m e : Int) (hn : I64 n) (hd : I64 d) (hm : I64 m) (he : I64 e) (w : World) :
    Calls Try.prog 112 #[(Value.agg #[Value.int IntKind.i64 (n), Value.int IntKind.i64 ( d)]), (Value.agg #[Value.int IntKind.i64 (m), Value.int IntKind.i64 ( e)])] w fun x w' => x = .returned (.int .i64 (cmpQ n d m e)) ∧ Below w.heap.size w w' := by
  have HV := Lib.hid (fun W => Valid_any n d hn hd W)
  have HU := Lib.hid (fun W => Valid_any m e hm he W)
  have HX := Lib.hid (fun W => Cross_any n e m d hn he hm hd W)
  obtain ⟨v, hv⟩ : ∃ v, validQ n d = v := ⟨_, rfl⟩
  obtain ⟨u, hu⟩ : ∃ u, validQ m e = u := ⟨_, rfl⟩
  have hq : Hid (cmpQ n d m e = if v = true ∧ u = true then cmpZ (n * e) (m * d) else 0) := by rw [← hv, ← hu]; rfl
  rw [hv] at HV
  rw [hu] at HU
  generalize cmpZ (n * e) (m * d) = c at *
  clear hv hu hn hd hm he
  cases v <;> cases u <;> (
    go_enter Try.func112, Try.ntmps112
    go_wp2_with fail
    obtain ⟨W0, hW, hs0, K0, B0⟩ := start2 w 53 53 #[Value.int IntKind.i64 n, Value.int IntKind.i64 d] #[Value.int IntKind.i64 m, Value.int IntKind.i64 e]
    rw [hW]
    clear hW
    have KK := Lib.hid K0
    have BB := Lib.hid B0
    have R := K0.rules
    simp only [Rules] at R
    clear K0 B0
    go_wp2_with (first | (go_at_call 111; first | ((with_reducible refine (HV.out _).mono ?_); rintro e wv ⟨rfl, hbv⟩; replace BB := Lib.hid (BB.out.trans (hbv.mono BB.out.size)); replace KK := Lib.hid (KK.out.below hbv); replace R := KK.out.rules; simp only [gro.Rules] at R; clear hbv) | ((with_reducible refine (HU.out _).mono ?_); rintro e wv ⟨rfl, hbv⟩; replace BB := Lib.hid (BB.out.trans (hbv.mono BB.out.size)); replace KK := Lib.hid (KK.out.below hbv); replace R := KK.out.rules; simp only [gro.Rules] at R; clear hbv)) | (go_at_call 141; refine (HX.out _).mono ?_; rintro e wv ⟨rfl, hbv⟩; replace BB := Lib.hid (BB.out.trans (hbv.mono BB.out.size)); replace KK := Lib.hid (KK.out.below hbv); replace R := KK.out.rules; simp only [gro.Rules] at R; clear hbv))
    go_ret
    exact ⟨ret_int (by rw [hq.out]; simp), BB.out⟩)
end Go.Proofs.Ytjapjfcennemeaa.wid

/- Contracts of Valid of bounds. -/
namespace Go.Proofs.Ytjapjfcennemeaa.wid
open Go.RowKit Go.Proofs.Ytjapjfcennemeaa.mem Go.Proofs.Ytjapjfcennemeaa.gro
set_option linter.unusedVariables false
set_option linter.unusedSimpArgs false
def validB (a0 a1 b0 b1 c0 c1 : Int) : Bool := validQ a0 a1 && validQ b0 b1 && validQ c0 c1 && decide (cmpQ a0 a1 b0 b1 ≤ 0) && decide (cmpQ b0 b1 c0 c1 ≤ 0)
set_option maxHeartbeats 2000000 in
set_option maxRecDepth 100000 in
theorem ValidB_any (a0 a1 b0 b1 c0 c1 : Int) (ha0 : I64 a0) (ha1 : I64 a1) (hb0 : I64 b0) (hb1 : I64 b1) (hc0 : I64 c0) (hc1 : I64 c1) (w : World) :
    Calls Try.prog 110 #[Value.agg #[Value.int IntKind.i64 a0, Value.int IntKind.i64 a1, Value.int IntKind.i64 b0, Value.int IntKind.i64 b1, Value.int IntKind.i64 c0, Value.int IntKind.i64 c1]] w fun x w' => x = .returned (.bool (validB a0 a1 b0 b1 c0 c1)) ∧ Below w.heap.size w w' := by
  have H0 := Lib.hid (fun W => Valid_any a0 a1 ha0 ha1 W)
  have H1 := Lib.hid (fun W => Valid_any b0 b1 hb0 hb1 W)
  have H2 := Lib.hid (fun W => Valid_any c0 c1 hc0 hc1 W)
  have H3 := Lib.hid (fun W => CompareQ_any a0 a1 b0 b1 ha0 ha1 hb0 hb1 W)
  have H4 := Lib.hid (fun W => CompareQ_any b0 b1 c0 c1 hb0 hb1 hc0 hc1 W)
  have HB : Hid (validB a0 a1 b0 b1 c0 c1 = (validQ a0 a1 && validQ b0 b1 && validQ c0 c1 && decide (cmpQ a0 a1 b0 b1 ≤ 0) && decide (cmpQ b0 b1 c0 c1 ≤ 0))) := rfl
  clear ha0 ha1 hb0 hb1 hc0 hc1
  generalize validQ a0 a1 = v0 at *
  generalize validQ b0 b1 = v1 at *
  generalize validQ c0 c1 = v2 at *
  generalize cmpQ a0 a1 b0 b1 = u3 at *
  generalize cmpQ b0 b1 c0 c1 = u4 at *
  generalize validB a0 a1 b0 b1 c0 c1 = vB at *
  obtain ⟨v3, q3⟩ : ∃ v, decide (u3 ≤ 0) = v := ⟨_, rfl⟩
  obtain ⟨v4, q4⟩ : ∃ v, decide (u4 ≤ 0) = v := ⟨_, rfl⟩
  rw [q3, q4] at HB
  cases v0
  case false =>
    obtain rfl : vB = false := by rw [HB.out]; simp
    clear HB
    go_enter Try.func110, Try.ntmps110
    go_wp2_with fail
    obtain ⟨W0, hW, hs0, K0, B0⟩ := start1 w 55 #[Value.int IntKind.i64 a0, Value.int IntKind.i64 a1, Value.int IntKind.i64 b0, Value.int IntKind.i64 b1, Value.int IntKind.i64 c0, Value.int IntKind.i64 c1]
    rw [hW]
    clear hW
    have KK := Lib.hid K0
    have BB := Lib.hid B0
    have R := K0.rules
    simp only [Rules] at R
    clear K0 B0 hs0
    (with_reducible refine (H0.out _).mono ?_)
    rintro e wv ⟨rfl, hbv⟩; replace BB := Lib.hid (BB.out.trans (hbv.mono BB.out.size)); replace KK := Lib.hid (KK.out.below hbv); replace R := KK.out.rules; simp only [gro.Rules] at R; clear hbv
    go_wp2
    go_ret
    exact ⟨rfl, BB.out⟩
  cases v1
  case false =>
    obtain rfl : vB = false := by rw [HB.out]; simp
    clear HB
    go_enter Try.func110, Try.ntmps110
    go_wp2_with fail
    obtain ⟨W0, hW, hs0, K0, B0⟩ := start1 w 55 #[Value.int IntKind.i64 a0, Value.int IntKind.i64 a1, Value.int IntKind.i64 b0, Value.int IntKind.i64 b1, Value.int IntKind.i64 c0, Value.int IntKind.i64 c1]
    rw [hW]
    clear hW
    have KK := Lib.hid K0
    have BB := Lib.hid B0
    have R := K0.rules
    simp only [Rules] at R
    clear K0 B0 hs0
    (with_reducible refine (H0.out _).mono ?_)
    rintro e wv ⟨rfl, hbv⟩; replace BB := Lib.hid (BB.out.trans (hbv.mono BB.out.size)); replace KK := Lib.hid (KK.out.below hbv); replace R := KK.out.rules; simp only [gro.Rules] at R; clear hbv
    go_wp2_with fail
    (with_reducible refine (H1.out _).mono ?_)
    rintro e wv ⟨rfl, hbv⟩; replace BB := Lib.hid (BB.out.trans (hbv.mono BB.out.size)); replace KK := Lib.hid (KK.out.below hbv); replace R := KK.out.rules; simp only [gro.Rules] at R; clear hbv
    go_wp2
    go_ret
    exact ⟨rfl, BB.out⟩
  cases v2
  case false =>
    obtain rfl : vB = false := by rw [HB.out]; simp
    clear HB
    go_enter Try.func110, Try.ntmps110
    go_wp2_with fail
    obtain ⟨W0, hW, hs0, K0, B0⟩ := start1 w 55 #[Value.int IntKind.i64 a0, Value.int IntKind.i64 a1, Value.int IntKind.i64 b0, Value.int IntKind.i64 b1, Value.int IntKind.i64 c0, Value.int IntKind.i64 c1]
    rw [hW]
    clear hW
    have KK := Lib.hid K0
    have BB := Lib.hid B0
    have R := K0.rules
    simp only [Rules] at R
    clear K0 B0 hs0
    (with_reducible refine (H0.out _).mono ?_)
    rintro e wv ⟨rfl, hbv⟩; replace BB := Lib.hid (BB.out.trans (hbv.mono BB.out.size)); replace KK := Lib.hid (KK.out.below hbv); replace R := KK.out.rules; simp only [gro.Rules] at R; clear hbv
    go_wp2_with fail
    (with_reducible refine (H1.out _).mono ?_)
    rintro e wv ⟨rfl, hbv⟩; replace BB := Lib.hid (BB.out.trans (hbv.mono BB.out.size)); replace KK := Lib.hid (KK.out.below hbv); replace R := KK.out.rules; simp only [gro.Rules] at R; clear hbv
    go_wp2_with fail
    (with_reducible refine (H2.out _).mono ?_)
    rintro e wv ⟨rfl, hbv⟩; replace BB := Lib.hid (BB.out.trans (hbv.mono BB.out.size)); replace KK := Lib.hid (KK.out.below hbv); replace R := KK.out.rules; simp only [gro.Rules] at R; clear hbv
    go_wp2
    go_ret
    exact ⟨rfl, BB.out⟩
  cases v3
  case false =>
    obtain rfl : vB = false := by rw [HB.out]; simp
    clear HB
    go_enter Try.func110, Try.ntmps110
    go_wp2_with fail
    obtain ⟨W0, hW, hs0, K0, B0⟩ := start1 w 55 #[Value.int IntKind.i64 a0, Value.int IntKind.i64 a1, Value.int IntKind.i64 b0, Value.int IntKind.i64 b1, Value.int IntKind.i64 c0, Value.int IntKind.i64 c1]
    rw [hW]
    clear hW
    have KK := Lib.hid K0
    have BB := Lib.hid B0
    have R := K0.rules
    simp only [Rules] at R
    clear K0 B0 hs0
    (with_reducible refine (H0.out _).mono ?_)
    rintro e wv ⟨rfl, hbv⟩; replace BB := Lib.hid (BB.out.trans (hbv.mono BB.out.size)); replace KK := Lib.hid (KK.out.below hbv); replace R := KK.out.rules; simp only [gro.Rules] at R; clear hbv
    go_wp2_with fail
    (with_reducible refine (H1.out _).mono ?_)
    rintro e wv ⟨rfl, hbv⟩; replace BB := Lib.hid (BB.out.trans (hbv.mono BB.out.size)); replace KK := Lib.hid (KK.out.below hbv); replace R := KK.out.rules; simp only [gro.Rules] at R; clear hbv
    go_wp2_with fail
    (with_reducible refine (H2.out _).mono ?_)
    rintro e wv ⟨rfl, hbv⟩; replace BB := Lib.hid (BB.out.trans (hbv.mono BB.out.size)); replace KK := Lib.hid (KK.out.below hbv); replace R := KK.out.rules; simp only [gro.Rules] at R; clear hbv
    go_wp2_with fail
    (with_reducible refine (H3.out _).mono ?_)
    rintro e wv ⟨rfl, hbv⟩; replace BB := Lib.hid (BB.out.trans (hbv.mono BB.out.size)); replace KK := Lib.hid (KK.out.below hbv); replace R := KK.out.rules; simp only [gro.Rules] at R; clear hbv
    go_wp2
    go_ret
    exact ⟨rfl, BB.out⟩
  cases v4
  case false =>
    obtain rfl : vB = false := by rw [HB.out]; simp
    clear HB
    go_enter Try.func110, Try.ntmps110
    go_wp2_with fail
    obtain ⟨W0, hW, hs0, K0, B0⟩ := start1 w 55 #[Value.int IntKind.i64 a0, Value.int IntKind.i64 a1, Value.int IntKind.i64 b0, Value.int IntKind.i64 b1, Value.int IntKind.i64 c0, Value.int IntKind.i64 c1]
    rw [hW]
    clear hW
    have KK := Lib.hid K0
    have BB := Lib.hid B0
    have R := K0.rules
    simp only [Rules] at R
    clear K0 B0 hs0
    (with_reducible refine (H0.out _).mono ?_)
    rintro e wv ⟨rfl, hbv⟩; replace BB := Lib.hid (BB.out.trans (hbv.mono BB.out.size)); replace KK := Lib.hid (KK.out.below hbv); replace R := KK.out.rules; simp only [gro.Rules] at R; clear hbv
    go_wp2_with fail
    (with_reducible refine (H1.out _).mono ?_)
    rintro e wv ⟨rfl, hbv⟩; replace BB := Lib.hid (BB.out.trans (hbv.mono BB.out.size)); replace KK := Lib.hid (KK.out.below hbv); replace R := KK.out.rules; simp only [gro.Rules] at R; clear hbv
    go_wp2_with fail
    (with_reducible refine (H2.out _).mono ?_)
    rintro e wv ⟨rfl, hbv⟩; replace BB := Lib.hid (BB.out.trans (hbv.mono BB.out.size)); replace KK := Lib.hid (KK.out.below hbv); replace R := KK.out.rules; simp only [gro.Rules] at R; clear hbv
    go_wp2_with fail
    (with_reducible refine (H3.out _).mono ?_)
    rintro e wv ⟨rfl, hbv⟩; replace BB := Lib.hid (BB.out.trans (hbv.mono BB.out.size)); replace KK := Lib.hid (KK.out.below hbv); replace R := KK.out.rules; simp only [gro.Rules] at R; clear hbv
    go_wp2_with fail
    (with_reducible refine (H4.out _).mono ?_)
    rintro e wv ⟨rfl, hbv⟩; replace BB := Lib.hid (BB.out.trans (hbv.mono BB.out.size)); replace KK := Lib.hid (KK.out.below hbv); replace R := KK.out.rules; simp only [gro.Rules] at R; clear hbv
    go_wp2
    go_ret
    exact ⟨rfl, BB.out⟩
  obtain rfl : vB = true := by rw [HB.out]; simp
  clear HB
  go_enter Try.func110, Try.ntmps110
  go_wp2_with fail
  obtain ⟨W0, hW, hs0, K0, B0⟩ := start1 w 55 #[Value.int IntKind.i64 a0, Value.int IntKind.i64 a1, Value.int IntKind.i64 b0, Value.int IntKind.i64 b1, Value.int IntKind.i64 c0, Value.int IntKind.i64 c1]
  rw [hW]
  clear hW
  have KK := Lib.hid K0
  have BB := Lib.hid B0
  have R := K0.rules
  simp only [Rules] at R
  clear K0 B0 hs0
  (with_reducible refine (H0.out _).mono ?_)
  rintro e wv ⟨rfl, hbv⟩; replace BB := Lib.hid (BB.out.trans (hbv.mono BB.out.size)); replace KK := Lib.hid (KK.out.below hbv); replace R := KK.out.rules; simp only [gro.Rules] at R; clear hbv
  go_wp2_with fail
  (with_reducible refine (H1.out _).mono ?_)
  rintro e wv ⟨rfl, hbv⟩; replace BB := Lib.hid (BB.out.trans (hbv.mono BB.out.size)); replace KK := Lib.hid (KK.out.below hbv); replace R := KK.out.rules; simp only [gro.Rules] at R; clear hbv
  go_wp2_with fail
  (with_reducible refine (H2.out _).mono ?_)
  rintro e wv ⟨rfl, hbv⟩; replace BB := Lib.hid (BB.out.trans (hbv.mono BB.out.size)); replace KK := Lib.hid (KK.out.below hbv); replace R := KK.out.rules; simp only [gro.Rules] at R; clear hbv
  go_wp2_with fail
  (with_reducible refine (H3.out _).mono ?_)
  rintro e wv ⟨rfl, hbv⟩; replace BB := Lib.hid (BB.out.trans (hbv.mono BB.out.size)); replace KK := Lib.hid (KK.out.below hbv); replace R := KK.out.rules; simp only [gro.Rules] at R; clear hbv
  go_wp2_with fail
  (with_reducible refine (H4.out _).mono ?_)
  rintro e wv ⟨rfl, hbv⟩; replace BB := Lib.hid (BB.out.trans (hbv.mono BB.out.size)); replace KK := Lib.hid (KK.out.below hbv); replace R := KK.out.rules; simp only [gro.Rules] at R; clear hbv
  go_wp2
  go_ret
  exact ⟨rfl, BB.out⟩
end Go.Proofs.Ytjapjfcennemeaa.wid

/- Contracts of Exact: bounds of one rational number. -/
namespace Go.Proofs.Ytjapjfcennemeaa.wid
open Go.RowKit Go.Proofs.Ytjapjfcennemeaa.mem Go.Proofs.Ytjapjfcennemeaa.gro
set_option linter.unusedVariables false
/-- The number if it is valid, otherwise nought. -/
def exN (n d : Int) : Int := if validQ n d = true then n else 0
def exD (n d : Int) : Int := if validQ n d = true then d else 0
set_option maxHeartbeats 2000000 in
set_option maxRecDepth 100000 in
theorem ExactB_any (n d : Int) (hn : I64 n) (hd : I64 d) (w : World) :
    Calls Try.prog 89 #[(Value.agg #[Value.int IntKind.i64 (n), Value.int IntKind.i64 ( d)])] w fun x w' => x = .returned (.agg #[.int .i64 (exN n d), .int .i64 (exD n d), .int .i64 (exN n d), .int .i64 (exD n d), .int .i64 (exN n d), .int .i64 (exD n d)]) ∧ Below w.heap.size w w' := by
  have HV := Lib.hid (fun W => Valid_any n d hn hd W)
  clear hn hd
  have e1 : exN n d = if validQ n d = true then n else 0 := rfl
  have e2 : exD n d = if validQ n d = true then d else 0 := rfl
  generalize validQ n d = v at *
  cases v
  case false =>
    rw [e1, e2]
    clear e1 e2
    go_enter Try.func89, Try.ntmps89
    go_wp2_with fail
    obtain ⟨W0, hW, hs0, K0, B0⟩ := start2 w 53 55 #[Value.int IntKind.i64 n, Value.int IntKind.i64 d] #[Value.int IntKind.i64 0, Value.int IntKind.i64 0, Value.int IntKind.i64 0, Value.int IntKind.i64 0, Value.int IntKind.i64 0, Value.int IntKind.i64 0]
    rw [hW]
    clear hW
    have KK := Lib.hid K0
    have BB := Lib.hid B0
    have R := K0.rules
    simp only [Rules] at R
    clear K0 B0
    (with_reducible refine (HV.out _).mono ?_)
    rintro e wv ⟨rfl, hbv⟩; replace BB := Lib.hid (BB.out.trans (hbv.mono BB.out.size)); replace KK := Lib.hid (KK.out.below hbv); replace R := KK.out.rules; simp only [gro.Rules] at R; clear hbv
    go_wp2
    refine bodyPost_ret (v := Value.agg #[.int .i64 0, .int .i64 0, .int .i64 0, .int .i64 0, .int .i64 0, .int .i64 0]) (by simp [results, Try.results89, go_sem, R]) rfl ⟨?_, ?_⟩
    · rfl
    · exact (((((BB.out.setCell (by first | (simp; done) | (simp; omega)) _).setCell (by first | (simp; done) | (simp; omega)) _).setCell (by first | (simp; done) | (simp; omega)) _).setCell (by first | (simp; done) | (simp; omega)) _).setCell (by first | (simp; done) | (simp; omega)) _).setCell (by first | (simp; done) | (simp; omega)) _
  case true =>
    rw [e1, e2]
    clear e1 e2
    go_enter Try.func89, Try.ntmps89
    go_wp2_with fail
    obtain ⟨W0, hW, hs0, K0, B0⟩ := start2 w 53 55 #[Value.int IntKind.i64 n, Value.int IntKind.i64 d] #[Value.int IntKind.i64 0, Value.int IntKind.i64 0, Value.int IntKind.i64 0, Value.int IntKind.i64 0, Value.int IntKind.i64 0, Value.int IntKind.i64 0]
    rw [hW]
    clear hW
    have KK := Lib.hid K0
    have BB := Lib.hid B0
    have R := K0.rules
    simp only [Rules] at R
    clear K0 B0
    (with_reducible refine (HV.out _).mono ?_)
    rintro e wv ⟨rfl, hbv⟩; replace BB := Lib.hid (BB.out.trans (hbv.mono BB.out.size)); replace KK := Lib.hid (KK.out.below hbv); replace R := KK.out.rules; simp only [gro.Rules] at R; clear hbv
    go_wp2
    refine bodyPost_ret (v := Value.agg #[.int .i64 n, .int .i64 d, .int .i64 n, .int .i64 d, .int .i64 n, .int .i64 d]) (by simp [results, Try.results89, go_sem, R]) rfl ⟨?_, ?_⟩
    · rfl
    · exact (((((BB.out.setCell (by first | (simp; done) | (simp; omega)) _).setCell (by first | (simp; done) | (simp; omega)) _).setCell (by first | (simp; done) | (simp; omega)) _).setCell (by first | (simp; done) | (simp; omega)) _).setCell (by first | (simp; done) | (simp; omega)) _).setCell (by first | (simp; done) | (simp; omega)) _
set_option maxHeartbeats 2000000 in
set_option maxRecDepth 100000 in
theorem ExactBR_any (n d : Int) (hn : I64 n) (hd : I64 d) (w : World) :
    Calls Try.prog 128 #[(Value.agg #[Value.int IntKind.i64 (n), Value.int IntKind.i64 ( d)])] w fun x w' => x = .returned (.agg #[.int .i64 (exN n d), .int .i64 (exD n d), .int .i64 (exN n d), .int .i64 (exD n d), .int .i64 (exN n d), .int .i64 (exD n d)]) ∧ Below w.heap.size w w' := by
  have HV := Lib.hid (fun W => ValidR_any n d hn hd W)
  clear hn hd
  have e1 : exN n d = if validQ n d = true then n else 0 := rfl
  have e2 : exD n d = if validQ n d = true then d else 0 := rfl
  generalize validQ n d = v at *
  cases v
  case false =>
    rw [e1, e2]
    clear e1 e2
    go_enter Try.func128, Try.ntmps128
    go_wp2_with fail
    obtain ⟨W0, hW, hs0, K0, B0⟩ := start2 w 53 55 #[Value.int IntKind.i64 n, Value.int IntKind.i64 d] #[Value.int IntKind.i64 0, Value.int IntKind.i64 0, Value.int IntKind.i64 0, Value.int IntKind.i64 0, Value.int IntKind.i64 0, Value.int IntKind.i64 0]
    rw [hW]
    clear hW
    have KK := Lib.hid K0
    have BB := Lib.hid B0
    have R := K0.rules
    simp only [Rules] at R
    clear K0 B0
    (with_reducible refine (HV.out _).mono ?_)
    rintro e wv ⟨rfl, hbv⟩; replace BB := Lib.hid (BB.out.trans (hbv.mono BB.out.size)); replace KK := Lib.hid (KK.out.below hbv); replace R := KK.out.rules; simp only [gro.Rules] at R; clear hbv
    go_wp2
    refine bodyPost_ret (v := Value.agg #[.int .i64 0, .int .i64 0, .int .i64 0, .int .i64 0, .int .i64 0, .int .i64 0]) (by simp [results, Try.results128, go_sem, R]) rfl ⟨?_, ?_⟩
    · rfl
    · exact (((((BB.out.setCell (by first | (simp; done) | (simp; omega)) _).setCell (by first | (simp; done) | (simp; omega)) _).setCell (by first | (simp; done) | (simp; omega)) _).setCell (by first | (simp; done) | (simp; omega)) _).setCell (by first | (simp; done) | (simp; omega)) _).setCell (by first | (simp; done) | (simp; omega)) _
  case true =>
    rw [e1, e2]
    clear e1 e2
    go_enter Try.func128, Try.ntmps128
    go_wp2_with fail
    obtain ⟨W0, hW, hs0, K0, B0⟩ := start2 w 53 55 #[Value.int IntKind.i64 n, Value.int IntKind.i64 d] #[Value.int IntKind.i64 0, Value.int IntKind.i64 0, Value.int IntKind.i64 0, Value.int IntKind.i64 0, Value.int IntKind.i64 0, Value.int IntKind.i64 0]
    rw [hW]
    clear hW
    have KK := Lib.hid K0
    have BB := Lib.hid B0
    have R := K0.rules
    simp only [Rules] at R
    clear K0 B0
    (with_reducible refine (HV.out _).mono ?_)
    rintro e wv ⟨rfl, hbv⟩; replace BB := Lib.hid (BB.out.trans (hbv.mono BB.out.size)); replace KK := Lib.hid (KK.out.below hbv); replace R := KK.out.rules; simp only [gro.Rules] at R; clear hbv
    go_wp2
    refine bodyPost_ret (v := Value.agg #[.int .i64 n, .int .i64 d, .int .i64 n, .int .i64 d, .int .i64 n, .int .i64 d]) (by simp [results, Try.results128, go_sem, R]) rfl ⟨?_, ?_⟩
    · rfl
    · exact (((((BB.out.setCell (by first | (simp; done) | (simp; omega)) _).setCell (by first | (simp; done) | (simp; omega)) _).setCell (by first | (simp; done) | (simp; omega)) _).setCell (by first | (simp; done) | (simp; omega)) _).setCell (by first | (simp; done) | (simp; omega)) _).setCell (by first | (simp; done) | (simp; omega)) _
end Go.Proofs.Ytjapjfcennemeaa.wid
