/- Contracts of Exact: bounds of one rational number. -/
import Derived.Test.YtoejhikcnnppnaaBnd
namespace Go.Proofs.Ytoejhikcnnppnaa.wid
open Go.RowKit Go.Proofs.Ytoejhikcnnppnaa.mem Go.Proofs.Ytoejhikcnnppnaa.gro
set_option linter.unusedVariables false
/-- The number if it is valid, otherwise nought. -/
def exN (n d : Int) : Int := if validQ n d = true then n else 0
def exD (n d : Int) : Int := if validQ n d = true then d else 0
set_option maxHeartbeats 2000000 in
set_option maxRecDepth 100000 in
theorem ExactB_any (n d : Int) (hn : I64 n) (hd : I64 d) (w : World) :
    Calls Try.prog 46 #[(Value.agg #[Value.int IntKind.i64 (n), Value.int IntKind.i64 ( d)])] w fun x w' => x = .returned (.agg #[.int .i64 (exN n d), .int .i64 (exD n d), .int .i64 (exN n d), .int .i64 (exD n d), .int .i64 (exN n d), .int .i64 (exD n d)]) ∧ Below w.heap.size w w' := by
  have HV := Lib.hid (fun W => Valid_any n d hn hd W)
  clear hn hd
  have e1 : exN n d = if validQ n d = true then n else 0 := rfl
  have e2 : exD n d = if validQ n d = true then d else 0 := rfl
  generalize validQ n d = v at *
  cases v
  case false =>
    rw [e1, e2]
    clear e1 e2
    go_enter Try.func46, Try.ntmps46
    go_wp2_with fail
    obtain ⟨W0, hW, hs0, K0, B0⟩ := start2 w 23 36 #[Value.int IntKind.i64 n, Value.int IntKind.i64 d] #[Value.int IntKind.i64 0, Value.int IntKind.i64 0, Value.int IntKind.i64 0, Value.int IntKind.i64 0, Value.int IntKind.i64 0, Value.int IntKind.i64 0]
    rw [hW]
    clear hW
    have KK := Lib.hid K0
    have BB := Lib.hid B0
    have R := K0.rules
    simp only [Rules] at R
    clear K0 B0
    (with_reducible refine (HV.out _).mono ?_)
    rintro e wv ⟨rfl, hbv⟩; replace BB := Lib.hid (BB.out.trans (hbv.mono BB.out.size)); replace KK := Lib.hid (KK.out.below hbv); replace R := KK.out.rules; simp only [gro.Rules] at R; clear hbv
    go_wp2
    refine bodyPost_ret (v := Value.agg #[.int .i64 0, .int .i64 0, .int .i64 0, .int .i64 0, .int .i64 0, .int .i64 0]) (by simp [results, Try.results46, go_sem, R]) rfl ⟨?_, ?_⟩
    · rfl
    · exact (((((BB.out.setCell (by first | (simp; done) | (simp; omega)) _).setCell (by first | (simp; done) | (simp; omega)) _).setCell (by first | (simp; done) | (simp; omega)) _).setCell (by first | (simp; done) | (simp; omega)) _).setCell (by first | (simp; done) | (simp; omega)) _).setCell (by first | (simp; done) | (simp; omega)) _
  case true =>
    rw [e1, e2]
    clear e1 e2
    go_enter Try.func46, Try.ntmps46
    go_wp2_with fail
    obtain ⟨W0, hW, hs0, K0, B0⟩ := start2 w 23 36 #[Value.int IntKind.i64 n, Value.int IntKind.i64 d] #[Value.int IntKind.i64 0, Value.int IntKind.i64 0, Value.int IntKind.i64 0, Value.int IntKind.i64 0, Value.int IntKind.i64 0, Value.int IntKind.i64 0]
    rw [hW]
    clear hW
    have KK := Lib.hid K0
    have BB := Lib.hid B0
    have R := K0.rules
    simp only [Rules] at R
    clear K0 B0
    (with_reducible refine (HV.out _).mono ?_)
    rintro e wv ⟨rfl, hbv⟩; replace BB := Lib.hid (BB.out.trans (hbv.mono BB.out.size)); replace KK := Lib.hid (KK.out.below hbv); replace R := KK.out.rules; simp only [gro.Rules] at R; clear hbv
    go_wp2
    refine bodyPost_ret (v := Value.agg #[.int .i64 n, .int .i64 d, .int .i64 n, .int .i64 d, .int .i64 n, .int .i64 d]) (by simp [results, Try.results46, go_sem, R]) rfl ⟨?_, ?_⟩
    · rfl
    · exact (((((BB.out.setCell (by first | (simp; done) | (simp; omega)) _).setCell (by first | (simp; done) | (simp; omega)) _).setCell (by first | (simp; done) | (simp; omega)) _).setCell (by first | (simp; done) | (simp; omega)) _).setCell (by first | (simp; done) | (simp; omega)) _).setCell (by first | (simp; done) | (simp; omega)) _
set_option maxHeartbeats 2000000 in
set_option maxRecDepth 100000 in
theorem ExactBR_any (n d : Int) (hn : I64 n) (hd : I64 d) (w : World) :
    Calls Try.prog 47 #[(Value.agg #[Value.int IntKind.i64 (n), Value.int IntKind.i64 ( d)])] w fun x w' => x = .returned (.agg #[.int .i64 (exN n d), .int .i64 (exD n d), .int .i64 (exN n d), .int .i64 (exD n d), .int .i64 (exN n d), .int .i64 (exD n d)]) ∧ Below w.heap.size w w' := by
  have HV := Lib.hid (fun W => ValidR_any n d hn hd W)
  clear hn hd
  have e1 : exN n d = if validQ n d = true then n else 0 := rfl
  have e2 : exD n d = if validQ n d = true then d else 0 := rfl
  generalize validQ n d = v at *
  cases v
  case false =>
    rw [e1, e2]
    clear e1 e2
    go_enter Try.func47, Try.ntmps47
    go_wp2_with fail
    obtain ⟨W0, hW, hs0, K0, B0⟩ := start2 w 23 36 #[Value.int IntKind.i64 n, Value.int IntKind.i64 d] #[Value.int IntKind.i64 0, Value.int IntKind.i64 0, Value.int IntKind.i64 0, Value.int IntKind.i64 0, Value.int IntKind.i64 0, Value.int IntKind.i64 0]
    rw [hW]
    clear hW
    have KK := Lib.hid K0
    have BB := Lib.hid B0
    have R := K0.rules
    simp only [Rules] at R
    clear K0 B0
    (with_reducible refine (HV.out _).mono ?_)
    rintro e wv ⟨rfl, hbv⟩; replace BB := Lib.hid (BB.out.trans (hbv.mono BB.out.size)); replace KK := Lib.hid (KK.out.below hbv); replace R := KK.out.rules; simp only [gro.Rules] at R; clear hbv
    go_wp2
    refine bodyPost_ret (v := Value.agg #[.int .i64 0, .int .i64 0, .int .i64 0, .int .i64 0, .int .i64 0, .int .i64 0]) (by simp [results, Try.results47, go_sem, R]) rfl ⟨?_, ?_⟩
    · rfl
    · exact (((((BB.out.setCell (by first | (simp; done) | (simp; omega)) _).setCell (by first | (simp; done) | (simp; omega)) _).setCell (by first | (simp; done) | (simp; omega)) _).setCell (by first | (simp; done) | (simp; omega)) _).setCell (by first | (simp; done) | (simp; omega)) _).setCell (by first | (simp; done) | (simp; omega)) _
  case true =>
    rw [e1, e2]
    clear e1 e2
    go_enter Try.func47, Try.ntmps47
    go_wp2_with fail
    obtain ⟨W0, hW, hs0, K0, B0⟩ := start2 w 23 36 #[Value.int IntKind.i64 n, Value.int IntKind.i64 d] #[Value.int IntKind.i64 0, Value.int IntKind.i64 0, Value.int IntKind.i64 0, Value.int IntKind.i64 0, Value.int IntKind.i64 0, Value.int IntKind.i64 0]
    rw [hW]
    clear hW
    have KK := Lib.hid K0
    have BB := Lib.hid B0
    have R := K0.rules
    simp only [Rules] at R
    clear K0 B0
    (with_reducible refine (HV.out _).mono ?_)
    rintro e wv ⟨rfl, hbv⟩; replace BB := Lib.hid (BB.out.trans (hbv.mono BB.out.size)); replace KK := Lib.hid (KK.out.below hbv); replace R := KK.out.rules; simp only [gro.Rules] at R; clear hbv
    go_wp2
    refine bodyPost_ret (v := Value.agg #[.int .i64 n, .int .i64 d, .int .i64 n, .int .i64 d, .int .i64 n, .int .i64 d]) (by simp [results, Try.results47, go_sem, R]) rfl ⟨?_, ?_⟩
    · rfl
    · exact (((((BB.out.setCell (by first | (simp; done) | (simp; omega)) _).setCell (by first | (simp; done) | (simp; omega)) _).setCell (by first | (simp; done) | (simp; omega)) _).setCell (by first | (simp; done) | (simp; omega)) _).setCell (by first | (simp; done) | (simp; omega)) _).setCell (by first | (simp; done) | (simp; omega)) _
end Go.Proofs.Ytoejhikcnnppnaa.wid
