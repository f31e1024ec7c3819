/- Exact; MakesL: texts in one. -/
import Derived.Test.YtnohkjalglogaaaBnd
import Derived.Test.YtnohkjalglogaaaMg9
import Derived.Test.YtnohkjalglogaaaMg5
/- Contracts of Exact: bounds of one rational number. -/
namespace Go.Proofs.Ytnohkjalglogaaa.wid
open Go.RowKit Go.Proofs.Ytnohkjalglogaaa.mem Go.Proofs.Ytnohkjalglogaaa.gro
set_option linter.unusedVariables false
/-- The number if it is valid, otherwise nought. -/
def exN (n d : Int) : Int := if validQ n d = true then n else 0
def exD (n d : Int) : Int := if validQ n d = true then d else 0
set_option maxHeartbeats 2000000 in
set_option maxRecDepth 100000 in
theorem ExactB_any (n d : Int) (hn : I64 n) (hd : I64 d) (w : World) :
    Calls Try.prog 48 #[(Value.agg #[Value.int IntKind.i64 (n), Value.int IntKind.i64 ( d)])] w fun x w' => x = .returned (.agg #[.int .i64 (exN n d), .int .i64 (exD n d), .int .i64 (exN n d), .int .i64 (exD n d), .int .i64 (exN n d), .int .i64 (exD n d)]) ∧ Below w.heap.size w w' := by
  have HV := Lib.hid (fun W => Valid_any n d hn hd W)
  clear hn hd
  have e1 : exN n d = if validQ n d = true then n else 0 := rfl
  have e2 : exD n d = if validQ n d = true then d else 0 := rfl
  generalize validQ n d = v at *
  cases v
  case false =>
    rw [e1, e2]
    clear e1 e2
    go_enter Try.func48, Try.ntmps48
    go_wp2_with fail
    obtain ⟨W0, hW, hs0, K0, B0⟩ := start2 w 47 49 #[Value.int IntKind.i64 n, Value.int IntKind.i64 d] #[Value.int IntKind.i64 0, Value.int IntKind.i64 0, Value.int IntKind.i64 0, Value.int IntKind.i64 0, Value.int IntKind.i64 0, Value.int IntKind.i64 0]
    rw [hW]
    clear hW
    have KK := Lib.hid K0
    have BB := Lib.hid B0
    have R := K0.rules
    simp only [Rules] at R
    clear K0 B0
    (with_reducible refine (HV.out _).mono ?_)
    rintro e wv ⟨rfl, hbv⟩; replace BB := Lib.hid (BB.out.trans (hbv.mono BB.out.size)); replace KK := Lib.hid (KK.out.below hbv); replace R := KK.out.rules; simp only [gro.Rules] at R; clear hbv
    go_wp2
    refine bodyPost_ret (v := Value.agg #[.int .i64 0, .int .i64 0, .int .i64 0, .int .i64 0, .int .i64 0, .int .i64 0]) (by simp [results, Try.results48, go_sem, R]) rfl ⟨?_, ?_⟩
    · rfl
    · exact (((((BB.out.setCell (by first | (simp; done) | (simp; omega)) _).setCell (by first | (simp; done) | (simp; omega)) _).setCell (by first | (simp; done) | (simp; omega)) _).setCell (by first | (simp; done) | (simp; omega)) _).setCell (by first | (simp; done) | (simp; omega)) _).setCell (by first | (simp; done) | (simp; omega)) _
  case true =>
    rw [e1, e2]
    clear e1 e2
    go_enter Try.func48, Try.ntmps48
    go_wp2_with fail
    obtain ⟨W0, hW, hs0, K0, B0⟩ := start2 w 47 49 #[Value.int IntKind.i64 n, Value.int IntKind.i64 d] #[Value.int IntKind.i64 0, Value.int IntKind.i64 0, Value.int IntKind.i64 0, Value.int IntKind.i64 0, Value.int IntKind.i64 0, Value.int IntKind.i64 0]
    rw [hW]
    clear hW
    have KK := Lib.hid K0
    have BB := Lib.hid B0
    have R := K0.rules
    simp only [Rules] at R
    clear K0 B0
    (with_reducible refine (HV.out _).mono ?_)
    rintro e wv ⟨rfl, hbv⟩; replace BB := Lib.hid (BB.out.trans (hbv.mono BB.out.size)); replace KK := Lib.hid (KK.out.below hbv); replace R := KK.out.rules; simp only [gro.Rules] at R; clear hbv
    go_wp2
    refine bodyPost_ret (v := Value.agg #[.int .i64 n, .int .i64 d, .int .i64 n, .int .i64 d, .int .i64 n, .int .i64 d]) (by simp [results, Try.results48, go_sem, R]) rfl ⟨?_, ?_⟩
    · rfl
    · exact (((((BB.out.setCell (by first | (simp; done) | (simp; omega)) _).setCell (by first | (simp; done) | (simp; omega)) _).setCell (by first | (simp; done) | (simp; omega)) _).setCell (by first | (simp; done) | (simp; omega)) _).setCell (by first | (simp; done) | (simp; omega)) _).setCell (by first | (simp; done) | (simp; omega)) _
set_option maxHeartbeats 2000000 in
set_option maxRecDepth 100000 in
theorem ExactBR_any (n d : Int) (hn : I64 n) (hd : I64 d) (w : World) :
    Calls Try.prog 59 #[(Value.agg #[Value.int IntKind.i64 (n), Value.int IntKind.i64 ( d)])] w fun x w' => x = .returned (.agg #[.int .i64 (exN n d), .int .i64 (exD n d), .int .i64 (exN n d), .int .i64 (exD n d), .int .i64 (exN n d), .int .i64 (exD n d)]) ∧ Below w.heap.size w w' := by
  have HV := Lib.hid (fun W => ValidR_any n d hn hd W)
  clear hn hd
  have e1 : exN n d = if validQ n d = true then n else 0 := rfl
  have e2 : exD n d = if validQ n d = true then d else 0 := rfl
  generalize validQ n d = v at *
  cases v
  case false =>
    rw [e1, e2]
    clear e1 e2
    go_enter Try.func59, Try.ntmps59
    go_wp2_with fail
    obtain ⟨W0, hW, hs0, K0, B0⟩ := start2 w 47 49 #[Value.int IntKind.i64 n, Value.int IntKind.i64 d] #[Value.int IntKind.i64 0, Value.int IntKind.i64 0, Value.int IntKind.i64 0, Value.int IntKind.i64 0, Value.int IntKind.i64 0, Value.int IntKind.i64 0]
    rw [hW]
    clear hW
    have KK := Lib.hid K0
    have BB := Lib.hid B0
    have R := K0.rules
    simp only [Rules] at R
    clear K0 B0
    (with_reducible refine (HV.out _).mono ?_)
    rintro e wv ⟨rfl, hbv⟩; replace BB := Lib.hid (BB.out.trans (hbv.mono BB.out.size)); replace KK := Lib.hid (KK.out.below hbv); replace R := KK.out.rules; simp only [gro.Rules] at R; clear hbv
    go_wp2
    refine bodyPost_ret (v := Value.agg #[.int .i64 0, .int .i64 0, .int .i64 0, .int .i64 0, .int .i64 0, .int .i64 0]) (by simp [results, Try.results59, go_sem, R]) rfl ⟨?_, ?_⟩
    · rfl
    · exact (((((BB.out.setCell (by first | (simp; done) | (simp; omega)) _).setCell (by first | (simp; done) | (simp; omega)) _).setCell (by first | (simp; done) | (simp; omega)) _).setCell (by first | (simp; done) | (simp; omega)) _).setCell (by first | (simp; done) | (simp; omega)) _).setCell (by first | (simp; done) | (simp; omega)) _
  case true =>
    rw [e1, e2]
    clear e1 e2
    go_enter Try.func59, Try.ntmps59
    go_wp2_with fail
    obtain ⟨W0, hW, hs0, K0, B0⟩ := start2 w 47 49 #[Value.int IntKind.i64 n, Value.int IntKind.i64 d] #[Value.int IntKind.i64 0, Value.int IntKind.i64 0, Value.int IntKind.i64 0, Value.int IntKind.i64 0, Value.int IntKind.i64 0, Value.int IntKind.i64 0]
    rw [hW]
    clear hW
    have KK := Lib.hid K0
    have BB := Lib.hid B0
    have R := K0.rules
    simp only [Rules] at R
    clear K0 B0
    (with_reducible refine (HV.out _).mono ?_)
    rintro e wv ⟨rfl, hbv⟩; replace BB := Lib.hid (BB.out.trans (hbv.mono BB.out.size)); replace KK := Lib.hid (KK.out.below hbv); replace R := KK.out.rules; simp only [gro.Rules] at R; clear hbv
    go_wp2
    refine bodyPost_ret (v := Value.agg #[.int .i64 n, .int .i64 d, .int .i64 n, .int .i64 d, .int .i64 n, .int .i64 d]) (by simp [results, Try.results59, go_sem, R]) rfl ⟨?_, ?_⟩
    · rfl
    · exact (((((BB.out.setCell (by first | (simp; done) | (simp; omega)) _).setCell (by first | (simp; done) | (simp; omega)) _).setCell (by first | (simp; done) | (simp; omega)) _).setCell (by first | (simp; done) | (simp; omega)) _).setCell (by first | (simp; done) | (simp; omega)) _).setCell (by first | (simp; done) | (simp; omega)) _
end Go.Proofs.Ytnohkjalglogaaa.wid

/- Bounds of whole numbers are valid; bounds compared with themselves. -/
namespace Go.Proofs.Ytnohkjalglogaaa.wid
open Go.RowKit Go.Proofs.Ytnohkjalglogaaa.mem Go.Proofs.Ytnohkjalglogaaa.gro
set_option linter.unusedVariables false
set_option linter.unusedSimpArgs false
theorem valid_one (x : Int) : validQ x 1 = true := validQ_iff.2 ⟨by omega, by simp⟩
theorem cmp_one {x y : Int} (h : x ≤ y) : cmpQ x 1 y 1 ≤ 0 := by
  unfold cmpQ cmpZ
  rw [if_pos ⟨valid_one x, valid_one y⟩, Int.mul_one, Int.mul_one]
  split
  · omega
  · split <;> omega
theorem whole_valid {x y : Int} (h : x ≤ y) : validB x 1 ((x + y) / 2) 1 y 1 = true := by
  unfold validB
  rw [valid_one, valid_one, valid_one, decide_eq_true (cmp_one (show x ≤ (x + y) / 2 by omega)), decide_eq_true (cmp_one (show (x + y) / 2 ≤ y by omega))]
  rfl
theorem bnd_eql (a b c d e f : Int) (w : World) : (binOp .eql 49 (Value.agg #[Value.int IntKind.i64 a, Value.int IntKind.i64 b, Value.int IntKind.i64 c, Value.int IntKind.i64 d, Value.int IntKind.i64 e, Value.int IntKind.i64 f]) (Value.agg #[Value.int IntKind.i64 a, Value.int IntKind.i64 b, Value.int IntKind.i64 c, Value.int IntKind.i64 d, Value.int IntKind.i64 e, Value.int IntKind.i64 f])).run Try.prog w = .ok (.bool true) w := by
  go_simp
end Go.Proofs.Ytnohkjalglogaaa.wid
