/- Exact; MakesL; Canon: texts in one. -/
import Derived.Test.YtofgjcfiinmimaaBnd
import Derived.Test.YtofgjcfiinmimaaMgRat2
import Derived.Test.YtofgjcfiinmimaaMgBox2
import Derived.Test.YtofgjcfiinmimaaApp
import Derived.Test.YtofgjcfiinmimaaMgGrown
/- Contracts of Exact: bounds of one rational number. -/
namespace Go.Proofs.Ytofgjcfiinmimaa.wid
open Go.RowKit Go.Proofs.Ytofgjcfiinmimaa.mem Go.Proofs.Ytofgjcfiinmimaa.gro
set_option linter.unusedVariables false
/-- The number if it is valid, otherwise nought. -/
def exN (n d : Int) : Int := if validQ n d = true then n else 0
def exD (n d : Int) : Int := if validQ n d = true then d else 0
set_option maxHeartbeats 2000000 in
set_option maxRecDepth 100000 in
theorem ExactB_any (n d : Int) (hn : I64 n) (hd : I64 d) (w : World) :
    Calls Try.prog 97 #[(Value.agg #[Value.int IntKind.i64 (n), Value.int IntKind.i64 ( d)])] w fun x w' => x = .returned (.agg #[.int .i64 (exN n d), .int .i64 (exD n d), .int .i64 (exN n d), .int .i64 (exD n d), .int .i64 (exN n d), .int .i64 (exD n d)]) ∧ Below w.heap.size w w' := by
  have HV := Lib.hid (fun W => Valid_any n d hn hd W)
  clear hn hd
  have e1 : exN n d = if validQ n d = true then n else 0 := rfl
  have e2 : exD n d = if validQ n d = true then d else 0 := rfl
  generalize validQ n d = v at *
  cases v
  case false =>
    rw [e1, e2]
    clear e1 e2
    go_enter Try.func97, Try.ntmps97
    go_wp2_with fail
    obtain ⟨W0, hW, hs0, K0, B0⟩ := start2 w 41 43 #[Value.int IntKind.i64 n, Value.int IntKind.i64 d] #[Value.int IntKind.i64 0, Value.int IntKind.i64 0, Value.int IntKind.i64 0, Value.int IntKind.i64 0, Value.int IntKind.i64 0, Value.int IntKind.i64 0]
    rw [hW]
    clear hW
    have KK := Lib.hid K0
    have BB := Lib.hid B0
    have R := K0.rules
    simp only [Rules] at R
    clear K0 B0
    (with_reducible refine (HV.out _).mono ?_)
    rintro e wv ⟨rfl, hbv⟩; replace BB := Lib.hid (BB.out.trans (hbv.mono BB.out.size)); replace KK := Lib.hid (KK.out.below hbv); replace R := KK.out.rules; simp only [gro.Rules] at R; clear hbv
    go_wp2
    refine bodyPost_ret (v := Value.agg #[.int .i64 0, .int .i64 0, .int .i64 0, .int .i64 0, .int .i64 0, .int .i64 0]) (by simp [results, Try.results97, go_sem, R]) rfl ⟨?_, ?_⟩
    · rfl
    · exact (((((BB.out.setCell (by first | (simp; done) | (simp; omega)) _).setCell (by first | (simp; done) | (simp; omega)) _).setCell (by first | (simp; done) | (simp; omega)) _).setCell (by first | (simp; done) | (simp; omega)) _).setCell (by first | (simp; done) | (simp; omega)) _).setCell (by first | (simp; done) | (simp; omega)) _
  case true =>
    rw [e1, e2]
    clear e1 e2
    go_enter Try.func97, Try.ntmps97
    go_wp2_with fail
    obtain ⟨W0, hW, hs0, K0, B0⟩ := start2 w 41 43 #[Value.int IntKind.i64 n, Value.int IntKind.i64 d] #[Value.int IntKind.i64 0, Value.int IntKind.i64 0, Value.int IntKind.i64 0, Value.int IntKind.i64 0, Value.int IntKind.i64 0, Value.int IntKind.i64 0]
    rw [hW]
    clear hW
    have KK := Lib.hid K0
    have BB := Lib.hid B0
    have R := K0.rules
    simp only [Rules] at R
    clear K0 B0
    (with_reducible refine (HV.out _).mono ?_)
    rintro e wv ⟨rfl, hbv⟩; replace BB := Lib.hid (BB.out.trans (hbv.mono BB.out.size)); replace KK := Lib.hid (KK.out.below hbv); replace R := KK.out.rules; simp only [gro.Rules] at R; clear hbv
    go_wp2
    refine bodyPost_ret (v := Value.agg #[.int .i64 n, .int .i64 d, .int .i64 n, .int .i64 d, .int .i64 n, .int .i64 d]) (by simp [results, Try.results97, go_sem, R]) rfl ⟨?_, ?_⟩
    · rfl
    · exact (((((BB.out.setCell (by first | (simp; done) | (simp; omega)) _).setCell (by first | (simp; done) | (simp; omega)) _).setCell (by first | (simp; done) | (simp; omega)) _).setCell (by first | (simp; done) | (simp; omega)) _).setCell (by first | (simp; done) | (simp; omega)) _).setCell (by first | (simp; done) | (simp; omega)) _
set_option maxHeartbeats 2000000 in
set_option maxRecDepth 100000 in
theorem ExactBR_any (n d : Int) (hn : I64 n) (hd : I64 d) (w : World) :
    Calls Try.prog 116 #[(Value.agg #[Value.int IntKind.i64 (n), Value.int IntKind.i64 ( d)])] w fun x w' => x = .returned (.agg #[.int .i64 (exN n d), .int .i64 (exD n d), .int .i64 (exN n d), .int .i64 (exD n d), .int .i64 (exN n d), .int .i64 (exD n d)]) ∧ Below w.heap.size w w' := by
  have HV := Lib.hid (fun W => ValidR_any n d hn hd W)
  clear hn hd
  have e1 : exN n d = if validQ n d = true then n else 0 := rfl
  have e2 : exD n d = if validQ n d = true then d else 0 := rfl
  generalize validQ n d = v at *
  cases v
  case false =>
    rw [e1, e2]
    clear e1 e2
    go_enter Try.func116, Try.ntmps116
    go_wp2_with fail
    obtain ⟨W0, hW, hs0, K0, B0⟩ := start2 w 41 43 #[Value.int IntKind.i64 n, Value.int IntKind.i64 d] #[Value.int IntKind.i64 0, Value.int IntKind.i64 0, Value.int IntKind.i64 0, Value.int IntKind.i64 0, Value.int IntKind.i64 0, Value.int IntKind.i64 0]
    rw [hW]
    clear hW
    have KK := Lib.hid K0
    have BB := Lib.hid B0
    have R := K0.rules
    simp only [Rules] at R
    clear K0 B0
    (with_reducible refine (HV.out _).mono ?_)
    rintro e wv ⟨rfl, hbv⟩; replace BB := Lib.hid (BB.out.trans (hbv.mono BB.out.size)); replace KK := Lib.hid (KK.out.below hbv); replace R := KK.out.rules; simp only [gro.Rules] at R; clear hbv
    go_wp2
    refine bodyPost_ret (v := Value.agg #[.int .i64 0, .int .i64 0, .int .i64 0, .int .i64 0, .int .i64 0, .int .i64 0]) (by simp [results, Try.results116, go_sem, R]) rfl ⟨?_, ?_⟩
    · rfl
    · exact (((((BB.out.setCell (by first | (simp; done) | (simp; omega)) _).setCell (by first | (simp; done) | (simp; omega)) _).setCell (by first | (simp; done) | (simp; omega)) _).setCell (by first | (simp; done) | (simp; omega)) _).setCell (by first | (simp; done) | (simp; omega)) _).setCell (by first | (simp; done) | (simp; omega)) _
  case true =>
    rw [e1, e2]
    clear e1 e2
    go_enter Try.func116, Try.ntmps116
    go_wp2_with fail
    obtain ⟨W0, hW, hs0, K0, B0⟩ := start2 w 41 43 #[Value.int IntKind.i64 n, Value.int IntKind.i64 d] #[Value.int IntKind.i64 0, Value.int IntKind.i64 0, Value.int IntKind.i64 0, Value.int IntKind.i64 0, Value.int IntKind.i64 0, Value.int IntKind.i64 0]
    rw [hW]
    clear hW
    have KK := Lib.hid K0
    have BB := Lib.hid B0
    have R := K0.rules
    simp only [Rules] at R
    clear K0 B0
    (with_reducible refine (HV.out _).mono ?_)
    rintro e wv ⟨rfl, hbv⟩; replace BB := Lib.hid (BB.out.trans (hbv.mono BB.out.size)); replace KK := Lib.hid (KK.out.below hbv); replace R := KK.out.rules; simp only [gro.Rules] at R; clear hbv
    go_wp2
    refine bodyPost_ret (v := Value.agg #[.int .i64 n, .int .i64 d, .int .i64 n, .int .i64 d, .int .i64 n, .int .i64 d]) (by simp [results, Try.results116, go_sem, R]) rfl ⟨?_, ?_⟩
    · rfl
    · exact (((((BB.out.setCell (by first | (simp; done) | (simp; omega)) _).setCell (by first | (simp; done) | (simp; omega)) _).setCell (by first | (simp; done) | (simp; omega)) _).setCell (by first | (simp; done) | (simp; omega)) _).setCell (by first | (simp; done) | (simp; omega)) _).setCell (by first | (simp; done) | (simp; omega)) _
end Go.Proofs.Ytofgjcfiinmimaa.wid

/- Bounds of whole numbers are valid; bounds compared with themselves. -/
namespace Go.Proofs.Ytofgjcfiinmimaa.wid
open Go.RowKit Go.Proofs.Ytofgjcfiinmimaa.mem Go.Proofs.Ytofgjcfiinmimaa.gro
set_option linter.unusedVariables false
set_option linter.unusedSimpArgs false
theorem valid_one (x : Int) : validQ x 1 = true := validQ_iff.2 ⟨by omega, by simp⟩
theorem cmp_one {x y : Int} (h : x ≤ y) : cmpQ x 1 y 1 ≤ 0 := by
  unfold cmpQ cmpZ
  rw [if_pos ⟨valid_one x, valid_one y⟩, Int.mul_one, Int.mul_one]
  split
  · omega
  · split <;> omega
theorem whole_valid {x y : Int} (h : x ≤ y) : validB x 1 ((x + y) / 2) 1 y 1 = true := by
  unfold validB
  rw [valid_one, valid_one, valid_one, decide_eq_true (cmp_one (show x ≤ (x + y) / 2 by omega)), decide_eq_true (cmp_one (show (x + y) / 2 ≤ y by omega))]
  rfl
theorem bnd_eql (a b c d e f : Int) (w : World) : (binOp .eql 43 (Value.agg #[Value.int IntKind.i64 a, Value.int IntKind.i64 b, Value.int IntKind.i64 c, Value.int IntKind.i64 d, Value.int IntKind.i64 e, Value.int IntKind.i64 f]) (Value.agg #[Value.int IntKind.i64 a, Value.int IntKind.i64 b, Value.int IntKind.i64 c, Value.int IntKind.i64 d, Value.int IntKind.i64 e, Value.int IntKind.i64 f])).run Try.prog w = .ok (.bool true) w := by
  go_simp
end Go.Proofs.Ytofgjcfiinmimaa.wid

/- Contracts of SameInts, of buckets.Canonical and of its reference. -/
namespace Go.Proofs.Ytofgjcfiinmimaa.lst
open Go.RowKit Go.Proofs.Ytofgjcfiinmimaa.mem
set_option linter.unusedVariables false

theorem take_stepI {xs ys : List Int} {k : Nat} (a1 : k < xs.length) (a2 : k < ys.length) (h : xs.take k = ys.take k) :
    (xs.take (k + 1) = ys.take (k + 1)) ↔ xs[k]?.getD 0 = ys[k]?.getD 0 := by
  rw [List.take_succ_eq_append_getElem a1, List.take_succ_eq_append_getElem a2, h, List.getElem?_eq_getElem a1, List.getElem?_eq_getElem a2, List.append_cancel_left_eq]
  simp

/-- The closed form, with fuel. -/
def canonF (k : Nat) : Nat → Nat → List Int
  | 0, _ => []
  | f + 1, n => if n = 0 then [] else ((n - 2 * ((n - k) / 2) : Nat) : Int) :: canonF k f ((n - k) / 2)
theorem canonF_zero (k f : Nat) : canonF k f 0 = [] := by cases f <;> simp [canonF]
theorem canonF_pos (k f n : Nat) (hn : 0 < n) : canonF k (f + 1) n = ((n - 2 * ((n - k) / 2) : Nat) : Int) :: canonF k f ((n - k) / 2) := by
  simp [canonF, show n ≠ 0 from by omega]
def canonI (n k : Int) : List Int := if 0 ≤ n ∧ n ≤ 1073741824 ∧ 1 ≤ k ∧ k ≤ 128 then canonF k.toNat n.toNat n.toNat else []

theorem int_info : (Try.prog.info? 3).map (fun i => (i.zero, i.size, i.bytes)) = some (some (.int .i64 0), 1, 8) := by kernel_rfl

theorem canonI_in {n k : Nat} (hn : n ≤ 1073741824) (hk1 : 1 ≤ k) (hk2 : k ≤ 128) : canonI n k = canonF k n n := by
  unfold canonI; rw [if_pos (by omega)]; simp
theorem canonI_out {n k : Int} (h : ¬ (0 ≤ n ∧ n ≤ 1073741824 ∧ 1 ≤ k ∧ k ≤ 128)) : canonI n k = [] := by
  unfold canonI; rw [if_neg h]

def mayKB (k : Int) : Bool := decide (1 ≤ k) && decide (k ≤ 128)
theorem mayKB_iff {k : Int} : mayKB k = true ↔ 1 ≤ k ∧ k ≤ 128 := by simp [mayKB]
theorem mayKB_iff0 {k : Int} : mayKB k = false ↔ ¬ (1 ≤ k ∧ k ≤ 128) := by rw [← mayKB_iff]; simp
set_option maxHeartbeats 400000 in
theorem MayK_any (k : Int) (w : World) :
    Calls Try.prog 86 #[.int .i64 k] w fun e w' => e = .returned (.bool (mayKB k)) ∧ w = w' := by
  go_enter Try.func86, Try.ntmps86
  go_wp2
  all_goals (go_ret; refine ⟨ret_bool ?_, rfl⟩; first | (symm; rw [mayKB_iff]; omega) | (symm; rw [mayKB_iff0]; omega) | (rw [Bool.eq_iff_iff, mayKB_iff]; simp; omega))

/-- The example of the chapter. -/
theorem reads_build (w : World) (e : TypeId) (a b : Int) : IRead (w.alloc (.cells #[.int .i64 a, .int .i64 b] e)) (w.heap.size + 1) (some ⟨w.heap.size, 0, none⟩) 2 [a, b] := reads_new w e _ rfl
end Go.Proofs.Ytofgjcfiinmimaa.lst
