/- Cst9; Adds; Meet; MeetR: texts in one. -/
import Derived.Test.YtofgjcfiinmimaaCst3
import Derived.Test.YtofgjcfiinmimaaMgPut
import Derived.Test.YtofgjcfiinmimaaMgMany
import Derived.Test.YtofgjcfiinmimaaRMany
import Derived.Test.YtofgjcfiinmimaaSum
import Derived.Test.YtofgjcfiinmimaaMgOrd
import Derived.Test.YtofgjcfiinmimaaBox3
/- Lengths of lists of a law's states; the form of an answer. -/
namespace Go.Proofs.Ytofgjcfiinmimaa.cst
open Go.RowKit Go.Proofs.Ytofgjcfiinmimaa.mem Go.Proofs.Ytofgjcfiinmimaa.lst
set_option linter.unusedVariables false
theorem ask_form (ft : Bool) (xs : List (Int × Int)) : ∃ m0 m1 m2 m3 m4 m5 : Int, askV ft xs = .agg #[.int .i64 m0, .int .i64 m1, .int .i64 m2, .int .i64 m3, .int .i64 m4, .int .i64 m5] := by
  cases ft
  · exact ⟨0, 0, 0, 0, 0, 0, rfl⟩
  · exact ⟨_, _, _, _, _, _, rfl⟩
theorem lsb_C {xs : List (Int × Int)} (n : Nat) (h : xs.length = n) (hs : n ≤ 300) (b : Bool) {k o : Int} : (lsK b (insI xs k o)).length ≤ 2000 := by
  have := insI_length xs k o
  unfold lsK; split <;> simp <;> omega
theorem lsb_S {xs : List (Int × Int)} (n : Nat) (h : xs.length = n) (hs : n ≤ 300) (b : Bool) {k o x : Int} : (lsK b (insM xs k o x)).length ≤ 2000 := by
  have := insM_length xs k o x
  unfold lsK; split <;> simp <;> omega
end Go.Proofs.Ytofgjcfiinmimaa.cst

/- Contracts of Add and Sub of rational numbers. -/
namespace Go.Proofs.Ytofgjcfiinmimaa.wid
open Go.RowKit Go.Proofs.Ytofgjcfiinmimaa.mem Go.Proofs.Ytofgjcfiinmimaa.gro
set_option linter.unusedVariables false
set_option maxHeartbeats 2000000 in
set_option maxRecDepth 100000 in
theorem ratAdd_any (n d m e : Int) (hn : I64 n) (hd : I64 d) (hm : I64 m) (he : I64 e) (w : World) :
    Calls Try.prog 104 #[(Value.agg #[Value.int IntKind.i64 (n), Value.int IntKind.i64 ( d)]), (Value.agg #[Value.int IntKind.i64 (m), Value.int IntKind.i64 ( e)])] w fun x w' => x = .returned (.tuple #[(Value.agg #[Value.int IntKind.i64 (sumN n d m e false), Value.int IntKind.i64 ( sumD n d m e false)]), .bool (sumOk n d m e false)]) ∧ Below w.heap.size w w' := by
  have H := Lib.hid (fun W => sum_any n d m e false hn hd hm he W)
  clear hn hd hm he
  generalize sumN n d m e false = yn at *
  generalize sumD n d m e false = yd at *
  generalize sumOk n d m e false = yk at *
  go_enter Try.func104, Try.ntmps104
  go_wp2_with fail
  obtain ⟨W0, hW, hs0, K0, B0⟩ := start3 w 41 41 41 #[Value.int IntKind.i64 (n), Value.int IntKind.i64 (d)] #[Value.int IntKind.i64 (m), Value.int IntKind.i64 (e)] #[Value.int IntKind.i64 (0), Value.int IntKind.i64 (0)]
  rw [hW]
  clear hW
  have KK := Lib.hid K0
  have BB := Lib.hid B0
  have R := K0.rules
  simp only [Rules] at R
  clear K0 B0
  (with_reducible refine (H.out _).mono ?_)
  rintro e wv ⟨rfl, hbv⟩; replace BB := Lib.hid (BB.out.trans (hbv.mono BB.out.size)); replace KK := Lib.hid (KK.out.below hbv); replace R := KK.out.rules; simp only [gro.Rules] at R; clear hbv
  go_wp2
  refine bodyPost_ret (v := Value.tuple #[(Value.agg #[Value.int IntKind.i64 (yn), Value.int IntKind.i64 ( yd)]), Value.bool yk]) (by simp [results, Try.results104, go_sem, R]) rfl ⟨?_, ?_⟩
  · rfl
  · exact (BB.out.setCell (by first | (simp; done) | (simp; omega)) _).setCell (by first | (simp; done) | (simp; omega)) _
end Go.Proofs.Ytofgjcfiinmimaa.wid

/- Contracts of Meet of bounds in the code, of most and least. -/
namespace Go.Proofs.Ytofgjcfiinmimaa.wid
open Go.RowKit Go.Proofs.Ytofgjcfiinmimaa.mem Go.Proofs.Ytofgjcfiinmimaa.gro
set_option linter.unusedVariables false
set_option linter.unusedSimpArgs false
def mosN (n d m e : Int) : Int := pk (mosP n d m e) n m
def mosD (n d m e : Int) : Int := pk (mosP n d m e) d e
def lesN (n d m e : Int) : Int := pk (lesP n d m e) n m
def lesD (n d m e : Int) : Int := pk (lesP n d m e) d e
theorem pk_bd {b : Bool} {x y : Int} (hx : I64 x) (hy : I64 y) : I64 (pk b x y) := by cases b <;> assumption
def meetOk (a0 a1 a2 a3 a4 a5 b0 b1 b2 b3 b4 b5 : Int) : Bool := validB a0 a1 a2 a3 a4 a5 && validB b0 b1 b2 b3 b4 b5 && decide (cmpQ (mosN a0 a1 b0 b1) (mosD a0 a1 b0 b1) (lesN a4 a5 b4 b5) (lesD a4 a5 b4 b5) ≤ 0)
end Go.Proofs.Ytofgjcfiinmimaa.wid

/- Contract of Meet of bounds in the reference. -/
namespace Go.Proofs.Ytofgjcfiinmimaa.wid
open Go.RowKit Go.Proofs.Ytofgjcfiinmimaa.mem Go.Proofs.Ytofgjcfiinmimaa.gro
set_option linter.unusedVariables false
set_option linter.unusedSimpArgs false
theorem pk_not {b : Bool} {x y : Int} : pk (!b) x y = pk b y x := by cases b <;> rfl
end Go.Proofs.Ytofgjcfiinmimaa.wid
