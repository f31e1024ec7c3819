/- RunD; Win; Cst9; Adds; Meet; MeetR: texts in one. -/
import Derived.Test.YtofgjcfiinmimaaRunL
import Derived.Test.YtofgjcfiinmimaaMgCanon
import Derived.Test.YtofgjcfiinmimaaWithin
import Derived.Test.YtofgjcfiinmimaaMgHold
import Derived.Test.YtofgjcfiinmimaaMgRunO
import Derived.Test.YtofgjcfiinmimaaMgMade
import Derived.OwnWalk
import Derived.Test.YtofgjcfiinmimaaCst3
import Derived.Test.YtofgjcfiinmimaaMgPut
import Derived.Test.YtofgjcfiinmimaaMgRMany
import Derived.Test.YtofgjcfiinmimaaSum
import Derived.Test.YtofgjcfiinmimaaMgOrd
import Derived.Test.YtofgjcfiinmimaaBox3
/- Plain laws for the counting laws: expiring twice, answers that hold. No program. -/
namespace Go.Proofs.Ytofgjcfiinmimaa.cst
open Go.Proofs.Ytofgjcfiinmimaa.lst
set_option linter.unusedVariables false
theorem expire_twice {f g : Int} (h : f ≤ g) : ∀ xs : List (Int × Int), expireL g (expireL f xs) = expireL g xs
  | [] => rfl
  | p :: xs => by
    unfold expireL
    rw [List.dropWhile_cons]
    by_cases hp : p.1 < f
    · rw [if_pos (by simpa using hp), List.dropWhile_cons, if_pos (by simp; omega)]
      exact expire_twice h xs
    · rw [if_neg (by simpa using hp)]
/-- An answer of whole numbers holds a number between them. -/
theorem whole_holds {a n t : Int} (h1 : a ≤ n) (h2 : n ≤ t) : wid.holdB a 1 ((a + t) / 2) 1 t 1 n 1 = true := by
  unfold wid.holdB
  rw [wid.whole_valid (by omega), wid.valid_one, decide_eq_true (wid.cmp_one h1), decide_eq_true (wid.cmp_one h2)]
  rfl
theorem whole_within {a n t k : Int} (h0 : a ≤ t) (hk : 1 ≤ k) (hn : 0 ≤ n) (h : k * (t - a) ≤ n) : wid.withB a 1 ((a + t) / 2) 1 t 1 k n 1 = true := by
  unfold wid.withB
  rw [wid.whole_valid h0, wid.valid_one, decide_eq_true hk, decide_eq_true hn, decide_eq_true (by simpa using h)]
  rfl
end Go.Proofs.Ytofgjcfiinmimaa.cst

/- Contract of the statements' own window, K and capacity. -/
namespace Go.Proofs.Ytofgjcfiinmimaa.made
open Go.RowKit Go.Proofs.Ytofgjcfiinmimaa.mem
set_option linter.unusedVariables false
set_option linter.unusedSimpArgs false
set_option maxHeartbeats 2000000 in
set_option maxRecDepth 100000 in
theorem Window_any (a b c : Int) (w : World) (ha : -9223372036854775808 ≤ a ∧ a ≤ 9223372036854775807) (hb : -9223372036854775808 ≤ b ∧ b ≤ 9223372036854775807) (hc : -9223372036854775808 ≤ c ∧ c ≤ 9223372036854775807) :
    Calls Try.prog 48 #[.int .i64 a, .int .i64 b, .int .i64 c] w fun e w' => (∃ p : Int, e = .returned (.tuple #[.int .i64 (1 + a % 25), .int .i64 (1 + b % 4), .int .i64 p]) ∧ 1 ≤ p ∧ p ≤ 65536) ∧ w = w' := by
  have M1 := Lib.hid (fun W => Mod_any c 40 W hc (by omega) (by omega))
  have M2 := Lib.hid (fun W => Mod_any c 4 W hc (by omega) (by omega))
  have M3 := Lib.hid (fun W => Mod_any a 25 W ha (by omega) (by omega))
  have M4 := Lib.hid (fun W => Int_any b 4 W hb (by omega) (by omega))
  have b1 : 0 ≤ c % 40 ∧ c % 40 < 40 := ⟨Int.emod_nonneg _ (by omega), Int.emod_lt_of_pos _ (by omega)⟩
  have b3 : 0 ≤ a % 25 ∧ a % 25 < 25 := ⟨Int.emod_nonneg _ (by omega), Int.emod_lt_of_pos _ (by omega)⟩
  have b4 : 0 ≤ b % 4 ∧ b % 4 < 4 := ⟨Int.emod_nonneg _ (by omega), Int.emod_lt_of_pos _ (by omega)⟩
  obtain ⟨b1, b1'⟩ := b1
  obtain ⟨b3, b3'⟩ := b3
  obtain ⟨b4, b4'⟩ := b4
  clear ha hb hc
  generalize c % 40 = x1 at *
  generalize c % 4 = x2 at *
  generalize a % 25 = x3 at *
  generalize b % 4 = x4 at *
  have w1 : IntKind.i64.wrap (1 + x1) = 1 + x1 := IntWalk.i64_in _ (by omega)
  have w3 : IntKind.i64.wrap (1 + x3) = 1 + x3 := IntWalk.i64_in _ (by omega)
  have w4 : IntKind.i64.wrap (1 + x4) = 1 + x4 := IntWalk.i64_in _ (by omega)
  by_cases h0 : x2 = 0
  · have q0 : (x2 == 0) = true := by simpa using h0
    clear h0
    go_enter Try.func48, Try.ntmps48
    go_wp2_with fail
    (with_reducible refine (M1.out _).mono ?_)
    rintro e w1 ⟨rfl, rfl⟩
    go_wp2_with fail
    (with_reducible refine (M2.out _).mono ?_)
    rintro e w1 ⟨rfl, rfl⟩
    go_wp2_with fail
    (with_reducible refine (M3.out _).mono ?_)
    rintro e w1 ⟨rfl, rfl⟩
    go_wp2_with fail
    (with_reducible refine (M4.out _).mono ?_)
    rintro e w1 ⟨rfl, rfl⟩
    go_wp2
    go_ret3
    exact ⟨⟨_, rfl, by omega, by omega⟩, rfl⟩
  · have q0 : (x2 == 0) = false := by simpa using h0
    by_cases h1 : x2 = 1
    · have q1 : (x2 == 1) = true := by simpa using h1
      clear h0 h1
      go_enter Try.func48, Try.ntmps48
      go_wp2_with fail
      (with_reducible refine (M1.out _).mono ?_)
      rintro e w1 ⟨rfl, rfl⟩
      go_wp2_with fail
      (with_reducible refine (M2.out _).mono ?_)
      rintro e w1 ⟨rfl, rfl⟩
      go_wp2_with fail
      (with_reducible refine (M3.out _).mono ?_)
      rintro e w1 ⟨rfl, rfl⟩
      go_wp2_with fail
      (with_reducible refine (M4.out _).mono ?_)
      rintro e w1 ⟨rfl, rfl⟩
      go_wp2
      go_ret3
      exact ⟨⟨_, rfl, by omega, by omega⟩, rfl⟩
    · have q1 : (x2 == 1) = false := by simpa using h1
      clear h0 h1
      go_enter Try.func48, Try.ntmps48
      go_wp2_with fail
      (with_reducible refine (M1.out _).mono ?_)
      rintro e w1 ⟨rfl, rfl⟩
      go_wp2_with fail
      (with_reducible refine (M2.out _).mono ?_)
      rintro e w1 ⟨rfl, rfl⟩
      go_wp2_with fail
      (with_reducible refine (M3.out _).mono ?_)
      rintro e w1 ⟨rfl, rfl⟩
      go_wp2_with fail
      (with_reducible refine (M4.out _).mono ?_)
      rintro e w1 ⟨rfl, rfl⟩
      go_wp2
      go_ret3
      exact ⟨⟨_, rfl, by omega, by omega⟩, rfl⟩
end Go.Proofs.Ytofgjcfiinmimaa.made

/- Lengths of lists of a law's states; the form of an answer. -/
namespace Go.Proofs.Ytofgjcfiinmimaa.cst
open Go.RowKit Go.Proofs.Ytofgjcfiinmimaa.mem Go.Proofs.Ytofgjcfiinmimaa.lst
set_option linter.unusedVariables false
theorem ask_form (ft : Bool) (xs : List (Int × Int)) : ∃ m0 m1 m2 m3 m4 m5 : Int, askV ft xs = .agg #[.int .i64 m0, .int .i64 m1, .int .i64 m2, .int .i64 m3, .int .i64 m4, .int .i64 m5] := by
  cases ft
  · exact ⟨0, 0, 0, 0, 0, 0, rfl⟩
  · exact ⟨_, _, _, _, _, _, rfl⟩
theorem lsb_C {xs : List (Int × Int)} (n : Nat) (h : xs.length = n) (hs : n ≤ 300) (b : Bool) {k o : Int} : (lsK b (insI xs k o)).length ≤ 2000 := by
  have := insI_length xs k o
  unfold lsK; split <;> simp <;> omega
theorem lsb_S {xs : List (Int × Int)} (n : Nat) (h : xs.length = n) (hs : n ≤ 300) (b : Bool) {k o x : Int} : (lsK b (insM xs k o x)).length ≤ 2000 := by
  have := insM_length xs k o x
  unfold lsK; split <;> simp <;> omega
end Go.Proofs.Ytofgjcfiinmimaa.cst

/- Contracts of Add and Sub of rational numbers. -/
namespace Go.Proofs.Ytofgjcfiinmimaa.wid
open Go.RowKit Go.Proofs.Ytofgjcfiinmimaa.mem Go.Proofs.Ytofgjcfiinmimaa.gro
set_option linter.unusedVariables false
set_option maxHeartbeats 2000000 in
set_option maxRecDepth 100000 in
theorem ratAdd_any (n d m e : Int) (hn : I64 n) (hd : I64 d) (hm : I64 m) (he : I64 e) (w : World) :
    Calls Try.prog 104 #[(Value.agg #[Value.int IntKind.i64 (n), Value.int IntKind.i64 ( d)]), (Value.agg #[Value.int IntKind.i64 (m), Value.int IntKind.i64 ( e)])] w fun x w' => x = .returned (.tuple #[(Value.agg #[Value.int IntKind.i64 (sumN n d m e false), Value.int IntKind.i64 ( sumD n d m e false)]), .bool (sumOk n d m e false)]) ∧ Below w.heap.size w w' := by
  have H := Lib.hid (fun W => sum_any n d m e false hn hd hm he W)
  clear hn hd hm he
  generalize sumN n d m e false = yn at *
  generalize sumD n d m e false = yd at *
  generalize sumOk n d m e false = yk at *
  go_enter Try.func104, Try.ntmps104
  go_wp2_with fail
  obtain ⟨W0, hW, hs0, K0, B0⟩ := start3 w 41 41 41 #[Value.int IntKind.i64 (n), Value.int IntKind.i64 (d)] #[Value.int IntKind.i64 (m), Value.int IntKind.i64 (e)] #[Value.int IntKind.i64 (0), Value.int IntKind.i64 (0)]
  rw [hW]
  clear hW
  have KK := Lib.hid K0
  have BB := Lib.hid B0
  have R := K0.rules
  simp only [Rules] at R
  clear K0 B0
  (with_reducible refine (H.out _).mono ?_)
  rintro e wv ⟨rfl, hbv⟩; replace BB := Lib.hid (BB.out.trans (hbv.mono BB.out.size)); replace KK := Lib.hid (KK.out.below hbv); replace R := KK.out.rules; simp only [gro.Rules] at R; clear hbv
  go_wp2
  refine bodyPost_ret (v := Value.tuple #[(Value.agg #[Value.int IntKind.i64 (yn), Value.int IntKind.i64 ( yd)]), Value.bool yk]) (by simp [results, Try.results104, go_sem, R]) rfl ⟨?_, ?_⟩
  · rfl
  · exact (BB.out.setCell (by first | (simp; done) | (simp; omega)) _).setCell (by first | (simp; done) | (simp; omega)) _
end Go.Proofs.Ytofgjcfiinmimaa.wid

/- Contracts of Meet of bounds in the code, of most and least. -/
namespace Go.Proofs.Ytofgjcfiinmimaa.wid
open Go.RowKit Go.Proofs.Ytofgjcfiinmimaa.mem Go.Proofs.Ytofgjcfiinmimaa.gro
set_option linter.unusedVariables false
set_option linter.unusedSimpArgs false
def mosN (n d m e : Int) : Int := pk (mosP n d m e) n m
def mosD (n d m e : Int) : Int := pk (mosP n d m e) d e
def lesN (n d m e : Int) : Int := pk (lesP n d m e) n m
def lesD (n d m e : Int) : Int := pk (lesP n d m e) d e
theorem pk_bd {b : Bool} {x y : Int} (hx : I64 x) (hy : I64 y) : I64 (pk b x y) := by cases b <;> assumption
def meetOk (a0 a1 a2 a3 a4 a5 b0 b1 b2 b3 b4 b5 : Int) : Bool := validB a0 a1 a2 a3 a4 a5 && validB b0 b1 b2 b3 b4 b5 && decide (cmpQ (mosN a0 a1 b0 b1) (mosD a0 a1 b0 b1) (lesN a4 a5 b4 b5) (lesD a4 a5 b4 b5) ≤ 0)
end Go.Proofs.Ytofgjcfiinmimaa.wid

/- Contract of Meet of bounds in the reference. -/
namespace Go.Proofs.Ytofgjcfiinmimaa.wid
open Go.RowKit Go.Proofs.Ytofgjcfiinmimaa.mem Go.Proofs.Ytofgjcfiinmimaa.gro
set_option linter.unusedVariables false
set_option linter.unusedSimpArgs false
theorem pk_not {b : Bool} {x y : Int} : pk (!b) x y = pk b y x := by cases b <;> rfl
end Go.Proofs.Ytofgjcfiinmimaa.wid
