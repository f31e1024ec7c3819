/- RunD; Win: texts in one. -/
import Derived.Test.YtofgjcfiinmimaaRunL
import Derived.Test.YtofgjcfiinmimaaMgCanon
import Derived.Test.YtofgjcfiinmimaaWithin
import Derived.Test.YtofgjcfiinmimaaMgHold
import Derived.Test.YtofgjcfiinmimaaMgRunO
import Derived.Test.YtofgjcfiinmimaaMgMade
import Derived.OwnWalk
/- Plain laws for the counting laws: expiring twice, answers that hold. No program. -/
namespace Go.Proofs.Ytofgjcfiinmimaa.cst
open Go.Proofs.Ytofgjcfiinmimaa.lst
set_option linter.unusedVariables false
theorem expire_twice {f g : Int} (h : f ≤ g) : ∀ xs : List (Int × Int), expireL g (expireL f xs) = expireL g xs
  | [] => rfl
  | p :: xs => by
    unfold expireL
    rw [List.dropWhile_cons]
    by_cases hp : p.1 < f
    · rw [if_pos (by simpa using hp), List.dropWhile_cons, if_pos (by simp; omega)]
      exact expire_twice h xs
    · rw [if_neg (by simpa using hp)]
/-- An answer of whole numbers holds a number between them. -/
theorem whole_holds {a n t : Int} (h1 : a ≤ n) (h2 : n ≤ t) : wid.holdB a 1 ((a + t) / 2) 1 t 1 n 1 = true := by
  unfold wid.holdB
  rw [wid.whole_valid (by omega), wid.valid_one, decide_eq_true (wid.cmp_one h1), decide_eq_true (wid.cmp_one h2)]
  rfl
theorem whole_within {a n t k : Int} (h0 : a ≤ t) (hk : 1 ≤ k) (hn : 0 ≤ n) (h : k * (t - a) ≤ n) : wid.withB a 1 ((a + t) / 2) 1 t 1 k n 1 = true := by
  unfold wid.withB
  rw [wid.whole_valid h0, wid.valid_one, decide_eq_true hk, decide_eq_true hn, decide_eq_true (by simpa using h)]
  rfl
end Go.Proofs.Ytofgjcfiinmimaa.cst

/- Contract of the statements' own window, K and capacity. -/
namespace Go.Proofs.Ytofgjcfiinmimaa.made
open Go.RowKit Go.Proofs.Ytofgjcfiinmimaa.mem
set_option linter.unusedVariables false
set_option linter.unusedSimpArgs false
set_option maxHeartbeats 2000000 in
set_option maxRecDepth 100000 in
theorem Window_any (a b c : Int) (w : World) (ha : -9223372036854775808 ≤ a ∧ a ≤ 9223372036854775807) (hb : -9223372036854775808 ≤ b ∧ b ≤ 9223372036854775807) (hc : -9223372036854775808 ≤ c ∧ c ≤ 9223372036854775807) :
    Calls Try.prog 48 #[.int .i64 a, .int .i64 b, .int .i64 c] w fun e w' => (∃ p : Int, e = .returned (.tuple #[.int .i64 (1 + a % 25), .int .i64 (1 + b % 4), .int .i64 p]) ∧ 1 ≤ p ∧ p ≤ 65536) ∧ w = w' := by
  have M1 := Lib.hid (fun W => Mod_any c 40 W hc (by omega) (by omega))
  have M2 := Lib.hid (fun W => Mod_any c 4 W hc (by omega) (by omega))
  have M3 := Lib.hid (fun W => Mod_any a 25 W ha (by omega) (by omega))
  have M4 := Lib.hid (fun W => Int_any b 4 W hb (by omega) (by omega))
  have b1 : 0 ≤ c % 40 ∧ c % 40 < 40 := ⟨Int.emod_nonneg _ (by omega), Int.emod_lt_of_pos _ (by omega)⟩
  have b3 : 0 ≤ a % 25 ∧ a % 25 < 25 := ⟨Int.emod_nonneg _ (by omega), Int.emod_lt_of_pos _ (by omega)⟩
  have b4 : 0 ≤ b % 4 ∧ b % 4 < 4 := ⟨Int.emod_nonneg _ (by omega), Int.emod_lt_of_pos _ (by omega)⟩
  obtain ⟨b1, b1'⟩ := b1
  obtain ⟨b3, b3'⟩ := b3
  obtain ⟨b4, b4'⟩ := b4
  clear ha hb hc
  generalize c % 40 = x1 at *
  generalize c % 4 = x2 at *
  generalize a % 25 = x3 at *
  generalize b % 4 = x4 at *
  have w1 : IntKind.i64.wrap (1 + x1) = 1 + x1 := IntWalk.i64_in _ (by omega)
  have w3 : IntKind.i64.wrap (1 + x3) = 1 + x3 := IntWalk.i64_in _ (by omega)
  have w4 : IntKind.i64.wrap (1 + x4) = 1 + x4 := IntWalk.i64_in _ (by omega)
  by_cases h0 : x2 = 0
  · have q0 : (x2 == 0) = true := by simpa using h0
    clear h0
    go_enter Try.func48, Try.ntmps48
    go_wp2_with fail
    (with_reducible refine (M1.out _).mono ?_)
    rintro e w1 ⟨rfl, rfl⟩
    go_wp2_with fail
    (with_reducible refine (M2.out _).mono ?_)
    rintro e w1 ⟨rfl, rfl⟩
    go_wp2_with fail
    (with_reducible refine (M3.out _).mono ?_)
    rintro e w1 ⟨rfl, rfl⟩
    go_wp2_with fail
    (with_reducible refine (M4.out _).mono ?_)
    rintro e w1 ⟨rfl, rfl⟩
    go_wp2
    go_ret3
    exact ⟨⟨_, rfl, by omega, by omega⟩, rfl⟩
  · have q0 : (x2 == 0) = false := by simpa using h0
    by_cases h1 : x2 = 1
    · have q1 : (x2 == 1) = true := by simpa using h1
      clear h0 h1
      go_enter Try.func48, Try.ntmps48
      go_wp2_with fail
      (with_reducible refine (M1.out _).mono ?_)
      rintro e w1 ⟨rfl, rfl⟩
      go_wp2_with fail
      (with_reducible refine (M2.out _).mono ?_)
      rintro e w1 ⟨rfl, rfl⟩
      go_wp2_with fail
      (with_reducible refine (M3.out _).mono ?_)
      rintro e w1 ⟨rfl, rfl⟩
      go_wp2_with fail
      (with_reducible refine (M4.out _).mono ?_)
      rintro e w1 ⟨rfl, rfl⟩
      go_wp2
      go_ret3
      exact ⟨⟨_, rfl, by omega, by omega⟩, rfl⟩
    · have q1 : (x2 == 1) = false := by simpa using h1
      clear h0 h1
      go_enter Try.func48, Try.ntmps48
      go_wp2_with fail
      (with_reducible refine (M1.out _).mono ?_)
      rintro e w1 ⟨rfl, rfl⟩
      go_wp2_with fail
      (with_reducible refine (M2.out _).mono ?_)
      rintro e w1 ⟨rfl, rfl⟩
      go_wp2_with fail
      (with_reducible refine (M3.out _).mono ?_)
      rintro e w1 ⟨rfl, rfl⟩
      go_wp2_with fail
      (with_reducible refine (M4.out _).mono ?_)
      rintro e w1 ⟨rfl, rfl⟩
      go_wp2
      go_ret3
      exact ⟨⟨_, rfl, by omega, by omega⟩, rfl⟩
end Go.Proofs.Ytofgjcfiinmimaa.made
