/- The walk of the law BucketsInsertMany: it returns true and leaves what was there. -/
import Derived.Test.YtnohkjalglogaaaRows
import Derived.Test.YtnohkjalglogaaaOpen
import Derived.Test.YtnohkjalglogaaaRMany
import Derived.Test.YtnohkjalglogaaaFew
import Derived.WalkKit
import Derived.ProofKit
import Derived.OpenShut
import Derived.ShutString
namespace Go.Proofs.Ytnohkjalglogaaa.bucketsInsertMany
open Go.ChangeShapes Go.WideShapes Go.ChangeAt Go.RowKit
open Go.ChangeMaps (open_string shut_string)
set_option linter.unusedVariables false

set_option maxHeartbeats 4000000 in
theorem walk (A0 : Option Addr) (n0 c0 : Nat) (z0 : List (Int × Int)) (a1 : Int) (a2 : Int) (a3 : Int) (w : World) (iw0 : mem.PRead w w.heap.size A0 n0 z0) (e0 : n0 ≤ c0) (m0 : c0 ≤ maxLen) (r0 : ∀ p ∈ z0, opn.Rng p.1 ∧ opn.Rng p.2) (iw1 : opn.Rng a1) (iw2 : opn.Rng a2) (iw3 : opn.Rng a3) :
    Calls Try.prog 7 #[.slice A0 n0 c0, .int .i64 a1, .int .i64 a2, .int .i64 a3] w fun e w' => e = .returned (.bool true) ∧ Below w.heap.size w w' := by
  have hF := Lib.hid (lst.few_any A0 n0 c0 w (Nat.le_trans e0 m0))
  by_cases hs : n0 ≤ 300
  · rw [decide_eq_true hs] at hF
    have h1 := Lib.hid (lst.InsertMany_any A0 n0 c0 z0 a1 a2 a3 w iw0 (by omega))
    have h2 := Lib.hid (fun W (hb : Below w.heap.size w W) => lst.InsertManyRef_any A0 n0 c0 z0 a1 a2 a3 W ((iw0.below hb).more hb.size) e0 m0 (by omega) iw3)
    have hl := lst.insM_length z0 a1 a2 a3
    rw [iw0.len] at hl
    clear iw0
    generalize lst.insM z0 a1 a2 a3 = ys at *
    go_enter Try.func7, Try.ntmps7
    go_wp2_with (first | (go_at_call 12; refine hF.out.mono ?_; rintro e w' ⟨rfl, rfl⟩) | (go_at_call 28; refine h1.out.mono ?_; rintro e w1 ⟨A1, m1, c1, rfl, g1, g2, hr1, hb1⟩; have B1 := Lib.hid hb1; have R1 := Lib.hid hr1; clear hb1 hr1) | (go_at_call 29; refine (h2.out _ B1.out).mono ?_; rintro e w2 ⟨A2, m2, c2, rfl, g3, g4, hr2, hb2⟩; have B2 := Lib.hid (B1.out.trans (hb2.mono B1.out.size)); have R2 := Lib.hid hr2; have R1 := Lib.hid ((R1.out.below hb2).more hb2.size); clear hb2 hr2))
    have hm1 : m1 ≤ 1400 := by have := mem.PRead.len (xs := ys) R1.out; omega
    have HS := Lib.hid (lst.Same_any A1 A2 m1 c1 m2 c2 ys ys w2 w2.heap.size R1.out R2.out (by omega))
    rw [decide_eq_true rfl] at HS
    go_wp2_with (first | (go_at_call 14; refine HS.out.mono ?_; rintro e w3 ⟨rfl, q, rfl⟩) | (go_at_call 13; refine (lst.awake_any _).mono ?_; rintro e w4 ⟨rfl, hb4⟩))
    go_ret
    exact ⟨rfl, (mem.below_drewN B2.out q).trans (hb4.mono B2.out.size)⟩
  · rw [decide_eq_false hs] at hF
    go_enter Try.func7, Try.ntmps7
    go_wp2_with (first | (go_at_call 12; refine hF.out.mono ?_; rintro e w' ⟨rfl, rfl⟩) | (go_at_call 13; refine (lst.awake_any _).mono ?_; rintro e w4 ⟨rfl, hb4⟩))
    go_ret
    exact ⟨rfl, hb4⟩
end Go.Proofs.Ytnohkjalglogaaa.bucketsInsertMany
