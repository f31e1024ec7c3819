/- The walk of the law BucketsCanonical: it returns true and leaves what was there. -/
import Derived.Test.YtnohkjalglogaaaRows
import Derived.Test.YtnohkjalglogaaaOpen
import Derived.Test.YtnohkjalglogaaaMost
import Derived.WalkKit
import Derived.ProofKit
import Derived.OpenShut
import Derived.ShutString
namespace Go.Proofs.Ytnohkjalglogaaa.bucketsCanonical
open Go.ChangeShapes Go.WideShapes Go.ChangeAt Go.RowKit
open Go.ChangeMaps (open_string shut_string)
set_option linter.unusedVariables false

set_option maxHeartbeats 4000000 in
theorem walk (a0 : Int) (a1 : Int) (a2 : Int) (w : World) (iw0 : opn.Rng a0) (iw1 : opn.Rng a1) (iw2 : opn.Rng a2) :
    Calls Try.prog 4 #[.int .i64 a0, .int .i64 a1, .int .i64 a2] w fun e w' => e = .returned (.bool true) ∧ Below w.heap.size w w' := by
  have hC := Lib.hid (lst.Canonical_any a0 a1 w)
  have hR := Lib.hid (fun W => lst.CanonicalRef_any a0 a1 W)
  have hM := Lib.hid (fun W => lst.Most_any a1 a2 W iw2.2)
  have hN := Lib.hid (fun W => lst.MostRef_any a1 a2 W iw2.2)
  have hM2 := Lib.hid (fun W => lst.Most_any a1 a0 W iw0.2)
  have hF := Lib.hid (@lst.canon_facts a0 a1)
  generalize lst.canonI a0 a1 = xs at *
  generalize lst.mostI a1 a2 = mo at *
  generalize lst.mostI a1 a0 = mp at *
  go_enter Try.func4, Try.ntmps4
  go_wp2_with (first | (go_at_call 17; refine hC.out.mono ?_; rintro e w1 ⟨A1, m1, c1, rfl, g1, g2, hr1, hb1⟩; have HR1 := Lib.hid hr1; have HB1 := Lib.hid hb1; clear hr1 hb1) | (go_at_call 19; refine (hR.out _).mono ?_; rintro e w2 ⟨A2, m2, c2, rfl, g3, g4, hr2, hb2⟩; have HR2 := Lib.hid hr2; have HB2 := Lib.hid hb2; clear hr2 hb2))
  have l1 := HR1.out.len
  have hm64 : m1 ≤ 64 := by
    rcases Nat.eq_zero_or_pos m1 with h | h
    · omega
    · have := (hF.out (by rw [l1]; exact h)).2.2.1; omega
  have HL := Lib.hid l1
  clear l1 g1 g2 g3 g4
  have HS := Lib.hid (lst.SameInts_any A1 A2 m1 c1 m2 c2 xs xs w2 _ _ (HR1.out.below HB2.out) HR2.out (by omega))
  rw [decide_eq_true rfl] at HS
  have HB := Lib.hid (HB1.out.trans (HB2.out.mono HB1.out.size))
  have HR3 := Lib.hid (HR1.out.below HB2.out)
  clear HR1 HB1 HR2 HB2 hC hR
  go_wp2_with (first | (go_at_call 18; refine HS.out.mono ?_; rintro e w3 ⟨rfl, q, rfl⟩) | (go_at_call 20; refine (hM.out _).mono ?_; rintro e w4 ⟨rfl, rfl⟩) | (go_at_call 21; refine (hN.out _).mono ?_; rintro e w4 ⟨rfl, rfl⟩))
  have HBq : RowKit.Hid (Below w.heap.size w (w2.drewN q)) := mem.below_drewN HB.out q
  have HRq : RowKit.Hid (mem.IRead (w2.drewN q) w1.heap.size A1 m1 xs) := HR3.out
  clear HB HR3 HS hM hN
  generalize w2.drewN q = W at *
  go_loop [8, 9, 32] (fun s8 s9 s => ∃ i : Nat, i ≤ m1 ∧ s = .int .i64 i ∧ s8 = .int .i64 (lst.wsum 0 (xs.take i)) ∧ s9 = .int .i64 (lst.csum (xs.take i))) (fun _ _ s => m1 - (intOf s).toNat)
  case atStart => exact ⟨0, Nat.zero_le _, rfl, rfl, rfl⟩
  case round =>
    obtain ⟨i, hi, rfl, rfl, rfl⟩ := hrel
    by_cases hlt : i < m1
    · obtain ⟨ad, rfl, _, hc1⟩ := HRq.out.at_ hlt
      obtain ⟨_, _, _, _, _, hG⟩ := hF.out (by rw [HL.out]; omega)
      obtain ⟨q1, q2, ⟨q3, q4⟩, ⟨q5, q6⟩, q7, q8⟩ := hG i (by rw [HL.out]; exact hlt)
      have Q1 := Lib.hid (lst.shl_add q1 q2)
      have Q7 := Lib.hid q7
      have Q8 := Lib.hid q8
      clear hG q1 q2 q7 q8
      generalize xs[i]?.getD 0 = c at *
      generalize lst.wsum 0 (xs.take i) = s at *
      generalize lst.csum (xs.take i) = t at *
      go_wp2
      refine ⟨⟨i + 1, by omega, by go_num, by rw [Q1.out, Q7.out], by rw [Q8.out]⟩, by simp [intOf]; omega⟩
    · obtain rfl : i = m1 := by omega
      have hfull : xs.take i = xs := List.take_of_length_le (by rw [HL.out]; exact Nat.le_refl _)
      rw [hfull]
      clear hfull
      by_cases h0 : 0 < i
      · obtain ⟨f1, f2, _, f4, f5, _⟩ := hF.out (by rw [HL.out]; exact h0)
        obtain ⟨m2, rfl⟩ : ∃ m2, i = m2 + 1 := ⟨i - 1, by omega⟩
        rw [f1]
        clear f1
        generalize lst.csum xs = t at *
        go_wp2_with (first | (go_at_call 20; refine (hM2.out _).mono ?_; rintro e w4 ⟨rfl, rfl⟩) | (go_at_call 13; refine (lst.awake_any _).mono ?_; rintro e w5 ⟨rfl, hb5⟩))
        all_goals go_ret
        all_goals exact ⟨rfl, HBq.out.trans (hb5.mono HBq.out.size)⟩
      · obtain rfl : i = 0 := by omega
        generalize lst.csum xs = t at *
        generalize lst.wsum 0 xs = s at *
        go_wp2_with (first | (go_at_call 20; refine (hM2.out _).mono ?_; rintro e w4 ⟨rfl, rfl⟩) | (go_at_call 13; refine (lst.awake_any _).mono ?_; rintro e w5 ⟨rfl, hb5⟩))
        all_goals go_ret
        all_goals exact ⟨rfl, HBq.out.trans (hb5.mono HBq.out.size)⟩
end Go.Proofs.Ytnohkjalglogaaa.bucketsCanonical
