/- For every input the law BucketsExpire returns true, and each argument reads afterwards as it read before; no conditions. -/
import Derived.Test.YtnohkjalglogaaaRows
import Derived.Test.YtnohkjalglogaaaOpen
import Derived.Test.YtnohkjalglogaaaExpire
import Derived.Test.YtnohkjalglogaaaCanon
import Derived.Test.YtnohkjalglogaaaFew
import Derived.WalkKit
import Derived.ProofKit
import Derived.OpenShut
import Derived.ShutString
namespace Go.Proofs.Ytnohkjalglogaaa.bucketsExpire
open Go.ChangeShapes Go.WideShapes Go.ChangeAt Go.RowKit
open Go.ChangeMaps (open_string shut_string)
set_option linter.unusedVariables false

theorem own : ownKnob Try.prog.godebug = none := by kernel_rfl
theorem laidOut : laidOutB Try.prog = true := by kernel_rfl

set_option maxHeartbeats 4000000 in
theorem walk (A0 : Option Addr) (n0 c0 : Nat) (z0 : List (Int × Int)) (a1 : Int) (w : World) (iw0 : mem.PRead w w.heap.size A0 n0 z0) (e0 : n0 ≤ c0) (m0 : c0 ≤ maxLen) (r0 : ∀ p ∈ z0, opn.Rng p.1 ∧ opn.Rng p.2) (iw1 : opn.Rng a1) :
    Calls Try.prog 3 #[.slice A0 n0 c0, .int .i64 a1] w fun e w' => e = .returned (.bool true) ∧ Below w.heap.size w w' := by
  have hF := Lib.hid (lst.few_any A0 n0 c0 w (Nat.le_trans e0 m0))
  by_cases hs : n0 ≤ 300
  · rw [decide_eq_true hs] at hF
    have hE := Lib.hid (lst.Expire_any A0 n0 c0 z0 a1 w iw0 e0 m0 (by omega))
    have hR := Lib.hid (fun W (hb : Below w.heap.size w W) => lst.ExpireRef_any A0 n0 c0 z0 a1 W w.heap.size (iw0.below hb) e0 m0)
    have hl := Lib.hid iw0.len
    clear iw0
    go_enter Try.func3, Try.ntmps3
    go_wp2_with (first | (go_at_call 12; refine hF.out.mono ?_; rintro e w' ⟨rfl, rfl⟩) | (go_at_call 15; refine hE.out.mono ?_; rintro e w1 ⟨A1, m1, c1, rfl, g1, g2, hr1, hb1⟩; have HR1 := Lib.hid hr1; clear hr1) | (go_at_call 16; refine (hR.out _ hb1).mono ?_; rintro e w2 ⟨A2, m2, c2, rfl, g3, g4, hr2, rfl⟩; have HR2 := Lib.hid hr2; clear hr2))
    have hm1 : m1 ≤ 300 := by
      have h1 := HR1.out.len
      have h2 := lst.expireL_le a1 z0
      have h3 := hl.out
      omega
    have HS := Lib.hid (lst.Same_any A1 A2 m1 c1 m2 c2 _ _ w1 w1.heap.size HR1.out (HR2.out.more hb1.size) (by omega))
    rw [decide_eq_true rfl] at HS
    go_wp2_with (first | (go_at_call 14; refine HS.out.mono ?_; rintro e w3 ⟨rfl, q, rfl⟩) | (go_at_call 13; refine (lst.awake_any _).mono ?_; rintro e w4 ⟨rfl, hb4⟩))
    go_ret
    exact ⟨rfl, (mem.below_drewN hb1 q).trans (hb4.mono hb1.size)⟩
  · rw [decide_eq_false hs] at hF
    go_enter Try.func3, Try.ntmps3
    go_wp2_with (first | (go_at_call 12; refine hF.out.mono ?_; rintro e w' ⟨rfl, rfl⟩) | (go_at_call 13; refine (lst.awake_any _).mono ?_; rintro e w4 ⟨rfl, hb4⟩))
    go_ret
    exact ⟨rfl, hb4⟩

set_option maxRecDepth 100000 in
theorem lifted (os : Os) (started : os.Started) (H : Type) (enc : TypeId × Value → H) :
    ReturnsInHanded {} Try.checked os 3 .any (Rows.bucketsExpireSpec.pre6 enc Try.prog Try.f3 Rows.bucketsExpireRow.domain false) (Rows.bucketsExpireSpec.post enc Try.prog Try.f3 false true false false) := by
  refine returnsInHanded_of_change (C := Try.checked) own started (by kernel_rfl) Try.func3
    (ChangeSpec.witness6 (enc := enc) (C := Try.checked) false ⟨#[], #[.slice none 0 0, .int .i64 0], []⟩ 8 (by kernel_rfl) (by kernel_rfl) (by kernel_rfl) (by kernel_rfl)) ?_
  intro W base args ds gs before hval0 hW hcnd _
  have hval : ∀ (j : Nat) t v, Try.f3.params[j]? = some t → args[j]? = some v → Value.okWide Try.prog W .any base t v := hval0
  have hW' := hW
  obtain ⟨p, q, hA0, hV, rfl, hfz, hnd⟩ := hW
  have hA : DataW.TrodAll enc Try.prog W 0 (fun _ => true) true Try.f3.params.toList args.toList ds p := hA0
  rw [Try.params3] at hA hval
  obtain ⟨v0, vs0, d0, ds0, p0, q0, hargs, rfl, rfl, h0, r00⟩ := trodAll_cons hA
  obtain ⟨v1, vs1, d1, ds1, p1, q1, rfl, rfl, rfl, h1, r01⟩ := trodAll_cons r00
  obtain ⟨rfl, rfl, rfl⟩ := trodAll_nil r01
  obtain rfl : args = #[v0, v1] := by cases args; simp_all
  obtain ⟨rfl, rfl⟩ := trodVars_none hV
  have k0 := h0
  have lt0 : ∀ x ∈ p0, x.block < W.heap.size := by obtain ⟨m, hm⟩ := k0; exact DataW.trod_lt m _ _ _ hm
  obtain ⟨A0, n0, c0, rfl⟩ := okWide_slice Try.underlying22 (hval 0 22 v0 rfl rfl)
  obtain ⟨z0, w0, e0, m0, r0⟩ : ∃ z, mem.PRead W W.heap.size A0 n0 z ∧ n0 ≤ c0 ∧ c0 ≤ maxLen ∧ ∀ p ∈ z, opn.Rng p.1 ∧ opn.Rng p.2 := by
    obtain ⟨fuel, hf⟩ := h0
    obtain ⟨A, m, c, xs, hcs, q1, q2, q3, q4⟩ := opn.open_pairs Try.underlying22 Try.underlying45 (by kernel_rfl) (by kernel_rfl) Try.underlying2 Try.underlying3 hf
    simp [Value.cells] at hcs
    obtain ⟨rfl, rfl, rfl⟩ := hcs
    exact ⟨xs, q3, q1, q2, q4⟩
  obtain ⟨a1, rfl, rfl, rfl, w1⟩ := open_int Try.underlying2 (hval 1 2 v1 rfl rfl) h1
  clear hA0 hval0
  simp only [List.append_nil] at hW'
  refine (walk A0 n0 c0 z0 a1 W w0 e0 m0 r0 (bounds_i64 w1)).mono fun e W' ⟨he, bel⟩ => ?_
  subst he
  exact ⟨_, rfl, _, _, _, [], _, [], hW', trodAll_mk1 (shut_bool Try.underlying4 _), (trodAll_cons_mk (Below.trod laidOut (by kernel_rfl) (of_decide_eq_true (by kernel_rfl)) k0 bel lt0) (trodAll_cons_mk (shut_int Try.underlying2 w1) trodAll_mk0)), rfl, bel.frame _, fun h => by cases h⟩

theorem over : Rows.bucketsExpireRow.holds Try.pinned (OpenSpec.ofChange Rows.bucketsExpireSpec) :=
  OpenClaim.holds_of_wide 3 Try.f3 rfl rfl rfl rfl rfl rfl rfl ⟨rfl, rfl, rfl, rfl, rfl⟩ rfl rfl rfl rfl rfl (by kernel_rfl) Try.func3 (by kernel_rfl)
    (of_decide_eq_true (by kernel_rfl)) (by unfold Func.isWrapper; first | (rw [if_pos (by decide +kernel)]; kernel_rfl) | (rw [if_neg (by decide +kernel)]; exact ⟨rfl, rfl⟩))
    (fun os started H enc _ => lifted os started H enc)

/-- The statement. -/
theorem proved : Rows.BucketsExpireSaid := over
#print axioms proved
end Go.Proofs.Ytnohkjalglogaaa.bucketsExpire
