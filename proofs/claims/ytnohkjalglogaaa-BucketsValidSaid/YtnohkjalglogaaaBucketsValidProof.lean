/- For every input the law BucketsValid returns true, and each argument reads afterwards as it read before; no conditions. -/
import Derived.Test.YtnohkjalglogaaaRows
import Derived.Test.YtnohkjalglogaaaOpen
import Derived.Test.YtnohkjalglogaaaValidR
import Derived.Test.YtnohkjalglogaaaFew
import Derived.WalkKit
import Derived.ProofKit
import Derived.OpenShut
import Derived.ShutString
namespace Go.Proofs.Ytnohkjalglogaaa.bucketsValid
open Go.ChangeShapes Go.WideShapes Go.ChangeAt Go.RowKit
open Go.ChangeMaps (open_string shut_string)
set_option linter.unusedVariables false

theorem own : ownKnob Try.prog.godebug = none := by kernel_rfl
theorem laidOut : laidOutB Try.prog = true := by kernel_rfl

set_option maxHeartbeats 4000000 in
theorem walk (A0 : Option Addr) (n0 c0 : Nat) (z0 : List (Int × Int)) (a1 : Int) (w : World) (iw0 : mem.PRead w w.heap.size A0 n0 z0) (e0 : n0 ≤ c0) (m0 : c0 ≤ maxLen) (r0 : ∀ p ∈ z0, opn.Rng p.1 ∧ opn.Rng p.2) (iw1 : opn.Rng a1) :
    Calls Try.prog 5 #[.slice A0 n0 c0, .int .i64 a1] w fun e w' => e = .returned (.bool true) ∧ Below w.heap.size w w' := by
  have hF := Lib.hid (lst.few_any A0 n0 c0 w (Nat.le_trans e0 m0))
  by_cases hs : n0 ≤ 300
  · rw [decide_eq_true hs] at hF
    have h1 := Lib.hid (fun W (hb : Below w.heap.size w W) => lst.Valid_any A0 n0 c0 z0 a1 W ((iw0.below hb).more hb.size) (by omega))
    have h2 := Lib.hid (fun W (hb : Below w.heap.size w W) => lst.ValidRef_any A0 n0 c0 z0 a1 W ((iw0.below hb).more hb.size) (by omega))
    have h3 := Lib.hid (fun W (hb : Below w.heap.size w W) => lst.Total_any A0 n0 c0 z0 W ((iw0.below hb).more hb.size) (by omega))
    have h4 := Lib.hid (fun W (hb : Below w.heap.size w W) => lst.TotalRef_any A0 n0 c0 z0 W ((iw0.below hb).more hb.size) (by omega))
    clear iw0
    generalize buk.validB z0 a1 = b at *
    generalize lst.totalN z0 = t at *
    go_enter Try.func5, Try.ntmps5
    go_wp2_with (first | (go_at_call 12; refine hF.out.mono ?_; rintro e w' ⟨rfl, rfl⟩) | (go_at_call 22; refine (h1.out _ (Below.refl _ _)).mono ?_; rintro e w1 ⟨rfl, hb1⟩; have B1 := Lib.hid hb1; clear hb1) | (go_at_call 23; refine (h2.out _ B1.out).mono ?_; rintro e w2 ⟨rfl, hb2⟩; have B2 := Lib.hid (B1.out.trans (hb2.mono B1.out.size)); clear hb2) | (go_at_call 24; refine (h3.out _ B2.out).mono ?_; rintro e w3 ⟨rfl, hb3⟩; have B3 := Lib.hid (B2.out.trans (hb3.mono B2.out.size)); clear hb3) | (go_at_call 25; refine (h4.out _ B3.out).mono ?_; rintro e w4 ⟨rfl, hb4⟩; have B4 := Lib.hid (B3.out.trans (hb4.mono B3.out.size)); clear hb4) | (go_at_call 13; refine (lst.awake_any _).mono ?_; rintro e w5 ⟨rfl, hb5⟩))
    all_goals go_ret
    all_goals exact ⟨rfl, B4.out.trans (hb5.mono B4.out.size)⟩
  · rw [decide_eq_false hs] at hF
    go_enter Try.func5, Try.ntmps5
    go_wp2_with (first | (go_at_call 12; refine hF.out.mono ?_; rintro e w' ⟨rfl, rfl⟩) | (go_at_call 13; refine (lst.awake_any _).mono ?_; rintro e w4 ⟨rfl, hb4⟩))
    go_ret
    exact ⟨rfl, hb4⟩

set_option maxRecDepth 100000 in
theorem lifted (os : Os) (started : os.Started) (H : Type) (enc : TypeId × Value → H) :
    ReturnsInHanded {} Try.checked os 5 .any (Rows.bucketsValidSpec.pre6 enc Try.prog Try.f5 Rows.bucketsValidRow.domain false) (Rows.bucketsValidSpec.post enc Try.prog Try.f5 false true false false) := by
  refine returnsInHanded_of_change (C := Try.checked) own started (by kernel_rfl) Try.func5
    (ChangeSpec.witness6 (enc := enc) (C := Try.checked) false ⟨#[], #[.slice none 0 0, .int .i64 0], []⟩ 8 (by kernel_rfl) (by kernel_rfl) (by kernel_rfl) (by kernel_rfl)) ?_
  intro W base args ds gs before hval0 hW hcnd _
  have hval : ∀ (j : Nat) t v, Try.f5.params[j]? = some t → args[j]? = some v → Value.okWide Try.prog W .any base t v := hval0
  have hW' := hW
  obtain ⟨p, q, hA0, hV, rfl, hfz, hnd⟩ := hW
  have hA : DataW.TrodAll enc Try.prog W 0 (fun _ => true) true Try.f5.params.toList args.toList ds p := hA0
  rw [Try.params5] at hA hval
  obtain ⟨v0, vs0, d0, ds0, p0, q0, hargs, rfl, rfl, h0, r00⟩ := trodAll_cons hA
  obtain ⟨v1, vs1, d1, ds1, p1, q1, rfl, rfl, rfl, h1, r01⟩ := trodAll_cons r00
  obtain ⟨rfl, rfl, rfl⟩ := trodAll_nil r01
  obtain rfl : args = #[v0, v1] := by cases args; simp_all
  obtain ⟨rfl, rfl⟩ := trodVars_none hV
  have k0 := h0
  have lt0 : ∀ x ∈ p0, x.block < W.heap.size := by obtain ⟨m, hm⟩ := k0; exact DataW.trod_lt m _ _ _ hm
  obtain ⟨A0, n0, c0, rfl⟩ := okWide_slice Try.underlying22 (hval 0 22 v0 rfl rfl)
  obtain ⟨z0, w0, e0, m0, r0⟩ : ∃ z, mem.PRead W W.heap.size A0 n0 z ∧ n0 ≤ c0 ∧ c0 ≤ maxLen ∧ ∀ p ∈ z, opn.Rng p.1 ∧ opn.Rng p.2 := by
    obtain ⟨fuel, hf⟩ := h0
    obtain ⟨A, m, c, xs, hcs, q1, q2, q3, q4⟩ := opn.open_pairs Try.underlying22 Try.underlying45 (by kernel_rfl) (by kernel_rfl) Try.underlying2 Try.underlying3 hf
    simp [Value.cells] at hcs
    obtain ⟨rfl, rfl, rfl⟩ := hcs
    exact ⟨xs, q3, q1, q2, q4⟩
  obtain ⟨a1, rfl, rfl, rfl, w1⟩ := open_int Try.underlying3 (hval 1 3 v1 rfl rfl) h1
  clear hA0 hval0
  simp only [List.append_nil] at hW'
  refine (walk A0 n0 c0 z0 a1 W w0 e0 m0 r0 (bounds_i64 w1)).mono fun e W' ⟨he, bel⟩ => ?_
  subst he
  exact ⟨_, rfl, _, _, _, [], _, [], hW', trodAll_mk1 (shut_bool Try.underlying4 _), (trodAll_cons_mk (Below.trod laidOut (by kernel_rfl) (of_decide_eq_true (by kernel_rfl)) k0 bel lt0) (trodAll_cons_mk (shut_int Try.underlying3 w1) trodAll_mk0)), rfl, bel.frame _, fun h => by cases h⟩

theorem over : Rows.bucketsValidRow.holds Try.pinned (OpenSpec.ofChange Rows.bucketsValidSpec) :=
  OpenClaim.holds_of_wide 5 Try.f5 rfl rfl rfl rfl rfl rfl rfl ⟨rfl, rfl, rfl, rfl, rfl⟩ rfl rfl rfl rfl rfl (by kernel_rfl) Try.func5 (by kernel_rfl)
    (of_decide_eq_true (by kernel_rfl)) (by unfold Func.isWrapper; first | (rw [if_pos (by decide +kernel)]; kernel_rfl) | (rw [if_neg (by decide +kernel)]; exact ⟨rfl, rfl⟩))
    (fun os started H enc _ => lifted os started H enc)

/-- The statement. -/
theorem proved : Rows.BucketsValidSaid := over
#print axioms proved
end Go.Proofs.Ytnohkjalglogaaa.bucketsValid
