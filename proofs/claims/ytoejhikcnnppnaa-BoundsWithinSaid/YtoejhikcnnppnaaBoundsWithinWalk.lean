/- The walk of the law BoundsWithin: it returns true and leaves what was there. -/
import Derived.Test.YtoejhikcnnppnaaRows
import Derived.Test.YtoejhikcnnppnaaOpen
import Derived.Test.YtoejhikcnnppnaaWithinR
import Derived.Test.YtoejhikcnnppnaaAwake4
import Derived.Test.YtoejhikcnnppnaaOpenB
import Derived.Test.YtoejhikcnnppnaaOpenR
import Derived.WalkKit
import Derived.ProofKit
import Derived.OpenShut
import Derived.ShutString
namespace Go.Proofs.Ytoejhikcnnppnaa.boundsWithin
open Go.ChangeShapes Go.WideShapes Go.ChangeAt Go.RowKit
open Go.ChangeMaps (open_string shut_string)
set_option linter.unusedVariables false

set_option maxHeartbeats 4000000 in
theorem walk (xa0 xb0 xc0 xd0 xe0 xf0 : Int) (a1 : Int) (a2 b2 : Int) (w : World) (iw0 : opn.Rng xa0 ∧ opn.Rng xb0 ∧ opn.Rng xc0 ∧ opn.Rng xd0 ∧ opn.Rng xe0 ∧ opn.Rng xf0) (iw1 : opn.Rng a1) (iw2 : opn.Rng a2 ∧ opn.Rng b2) :
    Calls Try.prog 16 #[.agg #[.int .i64 xa0, .int .i64 xb0, .int .i64 xc0, .int .i64 xd0, .int .i64 xe0, .int .i64 xf0], .int .i64 a1, .agg #[.int .i64 a2, .int .i64 b2]] w fun e w' => e = .returned (.bool true) ∧ Below w.heap.size w w' := by
  obtain ⟨i1, i2, i3, i4, i5, i6⟩ := iw0
  have h1 := Lib.hid (fun W => wid.Within_any xa0 xb0 xc0 xd0 xe0 xf0 a1 a2 b2 i1 i2 i3 i4 i5 i6 iw1 iw2.1 iw2.2 W)
  have h2 := Lib.hid (fun W => wid.WithinR_any xa0 xb0 xc0 xd0 xe0 xf0 a1 a2 b2 i1 i2 i3 i4 i5 i6 iw1 iw2.1 iw2.2 W)
  have h3 := Lib.hid (fun W => wid.awake4_any W)
  clear i1 i2 i3 i4 i5 i6 iw1 iw2
  generalize wid.withB xa0 xb0 xc0 xd0 xe0 xf0 a1 a2 b2 = v at *
  go_enter Try.func16, Try.ntmps16
  go_wp2_with fail
  obtain ⟨W0, hW, hs0, K0, B0⟩ := gro.start2 w 36 23 #[Value.int IntKind.i64 xa0, Value.int IntKind.i64 xb0, Value.int IntKind.i64 xc0, Value.int IntKind.i64 xd0, Value.int IntKind.i64 xe0, Value.int IntKind.i64 xf0] #[Value.int IntKind.i64 a2, Value.int IntKind.i64 b2]
  rw [hW]
  clear hW
  have R := K0.rules
  simp only [gro.Rules] at R
  (refine gro.wp_region_grown (by kernel_rfl) (by kernel_rfl) ?_; (repeat (go_big_quiet_step ((first | (go_at_call 52; exact gro.call_grown (h1.out _)) | (go_at_call 53; exact gro.call_grown (h2.out _)) | (go_at_call 41; exact gro.call_grown (h3.out _)))))); refine wpQuiet_nil ?_; intro _ hw'; obtain ⟨nx, hw''⟩ := hw'; subst hw'')
  have B1 := Lib.hid (B0.trans ((gro.below_grown W0 nx).mono (by omega)))
  clear R K0 B0
  go_wp2
  go_ret
  exact ⟨rfl, B1.out⟩
end Go.Proofs.Ytoejhikcnnppnaa.boundsWithin
