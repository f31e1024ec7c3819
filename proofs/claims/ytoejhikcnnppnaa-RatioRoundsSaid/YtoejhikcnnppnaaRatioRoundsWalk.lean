/- The walk of the law RatioRounds: it returns true and leaves what was there. -/
import Derived.Test.YtoejhikcnnppnaaRows
import Derived.Test.YtoejhikcnnppnaaOpen
import Derived.Test.YtoejhikcnnppnaaRat2
import Derived.Test.YtoejhikcnnppnaaOpenR
import Derived.WalkKit
import Derived.ProofKit
import Derived.OpenShut
import Derived.ShutString
namespace Go.Proofs.Ytoejhikcnnppnaa.ratioRounds
open Go.ChangeShapes Go.WideShapes Go.ChangeAt Go.RowKit
open Go.ChangeMaps (open_string shut_string)
set_option linter.unusedVariables false

set_option maxHeartbeats 4000000 in
theorem walk (a0 b0 : Int) (w : World) (iw0 : opn.Rng a0 ∧ opn.Rng b0) :
    Calls Try.prog 4 #[.agg #[.int .i64 a0, .int .i64 b0]] w fun e w' => e = .returned (.bool true) ∧ Below w.heap.size w w' := by
  have h1 := Lib.hid (fun W => wid.Floor_any a0 b0 iw0.1 iw0.2 W)
  have h2 := Lib.hid (fun W => wid.FloorR_any a0 b0 iw0.1 iw0.2 W)
  have h4 := Lib.hid (fun W => wid.Ceil_any a0 b0 iw0.1 iw0.2 W)
  have h5 := Lib.hid (fun W => wid.CeilR_any a0 b0 iw0.1 iw0.2 W)
  have h3 := Lib.hid (fun W => wid.awake3_any W)
  clear iw0
  generalize wid.floorQ a0 b0 = v at *
  generalize wid.ceilQ a0 b0 = u at *
  go_enter Try.func4, Try.ntmps4
  go_wp2_with fail
  obtain ⟨W0, hW, hs0, K0, B0⟩ := gro.start1 w 23 #[Value.int IntKind.i64 a0, Value.int IntKind.i64 b0]
  rw [hW]
  clear hW
  have R := K0.rules
  simp only [gro.Rules] at R
  (refine gro.wp_region_grown (by kernel_rfl) (by kernel_rfl) ?_; (repeat (go_big_quiet_step ((first | (go_at_call 22; exact gro.call_grown (h1.out _)) | (go_at_call 23; exact gro.call_grown (h2.out _)) | (go_at_call 24; exact gro.call_grown (h4.out _)) | (go_at_call 25; exact gro.call_grown (h5.out _)) | (go_at_call 21; exact gro.call_grown (h3.out _)))))); refine wpQuiet_nil ?_; intro _ hw'; obtain ⟨nx, hw''⟩ := hw'; subst hw'')
  have B1 := Lib.hid (B0.trans ((gro.below_grown W0 nx).mono (by omega)))
  clear R K0 B0
  go_wp2
  go_ret
  exact ⟨rfl, B1.out⟩
end Go.Proofs.Ytoejhikcnnppnaa.ratioRounds
