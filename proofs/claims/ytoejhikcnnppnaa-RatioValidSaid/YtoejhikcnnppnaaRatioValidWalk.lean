/- The walk of the law RatioValid: it returns true and leaves what was there. -/
import Derived.Test.YtoejhikcnnppnaaRows
import Derived.Test.YtoejhikcnnppnaaOpen
import Derived.Test.YtoejhikcnnppnaaRat2
import Derived.Test.YtoejhikcnnppnaaOpenR
import Derived.WalkKit
import Derived.ProofKit
import Derived.OpenShut
import Derived.ShutString
namespace Go.Proofs.Ytoejhikcnnppnaa.ratioValid
open Go.ChangeShapes Go.WideShapes Go.ChangeAt Go.RowKit
open Go.ChangeMaps (open_string shut_string)
set_option linter.unusedVariables false

set_option maxHeartbeats 4000000 in
theorem walk (a0 b0 : Int) (w : World) (iw0 : opn.Rng a0 ∧ opn.Rng b0) :
    Calls Try.prog 3 #[.agg #[.int .i64 a0, .int .i64 b0]] w fun e w' => e = .returned (.bool true) ∧ Below w.heap.size w w' := by
  have h1 := Lib.hid (fun W => wid.Valid_any a0 b0 iw0.1 iw0.2 W)
  have h2 := Lib.hid (fun W => wid.ValidR_any a0 b0 iw0.1 iw0.2 W)
  have h3 := Lib.hid (fun W => wid.awake3_any W)
  clear iw0
  generalize wid.validQ a0 b0 = v at *
  go_enter Try.func3, Try.ntmps3
  go_wp2_with fail
  obtain ⟨W0, hW, hs0, K0, B0⟩ := gro.start1 w 23 #[Value.int IntKind.i64 a0, Value.int IntKind.i64 b0]
  rw [hW]
  clear hW
  have R := K0.rules
  simp only [gro.Rules] at R
  (refine gro.wp_region_grown (by kernel_rfl) (by kernel_rfl) ?_; (repeat (go_big_quiet_step ((first | (go_at_call 19; exact gro.call_grown (h1.out _)) | (go_at_call 20; exact gro.call_grown (h2.out _)) | (go_at_call 21; exact gro.call_grown (h3.out _)))))); refine wpQuiet_nil ?_; intro _ hw'; obtain ⟨nx, hw''⟩ := hw'; subst hw'')
  have B1 := Lib.hid (B0.trans ((gro.below_grown W0 nx).mono (by omega)))
  clear R K0 B0
  go_wp2
  go_ret
  exact ⟨rfl, B1.out⟩
end Go.Proofs.Ytoejhikcnnppnaa.ratioValid
