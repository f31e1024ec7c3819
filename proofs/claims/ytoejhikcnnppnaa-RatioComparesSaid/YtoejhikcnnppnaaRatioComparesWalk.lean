/- The walk of the law RatioCompares: it returns true and leaves what was there. -/
import Derived.Test.YtoejhikcnnppnaaRows
import Derived.Test.YtoejhikcnnppnaaOpen
import Derived.Test.YtoejhikcnnppnaaRatL
import Derived.Test.YtoejhikcnnppnaaOpenR
import Derived.WalkKit
import Derived.ProofKit
import Derived.OpenShut
import Derived.ShutString
namespace Go.Proofs.Ytoejhikcnnppnaa.ratioCompares
open Go.ChangeShapes Go.WideShapes Go.ChangeAt Go.RowKit
open Go.ChangeMaps (open_string shut_string)
set_option linter.unusedVariables false

set_option maxHeartbeats 4000000 in
theorem walk (a0 b0 : Int) (a1 b1 : Int) (w : World) (iw0 : opn.Rng a0 ∧ opn.Rng b0) (iw1 : opn.Rng a1 ∧ opn.Rng b1) :
    Calls Try.prog 7 #[.agg #[.int .i64 a0, .int .i64 b0], .agg #[.int .i64 a1, .int .i64 b1]] w fun e w' => e = .returned (.bool true) ∧ Below w.heap.size w w' := by
  have h1 := Lib.hid (fun W => wid.CompareQ_any a0 b0 a1 b1 iw0.1 iw0.2 iw1.1 iw1.2 W)
  have h2 := Lib.hid (fun W => wid.CompareQR_any a0 b0 a1 b1 iw0.1 iw0.2 iw1.1 iw1.2 W)
  have h4 := fun W => wid.CompareQ_any a1 b1 a0 b0 iw1.1 iw1.2 iw0.1 iw0.2 W
  have h3 := Lib.hid (fun W => wid.awake3_any W)
  rw [wid.cmpQ_anti] at h4
  have h4 := Lib.hid h4
  have hb := wid.cmpQ_bd a0 b0 a1 b1
  clear iw0 iw1
  generalize wid.cmpQ a0 b0 a1 b1 = v at *
  go_enter Try.func7, Try.ntmps7
  go_wp2_with fail
  obtain ⟨W0, hW, hs0, K0, B0⟩ := gro.start2 w 23 23 #[Value.int IntKind.i64 a0, Value.int IntKind.i64 b0] #[Value.int IntKind.i64 a1, Value.int IntKind.i64 b1]
  rw [hW]
  clear hW
  have R := K0.rules
  simp only [gro.Rules] at R
  have hn : IntKind.i64.wrap (-v) = -v := IntWalk.i64_in _ (by omega)
  (refine gro.wp_region_grown (by kernel_rfl) (by kernel_rfl) ?_; (repeat (go_big_quiet_step ((first | (go_at_call 34; first | (with_reducible exact gro.call_grown (h1.out _)) | (with_reducible exact gro.call_grown (h4.out _))) | (go_at_call 35; exact gro.call_grown (h2.out _)) | (go_at_call 21; exact gro.call_grown (h3.out _)))))); refine wpQuiet_nil ?_; intro _ hw'; obtain ⟨nx, hw''⟩ := hw'; subst hw'')
  have B1 := Lib.hid (B0.trans ((gro.below_grown W0 nx).mono (by omega)))
  clear R K0 B0
  go_wp2
  go_ret
  exact ⟨rfl, B1.out⟩
end Go.Proofs.Ytoejhikcnnppnaa.ratioCompares
