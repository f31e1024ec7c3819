/- The walk of the law BlocksExpire: it returns true and leaves what was there. -/
import Derived.Test.YtjapjfcennemeaaRows
import Derived.Test.YtjapjfcennemeaaMgTri
import Derived.Test.YtjapjfcennemeaaMgBLaw
import Derived.Test.YtjapjfcennemeaaBExp
import Derived.Test.YtjapjfcennemeaaMgExpire
import Derived.Test.YtjapjfcennemeaaOpenK
import Derived.WalkKit
import Derived.ProofKit
import Derived.OpenShut
import Derived.ShutString
namespace Go.Proofs.Ytjapjfcennemeaa.blocksExpire
open Go.ChangeShapes Go.WideShapes Go.ChangeAt Go.RowKit
open Go.ChangeMaps (open_string shut_string)
set_option linter.unusedVariables false

set_option maxHeartbeats 4000000 in
theorem walk (A0 : Option Addr) (n0 c0 : Nat) (z0 : List mem.BlkM) (a1 : Int) (w : World) (iw0 : mem.BRead w w.heap.size A0 n0 z0) (e0 : n0 ≤ c0) (m0 : c0 ≤ maxLen) (iw1 : opn.Rng a1) :
    Calls Try.prog 6 #[.slice A0 n0 c0, .int .i64 a1] w fun e w' => e = .returned (.bool true) ∧ Below w.heap.size w w' := by
  have hF := Lib.hid (blk.few22_any A0 n0 c0 z0 w iw0 (Nat.le_trans e0 m0))
  have HA := Lib.hid (fun W => blk.awake22_any W)
  have H0 := Lib.hid iw0
  have HL := Lib.hid iw0.len
  clear iw0
  go_enter Try.func6, Try.ntmps6
  go_wp2_with fail
  refine hF.out.mono ?_
  rintro e w0 ⟨f, rfl, hf40, hb0⟩
  have B0 := Lib.hid hb0
  clear hb0 hF
  cases f with
  | false =>
    go_wp2_with (go_at_call 14; refine (HA.out _).mono ?_; rintro e w4 ⟨rfl, hb4⟩)
    go_ret
    exact ⟨rfl, B0.out.trans (hb4.mono B0.out.size)⟩
  | true =>
    have hn := hf40 rfl
    clear hf40
    have h1 := Lib.hid (fun W (hb : Below w.heap.size w W) => blk.Expire_b A0 n0 c0 z0 a1 W ((H0.out.below hb).more hb.size) e0 m0 (by omega))
    have h2 := Lib.hid (fun W (hb : Below w.heap.size w W) => blk.ExpireRef_any A0 n0 c0 z0 a1 W W.heap.size ((H0.out.below hb).more hb.size) e0 m0)
    go_wp2_with fail
    refine (h1.out _ B0.out).mono ?_
    rintro e w1 ⟨A1, m1, c1, rfl, q1, ⟨q2, _⟩, r1, hb1⟩
    have B1 := Lib.hid (B0.out.trans (hb1.mono B0.out.size))
    have R1 := Lib.hid r1
    clear hb1 r1
    go_wp2_with fail
    refine (h2.out _ B1.out).mono ?_
    rintro e w2 ⟨A2, m2, c2, rfl, q3, q4, r2, rfl⟩
    have HS := Lib.hid (blk.SameB_ok A1 A2 m1 c1 m2 c2 _ _ _ R1.out r2 rfl (Nat.le_trans q1 q2))
    clear r2 R1
    go_wp2_with (first | (go_at_call 21; refine HS.out.mono ?_; rintro e w3 ⟨rfl, hb3⟩) | (go_at_call 14; refine (HA.out _).mono ?_; rintro e w4 ⟨rfl, hb4⟩))
    go_ret
    exact ⟨rfl, (B1.out.trans (hb3.mono B1.out.size)).trans (hb4.mono (B1.out.trans (hb3.mono B1.out.size)).size)⟩
end Go.Proofs.Ytjapjfcennemeaa.blocksExpire
