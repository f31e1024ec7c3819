/- The walk of the law BlocksValid: it returns true and leaves what was there. -/
import Derived.Test.YtjapjfcennemeaaRows
import Derived.Test.YtjapjfcennemeaaMgTri
import Derived.Test.YtjapjfcennemeaaMgBLaw
import Derived.Test.YtjapjfcennemeaaBExp
import Derived.Test.YtjapjfcennemeaaMgExpire
import Derived.Test.YtjapjfcennemeaaOpenK
import Derived.WalkKit
import Derived.ProofKit
import Derived.OpenShut
import Derived.ShutString
namespace Go.Proofs.Ytjapjfcennemeaa.blocksValid
open Go.ChangeShapes Go.WideShapes Go.ChangeAt Go.RowKit
open Go.ChangeMaps (open_string shut_string)
set_option linter.unusedVariables false

set_option maxHeartbeats 4000000 in
theorem walk (A0 : Option Addr) (n0 c0 : Nat) (z0 : List mem.BlkM) (a1 : Int) (a2 : Int) (a3 : Int) (w : World) (iw0 : mem.BRead w w.heap.size A0 n0 z0) (e0 : n0 ≤ c0) (m0 : c0 ≤ maxLen) (iw1 : opn.Rng a1) (iw2 : opn.Rng a2) (iw3 : opn.Rng a3) :
    Calls Try.prog 3 #[.slice A0 n0 c0, .int .i64 a1, .int .i64 a2, .int .i64 a3] w fun e w' => e = .returned (.bool true) ∧ Below w.heap.size w w' := by
  have hF := Lib.hid (blk.few22_any A0 n0 c0 z0 w iw0 (Nat.le_trans e0 m0))
  have HA := Lib.hid (fun W => blk.awake22_any W)
  have H0 := Lib.hid iw0
  clear iw0
  go_enter Try.func3, Try.ntmps3
  go_wp2_with fail
  refine hF.out.mono ?_
  rintro e w0 ⟨f, rfl, hf40, hb0⟩
  have B0 := Lib.hid hb0
  clear hb0 hF
  cases f with
  | false =>
    go_wp2_with (go_at_call 14; refine (HA.out _).mono ?_; rintro e w4 ⟨rfl, hb4⟩)
    go_ret
    exact ⟨rfl, B0.out.trans (hb4.mono B0.out.size)⟩
  | true =>
    have hn := hf40 rfl
    clear hf40
    have h1 := Lib.hid (fun W => rnk.Allowed_any a3 a2 W)
    have h2 := Lib.hid (fun W => rnk.AllowedR_any a3 a2 W)
    have h3 := Lib.hid (fun W (hb : Below w.heap.size w W) => blk.ValidB_any A0 n0 c0 z0 a1 a2 W ((H0.out.below hb).more hb.size) (by omega))
    have h4 := Lib.hid (fun W (hb : Below w.heap.size w W) => blk.ValidBR_any A0 n0 c0 z0 a1 a2 W ((H0.out.below hb).more hb.size) (by omega))
    have h5 := Lib.hid (fun W (hb : Below w.heap.size w W) => blk.TotalB_any A0 n0 c0 z0 W ((H0.out.below hb).more hb.size) (by omega))
    have h6 := Lib.hid (fun W (hb : Below w.heap.size w W) => blk.TotalBR_any A0 n0 c0 z0 W ((H0.out.below hb).more hb.size) (by omega))
    generalize rnk.allowed a3 a2 = al at *
    generalize rnk.validK (z0.map blk.bkey) a1 a2 = vb at *
    generalize ((rnk.totalK (z0.map blk.bkey) : Nat) : Int) = tt at *
    have E1 : (al == al) = true := by simp
    have E2 : (vb == vb) = true := by simp
    have E3 : (tt == tt) = true := by simp
    go_wp2_with (first | (go_at_call 15; refine (h1.out _).mono ?_; rintro e w' ⟨rfl, rfl⟩) | (go_at_call 16; refine (h2.out _).mono ?_; rintro e w' ⟨rfl, rfl⟩) | (go_at_call 17; refine (h3.out _ B0.out).mono ?_; rintro e w1 ⟨rfl, hb1⟩; have B1 := Lib.hid (B0.out.trans (hb1.mono B0.out.size)); clear hb1) | (go_at_call 18; refine (h4.out _ B1.out).mono ?_; rintro e w2 ⟨rfl, hb2⟩; have B2 := Lib.hid (B1.out.trans (hb2.mono B1.out.size)); clear hb2) | (go_at_call 19; refine (h5.out _ B2.out).mono ?_; rintro e w3 ⟨rfl, hb3⟩; have B3 := Lib.hid (B2.out.trans (hb3.mono B2.out.size)); clear hb3) | (go_at_call 20; refine (h6.out _ B3.out).mono ?_; rintro e w4 ⟨rfl, hb4⟩; have B4 := Lib.hid (B3.out.trans (hb4.mono B3.out.size)); clear hb4) | (go_at_call 14; refine (HA.out _).mono ?_; rintro e w5 ⟨rfl, hb5⟩))
    go_ret
    exact ⟨rfl, B4.out.trans (hb5.mono B4.out.size)⟩
end Go.Proofs.Ytjapjfcennemeaa.blocksValid
