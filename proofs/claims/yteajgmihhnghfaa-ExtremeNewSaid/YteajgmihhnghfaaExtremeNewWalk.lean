/- The walk of the law ExtremeNew: it returns true and leaves what was there. -/
import Derived.Test.YteajgmihhnghfaaRows
import Derived.Test.YteajgmihhnghfaaOpen
import Derived.Test.YteajgmihhnghfaaAwake17
import Derived.WalkKit
import Derived.ProofKit
import Derived.OpenShut
import Derived.ShutString
namespace Go.Proofs.Yteajgmihhnghfaa.extremeNew
open Go.ChangeShapes Go.WideShapes Go.ChangeAt Go.RowKit
open Go.ChangeMaps (open_string shut_string)
set_option linter.unusedVariables false

set_option maxHeartbeats 4000000 in
theorem walk (a0 : Bool) (a1 : Int) (a2 : Int) (a3 : Int) (w : World) (iw1 : opn.Rng a1) (iw2 : opn.Rng a2) (iw3 : opn.Rng a3) :
    Calls Try.prog 3 #[.bool a0, .int .i64 a1, .int .i64 a2, .int .i64 a3] w fun e w' => e = .returned (.bool true) ∧ Below w.heap.size w w' := by
  have h1 := Lib.hid (fun W => ext.New_any a0 a1 a2 a3 W)
  have h2 := Lib.hid (fun W => ext.NewR_any a0 a1 a2 a3 W)
  have h5 := Lib.hid (fun W => ext.awake17_any W)
  clear iw1 iw2 iw3
  generalize ext.mayB a1 a2 a3 = g at *
  generalize ext.kb g a0 = m at *
  generalize ext.kp g a1 = v at *
  generalize ext.kp g a2 = p at *
  generalize ext.kp g a3 = o at *
  generalize ext.er1 g = er at *
  have h3 := Lib.hid (fun W => ext.Same_none m v p o W)
  go_enter Try.func3, Try.ntmps3
  go_wp2_with fail
  (with_reducible refine (h1.out _).mono ?_)
  rintro e w1 ⟨rfl, hb1⟩
  obtain ⟨s1, hs1⟩ : ∃ s, w1.heap.size = s := ⟨_, rfl⟩
  go_wp2_with fail
  obtain ⟨W1, hW, K1, B1, z1⟩ := gro.name_world (gro.Bx.nil_.new (W := w1) (t := 24) (c := #[Value.bool m, Value.int IntKind.i64 v, Value.int IntKind.i64 p, Value.int IntKind.i64 o, Value.slice none 0 0]) hs1) (hb1.alloc hb1.size _) (s := 0) (by omega)
  rw [hW]
  clear hW hb1 hs1
  have KK := Lib.hid K1
  have BB := Lib.hid B1
  have R := K1.rules
  simp only [gro.Rules] at R
  clear K1 B1
  (with_reducible refine (h2.out _).mono ?_)
  rintro e wv ⟨rfl, hbv⟩; replace BB := Lib.hid (BB.out.trans (hbv.mono BB.out.size)); replace KK := Lib.hid (KK.out.below hbv); replace R := KK.out.rules; simp only [gro.Rules] at R; clear hbv
  obtain ⟨s5, hs5⟩ : ∃ s, wv.heap.size = s := ⟨_, rfl⟩
  replace KK := Lib.hid (KK.out.new (t := 24) (c := #[Value.bool m, Value.int IntKind.i64 v, Value.int IntKind.i64 p, Value.int IntKind.i64 o, Value.slice none 0 0]) hs5)
  replace BB := Lib.hid (BB.out.alloc BB.out.size (.cells #[Value.bool m, Value.int IntKind.i64 v, Value.int IntKind.i64 p, Value.int IntKind.i64 o, Value.slice none 0 0] 24))
  replace R := KK.out.rules
  simp only [gro.Rules] at R
  go_wp2_with fail
  (with_reducible refine (h3.out _).mono ?_)
  rintro e wv ⟨rfl, hbv⟩; replace BB := Lib.hid (BB.out.trans (hbv.mono BB.out.size)); replace KK := Lib.hid (KK.out.below hbv); replace R := KK.out.rules; simp only [gro.Rules] at R; clear hbv
  go_wp2_with fail
  (with_reducible refine (h5.out _).mono ?_)
  rintro e wv ⟨rfl, hbv⟩; replace BB := Lib.hid (BB.out.trans (hbv.mono BB.out.size)); replace KK := Lib.hid (KK.out.below hbv); replace R := KK.out.rules; simp only [gro.Rules] at R; clear hbv
  go_wp2
  go_ret
  exact ⟨rfl, BB.out⟩
end Go.Proofs.Yteajgmihhnghfaa.extremeNew
