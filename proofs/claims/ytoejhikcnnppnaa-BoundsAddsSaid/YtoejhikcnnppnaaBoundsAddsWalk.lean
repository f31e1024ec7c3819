/- The walk of the law BoundsAdds: it returns true and leaves what was there. -/
import Derived.Test.YtoejhikcnnppnaaRows
import Derived.Test.YtoejhikcnnppnaaOpen
import Derived.Test.YtoejhikcnnppnaaOrdB
import Derived.Test.YtoejhikcnnppnaaAwake4
import Derived.Test.YtoejhikcnnppnaaMakesL
import Derived.Test.YtoejhikcnnppnaaOpenB
import Derived.WalkKit
import Derived.ProofKit
import Derived.OpenShut
import Derived.ShutString
namespace Go.Proofs.Ytoejhikcnnppnaa.boundsAdds
open Go.ChangeShapes Go.WideShapes Go.ChangeAt Go.RowKit
open Go.ChangeMaps (open_string shut_string)
set_option linter.unusedVariables false

set_option maxHeartbeats 4000000 in
theorem walk (xa0 xb0 xc0 xd0 xe0 xf0 : Int) (xa1 xb1 xc1 xd1 xe1 xf1 : Int) (w : World) (iw0 : opn.Rng xa0 ∧ opn.Rng xb0 ∧ opn.Rng xc0 ∧ opn.Rng xd0 ∧ opn.Rng xe0 ∧ opn.Rng xf0) (iw1 : opn.Rng xa1 ∧ opn.Rng xb1 ∧ opn.Rng xc1 ∧ opn.Rng xd1 ∧ opn.Rng xe1 ∧ opn.Rng xf1) :
    Calls Try.prog 15 #[.agg #[.int .i64 xa0, .int .i64 xb0, .int .i64 xc0, .int .i64 xd0, .int .i64 xe0, .int .i64 xf0], .agg #[.int .i64 xa1, .int .i64 xb1, .int .i64 xc1, .int .i64 xd1, .int .i64 xe1, .int .i64 xf1]] w fun e w' => e = .returned (.bool true) ∧ Below w.heap.size w w' := by
  obtain ⟨i1, i2, i3, i4, i5, i6⟩ := iw0
  obtain ⟨j1, j2, j3, j4, j5, j6⟩ := iw1
  have h1 := Lib.hid (fun W => wid.AddB_any xa0 xb0 xc0 xd0 xe0 xf0 xa1 xb1 xc1 xd1 xe1 xf1 i1 i2 i3 i4 i5 i6 j1 j2 j3 j4 j5 j6 W)
  have h2 := Lib.hid (fun W => wid.AddBR_any xa0 xb0 xc0 xd0 xe0 xf0 xa1 xb1 xc1 xd1 xe1 xf1 i1 i2 i3 i4 i5 i6 j1 j2 j3 j4 j5 j6 W)
  have h5 := Lib.hid (fun W => wid.awake4_any W)
  clear i1 i2 i3 i4 i5 i6 j1 j2 j3 j4 j5 j6
  generalize wid.pk (wid.addOk xa0 xb0 xc0 xd0 xe0 xf0 xa1 xb1 xc1 xd1 xe1 xf1) (wid.sumN xa0 xb0 xa1 xb1 false) 0 = m0 at *
  generalize wid.pk (wid.addOk xa0 xb0 xc0 xd0 xe0 xf0 xa1 xb1 xc1 xd1 xe1 xf1) (wid.sumD xa0 xb0 xa1 xb1 false) 0 = m1 at *
  generalize wid.pk (wid.addOk xa0 xb0 xc0 xd0 xe0 xf0 xa1 xb1 xc1 xd1 xe1 xf1) (wid.sumN xc0 xd0 xc1 xd1 false) 0 = m2 at *
  generalize wid.pk (wid.addOk xa0 xb0 xc0 xd0 xe0 xf0 xa1 xb1 xc1 xd1 xe1 xf1) (wid.sumD xc0 xd0 xc1 xd1 false) 0 = m3 at *
  generalize wid.pk (wid.addOk xa0 xb0 xc0 xd0 xe0 xf0 xa1 xb1 xc1 xd1 xe1 xf1) (wid.sumN xe0 xf0 xe1 xf1 false) 0 = m4 at *
  generalize wid.pk (wid.addOk xa0 xb0 xc0 xd0 xe0 xf0 xa1 xb1 xc1 xd1 xe1 xf1) (wid.sumD xe0 xf0 xe1 xf1 false) 0 = m5 at *
  generalize wid.addOk xa0 xb0 xc0 xd0 xe0 xf0 xa1 xb1 xc1 xd1 xe1 xf1 = ok at *
  have E1 := fun W => wid.bnd_eql m0 m1 m2 m3 m4 m5 W
  go_enter Try.func15, Try.ntmps15
  go_wp2_with fail
  obtain ⟨W0, hW, hs0, K0, B0⟩ := gro.start2 w 36 36 #[Value.int IntKind.i64 xa0, Value.int IntKind.i64 xb0, Value.int IntKind.i64 xc0, Value.int IntKind.i64 xd0, Value.int IntKind.i64 xe0, Value.int IntKind.i64 xf0] #[Value.int IntKind.i64 xa1, Value.int IntKind.i64 xb1, Value.int IntKind.i64 xc1, Value.int IntKind.i64 xd1, Value.int IntKind.i64 xe1, Value.int IntKind.i64 xf1]
  rw [hW]
  clear hW
  have KK := Lib.hid K0
  have BB := Lib.hid B0
  have sz : w.heap.size + 2 ≤ W0.heap.size := by omega
  have R := K0.rules
  simp only [gro.Rules] at R
  clear K0 B0 hs0
  (with_reducible refine (h1.out _).mono ?_)
  rintro e u1 ⟨rfl, hb⟩
  replace BB := Lib.hid (BB.out.trans (hb.mono BB.out.size))
  replace KK := Lib.hid (KK.out.below hb)
  replace sz := Nat.le_trans sz hb.size
  replace R := KK.out.rules
  simp only [gro.Rules] at R
  clear hb
  obtain ⟨s1, hs1⟩ : ∃ s, u1.heap.size = s := ⟨_, rfl⟩
  rw [hs1] at sz
  go_wp2_with fail
  obtain ⟨W3, hW, K3, B3, z3⟩ := gro.name_world (KK.out.new (t := 36) (c := #[Value.int IntKind.i64 m0, Value.int IntKind.i64 m1, Value.int IntKind.i64 m2, Value.int IntKind.i64 m3, Value.int IntKind.i64 m4, Value.int IntKind.i64 m5]) hs1) (BB.out.alloc BB.out.size _) (s := s1 + 1) (by simp; omega)
  rw [hW]
  clear hW KK BB
  have KK := Lib.hid K3
  have BB := Lib.hid B3
  replace sz := Nat.le_trans (Nat.le_succ_of_le sz) z3
  replace R := K3.rules
  simp only [gro.Rules] at R
  clear K3 B3 z3 hs1
  (with_reducible refine (h2.out _).mono ?_)
  rintro e u2 ⟨rfl, hb⟩
  replace BB := Lib.hid (BB.out.trans (hb.mono BB.out.size))
  replace KK := Lib.hid (KK.out.below hb)
  replace sz := Nat.le_trans sz hb.size
  replace R := KK.out.rules
  simp only [gro.Rules] at R
  clear hb
  obtain ⟨s2, hs2⟩ : ∃ s, u2.heap.size = s := ⟨_, rfl⟩
  rw [hs2] at sz
  replace KK := Lib.hid (KK.out.new (t := 36) (c := #[Value.int IntKind.i64 m0, Value.int IntKind.i64 m1, Value.int IntKind.i64 m2, Value.int IntKind.i64 m3, Value.int IntKind.i64 m4, Value.int IntKind.i64 m5]) hs2)
  replace BB := Lib.hid (BB.out.alloc BB.out.size (.cells #[Value.int IntKind.i64 m0, Value.int IntKind.i64 m1, Value.int IntKind.i64 m2, Value.int IntKind.i64 m3, Value.int IntKind.i64 m4, Value.int IntKind.i64 m5] 36))
  replace R := KK.out.rules
  simp only [gro.Rules] at R
  go_wp2_with fail
  (with_reducible refine (h5.out _).mono ?_)
  rintro e wv ⟨rfl, hbv⟩; replace BB := Lib.hid (BB.out.trans (hbv.mono BB.out.size)); replace KK := Lib.hid (KK.out.below hbv); replace R := KK.out.rules; simp only [gro.Rules] at R; clear hbv
  go_wp2
  go_ret
  exact ⟨rfl, BB.out⟩
end Go.Proofs.Ytoejhikcnnppnaa.boundsAdds
