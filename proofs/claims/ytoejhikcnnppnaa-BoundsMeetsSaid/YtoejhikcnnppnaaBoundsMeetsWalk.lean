/- The walk of the law BoundsMeets: it returns true and leaves what was there. -/
import Derived.Test.YtoejhikcnnppnaaRows
import Derived.Test.YtoejhikcnnppnaaOpen
import Derived.Test.YtoejhikcnnppnaaOrdB
import Derived.Test.YtoejhikcnnppnaaAwake4
import Derived.Test.YtoejhikcnnppnaaMakesL
import Derived.Test.YtoejhikcnnppnaaOpenB
import Derived.Test.YtoejhikcnnppnaaOpenR
import Derived.WalkKit
import Derived.ProofKit
import Derived.OpenShut
import Derived.ShutString
namespace Go.Proofs.Ytoejhikcnnppnaa.boundsMeets
open Go.ChangeShapes Go.WideShapes Go.ChangeAt Go.RowKit
open Go.ChangeMaps (open_string shut_string)
set_option linter.unusedVariables false

set_option maxHeartbeats 4000000 in
theorem walk (xa0 xb0 xc0 xd0 xe0 xf0 : Int) (xa1 xb1 xc1 xd1 xe1 xf1 : Int) (a2 b2 : Int) (w : World) (iw0 : opn.Rng xa0 ∧ opn.Rng xb0 ∧ opn.Rng xc0 ∧ opn.Rng xd0 ∧ opn.Rng xe0 ∧ opn.Rng xf0) (iw1 : opn.Rng xa1 ∧ opn.Rng xb1 ∧ opn.Rng xc1 ∧ opn.Rng xd1 ∧ opn.Rng xe1 ∧ opn.Rng xf1) (iw2 : opn.Rng a2 ∧ opn.Rng b2) :
    Calls Try.prog 14 #[.agg #[.int .i64 xa0, .int .i64 xb0, .int .i64 xc0, .int .i64 xd0, .int .i64 xe0, .int .i64 xf0], .agg #[.int .i64 xa1, .int .i64 xb1, .int .i64 xc1, .int .i64 xd1, .int .i64 xe1, .int .i64 xf1], .agg #[.int .i64 a2, .int .i64 b2]] w fun e w' => e = .returned (.bool true) ∧ Below w.heap.size w w' := by
  obtain ⟨i1, i2, i3, i4, i5, i6⟩ := iw0
  obtain ⟨j1, j2, j3, j4, j5, j6⟩ := iw1
  have h1 := Lib.hid (fun W => wid.Meet_any xa0 xb0 xc0 xd0 xe0 xf0 xa1 xb1 xc1 xd1 xe1 xf1 i1 i2 i3 i4 i5 i6 j1 j2 j3 j4 j5 j6 W)
  have h2 := Lib.hid (fun W => wid.MeetR_any xa0 xb0 xc0 xd0 xe0 xf0 xa1 xb1 xc1 xd1 xe1 xf1 i1 i2 i3 i4 i5 i6 j1 j2 j3 j4 j5 j6 W)
  have h3 := Lib.hid (fun W => wid.HoldB_any xa0 xb0 xc0 xd0 xe0 xf0 a2 b2 i1 i2 i3 i4 i5 i6 iw2.1 iw2.2 W)
  have h4 := Lib.hid (fun W => wid.HoldB_any xa1 xb1 xc1 xd1 xe1 xf1 a2 b2 j1 j2 j3 j4 j5 j6 iw2.1 iw2.2 W)
  have h5 := Lib.hid (fun W => wid.awake4_any W)
  have bLn : wid.I64 (wid.mosN xa0 xb0 xa1 xb1) := wid.pk_bd i1 j1
  have bLd : wid.I64 (wid.mosD xa0 xb0 xa1 xb1) := wid.pk_bd i2 j2
  have bHn : wid.I64 (wid.lesN xe0 xf0 xe1 xf1) := wid.pk_bd i5 j5
  have bHd : wid.I64 (wid.lesD xe0 xf0 xe1 xf1) := wid.pk_bd i6 j6
  have bMn : wid.I64 (wid.lesN (wid.mosN xc0 xd0 (wid.mosN xa0 xb0 xa1 xb1) (wid.mosD xa0 xb0 xa1 xb1)) (wid.mosD xc0 xd0 (wid.mosN xa0 xb0 xa1 xb1) (wid.mosD xa0 xb0 xa1 xb1)) (wid.lesN xe0 xf0 xe1 xf1) (wid.lesD xe0 xf0 xe1 xf1)) := wid.pk_bd (wid.pk_bd i3 bLn) bHn
  have bMd : wid.I64 (wid.lesD (wid.mosN xc0 xd0 (wid.mosN xa0 xb0 xa1 xb1) (wid.mosD xa0 xb0 xa1 xb1)) (wid.mosD xc0 xd0 (wid.mosN xa0 xb0 xa1 xb1) (wid.mosD xa0 xb0 xa1 xb1)) (wid.lesN xe0 xf0 xe1 xf1) (wid.lesD xe0 xf0 xe1 xf1)) := wid.pk_bd (wid.pk_bd i4 bLd) bHd
  have h6 := Lib.hid (fun W => wid.HoldB_any (wid.mosN xa0 xb0 xa1 xb1) (wid.mosD xa0 xb0 xa1 xb1) (wid.lesN (wid.mosN xc0 xd0 (wid.mosN xa0 xb0 xa1 xb1) (wid.mosD xa0 xb0 xa1 xb1)) (wid.mosD xc0 xd0 (wid.mosN xa0 xb0 xa1 xb1) (wid.mosD xa0 xb0 xa1 xb1)) (wid.lesN xe0 xf0 xe1 xf1) (wid.lesD xe0 xf0 xe1 xf1)) (wid.lesD (wid.mosN xc0 xd0 (wid.mosN xa0 xb0 xa1 xb1) (wid.mosD xa0 xb0 xa1 xb1)) (wid.mosD xc0 xd0 (wid.mosN xa0 xb0 xa1 xb1) (wid.mosD xa0 xb0 xa1 xb1)) (wid.lesN xe0 xf0 xe1 xf1) (wid.lesD xe0 xf0 xe1 xf1)) (wid.lesN xe0 xf0 xe1 xf1) (wid.lesD xe0 xf0 xe1 xf1) a2 b2 bLn bLd bMn bMd bHn bHd iw2.1 iw2.2 W)
  have hl : wid.holdB xa0 xb0 xc0 xd0 xe0 xf0 a2 b2 = true → wid.holdB xa1 xb1 xc1 xd1 xe1 xf1 a2 b2 = true → wid.meetOk xa0 xb0 xc0 xd0 xe0 xf0 xa1 xb1 xc1 xd1 xe1 xf1 = true ∧ wid.holdB (wid.mosN xa0 xb0 xa1 xb1) (wid.mosD xa0 xb0 xa1 xb1) (wid.lesN (wid.mosN xc0 xd0 (wid.mosN xa0 xb0 xa1 xb1) (wid.mosD xa0 xb0 xa1 xb1)) (wid.mosD xc0 xd0 (wid.mosN xa0 xb0 xa1 xb1) (wid.mosD xa0 xb0 xa1 xb1)) (wid.lesN xe0 xf0 xe1 xf1) (wid.lesD xe0 xf0 xe1 xf1)) (wid.lesD (wid.mosN xc0 xd0 (wid.mosN xa0 xb0 xa1 xb1) (wid.mosD xa0 xb0 xa1 xb1)) (wid.mosD xc0 xd0 (wid.mosN xa0 xb0 xa1 xb1) (wid.mosD xa0 xb0 xa1 xb1)) (wid.lesN xe0 xf0 xe1 xf1) (wid.lesD xe0 xf0 xe1 xf1)) (wid.lesN xe0 xf0 xe1 xf1) (wid.lesD xe0 xf0 xe1 xf1) a2 b2 = true := fun p q => wid.meet_holds p q
  clear bLn bLd bHn bHd bMn bMd iw2 i1 i2 i3 i4 i5 i6 j1 j2 j3 j4 j5 j6
  generalize wid.holdB (wid.mosN xa0 xb0 xa1 xb1) (wid.mosD xa0 xb0 xa1 xb1) (wid.lesN (wid.mosN xc0 xd0 (wid.mosN xa0 xb0 xa1 xb1) (wid.mosD xa0 xb0 xa1 xb1)) (wid.mosD xc0 xd0 (wid.mosN xa0 xb0 xa1 xb1) (wid.mosD xa0 xb0 xa1 xb1)) (wid.lesN xe0 xf0 xe1 xf1) (wid.lesD xe0 xf0 xe1 xf1)) (wid.lesD (wid.mosN xc0 xd0 (wid.mosN xa0 xb0 xa1 xb1) (wid.mosD xa0 xb0 xa1 xb1)) (wid.mosD xc0 xd0 (wid.mosN xa0 xb0 xa1 xb1) (wid.mosD xa0 xb0 xa1 xb1)) (wid.lesN xe0 xf0 xe1 xf1) (wid.lesD xe0 xf0 xe1 xf1)) (wid.lesN xe0 xf0 xe1 xf1) (wid.lesD xe0 xf0 xe1 xf1) a2 b2 = vf at *
  generalize wid.holdB xa0 xb0 xc0 xd0 xe0 xf0 a2 b2 = va at *
  generalize wid.holdB xa1 xb1 xc1 xd1 xe1 xf1 a2 b2 = vb at *
  generalize wid.meetOk xa0 xb0 xc0 xd0 xe0 xf0 xa1 xb1 xc1 xd1 xe1 xf1 = ok at *
  generalize wid.lesN (wid.mosN xc0 xd0 (wid.mosN xa0 xb0 xa1 xb1) (wid.mosD xa0 xb0 xa1 xb1)) (wid.mosD xc0 xd0 (wid.mosN xa0 xb0 xa1 xb1) (wid.mosD xa0 xb0 xa1 xb1)) (wid.lesN xe0 xf0 xe1 xf1) (wid.lesD xe0 xf0 xe1 xf1) = m2 at *
  generalize wid.lesD (wid.mosN xc0 xd0 (wid.mosN xa0 xb0 xa1 xb1) (wid.mosD xa0 xb0 xa1 xb1)) (wid.mosD xc0 xd0 (wid.mosN xa0 xb0 xa1 xb1) (wid.mosD xa0 xb0 xa1 xb1)) (wid.lesN xe0 xf0 xe1 xf1) (wid.lesD xe0 xf0 xe1 xf1) = m3 at *
  generalize wid.mosN xa0 xb0 xa1 xb1 = m0 at *
  generalize wid.mosD xa0 xb0 xa1 xb1 = m1 at *
  generalize wid.lesN xe0 xf0 xe1 xf1 = m4 at *
  generalize wid.lesD xe0 xf0 xe1 xf1 = m5 at *
  cases va
  case false =>
    clear hl h6
    generalize wid.pk ok m0 0 = p0 at *
    generalize wid.pk ok m1 0 = p1 at *
    generalize wid.pk ok m2 0 = p2 at *
    generalize wid.pk ok m3 0 = p3 at *
    generalize wid.pk ok m4 0 = p4 at *
    generalize wid.pk ok m5 0 = p5 at *
    have hk : (!(ok == ok)) = false := by cases ok <;> rfl
    have hk2 : (ok != ok) = false := by cases ok <;> rfl
    have E1 := fun W => wid.bnd_neq p0 p1 p2 p3 p4 p5 W
    go_enter Try.func14, Try.ntmps14
    go_wp2_with fail
    obtain ⟨W0, hW, hs0, K0, B0⟩ := gro.start3 w 36 36 23 #[Value.int IntKind.i64 xa0, Value.int IntKind.i64 xb0, Value.int IntKind.i64 xc0, Value.int IntKind.i64 xd0, Value.int IntKind.i64 xe0, Value.int IntKind.i64 xf0] #[Value.int IntKind.i64 xa1, Value.int IntKind.i64 xb1, Value.int IntKind.i64 xc1, Value.int IntKind.i64 xd1, Value.int IntKind.i64 xe1, Value.int IntKind.i64 xf1] #[Value.int IntKind.i64 a2, Value.int IntKind.i64 b2]
    rw [hW]
    clear hW
    have KK := Lib.hid K0
    have BB := Lib.hid B0
    have sz : w.heap.size + 3 ≤ W0.heap.size := by omega
    have R := K0.rules
    simp only [gro.Rules] at R
    clear K0 B0 hs0
    (with_reducible refine (h1.out _).mono ?_)
    rintro e u1 ⟨rfl, hb⟩
    replace BB := Lib.hid (BB.out.trans (hb.mono BB.out.size))
    replace KK := Lib.hid (KK.out.below hb)
    replace sz := Nat.le_trans sz hb.size
    replace R := KK.out.rules
    simp only [gro.Rules] at R
    clear hb
    obtain ⟨s1, hs1⟩ : ∃ s, u1.heap.size = s := ⟨_, rfl⟩
    rw [hs1] at sz
    go_wp2_with fail
    obtain ⟨W3, hW, K3, B3, z3⟩ := gro.name_world (KK.out.new (t := 36) (c := #[Value.int IntKind.i64 p0, Value.int IntKind.i64 p1, Value.int IntKind.i64 p2, Value.int IntKind.i64 p3, Value.int IntKind.i64 p4, Value.int IntKind.i64 p5]) hs1) (BB.out.alloc BB.out.size _) (s := s1 + 1) (by simp; omega)
    rw [hW]
    clear hW KK BB
    have KK := Lib.hid K3
    have BB := Lib.hid B3
    replace sz := Nat.le_trans (Nat.le_succ_of_le sz) z3
    replace R := K3.rules
    simp only [gro.Rules] at R
    clear K3 B3 z3 hs1
    (with_reducible refine (h2.out _).mono ?_)
    rintro e u2 ⟨rfl, hb⟩
    replace BB := Lib.hid (BB.out.trans (hb.mono BB.out.size))
    replace KK := Lib.hid (KK.out.below hb)
    replace sz := Nat.le_trans sz hb.size
    replace R := KK.out.rules
    simp only [gro.Rules] at R
    clear hb
    obtain ⟨s2, hs2⟩ : ∃ s, u2.heap.size = s := ⟨_, rfl⟩
    rw [hs2] at sz
    replace KK := Lib.hid (KK.out.new (t := 36) (c := #[Value.int IntKind.i64 p0, Value.int IntKind.i64 p1, Value.int IntKind.i64 p2, Value.int IntKind.i64 p3, Value.int IntKind.i64 p4, Value.int IntKind.i64 p5]) hs2)
    replace BB := Lib.hid (BB.out.alloc BB.out.size (.cells #[Value.int IntKind.i64 p0, Value.int IntKind.i64 p1, Value.int IntKind.i64 p2, Value.int IntKind.i64 p3, Value.int IntKind.i64 p4, Value.int IntKind.i64 p5] 36))
    replace R := KK.out.rules
    simp only [gro.Rules] at R
    clear h1 h2
    go_wp2_with fail
    (with_reducible refine (h3.out _).mono ?_)
    rintro e wv ⟨rfl, hbv⟩; replace BB := Lib.hid (BB.out.trans (hbv.mono BB.out.size)); replace KK := Lib.hid (KK.out.below hbv); replace R := KK.out.rules; simp only [gro.Rules] at R; clear hbv
    go_wp2_with fail
    (with_reducible refine (h5.out _).mono ?_)
    rintro e wv ⟨rfl, hbv⟩; replace BB := Lib.hid (BB.out.trans (hbv.mono BB.out.size)); replace KK := Lib.hid (KK.out.below hbv); replace R := KK.out.rules; simp only [gro.Rules] at R; clear hbv
    go_wp2
    go_ret
    exact ⟨rfl, BB.out⟩
  cases vb
  case false =>
    clear hl h6
    generalize wid.pk ok m0 0 = p0 at *
    generalize wid.pk ok m1 0 = p1 at *
    generalize wid.pk ok m2 0 = p2 at *
    generalize wid.pk ok m3 0 = p3 at *
    generalize wid.pk ok m4 0 = p4 at *
    generalize wid.pk ok m5 0 = p5 at *
    have hk : (!(ok == ok)) = false := by cases ok <;> rfl
    have hk2 : (ok != ok) = false := by cases ok <;> rfl
    have E1 := fun W => wid.bnd_neq p0 p1 p2 p3 p4 p5 W
    go_enter Try.func14, Try.ntmps14
    go_wp2_with fail
    obtain ⟨W0, hW, hs0, K0, B0⟩ := gro.start3 w 36 36 23 #[Value.int IntKind.i64 xa0, Value.int IntKind.i64 xb0, Value.int IntKind.i64 xc0, Value.int IntKind.i64 xd0, Value.int IntKind.i64 xe0, Value.int IntKind.i64 xf0] #[Value.int IntKind.i64 xa1, Value.int IntKind.i64 xb1, Value.int IntKind.i64 xc1, Value.int IntKind.i64 xd1, Value.int IntKind.i64 xe1, Value.int IntKind.i64 xf1] #[Value.int IntKind.i64 a2, Value.int IntKind.i64 b2]
    rw [hW]
    clear hW
    have KK := Lib.hid K0
    have BB := Lib.hid B0
    have sz : w.heap.size + 3 ≤ W0.heap.size := by omega
    have R := K0.rules
    simp only [gro.Rules] at R
    clear K0 B0 hs0
    (with_reducible refine (h1.out _).mono ?_)
    rintro e u1 ⟨rfl, hb⟩
    replace BB := Lib.hid (BB.out.trans (hb.mono BB.out.size))
    replace KK := Lib.hid (KK.out.below hb)
    replace sz := Nat.le_trans sz hb.size
    replace R := KK.out.rules
    simp only [gro.Rules] at R
    clear hb
    obtain ⟨s1, hs1⟩ : ∃ s, u1.heap.size = s := ⟨_, rfl⟩
    rw [hs1] at sz
    go_wp2_with fail
    obtain ⟨W3, hW, K3, B3, z3⟩ := gro.name_world (KK.out.new (t := 36) (c := #[Value.int IntKind.i64 p0, Value.int IntKind.i64 p1, Value.int IntKind.i64 p2, Value.int IntKind.i64 p3, Value.int IntKind.i64 p4, Value.int IntKind.i64 p5]) hs1) (BB.out.alloc BB.out.size _) (s := s1 + 1) (by simp; omega)
    rw [hW]
    clear hW KK BB
    have KK := Lib.hid K3
    have BB := Lib.hid B3
    replace sz := Nat.le_trans (Nat.le_succ_of_le sz) z3
    replace R := K3.rules
    simp only [gro.Rules] at R
    clear K3 B3 z3 hs1
    (with_reducible refine (h2.out _).mono ?_)
    rintro e u2 ⟨rfl, hb⟩
    replace BB := Lib.hid (BB.out.trans (hb.mono BB.out.size))
    replace KK := Lib.hid (KK.out.below hb)
    replace sz := Nat.le_trans sz hb.size
    replace R := KK.out.rules
    simp only [gro.Rules] at R
    clear hb
    obtain ⟨s2, hs2⟩ : ∃ s, u2.heap.size = s := ⟨_, rfl⟩
    rw [hs2] at sz
    replace KK := Lib.hid (KK.out.new (t := 36) (c := #[Value.int IntKind.i64 p0, Value.int IntKind.i64 p1, Value.int IntKind.i64 p2, Value.int IntKind.i64 p3, Value.int IntKind.i64 p4, Value.int IntKind.i64 p5]) hs2)
    replace BB := Lib.hid (BB.out.alloc BB.out.size (.cells #[Value.int IntKind.i64 p0, Value.int IntKind.i64 p1, Value.int IntKind.i64 p2, Value.int IntKind.i64 p3, Value.int IntKind.i64 p4, Value.int IntKind.i64 p5] 36))
    replace R := KK.out.rules
    simp only [gro.Rules] at R
    clear h1 h2
    go_wp2_with fail
    (with_reducible refine (h3.out _).mono ?_)
    rintro e wv ⟨rfl, hbv⟩; replace BB := Lib.hid (BB.out.trans (hbv.mono BB.out.size)); replace KK := Lib.hid (KK.out.below hbv); replace R := KK.out.rules; simp only [gro.Rules] at R; clear hbv
    go_wp2_with fail
    (with_reducible refine (h4.out _).mono ?_)
    rintro e wv ⟨rfl, hbv⟩; replace BB := Lib.hid (BB.out.trans (hbv.mono BB.out.size)); replace KK := Lib.hid (KK.out.below hbv); replace R := KK.out.rules; simp only [gro.Rules] at R; clear hbv
    go_wp2_with fail
    (with_reducible refine (h5.out _).mono ?_)
    rintro e wv ⟨rfl, hbv⟩; replace BB := Lib.hid (BB.out.trans (hbv.mono BB.out.size)); replace KK := Lib.hid (KK.out.below hbv); replace R := KK.out.rules; simp only [gro.Rules] at R; clear hbv
    go_wp2
    go_ret
    exact ⟨rfl, BB.out⟩
  obtain ⟨rfl, rfl⟩ := hl rfl rfl
  simp only [wid.pk_yes] at h1 h2
  have E1 := fun W => wid.bnd_neq m0 m1 m2 m3 m4 m5 W
  go_enter Try.func14, Try.ntmps14
  go_wp2_with fail
  obtain ⟨W0, hW, hs0, K0, B0⟩ := gro.start3 w 36 36 23 #[Value.int IntKind.i64 xa0, Value.int IntKind.i64 xb0, Value.int IntKind.i64 xc0, Value.int IntKind.i64 xd0, Value.int IntKind.i64 xe0, Value.int IntKind.i64 xf0] #[Value.int IntKind.i64 xa1, Value.int IntKind.i64 xb1, Value.int IntKind.i64 xc1, Value.int IntKind.i64 xd1, Value.int IntKind.i64 xe1, Value.int IntKind.i64 xf1] #[Value.int IntKind.i64 a2, Value.int IntKind.i64 b2]
  rw [hW]
  clear hW
  have KK := Lib.hid K0
  have BB := Lib.hid B0
  have sz : w.heap.size + 3 ≤ W0.heap.size := by omega
  have R := K0.rules
  simp only [gro.Rules] at R
  clear K0 B0 hs0
  (with_reducible refine (h1.out _).mono ?_)
  rintro e u1 ⟨rfl, hb⟩
  replace BB := Lib.hid (BB.out.trans (hb.mono BB.out.size))
  replace KK := Lib.hid (KK.out.below hb)
  replace sz := Nat.le_trans sz hb.size
  replace R := KK.out.rules
  simp only [gro.Rules] at R
  clear hb
  obtain ⟨s1, hs1⟩ : ∃ s, u1.heap.size = s := ⟨_, rfl⟩
  rw [hs1] at sz
  go_wp2_with fail
  obtain ⟨W3, hW, K3, B3, z3⟩ := gro.name_world (KK.out.new (t := 36) (c := #[Value.int IntKind.i64 m0, Value.int IntKind.i64 m1, Value.int IntKind.i64 m2, Value.int IntKind.i64 m3, Value.int IntKind.i64 m4, Value.int IntKind.i64 m5]) hs1) (BB.out.alloc BB.out.size _) (s := s1 + 1) (by simp; omega)
  rw [hW]
  clear hW KK BB
  have KK := Lib.hid K3
  have BB := Lib.hid B3
  replace sz := Nat.le_trans (Nat.le_succ_of_le sz) z3
  replace R := K3.rules
  simp only [gro.Rules] at R
  clear K3 B3 z3 hs1
  (with_reducible refine (h2.out _).mono ?_)
  rintro e u2 ⟨rfl, hb⟩
  replace BB := Lib.hid (BB.out.trans (hb.mono BB.out.size))
  replace KK := Lib.hid (KK.out.below hb)
  replace sz := Nat.le_trans sz hb.size
  replace R := KK.out.rules
  simp only [gro.Rules] at R
  clear hb
  obtain ⟨s2, hs2⟩ : ∃ s, u2.heap.size = s := ⟨_, rfl⟩
  rw [hs2] at sz
  replace KK := Lib.hid (KK.out.new (t := 36) (c := #[Value.int IntKind.i64 m0, Value.int IntKind.i64 m1, Value.int IntKind.i64 m2, Value.int IntKind.i64 m3, Value.int IntKind.i64 m4, Value.int IntKind.i64 m5]) hs2)
  replace BB := Lib.hid (BB.out.alloc BB.out.size (.cells #[Value.int IntKind.i64 m0, Value.int IntKind.i64 m1, Value.int IntKind.i64 m2, Value.int IntKind.i64 m3, Value.int IntKind.i64 m4, Value.int IntKind.i64 m5] 36))
  replace R := KK.out.rules
  simp only [gro.Rules] at R
  clear h1 h2
  go_wp2_with fail
  (with_reducible refine (h3.out _).mono ?_)
  rintro e wv ⟨rfl, hbv⟩; replace BB := Lib.hid (BB.out.trans (hbv.mono BB.out.size)); replace KK := Lib.hid (KK.out.below hbv); replace R := KK.out.rules; simp only [gro.Rules] at R; clear hbv
  go_wp2_with fail
  (with_reducible refine (h4.out _).mono ?_)
  rintro e wv ⟨rfl, hbv⟩; replace BB := Lib.hid (BB.out.trans (hbv.mono BB.out.size)); replace KK := Lib.hid (KK.out.below hbv); replace R := KK.out.rules; simp only [gro.Rules] at R; clear hbv
  go_wp2_with fail
  (with_reducible refine (h6.out _).mono ?_)
  rintro e wv ⟨rfl, hbv⟩; replace BB := Lib.hid (BB.out.trans (hbv.mono BB.out.size)); replace KK := Lib.hid (KK.out.below hbv); replace R := KK.out.rules; simp only [gro.Rules] at R; clear hbv
  go_wp2_with fail
  (with_reducible refine (h5.out _).mono ?_)
  rintro e wv ⟨rfl, hbv⟩; replace BB := Lib.hid (BB.out.trans (hbv.mono BB.out.size)); replace KK := Lib.hid (KK.out.below hbv); replace R := KK.out.rules; simp only [gro.Rules] at R; clear hbv
  go_wp2
  go_ret
  exact ⟨rfl, BB.out⟩
end Go.Proofs.Ytoejhikcnnppnaa.boundsMeets
