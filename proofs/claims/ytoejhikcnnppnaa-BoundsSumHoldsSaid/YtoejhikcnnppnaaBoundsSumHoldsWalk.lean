/- The walk of the law BoundsSumHolds: it returns true and leaves what was there. -/
import Derived.Test.YtoejhikcnnppnaaRows
import Derived.Test.YtoejhikcnnppnaaOpen
import Derived.Test.YtoejhikcnnppnaaOrdB
import Derived.Test.YtoejhikcnnppnaaAwake4
import Derived.Test.YtoejhikcnnppnaaMakesL
import Derived.Test.YtoejhikcnnppnaaOpenB
import Derived.Test.YtoejhikcnnppnaaOpenR
import Derived.WalkKit
import Derived.ProofKit
import Derived.OpenShut
import Derived.ShutString
namespace Go.Proofs.Ytoejhikcnnppnaa.boundsSumHolds
open Go.ChangeShapes Go.WideShapes Go.ChangeAt Go.RowKit
open Go.ChangeMaps (open_string shut_string)
set_option linter.unusedVariables false

set_option maxHeartbeats 4000000 in
theorem walk (xa0 xb0 xc0 xd0 xe0 xf0 : Int) (xa1 xb1 xc1 xd1 xe1 xf1 : Int) (a2 b2 : Int) (a3 b3 : Int) (w : World) (iw0 : opn.Rng xa0 ∧ opn.Rng xb0 ∧ opn.Rng xc0 ∧ opn.Rng xd0 ∧ opn.Rng xe0 ∧ opn.Rng xf0) (iw1 : opn.Rng xa1 ∧ opn.Rng xb1 ∧ opn.Rng xc1 ∧ opn.Rng xd1 ∧ opn.Rng xe1 ∧ opn.Rng xf1) (iw2 : opn.Rng a2 ∧ opn.Rng b2) (iw3 : opn.Rng a3 ∧ opn.Rng b3) :
    Calls Try.prog 18 #[.agg #[.int .i64 xa0, .int .i64 xb0, .int .i64 xc0, .int .i64 xd0, .int .i64 xe0, .int .i64 xf0], .agg #[.int .i64 xa1, .int .i64 xb1, .int .i64 xc1, .int .i64 xd1, .int .i64 xe1, .int .i64 xf1], .agg #[.int .i64 a2, .int .i64 b2], .agg #[.int .i64 a3, .int .i64 b3]] w fun e w' => e = .returned (.bool true) ∧ Below w.heap.size w w' := by
  obtain ⟨i1, i2, i3, i4, i5, i6⟩ := iw0
  obtain ⟨j1, j2, j3, j4, j5, j6⟩ := iw1
  have h1 := Lib.hid (fun W => wid.AddB_any xa0 xb0 xc0 xd0 xe0 xf0 xa1 xb1 xc1 xd1 xe1 xf1 i1 i2 i3 i4 i5 i6 j1 j2 j3 j4 j5 j6 W)
  have h2 := Lib.hid (fun W => wid.sumR_any a2 b2 a3 b3 false iw2.1 iw2.2 iw3.1 iw3.2 W)
  have h3 := Lib.hid (fun W => wid.HoldB_any xa0 xb0 xc0 xd0 xe0 xf0 a2 b2 i1 i2 i3 i4 i5 i6 iw2.1 iw2.2 W)
  have h4 := Lib.hid (fun W => wid.HoldB_any xa1 xb1 xc1 xd1 xe1 xf1 a3 b3 j1 j2 j3 j4 j5 j6 iw3.1 iw3.2 W)
  have h5 := Lib.hid (fun W => wid.awake4_any W)
  have bd0 := wid.sum_bd xa0 xb0 xa1 xb1
  have bd1 := wid.sum_bd xc0 xd0 xc1 xd1
  have bd2 := wid.sum_bd xe0 xf0 xe1 xf1
  have bd3 := wid.sum_bd a2 b2 a3 b3
  have h6 := Lib.hid (fun W => wid.HoldB_any (wid.sumN xa0 xb0 xa1 xb1 false) (wid.sumD xa0 xb0 xa1 xb1 false) (wid.sumN xc0 xd0 xc1 xd1 false) (wid.sumD xc0 xd0 xc1 xd1 false) (wid.sumN xe0 xf0 xe1 xf1 false) (wid.sumD xe0 xf0 xe1 xf1 false) (wid.sumN a2 b2 a3 b3 false) (wid.sumD a2 b2 a3 b3 false) bd0.1 bd0.2 bd1.1 bd1.2 bd2.1 bd2.2 bd3.1 bd3.2 W)
  have hl : wid.holdB xa0 xb0 xc0 xd0 xe0 xf0 a2 b2 = true → wid.holdB xa1 xb1 xc1 xd1 xe1 xf1 a3 b3 = true → wid.addOk xa0 xb0 xc0 xd0 xe0 xf0 xa1 xb1 xc1 xd1 xe1 xf1 = true → wid.sumOk a2 b2 a3 b3 false = true → wid.holdB (wid.sumN xa0 xb0 xa1 xb1 false) (wid.sumD xa0 xb0 xa1 xb1 false) (wid.sumN xc0 xd0 xc1 xd1 false) (wid.sumD xc0 xd0 xc1 xd1 false) (wid.sumN xe0 xf0 xe1 xf1 false) (wid.sumD xe0 xf0 xe1 xf1 false) (wid.sumN a2 b2 a3 b3 false) (wid.sumD a2 b2 a3 b3 false) = true := fun p q r t => wid.sum_holds p q r t
  clear bd0 bd1 bd2 bd3 iw2 iw3 i1 i2 i3 i4 i5 i6 j1 j2 j3 j4 j5 j6
  generalize wid.holdB (wid.sumN xa0 xb0 xa1 xb1 false) (wid.sumD xa0 xb0 xa1 xb1 false) (wid.sumN xc0 xd0 xc1 xd1 false) (wid.sumD xc0 xd0 xc1 xd1 false) (wid.sumN xe0 xf0 xe1 xf1 false) (wid.sumD xe0 xf0 xe1 xf1 false) (wid.sumN a2 b2 a3 b3 false) (wid.sumD a2 b2 a3 b3 false) = vf at *
  generalize wid.holdB xa0 xb0 xc0 xd0 xe0 xf0 a2 b2 = va at *
  generalize wid.holdB xa1 xb1 xc1 xd1 xe1 xf1 a3 b3 = vb at *
  generalize wid.addOk xa0 xb0 xc0 xd0 xe0 xf0 xa1 xb1 xc1 xd1 xe1 xf1 = ok at *
  generalize wid.sumOk a2 b2 a3 b3 false = fits at *
  generalize wid.sumN xa0 xb0 xa1 xb1 false = m0 at *
  generalize wid.sumD xa0 xb0 xa1 xb1 false = m1 at *
  generalize wid.sumN xc0 xd0 xc1 xd1 false = m2 at *
  generalize wid.sumD xc0 xd0 xc1 xd1 false = m3 at *
  generalize wid.sumN xe0 xf0 xe1 xf1 false = m4 at *
  generalize wid.sumD xe0 xf0 xe1 xf1 false = m5 at *
  generalize wid.sumN a2 b2 a3 b3 false = sn at *
  generalize wid.sumD a2 b2 a3 b3 false = sd at *
  cases ok
  case false =>
    simp only [wid.pk_no] at h1
    go_enter Try.func18, Try.ntmps18
    go_wp2_with fail
    obtain ⟨W0, hW, hs0, K0, B0⟩ := gro.start4 w 36 36 23 23 #[Value.int IntKind.i64 xa0, Value.int IntKind.i64 xb0, Value.int IntKind.i64 xc0, Value.int IntKind.i64 xd0, Value.int IntKind.i64 xe0, Value.int IntKind.i64 xf0] #[Value.int IntKind.i64 xa1, Value.int IntKind.i64 xb1, Value.int IntKind.i64 xc1, Value.int IntKind.i64 xd1, Value.int IntKind.i64 xe1, Value.int IntKind.i64 xf1] #[Value.int IntKind.i64 a2, Value.int IntKind.i64 b2] #[Value.int IntKind.i64 a3, Value.int IntKind.i64 b3]
    rw [hW]
    clear hW
    have KK := Lib.hid K0
    have BB := Lib.hid B0
    have sz : w.heap.size + 4 ≤ W0.heap.size := by omega
    have R := K0.rules
    simp only [gro.Rules] at R
    clear K0 B0 hs0
    (with_reducible refine (h1.out _).mono ?_)
    rintro e u1 ⟨rfl, hb⟩
    replace BB := Lib.hid (BB.out.trans (hb.mono BB.out.size))
    replace KK := Lib.hid (KK.out.below hb)
    replace sz := Nat.le_trans sz hb.size
    replace R := KK.out.rules
    simp only [gro.Rules] at R
    clear hb
    obtain ⟨s1, hs1⟩ : ∃ s, u1.heap.size = s := ⟨_, rfl⟩
    rw [hs1] at sz
    go_wp2_with fail
    obtain ⟨W3, hW, K3, B3, z3⟩ := gro.name_world (KK.out.new (t := 36) (c := #[Value.int IntKind.i64 0, Value.int IntKind.i64 0, Value.int IntKind.i64 0, Value.int IntKind.i64 0, Value.int IntKind.i64 0, Value.int IntKind.i64 0]) hs1) (BB.out.alloc BB.out.size _) (s := s1 + 1) (by simp; omega)
    rw [hW]
    clear hW KK BB
    have KK := Lib.hid K3
    have BB := Lib.hid B3
    replace sz := Nat.le_trans (Nat.le_succ_of_le sz) z3
    replace R := K3.rules
    simp only [gro.Rules] at R
    clear K3 B3 z3 hs1
    (with_reducible refine (h2.out _).mono ?_)
    rintro e u2 ⟨rfl, hb⟩
    replace BB := Lib.hid (BB.out.trans (hb.mono BB.out.size))
    replace KK := Lib.hid (KK.out.below hb)
    replace sz := Nat.le_trans sz hb.size
    replace R := KK.out.rules
    simp only [gro.Rules] at R
    clear hb
    obtain ⟨s2, hs2⟩ : ∃ s, u2.heap.size = s := ⟨_, rfl⟩
    rw [hs2] at sz
    replace KK := Lib.hid (KK.out.new (t := 23) (c := #[Value.int IntKind.i64 sn, Value.int IntKind.i64 sd]) hs2)
    replace BB := Lib.hid (BB.out.alloc BB.out.size (.cells #[Value.int IntKind.i64 sn, Value.int IntKind.i64 sd] 23))
    replace R := KK.out.rules
    simp only [gro.Rules] at R
    clear h1 h2
    go_wp2_with fail
    (with_reducible refine (h5.out _).mono ?_)
    rintro e wv ⟨rfl, hbv⟩; replace BB := Lib.hid (BB.out.trans (hbv.mono BB.out.size)); replace KK := Lib.hid (KK.out.below hbv); replace R := KK.out.rules; simp only [gro.Rules] at R; clear hbv
    go_wp2
    go_ret
    exact ⟨rfl, BB.out⟩
  simp only [wid.pk_yes] at h1
  cases fits
  case false =>
    go_enter Try.func18, Try.ntmps18
    go_wp2_with fail
    obtain ⟨W0, hW, hs0, K0, B0⟩ := gro.start4 w 36 36 23 23 #[Value.int IntKind.i64 xa0, Value.int IntKind.i64 xb0, Value.int IntKind.i64 xc0, Value.int IntKind.i64 xd0, Value.int IntKind.i64 xe0, Value.int IntKind.i64 xf0] #[Value.int IntKind.i64 xa1, Value.int IntKind.i64 xb1, Value.int IntKind.i64 xc1, Value.int IntKind.i64 xd1, Value.int IntKind.i64 xe1, Value.int IntKind.i64 xf1] #[Value.int IntKind.i64 a2, Value.int IntKind.i64 b2] #[Value.int IntKind.i64 a3, Value.int IntKind.i64 b3]
    rw [hW]
    clear hW
    have KK := Lib.hid K0
    have BB := Lib.hid B0
    have sz : w.heap.size + 4 ≤ W0.heap.size := by omega
    have R := K0.rules
    simp only [gro.Rules] at R
    clear K0 B0 hs0
    (with_reducible refine (h1.out _).mono ?_)
    rintro e u1 ⟨rfl, hb⟩
    replace BB := Lib.hid (BB.out.trans (hb.mono BB.out.size))
    replace KK := Lib.hid (KK.out.below hb)
    replace sz := Nat.le_trans sz hb.size
    replace R := KK.out.rules
    simp only [gro.Rules] at R
    clear hb
    obtain ⟨s1, hs1⟩ : ∃ s, u1.heap.size = s := ⟨_, rfl⟩
    rw [hs1] at sz
    go_wp2_with fail
    obtain ⟨W3, hW, K3, B3, z3⟩ := gro.name_world (KK.out.new (t := 36) (c := #[Value.int IntKind.i64 m0, Value.int IntKind.i64 m1, Value.int IntKind.i64 m2, Value.int IntKind.i64 m3, Value.int IntKind.i64 m4, Value.int IntKind.i64 m5]) hs1) (BB.out.alloc BB.out.size _) (s := s1 + 1) (by simp; omega)
    rw [hW]
    clear hW KK BB
    have KK := Lib.hid K3
    have BB := Lib.hid B3
    replace sz := Nat.le_trans (Nat.le_succ_of_le sz) z3
    replace R := K3.rules
    simp only [gro.Rules] at R
    clear K3 B3 z3 hs1
    (with_reducible refine (h2.out _).mono ?_)
    rintro e u2 ⟨rfl, hb⟩
    replace BB := Lib.hid (BB.out.trans (hb.mono BB.out.size))
    replace KK := Lib.hid (KK.out.below hb)
    replace sz := Nat.le_trans sz hb.size
    replace R := KK.out.rules
    simp only [gro.Rules] at R
    clear hb
    obtain ⟨s2, hs2⟩ : ∃ s, u2.heap.size = s := ⟨_, rfl⟩
    rw [hs2] at sz
    replace KK := Lib.hid (KK.out.new (t := 23) (c := #[Value.int IntKind.i64 sn, Value.int IntKind.i64 sd]) hs2)
    replace BB := Lib.hid (BB.out.alloc BB.out.size (.cells #[Value.int IntKind.i64 sn, Value.int IntKind.i64 sd] 23))
    replace R := KK.out.rules
    simp only [gro.Rules] at R
    clear h1 h2
    go_wp2_with fail
    (with_reducible refine (h5.out _).mono ?_)
    rintro e wv ⟨rfl, hbv⟩; replace BB := Lib.hid (BB.out.trans (hbv.mono BB.out.size)); replace KK := Lib.hid (KK.out.below hbv); replace R := KK.out.rules; simp only [gro.Rules] at R; clear hbv
    go_wp2
    go_ret
    exact ⟨rfl, BB.out⟩
  cases va
  case false =>
    go_enter Try.func18, Try.ntmps18
    go_wp2_with fail
    obtain ⟨W0, hW, hs0, K0, B0⟩ := gro.start4 w 36 36 23 23 #[Value.int IntKind.i64 xa0, Value.int IntKind.i64 xb0, Value.int IntKind.i64 xc0, Value.int IntKind.i64 xd0, Value.int IntKind.i64 xe0, Value.int IntKind.i64 xf0] #[Value.int IntKind.i64 xa1, Value.int IntKind.i64 xb1, Value.int IntKind.i64 xc1, Value.int IntKind.i64 xd1, Value.int IntKind.i64 xe1, Value.int IntKind.i64 xf1] #[Value.int IntKind.i64 a2, Value.int IntKind.i64 b2] #[Value.int IntKind.i64 a3, Value.int IntKind.i64 b3]
    rw [hW]
    clear hW
    have KK := Lib.hid K0
    have BB := Lib.hid B0
    have sz : w.heap.size + 4 ≤ W0.heap.size := by omega
    have R := K0.rules
    simp only [gro.Rules] at R
    clear K0 B0 hs0
    (with_reducible refine (h1.out _).mono ?_)
    rintro e u1 ⟨rfl, hb⟩
    replace BB := Lib.hid (BB.out.trans (hb.mono BB.out.size))
    replace KK := Lib.hid (KK.out.below hb)
    replace sz := Nat.le_trans sz hb.size
    replace R := KK.out.rules
    simp only [gro.Rules] at R
    clear hb
    obtain ⟨s1, hs1⟩ : ∃ s, u1.heap.size = s := ⟨_, rfl⟩
    rw [hs1] at sz
    go_wp2_with fail
    obtain ⟨W3, hW, K3, B3, z3⟩ := gro.name_world (KK.out.new (t := 36) (c := #[Value.int IntKind.i64 m0, Value.int IntKind.i64 m1, Value.int IntKind.i64 m2, Value.int IntKind.i64 m3, Value.int IntKind.i64 m4, Value.int IntKind.i64 m5]) hs1) (BB.out.alloc BB.out.size _) (s := s1 + 1) (by simp; omega)
    rw [hW]
    clear hW KK BB
    have KK := Lib.hid K3
    have BB := Lib.hid B3
    replace sz := Nat.le_trans (Nat.le_succ_of_le sz) z3
    replace R := K3.rules
    simp only [gro.Rules] at R
    clear K3 B3 z3 hs1
    (with_reducible refine (h2.out _).mono ?_)
    rintro e u2 ⟨rfl, hb⟩
    replace BB := Lib.hid (BB.out.trans (hb.mono BB.out.size))
    replace KK := Lib.hid (KK.out.below hb)
    replace sz := Nat.le_trans sz hb.size
    replace R := KK.out.rules
    simp only [gro.Rules] at R
    clear hb
    obtain ⟨s2, hs2⟩ : ∃ s, u2.heap.size = s := ⟨_, rfl⟩
    rw [hs2] at sz
    replace KK := Lib.hid (KK.out.new (t := 23) (c := #[Value.int IntKind.i64 sn, Value.int IntKind.i64 sd]) hs2)
    replace BB := Lib.hid (BB.out.alloc BB.out.size (.cells #[Value.int IntKind.i64 sn, Value.int IntKind.i64 sd] 23))
    replace R := KK.out.rules
    simp only [gro.Rules] at R
    clear h1 h2
    go_wp2_with fail
    (with_reducible refine (h3.out _).mono ?_)
    rintro e wv ⟨rfl, hbv⟩; replace BB := Lib.hid (BB.out.trans (hbv.mono BB.out.size)); replace KK := Lib.hid (KK.out.below hbv); replace R := KK.out.rules; simp only [gro.Rules] at R; clear hbv
    go_wp2_with fail
    (with_reducible refine (h5.out _).mono ?_)
    rintro e wv ⟨rfl, hbv⟩; replace BB := Lib.hid (BB.out.trans (hbv.mono BB.out.size)); replace KK := Lib.hid (KK.out.below hbv); replace R := KK.out.rules; simp only [gro.Rules] at R; clear hbv
    go_wp2
    go_ret
    exact ⟨rfl, BB.out⟩
  cases vb
  case false =>
    go_enter Try.func18, Try.ntmps18
    go_wp2_with fail
    obtain ⟨W0, hW, hs0, K0, B0⟩ := gro.start4 w 36 36 23 23 #[Value.int IntKind.i64 xa0, Value.int IntKind.i64 xb0, Value.int IntKind.i64 xc0, Value.int IntKind.i64 xd0, Value.int IntKind.i64 xe0, Value.int IntKind.i64 xf0] #[Value.int IntKind.i64 xa1, Value.int IntKind.i64 xb1, Value.int IntKind.i64 xc1, Value.int IntKind.i64 xd1, Value.int IntKind.i64 xe1, Value.int IntKind.i64 xf1] #[Value.int IntKind.i64 a2, Value.int IntKind.i64 b2] #[Value.int IntKind.i64 a3, Value.int IntKind.i64 b3]
    rw [hW]
    clear hW
    have KK := Lib.hid K0
    have BB := Lib.hid B0
    have sz : w.heap.size + 4 ≤ W0.heap.size := by omega
    have R := K0.rules
    simp only [gro.Rules] at R
    clear K0 B0 hs0
    (with_reducible refine (h1.out _).mono ?_)
    rintro e u1 ⟨rfl, hb⟩
    replace BB := Lib.hid (BB.out.trans (hb.mono BB.out.size))
    replace KK := Lib.hid (KK.out.below hb)
    replace sz := Nat.le_trans sz hb.size
    replace R := KK.out.rules
    simp only [gro.Rules] at R
    clear hb
    obtain ⟨s1, hs1⟩ : ∃ s, u1.heap.size = s := ⟨_, rfl⟩
    rw [hs1] at sz
    go_wp2_with fail
    obtain ⟨W3, hW, K3, B3, z3⟩ := gro.name_world (KK.out.new (t := 36) (c := #[Value.int IntKind.i64 m0, Value.int IntKind.i64 m1, Value.int IntKind.i64 m2, Value.int IntKind.i64 m3, Value.int IntKind.i64 m4, Value.int IntKind.i64 m5]) hs1) (BB.out.alloc BB.out.size _) (s := s1 + 1) (by simp; omega)
    rw [hW]
    clear hW KK BB
    have KK := Lib.hid K3
    have BB := Lib.hid B3
    replace sz := Nat.le_trans (Nat.le_succ_of_le sz) z3
    replace R := K3.rules
    simp only [gro.Rules] at R
    clear K3 B3 z3 hs1
    (with_reducible refine (h2.out _).mono ?_)
    rintro e u2 ⟨rfl, hb⟩
    replace BB := Lib.hid (BB.out.trans (hb.mono BB.out.size))
    replace KK := Lib.hid (KK.out.below hb)
    replace sz := Nat.le_trans sz hb.size
    replace R := KK.out.rules
    simp only [gro.Rules] at R
    clear hb
    obtain ⟨s2, hs2⟩ : ∃ s, u2.heap.size = s := ⟨_, rfl⟩
    rw [hs2] at sz
    replace KK := Lib.hid (KK.out.new (t := 23) (c := #[Value.int IntKind.i64 sn, Value.int IntKind.i64 sd]) hs2)
    replace BB := Lib.hid (BB.out.alloc BB.out.size (.cells #[Value.int IntKind.i64 sn, Value.int IntKind.i64 sd] 23))
    replace R := KK.out.rules
    simp only [gro.Rules] at R
    clear h1 h2
    go_wp2_with fail
    (with_reducible refine (h3.out _).mono ?_)
    rintro e wv ⟨rfl, hbv⟩; replace BB := Lib.hid (BB.out.trans (hbv.mono BB.out.size)); replace KK := Lib.hid (KK.out.below hbv); replace R := KK.out.rules; simp only [gro.Rules] at R; clear hbv
    go_wp2_with fail
    (with_reducible refine (h4.out _).mono ?_)
    rintro e wv ⟨rfl, hbv⟩; replace BB := Lib.hid (BB.out.trans (hbv.mono BB.out.size)); replace KK := Lib.hid (KK.out.below hbv); replace R := KK.out.rules; simp only [gro.Rules] at R; clear hbv
    go_wp2_with fail
    (with_reducible refine (h5.out _).mono ?_)
    rintro e wv ⟨rfl, hbv⟩; replace BB := Lib.hid (BB.out.trans (hbv.mono BB.out.size)); replace KK := Lib.hid (KK.out.below hbv); replace R := KK.out.rules; simp only [gro.Rules] at R; clear hbv
    go_wp2
    go_ret
    exact ⟨rfl, BB.out⟩
  obtain rfl : vf = true := hl rfl rfl rfl rfl
  go_enter Try.func18, Try.ntmps18
  go_wp2_with fail
  obtain ⟨W0, hW, hs0, K0, B0⟩ := gro.start4 w 36 36 23 23 #[Value.int IntKind.i64 xa0, Value.int IntKind.i64 xb0, Value.int IntKind.i64 xc0, Value.int IntKind.i64 xd0, Value.int IntKind.i64 xe0, Value.int IntKind.i64 xf0] #[Value.int IntKind.i64 xa1, Value.int IntKind.i64 xb1, Value.int IntKind.i64 xc1, Value.int IntKind.i64 xd1, Value.int IntKind.i64 xe1, Value.int IntKind.i64 xf1] #[Value.int IntKind.i64 a2, Value.int IntKind.i64 b2] #[Value.int IntKind.i64 a3, Value.int IntKind.i64 b3]
  rw [hW]
  clear hW
  have KK := Lib.hid K0
  have BB := Lib.hid B0
  have sz : w.heap.size + 4 ≤ W0.heap.size := by omega
  have R := K0.rules
  simp only [gro.Rules] at R
  clear K0 B0 hs0
  (with_reducible refine (h1.out _).mono ?_)
  rintro e u1 ⟨rfl, hb⟩
  replace BB := Lib.hid (BB.out.trans (hb.mono BB.out.size))
  replace KK := Lib.hid (KK.out.below hb)
  replace sz := Nat.le_trans sz hb.size
  replace R := KK.out.rules
  simp only [gro.Rules] at R
  clear hb
  obtain ⟨s1, hs1⟩ : ∃ s, u1.heap.size = s := ⟨_, rfl⟩
  rw [hs1] at sz
  go_wp2_with fail
  obtain ⟨W3, hW, K3, B3, z3⟩ := gro.name_world (KK.out.new (t := 36) (c := #[Value.int IntKind.i64 m0, Value.int IntKind.i64 m1, Value.int IntKind.i64 m2, Value.int IntKind.i64 m3, Value.int IntKind.i64 m4, Value.int IntKind.i64 m5]) hs1) (BB.out.alloc BB.out.size _) (s := s1 + 1) (by simp; omega)
  rw [hW]
  clear hW KK BB
  have KK := Lib.hid K3
  have BB := Lib.hid B3
  replace sz := Nat.le_trans (Nat.le_succ_of_le sz) z3
  replace R := K3.rules
  simp only [gro.Rules] at R
  clear K3 B3 z3 hs1
  (with_reducible refine (h2.out _).mono ?_)
  rintro e u2 ⟨rfl, hb⟩
  replace BB := Lib.hid (BB.out.trans (hb.mono BB.out.size))
  replace KK := Lib.hid (KK.out.below hb)
  replace sz := Nat.le_trans sz hb.size
  replace R := KK.out.rules
  simp only [gro.Rules] at R
  clear hb
  obtain ⟨s2, hs2⟩ : ∃ s, u2.heap.size = s := ⟨_, rfl⟩
  rw [hs2] at sz
  replace KK := Lib.hid (KK.out.new (t := 23) (c := #[Value.int IntKind.i64 sn, Value.int IntKind.i64 sd]) hs2)
  replace BB := Lib.hid (BB.out.alloc BB.out.size (.cells #[Value.int IntKind.i64 sn, Value.int IntKind.i64 sd] 23))
  replace R := KK.out.rules
  simp only [gro.Rules] at R
  clear h1 h2
  go_wp2_with fail
  (with_reducible refine (h3.out _).mono ?_)
  rintro e wv ⟨rfl, hbv⟩; replace BB := Lib.hid (BB.out.trans (hbv.mono BB.out.size)); replace KK := Lib.hid (KK.out.below hbv); replace R := KK.out.rules; simp only [gro.Rules] at R; clear hbv
  go_wp2_with fail
  (with_reducible refine (h4.out _).mono ?_)
  rintro e wv ⟨rfl, hbv⟩; replace BB := Lib.hid (BB.out.trans (hbv.mono BB.out.size)); replace KK := Lib.hid (KK.out.below hbv); replace R := KK.out.rules; simp only [gro.Rules] at R; clear hbv
  go_wp2_with fail
  (with_reducible refine (h6.out _).mono ?_)
  rintro e wv ⟨rfl, hbv⟩; replace BB := Lib.hid (BB.out.trans (hbv.mono BB.out.size)); replace KK := Lib.hid (KK.out.below hbv); replace R := KK.out.rules; simp only [gro.Rules] at R; clear hbv
  go_wp2_with fail
  (with_reducible refine (h5.out _).mono ?_)
  rintro e wv ⟨rfl, hbv⟩; replace BB := Lib.hid (BB.out.trans (hbv.mono BB.out.size)); replace KK := Lib.hid (KK.out.below hbv); replace R := KK.out.rules; simp only [gro.Rules] at R; clear hbv
  go_wp2
  go_ret
  exact ⟨rfl, BB.out⟩
end Go.Proofs.Ytoejhikcnnppnaa.boundsSumHolds
