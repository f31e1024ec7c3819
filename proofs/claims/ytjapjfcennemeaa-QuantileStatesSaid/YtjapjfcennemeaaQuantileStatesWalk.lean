/- The walk of the law QuantileStates: it returns true and leaves what was there. -/
import Derived.Test.YtjapjfcennemeaaRows
import Derived.Test.YtjapjfcennemeaaMgTri
import Derived.Test.YtjapjfcennemeaaMgQt5
import Derived.Test.YtjapjfcennemeaaMgQt4
import Derived.Test.YtjapjfcennemeaaMgFewQ
import Derived.WalkKit
import Derived.ProofKit
import Derived.OpenShut
import Derived.ShutString
namespace Go.Proofs.Ytjapjfcennemeaa.quantileStates
open Go.ChangeShapes Go.WideShapes Go.ChangeAt Go.RowKit
open Go.ChangeMaps (open_string shut_string)
set_option linter.unusedVariables false

set_option maxHeartbeats 4000000 in
theorem walk (ya0 yb0 yc0 yd0 : Int) (A0 : Option Addr) (n0 c0 : Nat) (z0 : List mem.BlkM) (a1 : Int) (a2 : Int) (w : World) (iw0 : opn.Rng ya0 ∧ opn.Rng yb0 ∧ opn.Rng yc0 ∧ opn.Rng yd0) (s0 : mem.BRead w w.heap.size A0 n0 z0) (e0 : n0 ≤ c0) (m0 : c0 ≤ maxLen) (iw1 : opn.Rng a1) (iw2 : opn.Rng a2) :
    Calls Try.prog 10 #[.agg #[.int .i64 ya0, .int .i64 yb0, .int .i64 yc0, .int .i64 yd0, .slice A0 n0 c0], .int .i64 a1, .int .i64 a2] w fun e w' => e = .returned (.bool true) ∧ Below w.heap.size w w' := by
  have hF := Lib.hid (fun W (hb : Below w.heap.size w W) => blk.few23_any ya0 yb0 yc0 yd0 A0 n0 c0 z0 W ((s0.below hb).more hb.size) (Nat.le_trans e0 m0))
  have HA := Lib.hid (fun W => qtl.awake23_any W)
  have H0 := Lib.hid s0
  have hp64 := iw0.2.2.1.2
  clear s0 iw0 iw1 iw2
  go_enter Try.func10, Try.ntmps10
  go_wp2_with fail
  obtain ⟨W0, hW, hs0, K0, B0⟩ := gro.start1 w 70 #[Value.int IntKind.i64 ya0, Value.int IntKind.i64 yb0, Value.int IntKind.i64 yc0, Value.int IntKind.i64 yd0, Value.slice A0 n0 c0]
  rw [hW]
  clear hW
  have KK := Lib.hid K0
  have BB := Lib.hid B0
  have R := K0.rules
  simp only [gro.Rules] at R
  clear K0 B0 hs0
  go_wp2_with fail
  refine (hF.out _ BB.out).mono ?_
  rintro e w0 ⟨f, rfl, hf40, hb0⟩
  replace BB := Lib.hid (BB.out.trans (hb0.mono BB.out.size))
  replace KK := Lib.hid (KK.out.below hb0)
  replace R := KK.out.rules
  simp only [gro.Rules] at R
  clear hb0 hF
  cases f with
  | false =>
    go_wp2_with (go_at_call 51; refine (HA.out _).mono ?_; rintro e w4 ⟨rfl, hb4⟩)
    go_ret
    exact ⟨rfl, BB.out.trans (hb4.mono BB.out.size)⟩
  | true =>
    obtain ⟨hn, hsum⟩ := hf40 rfl
    clear hf40 hsum
    have hm16 : n0 ≤ 64000 := by omega
    have hn65 : n0 ≤ 65000 := by omega
    have hent : rnk.validK (z0.map blk.bkey) (2 * yb0) (qtl.sizeQ yb0 yc0) = true → rnk.entsK (z0.map blk.bkey) ≤ 4000000 := fun h => blk.ents_few (by rw [List.length_map, H0.out.len]; omega) h
    have h1 := Lib.hid (fun W (hb : Below w.heap.size w W) => qtl.AdvanceQ_any (fun _ => True) ya0 yb0 yc0 yd0 a1 A0 n0 c0 z0 W ((H0.out.below hb).more hb.size) e0 m0 hm16 hp64 (fun _ _ _ _ _ => trivial))
    have h2 := Lib.hid (fun W (hb : Below w.heap.size w W) => qtl.AdvanceQR_any (fun _ => True) ya0 yb0 yc0 yd0 a1 A0 n0 c0 z0 W ((H0.out.below hb).more hb.size) e0 m0 hm16 hp64 (fun _ _ _ _ _ => trivial) (fun _ => trivial))
    have h3 := Lib.hid (fun W (hb : Below w.heap.size w W) => qtl.AddQ_any (fun _ => True) ya0 yb0 yc0 yd0 a2 A0 n0 c0 z0 W ((H0.out.below hb).more hb.size) hm16 hp64 hent (fun _ _ _ _ _ => trivial))
    have h4 := Lib.hid (fun W (hb : Below w.heap.size w W) => qtl.AddQR_any (fun _ => True) ya0 yb0 yc0 yd0 a2 A0 n0 c0 z0 W ((H0.out.below hb).more hb.size) hm16 hp64 hent (fun _ _ _ _ _ => trivial))
    have h5 := Lib.hid (fun W (hb : Below w.heap.size w W) => qtl.ValidateQ_any ya0 yb0 yc0 yd0 A0 n0 c0 z0 W ((H0.out.below hb).more hb.size) hn65 hp64)
    have h6 := Lib.hid (fun W (hb : Below w.heap.size w W) => qtl.ValidateQR_any ya0 yb0 yc0 yd0 A0 n0 c0 z0 W ((H0.out.below hb).more hb.size) hn65 hp64)
    generalize qtl.advQ (z0.map blk.bkey) ya0 yb0 yc0 yd0 a1 = R1 at *
    generalize qtl.addQ (z0.map blk.bkey) ya0 yb0 yc0 yd0 a2 = R2 at *
    generalize qtl.okE (qtl.fitQ (z0.map blk.bkey) ya0 yb0 yc0 yd0) = ok at *
    obtain ⟨⟨u1, u2, u3, u4, l1⟩, er1⟩ := R1
    obtain ⟨⟨t1, t2, t3, t4, l2⟩, er2⟩ := R2
    have q1 : (ok == ok) = true := by simp
    have q2 : (er1 == er1) = true := by simp
    have q3 : (er2 == er2) = true := by simp
    clear H0 hent
    go_wp2_with fail
    refine (h1.out _ BB.out).mono ?_
    rintro e w1 ⟨A1, m1, c1, y1, rfl, p1, p2, hr, k1, hb, -, -⟩
    replace BB := Lib.hid (BB.out.trans (hb.mono BB.out.size))
    replace KK := Lib.hid (KK.out.below hb)
    have HY1 := Lib.hid hr
    have KHY1 := Lib.hid k1
    clear hb hr k1
    replace R := KK.out.rules
    simp only [gro.Rules] at R
    obtain ⟨g1, hg1⟩ : ∃ s, w1.heap.size = s := ⟨_, rfl⟩
    have BZ := Lib.hid (BB.out.alloc BB.out.size (.cells #[Value.int IntKind.i64 u1, Value.int IntKind.i64 u2, Value.int IntKind.i64 u3, Value.int IntKind.i64 u4, Value.slice A1 m1 c1] 70))
    have KZ := Lib.hid (KK.out.new (t := 70) (c := #[Value.int IntKind.i64 u1, Value.int IntKind.i64 u2, Value.int IntKind.i64 u3, Value.int IntKind.i64 u4, Value.slice A1 m1 c1]) hg1)
    have hba : Below w1.heap.size w1 (w1.alloc (.cells #[Value.int IntKind.i64 u1, Value.int IntKind.i64 u2, Value.int IntKind.i64 u3, Value.int IntKind.i64 u4, Value.slice A1 m1 c1] 70)) := (Below.refl _ _).alloc (Nat.le_refl _) _
    replace HY1 := Lib.hid ((HY1.out.below hba).more hba.size)
    clear hba
    go_upto_region 4 with fail
    obtain ⟨xg1, hW, K3, B3, z3⟩ := gro.name_world KZ.out BZ.out (s := 0) (Nat.zero_le _)
    rw [hW] at HY1
    rw [hW]
    clear hW BZ KZ z3 BB hg1 KK R
    have KK := Lib.hid K3
    have BB := Lib.hid B3
    have R := KK.out.rules
    simp only [gro.Rules] at R
    clear K3 B3
    go_wp2_with fail
    refine (h2.out _ BB.out).mono ?_
    rintro e w2 ⟨A2, m2, c2, y2, rfl, p3, p4, hr, k2, hb, -, -⟩
    replace BB := Lib.hid (BB.out.trans (hb.mono BB.out.size))
    replace KK := Lib.hid (KK.out.below hb)
    replace HY1 := Lib.hid ((HY1.out.below hb).more hb.size)
    have HY2 := Lib.hid hr
    have KHY2 := Lib.hid k2
    clear hb hr k2
    replace R := KK.out.rules
    simp only [gro.Rules] at R
    obtain ⟨g2, hg2⟩ : ∃ s, w2.heap.size = s := ⟨_, rfl⟩
    have BZ := Lib.hid (BB.out.alloc BB.out.size (.cells #[Value.int IntKind.i64 u1, Value.int IntKind.i64 u2, Value.int IntKind.i64 u3, Value.int IntKind.i64 u4, Value.slice A2 m2 c2] 70))
    have KZ := Lib.hid (KK.out.new (t := 70) (c := #[Value.int IntKind.i64 u1, Value.int IntKind.i64 u2, Value.int IntKind.i64 u3, Value.int IntKind.i64 u4, Value.slice A2 m2 c2]) hg2)
    have hba : Below w2.heap.size w2 (w2.alloc (.cells #[Value.int IntKind.i64 u1, Value.int IntKind.i64 u2, Value.int IntKind.i64 u3, Value.int IntKind.i64 u4, Value.slice A2 m2 c2] 70)) := (Below.refl _ _).alloc (Nat.le_refl _) _
    replace HY1 := Lib.hid ((HY1.out.below hba).more hba.size)
    replace HY2 := Lib.hid ((HY2.out.below hba).more hba.size)
    clear hba
    go_upto_region 5 with fail
    obtain ⟨xg2, hW, K3, B3, z3⟩ := gro.name_world KZ.out BZ.out (s := 0) (Nat.zero_le _)
    rw [hW] at HY1
    rw [hW] at HY2
    rw [hW]
    clear hW BZ KZ z3 BB hg2 KK R
    have KK := Lib.hid K3
    have BB := Lib.hid B3
    have R := KK.out.rules
    simp only [gro.Rules] at R
    clear K3 B3
    go_wp2_with fail
    refine (h3.out _ BB.out).mono ?_
    rintro e w3 ⟨A3, m3, c3, y3, rfl, p5, p6, hr, k3, hb, -, -⟩
    replace BB := Lib.hid (BB.out.trans (hb.mono BB.out.size))
    replace KK := Lib.hid (KK.out.below hb)
    replace HY1 := Lib.hid ((HY1.out.below hb).more hb.size)
    replace HY2 := Lib.hid ((HY2.out.below hb).more hb.size)
    have HY3 := Lib.hid hr
    have KHY3 := Lib.hid k3
    clear hb hr k3
    replace R := KK.out.rules
    simp only [gro.Rules] at R
    obtain ⟨g3, hg3⟩ : ∃ s, w3.heap.size = s := ⟨_, rfl⟩
    have BZ := Lib.hid (BB.out.alloc BB.out.size (.cells #[Value.int IntKind.i64 t1, Value.int IntKind.i64 t2, Value.int IntKind.i64 t3, Value.int IntKind.i64 t4, Value.slice A3 m3 c3] 70))
    have KZ := Lib.hid (KK.out.new (t := 70) (c := #[Value.int IntKind.i64 t1, Value.int IntKind.i64 t2, Value.int IntKind.i64 t3, Value.int IntKind.i64 t4, Value.slice A3 m3 c3]) hg3)
    have hba : Below w3.heap.size w3 (w3.alloc (.cells #[Value.int IntKind.i64 t1, Value.int IntKind.i64 t2, Value.int IntKind.i64 t3, Value.int IntKind.i64 t4, Value.slice A3 m3 c3] 70)) := (Below.refl _ _).alloc (Nat.le_refl _) _
    replace HY1 := Lib.hid ((HY1.out.below hba).more hba.size)
    replace HY2 := Lib.hid ((HY2.out.below hba).more hba.size)
    replace HY3 := Lib.hid ((HY3.out.below hba).more hba.size)
    clear hba
    go_upto_region 6 with fail
    obtain ⟨xg3, hW, K3, B3, z3⟩ := gro.name_world KZ.out BZ.out (s := 0) (Nat.zero_le _)
    rw [hW] at HY1
    rw [hW] at HY2
    rw [hW] at HY3
    rw [hW]
    clear hW BZ KZ z3 BB hg3 KK R
    have KK := Lib.hid K3
    have BB := Lib.hid B3
    have R := KK.out.rules
    simp only [gro.Rules] at R
    clear K3 B3
    go_wp2_with fail
    refine (h4.out _ BB.out).mono ?_
    rintro e w4 ⟨A4, m4, c4, y4, rfl, p7, p8, hr, k4, hb, -, -⟩
    replace BB := Lib.hid (BB.out.trans (hb.mono BB.out.size))
    replace KK := Lib.hid (KK.out.below hb)
    replace HY1 := Lib.hid ((HY1.out.below hb).more hb.size)
    replace HY2 := Lib.hid ((HY2.out.below hb).more hb.size)
    replace HY3 := Lib.hid ((HY3.out.below hb).more hb.size)
    have HY4 := Lib.hid hr
    have KHY4 := Lib.hid k4
    clear hb hr k4
    replace R := KK.out.rules
    simp only [gro.Rules] at R
    obtain ⟨g4, hg4⟩ : ∃ s, w4.heap.size = s := ⟨_, rfl⟩
    have BZ := Lib.hid (BB.out.alloc BB.out.size (.cells #[Value.int IntKind.i64 t1, Value.int IntKind.i64 t2, Value.int IntKind.i64 t3, Value.int IntKind.i64 t4, Value.slice A4 m4 c4] 70))
    have KZ := Lib.hid (KK.out.new (t := 70) (c := #[Value.int IntKind.i64 t1, Value.int IntKind.i64 t2, Value.int IntKind.i64 t3, Value.int IntKind.i64 t4, Value.slice A4 m4 c4]) hg4)
    have hba : Below w4.heap.size w4 (w4.alloc (.cells #[Value.int IntKind.i64 t1, Value.int IntKind.i64 t2, Value.int IntKind.i64 t3, Value.int IntKind.i64 t4, Value.slice A4 m4 c4] 70)) := (Below.refl _ _).alloc (Nat.le_refl _) _
    replace HY1 := Lib.hid ((HY1.out.below hba).more hba.size)
    replace HY2 := Lib.hid ((HY2.out.below hba).more hba.size)
    replace HY3 := Lib.hid ((HY3.out.below hba).more hba.size)
    replace HY4 := Lib.hid ((HY4.out.below hba).more hba.size)
    clear hba
    go_upto_region 7 with fail
    obtain ⟨xg4, hW, K3, B3, z3⟩ := gro.name_world KZ.out BZ.out (s := 0) (Nat.zero_le _)
    rw [hW] at HY1
    rw [hW] at HY2
    rw [hW] at HY3
    rw [hW] at HY4
    rw [hW]
    clear hW BZ KZ z3 BB hg4 KK R
    have KK := Lib.hid K3
    have BB := Lib.hid B3
    have R := KK.out.rules
    simp only [gro.Rules] at R
    clear K3 B3
    go_wp2_with fail
    have hm1 : m1 ≤ 9223372036854775807 := Nat.le_trans p1 p2
    have hm3 : m3 ≤ 9223372036854775807 := Nat.le_trans p5 p6
    have HS1 := Lib.hid (fun W (hb : Below xg4.heap.size xg4 W) => qtl.SameQ_any u1 u2 u3 u4 A1 A2 m1 c1 m2 c2 y1 y2 W ((HY1.out.below hb).more hb.size) ((HY2.out.below hb).more hb.size) (KHY1.out.trans KHY2.out.symm) hm1)
    have HS2 := Lib.hid (fun W (hb : Below xg4.heap.size xg4 W) => qtl.SameQ_any t1 t2 t3 t4 A3 A4 m3 c3 m4 c4 y3 y4 W ((HY3.out.below hb).more hb.size) ((HY4.out.below hb).more hb.size) (KHY3.out.trans KHY4.out.symm) hm3)
    clear HY1 HY2 HY3 HY4 KHY1 KHY2 KHY3 KHY4 p1 p2 p3 p4 p5 p6 p7 p8
    (refine gro.wp_region_grown (by kernel_rfl) (by kernel_rfl) ?_; (repeat (go_big_quiet_step ((first | (go_at_call 57; exact gro.call_grown (h5.out _ (BB.out.trans ((gro.below_grown _ _).mono BB.out.size)))) | (go_at_call 58; exact gro.call_grown (h6.out _ (BB.out.trans ((gro.below_grown _ _).mono BB.out.size)))) | (go_at_call 46; first | (with_reducible exact gro.call_grown (HS1.out _ (gro.below_grown _ _))) | (with_reducible exact gro.call_grown (HS2.out _ (gro.below_grown _ _)))) | (go_at_call 51; exact gro.call_grown (HA.out _)))))); refine wpQuiet_nil ?_; intro _ hw'; obtain ⟨nx, hw''⟩ := hw'; subst hw'')
    replace BB := Lib.hid (BB.out.trans ((gro.below_grown _ nx).mono BB.out.size))
    clear KK R HS1 HS2
    generalize gro.grown _ nx = v6 at *
    go_wp2
    go_ret
    exact ⟨rfl, BB.out⟩
end Go.Proofs.Ytjapjfcennemeaa.quantileStates
