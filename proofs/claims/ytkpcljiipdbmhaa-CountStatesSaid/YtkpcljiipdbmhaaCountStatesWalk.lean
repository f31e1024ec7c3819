/- The walk of the law CountStates: it returns true and leaves what was there. -/
import Derived.Test.YtkpcljiipdbmhaaRows
import Derived.Test.YtkpcljiipdbmhaaMgClk
import Derived.Test.YtkpcljiipdbmhaaCst9
import Derived.Test.YtkpcljiipdbmhaaCst4
import Derived.Test.YtkpcljiipdbmhaaCst8
import Derived.Test.YtkpcljiipdbmhaaMgAwake11
import Derived.Test.YtkpcljiipdbmhaaOpenC
import Derived.Test.YtkpcljiipdbmhaaMgCanon
import Derived.WalkKit
import Derived.ProofKit
import Derived.OpenShut
import Derived.ShutString
namespace Go.Proofs.Ytkpcljiipdbmhaa.countStates
open Go.ChangeShapes Go.WideShapes Go.ChangeAt Go.RowKit
open Go.ChangeMaps (open_string shut_string)
set_option linter.unusedVariables false

set_option maxHeartbeats 4000000 in
set_option maxRecDepth 100000 in
theorem walk (ya0 : Int) (yb0 : Int) (yc0 : Int) (yd0 : Int) (A0 : Option Addr) (n0 c0 : Nat) (z0 : List (Int × Int)) (a1 : Int) (w : World) (iw0 : opn.Rng ya0 ∧ opn.Rng yb0 ∧ opn.Rng yc0 ∧ opn.Rng yd0) (s0 : mem.PRead w w.heap.size A0 n0 z0) (e0 : n0 ≤ c0) (m0 : c0 ≤ maxLen) (r0 : ∀ p ∈ z0, opn.Rng p.1 ∧ opn.Rng p.2) (iw1 : opn.Rng a1) :
    Calls Try.prog 4 #[.agg #[.int .i64 ya0, .int .i64 yb0, .int .i64 yc0, .int .i64 yd0, .slice A0 n0 c0], .int .i64 a1] w fun e w' => e = .returned (.bool true) ∧ Below w.heap.size w w' := by
  have hF := Lib.hid (fun W => cst.fewC_any ya0 yb0 yc0 yd0 A0 n0 c0 W (Nat.le_trans e0 m0))
  have h9 := Lib.hid (fun W => cst.awake11_any W)
  by_cases hs : n0 ≤ 300
  case neg =>
    rw [decide_eq_false hs] at hF
    clear iw0 s0 r0
    go_enter Try.func4, Try.ntmps4
    go_wp2_with fail
    obtain ⟨W0, hW, hs0, K0, B0⟩ := gro.start1 w 24 #[Value.int IntKind.i64 ya0, Value.int IntKind.i64 yb0, Value.int IntKind.i64 yc0, Value.int IntKind.i64 yd0, Value.slice A0 n0 c0]
    rw [hW]
    clear hW
    have KK := Lib.hid K0
    have BB := Lib.hid B0
    have R := K0.rules
    simp only [gro.Rules] at R
    clear K0 B0 hs0
    (with_reducible refine (hF.out _).mono ?_)
    rintro e wv ⟨rfl, hbv⟩; replace BB := Lib.hid (BB.out.trans (hbv.mono BB.out.size)); replace KK := Lib.hid (KK.out.below hbv); replace R := KK.out.rules; simp only [gro.Rules] at R; clear hbv
    go_wp2_with fail
    (with_reducible refine (h9.out _).mono ?_)
    rintro e wv ⟨rfl, hbv⟩; replace BB := Lib.hid (BB.out.trans (hbv.mono BB.out.size)); replace KK := Lib.hid (KK.out.below hbv); replace R := KK.out.rules; simp only [gro.Rules] at R; clear hbv
    go_wp2
    go_ret
    exact ⟨rfl, BB.out⟩
  have hlb : (cst.lsK (cst.fitB z0 ya0 yb0 yc0 yd0 && !decide ((lst.totalN z0 : Int) = yc0)) (lst.insI z0 yb0 yd0)).length ≤ 2000 := cst.lsb_C n0 (mem.PRead.len s0) hs _
  rw [decide_eq_true hs] at hF
  have h1 := Lib.hid (fun W (hb : Below w.heap.size w W) => cst.AdvanceC_any ya0 yb0 yc0 yd0 a1 A0 n0 c0 z0 W ((s0.below hb).more hb.size) e0 m0 (by omega))
  have h2 := Lib.hid (fun W (hb : Below w.heap.size w W) => cst.AdvanceCR_any ya0 yb0 yc0 yd0 a1 A0 n0 c0 z0 W ((s0.below hb).more hb.size) e0 m0 (by omega))
  have h3 := Lib.hid (fun W (hb : Below w.heap.size w W) => (cst.AddC_any ya0 yb0 yc0 yd0 A0 n0 c0 z0 W ((s0.below hb).more hb.size) e0 m0 (by omega)).mono (fun _ _ h => h.st))
  have h4 := Lib.hid (fun W (hb : Below w.heap.size w W) => (cst.AddCR_any ya0 yb0 yc0 yd0 A0 n0 c0 z0 W ((s0.below hb).more hb.size) e0 m0 (by omega)).mono (fun _ _ h => h.st))
  have h5 := Lib.hid (fun W (hb : Below w.heap.size w W) => cst.AskC_any ya0 yb0 yc0 yd0 A0 n0 c0 z0 W ((s0.below hb).more hb.size) e0 m0 (by omega))
  have h6 := Lib.hid (fun W (hb : Below w.heap.size w W) => cst.AskCR_any ya0 yb0 yc0 yd0 A0 n0 c0 z0 W ((s0.below hb).more hb.size) e0 m0 (by omega))
  have h7 := Lib.hid (fun W (hb : Below w.heap.size w W) => cst.ValidateC_any ya0 yb0 yc0 yd0 A0 n0 c0 z0 W ((s0.below hb).more hb.size) e0 m0 (by omega))
  have h8 := Lib.hid (fun W (hb : Below w.heap.size w W) => cst.ValidateCR_any ya0 yb0 yc0 yd0 A0 n0 c0 z0 W ((s0.below hb).more hb.size) e0 m0 (by omega))
  have H0 := Lib.hid s0
  have hl1 : (lst.expireL (clk.firstI a1 ya0) z0).length ≤ n0 := by have := lst.expireL_le (clk.firstI a1 ya0) z0; rw [mem.PRead.len s0] at this; exact this
  have hla : (cst.lsK (cst.fitB z0 ya0 yb0 yc0 yd0 && cst.okT (cst.timeE yd0 a1)) (lst.expireL (clk.firstI a1 ya0) z0)).length ≤ 300 := by unfold cst.lsK; split; (· omega); (· simp)
  obtain ⟨m0_, m1_, m2_, m3_, m4_, m5_, hqv⟩ : ∃ m0 m1 m2 m3 m4 m5 : Int, cst.askV (cst.fitB z0 ya0 yb0 yc0 yd0) z0 = .agg #[.int .i64 m0, .int .i64 m1, .int .i64 m2, .int .i64 m3, .int .i64 m4, .int .i64 m5] := cst.ask_form _ _
  have h5b : Hid (∀ W, Below w.heap.size w W → Calls Try.prog 23 #[.agg #[Value.int IntKind.i64 ya0, Value.int IntKind.i64 yb0, Value.int IntKind.i64 yc0, Value.int IntKind.i64 yd0, Value.slice A0 n0 c0]] W fun e w' => e = .returned (.tuple #[.agg #[.int .i64 m0_, .int .i64 m1_, .int .i64 m2_, .int .i64 m3_, .int .i64 m4_, .int .i64 m5_], .int .i64 (cst.okE (cst.fitB z0 ya0 yb0 yc0 yd0))]) ∧ Below W.heap.size W w') := fun W hb => by have := h5.out W hb; rwa [hqv] at this
  have h6b : Hid (∀ W, Below w.heap.size w W → Calls Try.prog 24 #[.agg #[Value.int IntKind.i64 ya0, Value.int IntKind.i64 yb0, Value.int IntKind.i64 yc0, Value.int IntKind.i64 yd0, Value.slice A0 n0 c0]] W fun e w' => e = .returned (.tuple #[.agg #[.int .i64 m0_, .int .i64 m1_, .int .i64 m2_, .int .i64 m3_, .int .i64 m4_, .int .i64 m5_], .int .i64 (cst.okE (cst.fitB z0 ya0 yb0 yc0 yd0))]) ∧ Below W.heap.size W w') := fun W hb => by have := h6.out W hb; rwa [hqv] at this
  have E1 := fun W => wid.bnd_eql m0_ m1_ m2_ m3_ m4_ m5_ W
  clear h5 h6 hqv iw0 s0 r0
  generalize cst.okE (cst.fitB z0 ya0 yb0 yc0 yd0) = ek at *
  generalize cst.kp (cst.fitB z0 ya0 yb0 yc0 yd0 && cst.okT (cst.timeE yd0 a1)) ya0 = x0 at *
  generalize cst.kp (cst.fitB z0 ya0 yb0 yc0 yd0 && cst.okT (cst.timeE yd0 a1)) yb0 = x1 at *
  generalize cst.kp (cst.fitB z0 ya0 yb0 yc0 yd0 && cst.okT (cst.timeE yd0 a1)) yc0 = x2 at *
  generalize cst.kp (cst.fitB z0 ya0 yb0 yc0 yd0 && cst.okT (cst.timeE yd0 a1)) a1 = x3 at *
  generalize cst.lsK (cst.fitB z0 ya0 yb0 yc0 yd0 && cst.okT (cst.timeE yd0 a1)) (lst.expireL (clk.firstI a1 ya0) z0) = la at *
  generalize cst.advE (cst.fitB z0 ya0 yb0 yc0 yd0) (cst.timeE yd0 a1) = ea at *
  generalize cst.kp (cst.fitB z0 ya0 yb0 yc0 yd0 && !decide ((lst.totalN z0 : Int) = yc0)) ya0 = y0 at *
  generalize cst.kp (cst.fitB z0 ya0 yb0 yc0 yd0 && !decide ((lst.totalN z0 : Int) = yc0)) yb0 = y1 at *
  generalize cst.kp (cst.fitB z0 ya0 yb0 yc0 yd0 && !decide ((lst.totalN z0 : Int) = yc0)) yc0 = y2 at *
  generalize cst.kp (cst.fitB z0 ya0 yb0 yc0 yd0 && !decide ((lst.totalN z0 : Int) = yc0)) yd0 = y3 at *
  generalize cst.lsK (cst.fitB z0 ya0 yb0 yc0 yd0 && !decide ((lst.totalN z0 : Int) = yc0)) (lst.insI z0 yb0 yd0) = lb at *
  generalize cst.addE (cst.fitB z0 ya0 yb0 yc0 yd0) (decide ((lst.totalN z0 : Int) = yc0)) = eb at *
  go_enter Try.func4, Try.ntmps4
  go_wp2_with fail
  obtain ⟨W0, hW, hs0, K0, B0⟩ := gro.start1 w 24 #[Value.int IntKind.i64 ya0, Value.int IntKind.i64 yb0, Value.int IntKind.i64 yc0, Value.int IntKind.i64 yd0, Value.slice A0 n0 c0]
  rw [hW]
  clear hW
  have KK := Lib.hid K0
  have BB := Lib.hid B0
  have R := K0.rules
  simp only [gro.Rules] at R
  clear K0 B0 hs0
  (with_reducible refine (hF.out _).mono ?_)
  rintro e wv ⟨rfl, hbv⟩; replace BB := Lib.hid (BB.out.trans (hbv.mono BB.out.size)); replace KK := Lib.hid (KK.out.below hbv); replace R := KK.out.rules; simp only [gro.Rules] at R; clear hbv
  go_wp2_with fail
  clear hF
  (refine (h1.out _ BB.out).mono ?_)
  rintro e u1 ⟨A1, l1, c1, rfl, p1, q1, hr, hb⟩
  replace BB := Lib.hid (BB.out.trans (hb.mono BB.out.size))
  replace KK := Lib.hid (KK.out.below hb)
  have HR1 := Lib.hid hr
  obtain ⟨s1, hs1⟩ : ∃ s, u1.heap.size = s := ⟨_, rfl⟩
  have hz : Below u1.heap.size u1 (u1.alloc (.cells #[Value.int IntKind.i64 x0, Value.int IntKind.i64 x1, Value.int IntKind.i64 x2, Value.int IntKind.i64 x3, Value.slice A1 l1 c1] 24)) := (Below.refl _ _).alloc (Nat.le_refl _) _
  replace KK := Lib.hid (KK.out.new (t := 24) (c := #[Value.int IntKind.i64 x0, Value.int IntKind.i64 x1, Value.int IntKind.i64 x2, Value.int IntKind.i64 x3, Value.slice A1 l1 c1]) hs1)
  replace BB := Lib.hid (BB.out.trans (hz.mono BB.out.size))
  replace HR1 := Lib.hid ((mem.Reads.below HR1.out hz).more hz.size)
  replace R := KK.out.rules
  simp only [gro.Rules] at R
  clear hr hb hz
  go_wp2_with fail
  generalize u1.alloc (.cells #[Value.int IntKind.i64 x0, Value.int IntKind.i64 x1, Value.int IntKind.i64 x2, Value.int IntKind.i64 x3, Value.slice A1 l1 c1] 24) = W1 at *
  clear hs1
  (refine (h2.out _ BB.out).mono ?_)
  rintro e u2 ⟨A2, l2, c2, rfl, p2, q2, hr, hb⟩
  replace BB := Lib.hid (BB.out.trans (hb.mono BB.out.size))
  replace KK := Lib.hid (KK.out.below hb)
  replace HR1 := Lib.hid ((mem.Reads.below HR1.out hb).more hb.size)
  have HR2 := Lib.hid hr
  obtain ⟨s2, hs2⟩ : ∃ s, u2.heap.size = s := ⟨_, rfl⟩
  have hz : Below u2.heap.size u2 (u2.alloc (.cells #[Value.int IntKind.i64 x0, Value.int IntKind.i64 x1, Value.int IntKind.i64 x2, Value.int IntKind.i64 x3, Value.slice A2 l2 c2] 24)) := (Below.refl _ _).alloc (Nat.le_refl _) _
  replace KK := Lib.hid (KK.out.new (t := 24) (c := #[Value.int IntKind.i64 x0, Value.int IntKind.i64 x1, Value.int IntKind.i64 x2, Value.int IntKind.i64 x3, Value.slice A2 l2 c2]) hs2)
  replace BB := Lib.hid (BB.out.trans (hz.mono BB.out.size))
  replace HR1 := Lib.hid ((mem.Reads.below HR1.out hz).more hz.size)
  replace HR2 := Lib.hid ((mem.Reads.below HR2.out hz).more hz.size)
  replace R := KK.out.rules
  simp only [gro.Rules] at R
  clear hr hb hz
  go_wp2_with fail
  generalize u2.alloc (.cells #[Value.int IntKind.i64 x0, Value.int IntKind.i64 x1, Value.int IntKind.i64 x2, Value.int IntKind.i64 x3, Value.slice A2 l2 c2] 24) = W2 at *
  clear hs2
  (refine (h3.out _ BB.out).mono ?_)
  rintro e u3 ⟨A3, l3, c3, rfl, p3, q3, hr, hb⟩
  replace BB := Lib.hid (BB.out.trans (hb.mono BB.out.size))
  replace KK := Lib.hid (KK.out.below hb)
  replace HR1 := Lib.hid ((mem.Reads.below HR1.out hb).more hb.size)
  replace HR2 := Lib.hid ((mem.Reads.below HR2.out hb).more hb.size)
  have HR3 := Lib.hid hr
  obtain ⟨s3, hs3⟩ : ∃ s, u3.heap.size = s := ⟨_, rfl⟩
  have hz : Below u3.heap.size u3 (u3.alloc (.cells #[Value.int IntKind.i64 y0, Value.int IntKind.i64 y1, Value.int IntKind.i64 y2, Value.int IntKind.i64 y3, Value.slice A3 l3 c3] 24)) := (Below.refl _ _).alloc (Nat.le_refl _) _
  replace KK := Lib.hid (KK.out.new (t := 24) (c := #[Value.int IntKind.i64 y0, Value.int IntKind.i64 y1, Value.int IntKind.i64 y2, Value.int IntKind.i64 y3, Value.slice A3 l3 c3]) hs3)
  replace BB := Lib.hid (BB.out.trans (hz.mono BB.out.size))
  replace HR1 := Lib.hid ((mem.Reads.below HR1.out hz).more hz.size)
  replace HR2 := Lib.hid ((mem.Reads.below HR2.out hz).more hz.size)
  replace HR3 := Lib.hid ((mem.Reads.below HR3.out hz).more hz.size)
  replace R := KK.out.rules
  simp only [gro.Rules] at R
  clear hr hb hz
  go_wp2_with fail
  generalize u3.alloc (.cells #[Value.int IntKind.i64 y0, Value.int IntKind.i64 y1, Value.int IntKind.i64 y2, Value.int IntKind.i64 y3, Value.slice A3 l3 c3] 24) = W3 at *
  clear hs3
  (refine (h4.out _ BB.out).mono ?_)
  rintro e u4 ⟨A4, l4, c4, rfl, p4, q4, hr, hb⟩
  replace BB := Lib.hid (BB.out.trans (hb.mono BB.out.size))
  replace KK := Lib.hid (KK.out.below hb)
  replace HR1 := Lib.hid ((mem.Reads.below HR1.out hb).more hb.size)
  replace HR2 := Lib.hid ((mem.Reads.below HR2.out hb).more hb.size)
  replace HR3 := Lib.hid ((mem.Reads.below HR3.out hb).more hb.size)
  have HR4 := Lib.hid hr
  obtain ⟨s4, hs4⟩ : ∃ s, u4.heap.size = s := ⟨_, rfl⟩
  have hz : Below u4.heap.size u4 (u4.alloc (.cells #[Value.int IntKind.i64 y0, Value.int IntKind.i64 y1, Value.int IntKind.i64 y2, Value.int IntKind.i64 y3, Value.slice A4 l4 c4] 24)) := (Below.refl _ _).alloc (Nat.le_refl _) _
  replace KK := Lib.hid (KK.out.new (t := 24) (c := #[Value.int IntKind.i64 y0, Value.int IntKind.i64 y1, Value.int IntKind.i64 y2, Value.int IntKind.i64 y3, Value.slice A4 l4 c4]) hs4)
  replace BB := Lib.hid (BB.out.trans (hz.mono BB.out.size))
  replace HR1 := Lib.hid ((mem.Reads.below HR1.out hz).more hz.size)
  replace HR2 := Lib.hid ((mem.Reads.below HR2.out hz).more hz.size)
  replace HR3 := Lib.hid ((mem.Reads.below HR3.out hz).more hz.size)
  replace HR4 := Lib.hid ((mem.Reads.below HR4.out hz).more hz.size)
  replace R := KK.out.rules
  simp only [gro.Rules] at R
  clear hr hb hz
  go_wp2_with fail
  generalize u4.alloc (.cells #[Value.int IntKind.i64 y0, Value.int IntKind.i64 y1, Value.int IntKind.i64 y2, Value.int IntKind.i64 y3, Value.slice A4 l4 c4] 24) = W4 at *
  clear hs4
  (with_reducible refine (h5b.out _ BB.out).mono ?_)
  rintro e u5 ⟨rfl, hb⟩
  replace BB := Lib.hid (BB.out.trans (hb.mono BB.out.size))
  replace KK := Lib.hid (KK.out.below hb)
  replace HR1 := Lib.hid ((mem.Reads.below HR1.out hb).more hb.size)
  replace HR2 := Lib.hid ((mem.Reads.below HR2.out hb).more hb.size)
  replace HR3 := Lib.hid ((mem.Reads.below HR3.out hb).more hb.size)
  replace HR4 := Lib.hid ((mem.Reads.below HR4.out hb).more hb.size)
  obtain ⟨s5, hs5⟩ : ∃ s, u5.heap.size = s := ⟨_, rfl⟩
  have hz : Below u5.heap.size u5 (u5.alloc (.cells #[Value.int IntKind.i64 m0_, Value.int IntKind.i64 m1_, Value.int IntKind.i64 m2_, Value.int IntKind.i64 m3_, Value.int IntKind.i64 m4_, Value.int IntKind.i64 m5_] 37)) := (Below.refl _ _).alloc (Nat.le_refl _) _
  replace KK := Lib.hid (KK.out.new (t := 37) (c := #[Value.int IntKind.i64 m0_, Value.int IntKind.i64 m1_, Value.int IntKind.i64 m2_, Value.int IntKind.i64 m3_, Value.int IntKind.i64 m4_, Value.int IntKind.i64 m5_]) hs5)
  replace BB := Lib.hid (BB.out.trans (hz.mono BB.out.size))
  replace HR1 := Lib.hid ((mem.Reads.below HR1.out hz).more hz.size)
  replace HR2 := Lib.hid ((mem.Reads.below HR2.out hz).more hz.size)
  replace HR3 := Lib.hid ((mem.Reads.below HR3.out hz).more hz.size)
  replace HR4 := Lib.hid ((mem.Reads.below HR4.out hz).more hz.size)
  replace R := KK.out.rules
  simp only [gro.Rules] at R
  clear hb hz
  go_wp2_with fail
  generalize u5.alloc (.cells #[Value.int IntKind.i64 m0_, Value.int IntKind.i64 m1_, Value.int IntKind.i64 m2_, Value.int IntKind.i64 m3_, Value.int IntKind.i64 m4_, Value.int IntKind.i64 m5_] 37) = W5 at *
  clear hs5
  (with_reducible refine (h6b.out _ BB.out).mono ?_)
  rintro e u6 ⟨rfl, hb⟩
  replace BB := Lib.hid (BB.out.trans (hb.mono BB.out.size))
  replace KK := Lib.hid (KK.out.below hb)
  replace HR1 := Lib.hid ((mem.Reads.below HR1.out hb).more hb.size)
  replace HR2 := Lib.hid ((mem.Reads.below HR2.out hb).more hb.size)
  replace HR3 := Lib.hid ((mem.Reads.below HR3.out hb).more hb.size)
  replace HR4 := Lib.hid ((mem.Reads.below HR4.out hb).more hb.size)
  obtain ⟨s6, hs6⟩ : ∃ s, u6.heap.size = s := ⟨_, rfl⟩
  have hz : Below u6.heap.size u6 (u6.alloc (.cells #[Value.int IntKind.i64 m0_, Value.int IntKind.i64 m1_, Value.int IntKind.i64 m2_, Value.int IntKind.i64 m3_, Value.int IntKind.i64 m4_, Value.int IntKind.i64 m5_] 37)) := (Below.refl _ _).alloc (Nat.le_refl _) _
  replace KK := Lib.hid (KK.out.new (t := 37) (c := #[Value.int IntKind.i64 m0_, Value.int IntKind.i64 m1_, Value.int IntKind.i64 m2_, Value.int IntKind.i64 m3_, Value.int IntKind.i64 m4_, Value.int IntKind.i64 m5_]) hs6)
  replace BB := Lib.hid (BB.out.trans (hz.mono BB.out.size))
  replace HR1 := Lib.hid ((mem.Reads.below HR1.out hz).more hz.size)
  replace HR2 := Lib.hid ((mem.Reads.below HR2.out hz).more hz.size)
  replace HR3 := Lib.hid ((mem.Reads.below HR3.out hz).more hz.size)
  replace HR4 := Lib.hid ((mem.Reads.below HR4.out hz).more hz.size)
  replace R := KK.out.rules
  simp only [gro.Rules] at R
  clear hb hz
  go_wp2_with fail
  generalize u6.alloc (.cells #[Value.int IntKind.i64 m0_, Value.int IntKind.i64 m1_, Value.int IntKind.i64 m2_, Value.int IntKind.i64 m3_, Value.int IntKind.i64 m4_, Value.int IntKind.i64 m5_] 37) = W6 at *
  clear hs6
  clear h1 h2 h3 h4 h5b h6b
  have S1 : Hid (∀ W', Below W6.heap.size W6 W' → Calls Try.prog 16 #[.agg #[Value.int IntKind.i64 x0, Value.int IntKind.i64 x1, Value.int IntKind.i64 x2, Value.int IntKind.i64 x3, Value.slice A1 l1 c1], .agg #[Value.int IntKind.i64 x0, Value.int IntKind.i64 x1, Value.int IntKind.i64 x2, Value.int IntKind.i64 x3, Value.slice A2 l2 c2]] W' fun e w' => e = .returned (.bool true) ∧ Below W'.heap.size W' w') := fun W' hb => cst.SameC_any x0 x1 x2 x3 A1 A2 l1 c1 l2 c2 la W' ((mem.Reads.below HR1.out hb).more hb.size) ((mem.Reads.below HR2.out hb).more hb.size) (by have := mem.PRead.len HR1.out; omega)
  have S3 : Hid (∀ W', Below W6.heap.size W6 W' → Calls Try.prog 16 #[.agg #[Value.int IntKind.i64 y0, Value.int IntKind.i64 y1, Value.int IntKind.i64 y2, Value.int IntKind.i64 y3, Value.slice A3 l3 c3], .agg #[Value.int IntKind.i64 y0, Value.int IntKind.i64 y1, Value.int IntKind.i64 y2, Value.int IntKind.i64 y3, Value.slice A4 l4 c4]] W' fun e w' => e = .returned (.bool true) ∧ Below W'.heap.size W' w') := fun W' hb => cst.SameC_any y0 y1 y2 y3 A3 A4 l3 c3 l4 c4 lb W' ((mem.Reads.below HR3.out hb).more hb.size) ((mem.Reads.below HR4.out hb).more hb.size) (by have := mem.PRead.len HR3.out; omega)
  (refine gro.wp_region_grown (by kernel_rfl) (by kernel_rfl) ?_; (repeat (go_big_quiet_step ((first | (go_at_call 25; exact gro.call_grown (h7.out _ (BB.out.trans ((gro.below_grown _ _).mono BB.out.size)))) | (go_at_call 26; exact gro.call_grown (h8.out _ (BB.out.trans ((gro.below_grown _ _).mono BB.out.size)))) | (go_at_call 16; first | (with_reducible exact gro.call_grown (S1.out _ (gro.below_grown _ _))) | (with_reducible exact gro.call_grown (S3.out _ (gro.below_grown _ _)))) | (go_at_call 17; exact gro.call_grown (h9.out _)))))); refine wpQuiet_nil ?_; intro _ hw'; obtain ⟨nx, hw''⟩ := hw'; subst hw'')
  replace BB := Lib.hid (BB.out.trans ((gro.below_grown _ nx).mono BB.out.size))
  clear R KK
  go_wp2
  go_ret
  exact ⟨rfl, BB.out⟩
end Go.Proofs.Ytkpcljiipdbmhaa.countStates
