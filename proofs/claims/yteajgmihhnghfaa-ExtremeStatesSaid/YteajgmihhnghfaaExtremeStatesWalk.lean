/- The walk of the law ExtremeStates: it returns true and leaves what was there. -/
import Derived.Test.YteajgmihhnghfaaRows
import Derived.Test.YteajgmihhnghfaaOpen
import Derived.Test.YteajgmihhnghfaaExtG
import Derived.Test.YteajgmihhnghfaaExtD
import Derived.Test.YteajgmihhnghfaaExtC
import Derived.Test.YteajgmihhnghfaaAwake17
import Derived.Test.YteajgmihhnghfaaOpenC
import Derived.WalkKit
import Derived.ProofKit
import Derived.OpenShut
import Derived.ShutString
namespace Go.Proofs.Yteajgmihhnghfaa.extremeStates
open Go.ChangeShapes Go.WideShapes Go.ChangeAt Go.RowKit
open Go.ChangeMaps (open_string shut_string)
set_option linter.unusedVariables false

set_option maxHeartbeats 4000000 in
set_option maxRecDepth 100000 in
theorem walk (ya0 : Bool) (yb0 : Int) (yc0 : Int) (yd0 : Int) (A0 : Option Addr) (n0 c0 : Nat) (z0 : List (Int × Int)) (a1 : Int) (a2 : Int) (w : World) (iw0 : opn.Rng yb0 ∧ opn.Rng yc0 ∧ opn.Rng yd0) (s0 : mem.PRead w w.heap.size A0 n0 z0) (e0 : n0 ≤ c0) (m0 : c0 ≤ maxLen) (r0 : ∀ p ∈ z0, opn.Rng p.1 ∧ opn.Rng p.2) (iw1 : opn.Rng a1) (iw2 : opn.Rng a2) :
    Calls Try.prog 4 #[.agg #[.bool ya0, .int .i64 yb0, .int .i64 yc0, .int .i64 yd0, .slice A0 n0 c0], .int .i64 a1, .int .i64 a2] w fun e w' => e = .returned (.bool true) ∧ Below w.heap.size w w' := by
  have hF := Lib.hid (fun W => ext.fewE_any ya0 yb0 yc0 yd0 A0 n0 c0 W (Nat.le_trans e0 m0))
  have h9 := Lib.hid (fun W => ext.awake17_any W)
  by_cases hs : n0 ≤ 200
  case neg =>
    rw [decide_eq_false hs] at hF
    clear iw0 s0
    go_enter Try.func4, Try.ntmps4
    go_wp2_with fail
    obtain ⟨W0, hW, hs0, K0, B0⟩ := gro.start1 w 24 #[Value.bool ya0, Value.int IntKind.i64 yb0, Value.int IntKind.i64 yc0, Value.int IntKind.i64 yd0, Value.slice A0 n0 c0]
    rw [hW]
    clear hW
    have KK := Lib.hid K0
    have BB := Lib.hid B0
    have R := K0.rules
    simp only [gro.Rules] at R
    clear K0 B0 hs0
    (with_reducible refine (hF.out _).mono ?_)
    rintro e wv ⟨rfl, hbv⟩; replace BB := Lib.hid (BB.out.trans (hbv.mono BB.out.size)); replace KK := Lib.hid (KK.out.below hbv); replace R := KK.out.rules; simp only [gro.Rules] at R; clear hbv
    go_wp2_with fail
    (with_reducible refine (h9.out _).mono ?_)
    rintro e wv ⟨rfl, hbv⟩; replace BB := Lib.hid (BB.out.trans (hbv.mono BB.out.size)); replace KK := Lib.hid (KK.out.below hbv); replace R := KK.out.rules; simp only [gro.Rules] at R; clear hbv
    go_wp2
    go_ret
    exact ⟨rfl, BB.out⟩
  rw [decide_eq_true hs] at hF
  have h1 := Lib.hid (fun W (hb : Below w.heap.size w W) => ext.Advance_f ya0 yb0 yc0 yd0 a1 A0 n0 c0 z0 W ((s0.below hb).more hb.size) e0 m0 (by omega))
  have h2 := Lib.hid (fun W (hb : Below w.heap.size w W) => ext.AdvanceR_f ya0 yb0 yc0 yd0 a1 A0 n0 c0 z0 W ((s0.below hb).more hb.size) e0 m0 (by omega))
  have h3 := Lib.hid (fun W (hb : Below w.heap.size w W) => ext.Add_f ya0 yb0 yc0 yd0 a2 A0 n0 c0 z0 W ((s0.below hb).more hb.size) e0 m0 (by omega))
  have h4 := Lib.hid (fun W (hb : Below w.heap.size w W) => ext.AddR_f ya0 yb0 yc0 yd0 a2 A0 n0 c0 z0 W ((s0.below hb).more hb.size) e0 m0 (by omega))
  have h5 := Lib.hid (fun W (hb : Below w.heap.size w W) => ext.Ask_any ya0 yb0 yc0 yd0 A0 n0 c0 z0 W ((s0.below hb).more hb.size) (by omega))
  have h6 := Lib.hid (fun W (hb : Below w.heap.size w W) => ext.AskR_any ya0 yb0 yc0 yd0 A0 n0 c0 z0 W ((s0.below hb).more hb.size) (by omega))
  have h7 := Lib.hid (fun W (hb : Below w.heap.size w W) => ext.Validate_any ya0 yb0 yc0 yd0 A0 n0 c0 z0 W ((s0.below hb).more hb.size) (by omega))
  have h8 := Lib.hid (fun W (hb : Below w.heap.size w W) => ext.ValidateR_any ya0 yb0 yc0 yd0 A0 n0 c0 z0 W ((s0.below hb).more hb.size) (by omega))
  have hl0 := mem.PRead.len s0
  have hla : (ext.lsK (ext.valE ya0 yb0 yc0 yd0 z0 && ext.okT (ext.timeE yd0 a1)) (lst.expireL (a1 - yb0 + 1) z0)).length ≤ 2000 := by have := lst.expireL_le (a1 - yb0 + 1) z0; unfold ext.lsK; split; (· omega); (· simp)
  have hlb : (ext.lsK (ext.valE ya0 yb0 yc0 yd0 z0 && ext.valB a2 && !ext.fullE ya0 a2 yd0 yc0 z0) (ext.addL ya0 a2 yd0 z0)).length ≤ 2000 := by have := ext.addL_len ya0 a2 yd0 z0; unfold ext.lsK; split; (· omega); (· simp)
  clear iw0 s0
  generalize ext.askV (ext.valE ya0 yb0 yc0 yd0 z0) z0 = qv at *
  generalize ext.askE (ext.valE ya0 yb0 yc0 yd0 z0) n0 = qe at *
  generalize ext.erV (ext.valE ya0 yb0 yc0 yd0 z0) = ve at *
  generalize ext.kb (ext.valE ya0 yb0 yc0 yd0 z0 && ext.okT (ext.timeE yd0 a1)) ya0 = x0 at *
  generalize ext.kp (ext.valE ya0 yb0 yc0 yd0 z0 && ext.okT (ext.timeE yd0 a1)) yb0 = x1 at *
  generalize ext.kp (ext.valE ya0 yb0 yc0 yd0 z0 && ext.okT (ext.timeE yd0 a1)) yc0 = x2 at *
  generalize ext.kp (ext.valE ya0 yb0 yc0 yd0 z0 && ext.okT (ext.timeE yd0 a1)) a1 = x3 at *
  generalize ext.lsK (ext.valE ya0 yb0 yc0 yd0 z0 && ext.okT (ext.timeE yd0 a1)) (lst.expireL (a1 - yb0 + 1) z0) = la at *
  generalize ext.advE (ext.valE ya0 yb0 yc0 yd0 z0) (ext.timeE yd0 a1) = ea at *
  generalize ext.kb (ext.valE ya0 yb0 yc0 yd0 z0 && ext.valB a2 && !ext.fullE ya0 a2 yd0 yc0 z0) ya0 = y0 at *
  generalize ext.kp (ext.valE ya0 yb0 yc0 yd0 z0 && ext.valB a2 && !ext.fullE ya0 a2 yd0 yc0 z0) yb0 = y1 at *
  generalize ext.kp (ext.valE ya0 yb0 yc0 yd0 z0 && ext.valB a2 && !ext.fullE ya0 a2 yd0 yc0 z0) yc0 = y2 at *
  generalize ext.kp (ext.valE ya0 yb0 yc0 yd0 z0 && ext.valB a2 && !ext.fullE ya0 a2 yd0 yc0 z0) yd0 = y3 at *
  generalize ext.lsK (ext.valE ya0 yb0 yc0 yd0 z0 && ext.valB a2 && !ext.fullE ya0 a2 yd0 yc0 z0) (ext.addL ya0 a2 yd0 z0) = lb at *
  generalize ext.addEr (ext.valE ya0 yb0 yc0 yd0 z0) (ext.valB a2) (ext.fullE ya0 a2 yd0 yc0 z0) = eb at *
  go_enter Try.func4, Try.ntmps4
  go_wp2_with fail
  obtain ⟨W0, hW, hs0, K0, B0⟩ := gro.start1 w 24 #[Value.bool ya0, Value.int IntKind.i64 yb0, Value.int IntKind.i64 yc0, Value.int IntKind.i64 yd0, Value.slice A0 n0 c0]
  rw [hW]
  clear hW
  have KK := Lib.hid K0
  have BB := Lib.hid B0
  have R := K0.rules
  simp only [gro.Rules] at R
  clear K0 B0 hs0
  (with_reducible refine (hF.out _).mono ?_)
  rintro e wv ⟨rfl, hbv⟩; replace BB := Lib.hid (BB.out.trans (hbv.mono BB.out.size)); replace KK := Lib.hid (KK.out.below hbv); replace R := KK.out.rules; simp only [gro.Rules] at R; clear hbv
  go_wp2_with fail
  clear hF
  (refine (h1.out _ BB.out).mono ?_)
  rintro e u1 ⟨A1, l1, c1, rfl, p1, ⟨q1, fr⟩, hr, hb⟩
  replace BB := Lib.hid (BB.out.trans (hb.mono BB.out.size))
  replace KK := Lib.hid (KK.out.below hb)
  have HR1 := Lib.hid hr
  obtain ⟨s1, hs1⟩ : ∃ s, u1.heap.size = s := ⟨_, rfl⟩
  have hz : Below u1.heap.size u1 (u1.alloc (.cells #[Value.bool x0, Value.int IntKind.i64 x1, Value.int IntKind.i64 x2, Value.int IntKind.i64 x3, Value.slice A1 l1 c1] 24)) := (Below.refl _ _).alloc (Nat.le_refl _) _
  replace KK := Lib.hid (KK.out.new (t := 24) (c := #[Value.bool x0, Value.int IntKind.i64 x1, Value.int IntKind.i64 x2, Value.int IntKind.i64 x3, Value.slice A1 l1 c1]) hs1)
  replace BB := Lib.hid (BB.out.trans (hz.mono BB.out.size))
  replace HR1 := Lib.hid ((mem.Reads.below HR1.out hz).more hz.size)
  replace R := KK.out.rules
  simp only [gro.Rules] at R
  clear hr hb hz fr
  go_wp2_with fail
  generalize u1.alloc (.cells #[Value.bool x0, Value.int IntKind.i64 x1, Value.int IntKind.i64 x2, Value.int IntKind.i64 x3, Value.slice A1 l1 c1] 24) = W1 at *
  clear hs1
  (refine (h2.out _ BB.out).mono ?_)
  rintro e u2 ⟨A2, l2, c2, rfl, p2, ⟨q2, fr⟩, hr, hb⟩
  replace BB := Lib.hid (BB.out.trans (hb.mono BB.out.size))
  replace KK := Lib.hid (KK.out.below hb)
  replace HR1 := Lib.hid ((mem.Reads.below HR1.out hb).more hb.size)
  have HR2 := Lib.hid hr
  obtain ⟨s2, hs2⟩ : ∃ s, u2.heap.size = s := ⟨_, rfl⟩
  have hz : Below u2.heap.size u2 (u2.alloc (.cells #[Value.bool x0, Value.int IntKind.i64 x1, Value.int IntKind.i64 x2, Value.int IntKind.i64 x3, Value.slice A2 l2 c2] 24)) := (Below.refl _ _).alloc (Nat.le_refl _) _
  replace KK := Lib.hid (KK.out.new (t := 24) (c := #[Value.bool x0, Value.int IntKind.i64 x1, Value.int IntKind.i64 x2, Value.int IntKind.i64 x3, Value.slice A2 l2 c2]) hs2)
  replace BB := Lib.hid (BB.out.trans (hz.mono BB.out.size))
  replace HR1 := Lib.hid ((mem.Reads.below HR1.out hz).more hz.size)
  replace HR2 := Lib.hid ((mem.Reads.below HR2.out hz).more hz.size)
  replace R := KK.out.rules
  simp only [gro.Rules] at R
  clear hr hb hz fr
  go_wp2_with fail
  generalize u2.alloc (.cells #[Value.bool x0, Value.int IntKind.i64 x1, Value.int IntKind.i64 x2, Value.int IntKind.i64 x3, Value.slice A2 l2 c2] 24) = W2 at *
  clear hs2
  (refine (h3.out _ BB.out).mono ?_)
  rintro e u3 ⟨A3, l3, c3, rfl, p3, ⟨q3, fr⟩, hr, hb⟩
  replace BB := Lib.hid (BB.out.trans (hb.mono BB.out.size))
  replace KK := Lib.hid (KK.out.below hb)
  replace HR1 := Lib.hid ((mem.Reads.below HR1.out hb).more hb.size)
  replace HR2 := Lib.hid ((mem.Reads.below HR2.out hb).more hb.size)
  have HR3 := Lib.hid hr
  obtain ⟨s3, hs3⟩ : ∃ s, u3.heap.size = s := ⟨_, rfl⟩
  have hz : Below u3.heap.size u3 (u3.alloc (.cells #[Value.bool y0, Value.int IntKind.i64 y1, Value.int IntKind.i64 y2, Value.int IntKind.i64 y3, Value.slice A3 l3 c3] 24)) := (Below.refl _ _).alloc (Nat.le_refl _) _
  replace KK := Lib.hid (KK.out.new (t := 24) (c := #[Value.bool y0, Value.int IntKind.i64 y1, Value.int IntKind.i64 y2, Value.int IntKind.i64 y3, Value.slice A3 l3 c3]) hs3)
  replace BB := Lib.hid (BB.out.trans (hz.mono BB.out.size))
  replace HR1 := Lib.hid ((mem.Reads.below HR1.out hz).more hz.size)
  replace HR2 := Lib.hid ((mem.Reads.below HR2.out hz).more hz.size)
  replace HR3 := Lib.hid ((mem.Reads.below HR3.out hz).more hz.size)
  replace R := KK.out.rules
  simp only [gro.Rules] at R
  clear hr hb hz fr
  go_wp2_with fail
  generalize u3.alloc (.cells #[Value.bool y0, Value.int IntKind.i64 y1, Value.int IntKind.i64 y2, Value.int IntKind.i64 y3, Value.slice A3 l3 c3] 24) = W3 at *
  clear hs3
  (refine (h4.out _ BB.out).mono ?_)
  rintro e u4 ⟨A4, l4, c4, rfl, p4, ⟨q4, fr⟩, hr, hb⟩
  replace BB := Lib.hid (BB.out.trans (hb.mono BB.out.size))
  replace KK := Lib.hid (KK.out.below hb)
  replace HR1 := Lib.hid ((mem.Reads.below HR1.out hb).more hb.size)
  replace HR2 := Lib.hid ((mem.Reads.below HR2.out hb).more hb.size)
  replace HR3 := Lib.hid ((mem.Reads.below HR3.out hb).more hb.size)
  have HR4 := Lib.hid hr
  obtain ⟨s4, hs4⟩ : ∃ s, u4.heap.size = s := ⟨_, rfl⟩
  have hz : Below u4.heap.size u4 (u4.alloc (.cells #[Value.bool y0, Value.int IntKind.i64 y1, Value.int IntKind.i64 y2, Value.int IntKind.i64 y3, Value.slice A4 l4 c4] 24)) := (Below.refl _ _).alloc (Nat.le_refl _) _
  replace KK := Lib.hid (KK.out.new (t := 24) (c := #[Value.bool y0, Value.int IntKind.i64 y1, Value.int IntKind.i64 y2, Value.int IntKind.i64 y3, Value.slice A4 l4 c4]) hs4)
  replace BB := Lib.hid (BB.out.trans (hz.mono BB.out.size))
  replace HR1 := Lib.hid ((mem.Reads.below HR1.out hz).more hz.size)
  replace HR2 := Lib.hid ((mem.Reads.below HR2.out hz).more hz.size)
  replace HR3 := Lib.hid ((mem.Reads.below HR3.out hz).more hz.size)
  replace HR4 := Lib.hid ((mem.Reads.below HR4.out hz).more hz.size)
  replace R := KK.out.rules
  simp only [gro.Rules] at R
  clear hr hb hz fr
  go_wp2_with fail
  generalize u4.alloc (.cells #[Value.bool y0, Value.int IntKind.i64 y1, Value.int IntKind.i64 y2, Value.int IntKind.i64 y3, Value.slice A4 l4 c4] 24) = W4 at *
  clear hs4
  (refine (h5.out _ BB.out).mono ?_)
  rintro e u5 ⟨rfl, hb⟩
  replace BB := Lib.hid (BB.out.trans (hb.mono BB.out.size))
  replace KK := Lib.hid (KK.out.below hb)
  replace HR1 := Lib.hid ((mem.Reads.below HR1.out hb).more hb.size)
  replace HR2 := Lib.hid ((mem.Reads.below HR2.out hb).more hb.size)
  replace HR3 := Lib.hid ((mem.Reads.below HR3.out hb).more hb.size)
  replace HR4 := Lib.hid ((mem.Reads.below HR4.out hb).more hb.size)
  replace R := KK.out.rules
  simp only [gro.Rules] at R
  clear hb
  go_wp2_with fail
  (refine (h6.out _ BB.out).mono ?_)
  rintro e u6 ⟨rfl, hb⟩
  replace BB := Lib.hid (BB.out.trans (hb.mono BB.out.size))
  replace KK := Lib.hid (KK.out.below hb)
  replace HR1 := Lib.hid ((mem.Reads.below HR1.out hb).more hb.size)
  replace HR2 := Lib.hid ((mem.Reads.below HR2.out hb).more hb.size)
  replace HR3 := Lib.hid ((mem.Reads.below HR3.out hb).more hb.size)
  replace HR4 := Lib.hid ((mem.Reads.below HR4.out hb).more hb.size)
  replace R := KK.out.rules
  simp only [gro.Rules] at R
  clear hb
  go_wp2_with fail
  clear h1 h2 h3 h4 h5 h6
  have S1 : Hid (∀ W', Below u6.heap.size u6 W' → Calls Try.prog 11 #[.agg #[Value.bool x0, Value.int IntKind.i64 x1, Value.int IntKind.i64 x2, Value.int IntKind.i64 x3, Value.slice A1 l1 c1], .agg #[Value.bool x0, Value.int IntKind.i64 x1, Value.int IntKind.i64 x2, Value.int IntKind.i64 x3, Value.slice A2 l2 c2]] W' fun e w' => e = .returned (.bool true) ∧ Below W'.heap.size W' w') := fun W' hb => ext.SameE_any x0 x1 x2 x3 A1 A2 l1 c1 l2 c2 la W' ((mem.Reads.below HR1.out hb).more hb.size) ((mem.Reads.below HR2.out hb).more hb.size) (by have := mem.PRead.len HR1.out; omega)
  have S3 : Hid (∀ W', Below u6.heap.size u6 W' → Calls Try.prog 11 #[.agg #[Value.bool y0, Value.int IntKind.i64 y1, Value.int IntKind.i64 y2, Value.int IntKind.i64 y3, Value.slice A3 l3 c3], .agg #[Value.bool y0, Value.int IntKind.i64 y1, Value.int IntKind.i64 y2, Value.int IntKind.i64 y3, Value.slice A4 l4 c4]] W' fun e w' => e = .returned (.bool true) ∧ Below W'.heap.size W' w') := fun W' hb => ext.SameE_any y0 y1 y2 y3 A3 A4 l3 c3 l4 c4 lb W' ((mem.Reads.below HR3.out hb).more hb.size) ((mem.Reads.below HR4.out hb).more hb.size) (by have := mem.PRead.len HR3.out; omega)
  (refine gro.wp_region_grown (by kernel_rfl) (by kernel_rfl) ?_; (repeat (go_big_quiet_step ((first | (go_at_call 20; exact gro.call_grown (h7.out _ (BB.out.trans ((gro.below_grown _ _).mono BB.out.size)))) | (go_at_call 21; exact gro.call_grown (h8.out _ (BB.out.trans ((gro.below_grown _ _).mono BB.out.size)))) | (go_at_call 11; first | (with_reducible exact gro.call_grown (S1.out _ (gro.below_grown _ _))) | (with_reducible exact gro.call_grown (S3.out _ (gro.below_grown _ _)))) | (go_at_call 12; exact gro.call_grown (h9.out _)))))); refine wpQuiet_nil ?_; intro _ hw'; obtain ⟨nx, hw''⟩ := hw'; subst hw'')
  replace BB := Lib.hid (BB.out.trans ((gro.below_grown _ nx).mono BB.out.size))
  clear R KK
  go_wp2
  go_ret
  exact ⟨rfl, BB.out⟩
end Go.Proofs.Yteajgmihhnghfaa.extremeStates
