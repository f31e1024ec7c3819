/- The walk of the law ExtremeMerges: it returns true and leaves what was there. -/
import Derived.Test.YteajgmihhnghfaaRows
import Derived.Test.YteajgmihhnghfaaOpen
import Derived.Test.YteajgmihhnghfaaExtO
import Derived.Test.YteajgmihhnghfaaExtN
import Derived.Test.YteajgmihhnghfaaExtC
import Derived.Test.YteajgmihhnghfaaAwake17
import Derived.Test.YteajgmihhnghfaaOpenC
import Derived.WalkKit
import Derived.ProofKit
import Derived.OpenShut
import Derived.ShutString
namespace Go.Proofs.Yteajgmihhnghfaa.extremeMerges
open Go.ChangeShapes Go.WideShapes Go.ChangeAt Go.RowKit
open Go.ChangeMaps (open_string shut_string)
set_option linter.unusedVariables false

set_option maxHeartbeats 4000000 in
set_option maxRecDepth 100000 in
theorem walk (ya0 : Bool) (yb0 : Int) (yc0 : Int) (yd0 : Int) (A0 : Option Addr) (n0 c0 : Nat) (z0 : List (Int × Int)) (ya1 : Bool) (yb1 : Int) (yc1 : Int) (yd1 : Int) (A1 : Option Addr) (n1 c1 : Nat) (z1 : List (Int × Int)) (w : World) (iw0 : opn.Rng yb0 ∧ opn.Rng yc0 ∧ opn.Rng yd0) (s0 : mem.PRead w w.heap.size A0 n0 z0) (e0 : n0 ≤ c0) (m0 : c0 ≤ maxLen) (r0 : ∀ p ∈ z0, opn.Rng p.1 ∧ opn.Rng p.2) (iw1 : opn.Rng yb1 ∧ opn.Rng yc1 ∧ opn.Rng yd1) (s1 : mem.PRead w w.heap.size A1 n1 z1) (e1 : n1 ≤ c1) (m1 : c1 ≤ maxLen) (r1 : ∀ p ∈ z1, opn.Rng p.1 ∧ opn.Rng p.2) :
    Calls Try.prog 7 #[.agg #[.bool ya0, .int .i64 yb0, .int .i64 yc0, .int .i64 yd0, .slice A0 n0 c0], .agg #[.bool ya1, .int .i64 yb1, .int .i64 yc1, .int .i64 yd1, .slice A1 n1 c1]] w fun e w' => e = .returned (.bool true) ∧ Below w.heap.size w w' := by
  have hF1 := Lib.hid (fun W => ext.fewE_any ya0 yb0 yc0 yd0 A0 n0 c0 W (Nat.le_trans e0 m0))
  have hF2 := Lib.hid (fun W => ext.fewE_any ya1 yb1 yc1 yd1 A1 n1 c1 W (Nat.le_trans e1 m1))
  have h9 := Lib.hid (fun W => ext.awake17_any W)
  by_cases hs : n0 ≤ 200
  case neg =>
    rw [decide_eq_false hs] at hF1
    clear iw0 s0 iw1 s1 hF2
    go_enter Try.func7, Try.ntmps7
    go_wp2_with fail
    obtain ⟨W0, hW, hs0, K0, B0⟩ := gro.start2 w 24 24 #[Value.bool ya0, Value.int IntKind.i64 yb0, Value.int IntKind.i64 yc0, Value.int IntKind.i64 yd0, Value.slice A0 n0 c0] #[Value.bool ya1, Value.int IntKind.i64 yb1, Value.int IntKind.i64 yc1, Value.int IntKind.i64 yd1, Value.slice A1 n1 c1]
    rw [hW]
    clear hW
    have KK := Lib.hid K0
    have BB := Lib.hid B0
    have R := K0.rules
    simp only [gro.Rules] at R
    clear K0 B0 hs0
    (with_reducible refine (hF1.out _).mono ?_)
    rintro e wv ⟨rfl, hbv⟩; replace BB := Lib.hid (BB.out.trans (hbv.mono BB.out.size)); replace KK := Lib.hid (KK.out.below hbv); replace R := KK.out.rules; simp only [gro.Rules] at R; clear hbv
    go_wp2_with fail
    (with_reducible refine (h9.out _).mono ?_)
    rintro e wv ⟨rfl, hbv⟩; replace BB := Lib.hid (BB.out.trans (hbv.mono BB.out.size)); replace KK := Lib.hid (KK.out.below hbv); replace R := KK.out.rules; simp only [gro.Rules] at R; clear hbv
    go_wp2
    go_ret
    exact ⟨rfl, BB.out⟩
  rw [decide_eq_true hs] at hF1
  by_cases hs2 : n1 ≤ 200
  case neg =>
    rw [decide_eq_false hs2] at hF2
    clear iw0 s0 iw1 s1
    go_enter Try.func7, Try.ntmps7
    go_wp2_with fail
    obtain ⟨W0, hW, hs0, K0, B0⟩ := gro.start2 w 24 24 #[Value.bool ya0, Value.int IntKind.i64 yb0, Value.int IntKind.i64 yc0, Value.int IntKind.i64 yd0, Value.slice A0 n0 c0] #[Value.bool ya1, Value.int IntKind.i64 yb1, Value.int IntKind.i64 yc1, Value.int IntKind.i64 yd1, Value.slice A1 n1 c1]
    rw [hW]
    clear hW
    have KK := Lib.hid K0
    have BB := Lib.hid B0
    have R := K0.rules
    simp only [gro.Rules] at R
    clear K0 B0 hs0
    (with_reducible refine (hF1.out _).mono ?_)
    rintro e wv ⟨rfl, hbv⟩; replace BB := Lib.hid (BB.out.trans (hbv.mono BB.out.size)); replace KK := Lib.hid (KK.out.below hbv); replace R := KK.out.rules; simp only [gro.Rules] at R; clear hbv
    go_wp2_with fail
    (with_reducible refine (hF2.out _).mono ?_)
    rintro e wv ⟨rfl, hbv⟩; replace BB := Lib.hid (BB.out.trans (hbv.mono BB.out.size)); replace KK := Lib.hid (KK.out.below hbv); replace R := KK.out.rules; simp only [gro.Rules] at R; clear hbv
    go_wp2_with fail
    (with_reducible refine (h9.out _).mono ?_)
    rintro e wv ⟨rfl, hbv⟩; replace BB := Lib.hid (BB.out.trans (hbv.mono BB.out.size)); replace KK := Lib.hid (KK.out.below hbv); replace R := KK.out.rules; simp only [gro.Rules] at R; clear hbv
    go_wp2
    go_ret
    exact ⟨rfl, BB.out⟩
  rw [decide_eq_true hs2] at hF2
  have h1 := Lib.hid (fun W (hb : Below w.heap.size w W) => ext.Merge_f ya0 yb0 yc0 yd0 ya1 yb1 yc1 yd1 A0 n0 c0 z0 A1 n1 c1 z1 W ((s0.below hb).more hb.size) e0 m0 (by omega) ((s1.below hb).more hb.size) e1 m1 (by omega))
  have h2 := Lib.hid (fun W (hb : Below w.heap.size w W) => ext.MergeR_f ya0 yb0 yc0 yd0 ya1 yb1 yc1 yd1 A0 n0 c0 z0 A1 n1 c1 z1 W ((s0.below hb).more hb.size) e0 m0 (by omega) ((s1.below hb).more hb.size) e1 m1 (by omega))
  have hkl := ext.keptN_len ya0 (z0 ++ z1) (n0 + n1)
  have hla : (ext.lsK (ext.valE ya0 yb0 yc0 yd0 z0 && (ext.valE ya1 yb1 yc1 yd1 z1 && (decide (ya0 = ya1 ∧ yb0 = yb1 ∧ yd0 = yd1) && !decide (max yc0 yc1 < ((ext.keptN ya0 (z0 ++ z1) (n0 + n1)).length : Int))))) (ext.keptN ya0 (z0 ++ z1) (n0 + n1))).length ≤ 400 := by unfold ext.lsK; split; (· omega); (· simp)
  clear iw0 s0 iw1 s1 hkl
  generalize ext.kb (ext.valE ya0 yb0 yc0 yd0 z0 && (ext.valE ya1 yb1 yc1 yd1 z1 && (decide (ya0 = ya1 ∧ yb0 = yb1 ∧ yd0 = yd1) && !decide (max yc0 yc1 < ((ext.keptN ya0 (z0 ++ z1) (n0 + n1)).length : Int))))) ya0 = x0 at *
  generalize ext.kp (ext.valE ya0 yb0 yc0 yd0 z0 && (ext.valE ya1 yb1 yc1 yd1 z1 && (decide (ya0 = ya1 ∧ yb0 = yb1 ∧ yd0 = yd1) && !decide (max yc0 yc1 < ((ext.keptN ya0 (z0 ++ z1) (n0 + n1)).length : Int))))) yb0 = x1 at *
  generalize ext.kp (ext.valE ya0 yb0 yc0 yd0 z0 && (ext.valE ya1 yb1 yc1 yd1 z1 && (decide (ya0 = ya1 ∧ yb0 = yb1 ∧ yd0 = yd1) && !decide (max yc0 yc1 < ((ext.keptN ya0 (z0 ++ z1) (n0 + n1)).length : Int))))) (max yc0 yc1) = x2 at *
  generalize ext.kp (ext.valE ya0 yb0 yc0 yd0 z0 && (ext.valE ya1 yb1 yc1 yd1 z1 && (decide (ya0 = ya1 ∧ yb0 = yb1 ∧ yd0 = yd1) && !decide (max yc0 yc1 < ((ext.keptN ya0 (z0 ++ z1) (n0 + n1)).length : Int))))) yd0 = x3 at *
  generalize ext.lsK (ext.valE ya0 yb0 yc0 yd0 z0 && (ext.valE ya1 yb1 yc1 yd1 z1 && (decide (ya0 = ya1 ∧ yb0 = yb1 ∧ yd0 = yd1) && !decide (max yc0 yc1 < ((ext.keptN ya0 (z0 ++ z1) (n0 + n1)).length : Int))))) (ext.keptN ya0 (z0 ++ z1) (n0 + n1)) = la at *
  generalize ext.mgE (ext.valE ya0 yb0 yc0 yd0 z0) (ext.valE ya1 yb1 yc1 yd1 z1) (decide (ya0 = ya1 ∧ yb0 = yb1 ∧ yd0 = yd1)) (decide (max yc0 yc1 < ((ext.keptN ya0 (z0 ++ z1) (n0 + n1)).length : Int))) = ea at *
  go_enter Try.func7, Try.ntmps7
  go_wp2_with fail
  obtain ⟨W0, hW, hs0, K0, B0⟩ := gro.start2 w 24 24 #[Value.bool ya0, Value.int IntKind.i64 yb0, Value.int IntKind.i64 yc0, Value.int IntKind.i64 yd0, Value.slice A0 n0 c0] #[Value.bool ya1, Value.int IntKind.i64 yb1, Value.int IntKind.i64 yc1, Value.int IntKind.i64 yd1, Value.slice A1 n1 c1]
  rw [hW]
  clear hW
  have KK := Lib.hid K0
  have BB := Lib.hid B0
  have R := K0.rules
  simp only [gro.Rules] at R
  clear K0 B0 hs0
  (with_reducible refine (hF1.out _).mono ?_)
  rintro e wv ⟨rfl, hbv⟩; replace BB := Lib.hid (BB.out.trans (hbv.mono BB.out.size)); replace KK := Lib.hid (KK.out.below hbv); replace R := KK.out.rules; simp only [gro.Rules] at R; clear hbv
  go_wp2_with fail
  (with_reducible refine (hF2.out _).mono ?_)
  rintro e wv ⟨rfl, hbv⟩; replace BB := Lib.hid (BB.out.trans (hbv.mono BB.out.size)); replace KK := Lib.hid (KK.out.below hbv); replace R := KK.out.rules; simp only [gro.Rules] at R; clear hbv
  go_wp2_with fail
  clear hF1 hF2
  (refine (h1.out _ BB.out).mono ?_)
  rintro e u8 ⟨A8, l8, c8, rfl, p8, ⟨q8, fr⟩, hr, hb⟩
  replace BB := Lib.hid (BB.out.trans (hb.mono BB.out.size))
  replace KK := Lib.hid (KK.out.below hb)
  have HR8 := Lib.hid hr
  obtain ⟨s8, hs8⟩ : ∃ s, u8.heap.size = s := ⟨_, rfl⟩
  have hz : Below u8.heap.size u8 (u8.alloc (.cells #[Value.bool x0, Value.int IntKind.i64 x1, Value.int IntKind.i64 x2, Value.int IntKind.i64 x3, Value.slice A8 l8 c8] 24)) := (Below.refl _ _).alloc (Nat.le_refl _) _
  replace KK := Lib.hid (KK.out.new (t := 24) (c := #[Value.bool x0, Value.int IntKind.i64 x1, Value.int IntKind.i64 x2, Value.int IntKind.i64 x3, Value.slice A8 l8 c8]) hs8)
  replace BB := Lib.hid (BB.out.trans (hz.mono BB.out.size))
  replace HR8 := Lib.hid ((mem.Reads.below HR8.out hz).more hz.size)
  replace R := KK.out.rules
  simp only [gro.Rules] at R
  clear hr hb hz fr
  go_wp2_with fail
  generalize u8.alloc (.cells #[Value.bool x0, Value.int IntKind.i64 x1, Value.int IntKind.i64 x2, Value.int IntKind.i64 x3, Value.slice A8 l8 c8] 24) = W8 at *
  clear hs8
  (refine (h2.out _ BB.out).mono ?_)
  rintro e u9 ⟨A9, l9, c9, rfl, p9, ⟨q9, fr⟩, hr, hb⟩
  replace BB := Lib.hid (BB.out.trans (hb.mono BB.out.size))
  replace KK := Lib.hid (KK.out.below hb)
  replace HR8 := Lib.hid ((mem.Reads.below HR8.out hb).more hb.size)
  have HR9 := Lib.hid hr
  obtain ⟨s9, hs9⟩ : ∃ s, u9.heap.size = s := ⟨_, rfl⟩
  have hz : Below u9.heap.size u9 (u9.alloc (.cells #[Value.bool x0, Value.int IntKind.i64 x1, Value.int IntKind.i64 x2, Value.int IntKind.i64 x3, Value.slice A9 l9 c9] 24)) := (Below.refl _ _).alloc (Nat.le_refl _) _
  replace KK := Lib.hid (KK.out.new (t := 24) (c := #[Value.bool x0, Value.int IntKind.i64 x1, Value.int IntKind.i64 x2, Value.int IntKind.i64 x3, Value.slice A9 l9 c9]) hs9)
  replace BB := Lib.hid (BB.out.trans (hz.mono BB.out.size))
  replace HR8 := Lib.hid ((mem.Reads.below HR8.out hz).more hz.size)
  replace HR9 := Lib.hid ((mem.Reads.below HR9.out hz).more hz.size)
  replace R := KK.out.rules
  simp only [gro.Rules] at R
  clear hr hb hz fr
  go_wp2_with fail
  generalize u9.alloc (.cells #[Value.bool x0, Value.int IntKind.i64 x1, Value.int IntKind.i64 x2, Value.int IntKind.i64 x3, Value.slice A9 l9 c9] 24) = W9 at *
  clear hs9
  (refine (ext.SameE_any x0 x1 x2 x3 A8 A9 l8 c8 l9 c9 la _ HR8.out HR9.out (by have := mem.PRead.len HR8.out; omega)).mono ?_)
  rintro e u10 ⟨rfl, hb⟩
  replace BB := Lib.hid (BB.out.trans (hb.mono BB.out.size))
  replace KK := Lib.hid (KK.out.below hb)
  replace HR8 := Lib.hid ((mem.Reads.below HR8.out hb).more hb.size)
  replace HR9 := Lib.hid ((mem.Reads.below HR9.out hb).more hb.size)
  replace R := KK.out.rules
  simp only [gro.Rules] at R
  clear hb
  go_wp2_with fail
  (with_reducible refine (h9.out _).mono ?_)
  rintro e wv ⟨rfl, hbv⟩; replace BB := Lib.hid (BB.out.trans (hbv.mono BB.out.size)); replace KK := Lib.hid (KK.out.below hbv); replace R := KK.out.rules; simp only [gro.Rules] at R; clear hbv
  go_wp2
  go_ret
  exact ⟨rfl, BB.out⟩
end Go.Proofs.Yteajgmihhnghfaa.extremeMerges
