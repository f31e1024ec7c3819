/- The walk of the law CountMerges: it returns true and leaves what was there. -/
import Derived.Test.YtkpcljiipdbmhaaRows
import Derived.Test.YtkpcljiipdbmhaaMgClk
import Derived.Test.YtkpcljiipdbmhaaCstM
import Derived.Test.YtkpcljiipdbmhaaMgOpenC
import Derived.Test.YtkpcljiipdbmhaaMgCanon
import Derived.WalkKit
import Derived.ProofKit
import Derived.OpenShut
import Derived.ShutString
namespace Go.Proofs.Ytkpcljiipdbmhaa.countMerges
open Go.ChangeShapes Go.WideShapes Go.ChangeAt Go.RowKit
open Go.ChangeMaps (open_string shut_string)
set_option linter.unusedVariables false

set_option maxHeartbeats 4000000 in
set_option maxRecDepth 100000 in
theorem walk (ya0 : Int) (yb0 : Int) (yc0 : Int) (yd0 : Int) (A0 : Option Addr) (n0 c0 : Nat) (z0 : List (Int × Int)) (ya1 : Int) (yb1 : Int) (yc1 : Int) (yd1 : Int) (A1 : Option Addr) (n1 c1 : Nat) (z1 : List (Int × Int)) (w : World) (iw0 : opn.Rng ya0 ∧ opn.Rng yb0 ∧ opn.Rng yc0 ∧ opn.Rng yd0) (s0 : mem.PRead w w.heap.size A0 n0 z0) (e0 : n0 ≤ c0) (m0 : c0 ≤ maxLen) (r0 : ∀ p ∈ z0, opn.Rng p.1 ∧ opn.Rng p.2) (iw1 : opn.Rng ya1 ∧ opn.Rng yb1 ∧ opn.Rng yc1 ∧ opn.Rng yd1) (s1 : mem.PRead w w.heap.size A1 n1 z1) (e1 : n1 ≤ c1) (m1 : c1 ≤ maxLen) (r1 : ∀ p ∈ z1, opn.Rng p.1 ∧ opn.Rng p.2) :
    Calls Try.prog 6 #[.agg #[.int .i64 ya0, .int .i64 yb0, .int .i64 yc0, .int .i64 yd0, .slice A0 n0 c0], .agg #[.int .i64 ya1, .int .i64 yb1, .int .i64 yc1, .int .i64 yd1, .slice A1 n1 c1]] w fun e w' => e = .returned (.bool true) ∧ Below w.heap.size w w' := by
  have hF1 := Lib.hid (fun W => cst.fewC_any ya0 yb0 yc0 yd0 A0 n0 c0 W (Nat.le_trans e0 m0))
  have hF2 := Lib.hid (fun W => cst.fewC_any ya1 yb1 yc1 yd1 A1 n1 c1 W (Nat.le_trans e1 m1))
  have h9 := Lib.hid (fun W => cst.awake11_any W)
  by_cases hs : n0 ≤ 300
  case neg =>
    rw [decide_eq_false hs] at hF1
    clear iw0 s0 r0 iw1 s1 r1 hF2
    go_enter Try.func6, Try.ntmps6
    go_wp2_with fail
    obtain ⟨W0, hW, hs0, K0, B0⟩ := gro.start2 w 24 24 #[Value.int IntKind.i64 ya0, Value.int IntKind.i64 yb0, Value.int IntKind.i64 yc0, Value.int IntKind.i64 yd0, Value.slice A0 n0 c0] #[Value.int IntKind.i64 ya1, Value.int IntKind.i64 yb1, Value.int IntKind.i64 yc1, Value.int IntKind.i64 yd1, Value.slice A1 n1 c1]
    rw [hW]
    clear hW
    have KK := Lib.hid K0
    have BB := Lib.hid B0
    have R := K0.rules
    simp only [gro.Rules] at R
    clear K0 B0 hs0
    (with_reducible refine (hF1.out _).mono ?_)
    rintro e wv ⟨rfl, hbv⟩; replace BB := Lib.hid (BB.out.trans (hbv.mono BB.out.size)); replace KK := Lib.hid (KK.out.below hbv); replace R := KK.out.rules; simp only [gro.Rules] at R; clear hbv
    go_wp2_with fail
    (with_reducible refine (h9.out _).mono ?_)
    rintro e wv ⟨rfl, hbv⟩; replace BB := Lib.hid (BB.out.trans (hbv.mono BB.out.size)); replace KK := Lib.hid (KK.out.below hbv); replace R := KK.out.rules; simp only [gro.Rules] at R; clear hbv
    go_wp2
    go_ret
    exact ⟨rfl, BB.out⟩
  rw [decide_eq_true hs] at hF1
  by_cases hs2 : n1 ≤ 300
  case neg =>
    rw [decide_eq_false hs2] at hF2
    clear iw0 s0 r0 iw1 s1 r1
    go_enter Try.func6, Try.ntmps6
    go_wp2_with fail
    obtain ⟨W0, hW, hs0, K0, B0⟩ := gro.start2 w 24 24 #[Value.int IntKind.i64 ya0, Value.int IntKind.i64 yb0, Value.int IntKind.i64 yc0, Value.int IntKind.i64 yd0, Value.slice A0 n0 c0] #[Value.int IntKind.i64 ya1, Value.int IntKind.i64 yb1, Value.int IntKind.i64 yc1, Value.int IntKind.i64 yd1, Value.slice A1 n1 c1]
    rw [hW]
    clear hW
    have KK := Lib.hid K0
    have BB := Lib.hid B0
    have R := K0.rules
    simp only [gro.Rules] at R
    clear K0 B0 hs0
    (with_reducible refine (hF1.out _).mono ?_)
    rintro e wv ⟨rfl, hbv⟩; replace BB := Lib.hid (BB.out.trans (hbv.mono BB.out.size)); replace KK := Lib.hid (KK.out.below hbv); replace R := KK.out.rules; simp only [gro.Rules] at R; clear hbv
    go_wp2_with fail
    (with_reducible refine (hF2.out _).mono ?_)
    rintro e wv ⟨rfl, hbv⟩; replace BB := Lib.hid (BB.out.trans (hbv.mono BB.out.size)); replace KK := Lib.hid (KK.out.below hbv); replace R := KK.out.rules; simp only [gro.Rules] at R; clear hbv
    go_wp2_with fail
    (with_reducible refine (h9.out _).mono ?_)
    rintro e wv ⟨rfl, hbv⟩; replace BB := Lib.hid (BB.out.trans (hbv.mono BB.out.size)); replace KK := Lib.hid (KK.out.below hbv); replace R := KK.out.rules; simp only [gro.Rules] at R; clear hbv
    go_wp2
    go_ret
    exact ⟨rfl, BB.out⟩
  rw [decide_eq_true hs2] at hF2
  obtain ⟨m0_, m1_, m2_, m3_, m4_, m5_, hmv⟩ := cst.mrg_form (cst.fitB z0 ya0 yb0 yc0 yd0) (cst.fitB z1 ya1 yb1 yc1 yd1) (decide (ya0 = ya1 ∧ yd0 = yd1)) z0 z1
  have h1 : Hid (∀ W, Below w.heap.size w W → Calls Try.prog 30 #[.agg #[Value.int IntKind.i64 ya0, Value.int IntKind.i64 yb0, Value.int IntKind.i64 yc0, Value.int IntKind.i64 yd0, Value.slice A0 n0 c0], .agg #[Value.int IntKind.i64 ya1, Value.int IntKind.i64 yb1, Value.int IntKind.i64 yc1, Value.int IntKind.i64 yd1, Value.slice A1 n1 c1]] W fun e w' => e = .returned (.tuple #[.agg #[Value.int IntKind.i64 m0_, Value.int IntKind.i64 m1_, Value.int IntKind.i64 m2_, Value.int IntKind.i64 m3_, Value.int IntKind.i64 m4_, Value.int IntKind.i64 m5_], .int .i64 (cst.mrgE (cst.fitB z0 ya0 yb0 yc0 yd0) (cst.fitB z1 ya1 yb1 yc1 yd1) (decide (ya0 = ya1 ∧ yd0 = yd1)))]) ∧ Below W.heap.size W w') := fun W hb => by
    have := cst.MergeC_any ya0 yb0 yc0 yd0 ya1 yb1 yc1 yd1 A0 n0 c0 z0 A1 n1 c1 z1 W ((s0.below hb).more hb.size) e0 m0 (by omega) ((s1.below hb).more hb.size) e1 m1 (by omega)
    rwa [hmv] at this
  have h2 : Hid (∀ W, Below w.heap.size w W → Calls Try.prog 31 #[.agg #[Value.int IntKind.i64 ya0, Value.int IntKind.i64 yb0, Value.int IntKind.i64 yc0, Value.int IntKind.i64 yd0, Value.slice A0 n0 c0], .agg #[Value.int IntKind.i64 ya1, Value.int IntKind.i64 yb1, Value.int IntKind.i64 yc1, Value.int IntKind.i64 yd1, Value.slice A1 n1 c1]] W fun e w' => e = .returned (.tuple #[.agg #[Value.int IntKind.i64 m0_, Value.int IntKind.i64 m1_, Value.int IntKind.i64 m2_, Value.int IntKind.i64 m3_, Value.int IntKind.i64 m4_, Value.int IntKind.i64 m5_], .int .i64 (cst.mrgE (cst.fitB z0 ya0 yb0 yc0 yd0) (cst.fitB z1 ya1 yb1 yc1 yd1) (decide (ya0 = ya1 ∧ yd0 = yd1)))]) ∧ Below W.heap.size W w') := fun W hb => by
    have := cst.MergeCR_any ya0 yb0 yc0 yd0 ya1 yb1 yc1 yd1 A0 n0 c0 z0 A1 n1 c1 z1 W ((s0.below hb).more hb.size) e0 m0 (by omega) ((s1.below hb).more hb.size) e1 m1 (by omega)
    rwa [hmv] at this
  generalize cst.mrgE (cst.fitB z0 ya0 yb0 yc0 yd0) (cst.fitB z1 ya1 yb1 yc1 yd1) (decide (ya0 = ya1 ∧ yd0 = yd1)) = er at *
  have E1 := fun W => wid.bnd_eql m0_ m1_ m2_ m3_ m4_ m5_ W
  clear hmv iw0 s0 r0 iw1 s1 r1
  go_enter Try.func6, Try.ntmps6
  go_wp2_with fail
  obtain ⟨W0, hW, hs0, K0, B0⟩ := gro.start2 w 24 24 #[Value.int IntKind.i64 ya0, Value.int IntKind.i64 yb0, Value.int IntKind.i64 yc0, Value.int IntKind.i64 yd0, Value.slice A0 n0 c0] #[Value.int IntKind.i64 ya1, Value.int IntKind.i64 yb1, Value.int IntKind.i64 yc1, Value.int IntKind.i64 yd1, Value.slice A1 n1 c1]
  rw [hW]
  clear hW
  have KK := Lib.hid K0
  have BB := Lib.hid B0
  have R := K0.rules
  simp only [gro.Rules] at R
  clear K0 B0 hs0
  (with_reducible refine (hF1.out _).mono ?_)
  rintro e wv ⟨rfl, hbv⟩; replace BB := Lib.hid (BB.out.trans (hbv.mono BB.out.size)); replace KK := Lib.hid (KK.out.below hbv); replace R := KK.out.rules; simp only [gro.Rules] at R; clear hbv
  go_wp2_with fail
  (with_reducible refine (hF2.out _).mono ?_)
  rintro e wv ⟨rfl, hbv⟩; replace BB := Lib.hid (BB.out.trans (hbv.mono BB.out.size)); replace KK := Lib.hid (KK.out.below hbv); replace R := KK.out.rules; simp only [gro.Rules] at R; clear hbv
  go_wp2_with fail
  clear hF1 hF2
  (with_reducible refine (h1.out _ BB.out).mono ?_)
  rintro e wv ⟨rfl, hbv⟩; replace BB := Lib.hid (BB.out.trans (hbv.mono BB.out.size)); replace KK := Lib.hid (KK.out.below hbv); replace R := KK.out.rules; simp only [gro.Rules] at R; clear hbv
  obtain ⟨sB, hsB⟩ : ∃ s, wv.heap.size = s := ⟨_, rfl⟩
  replace KK := Lib.hid (KK.out.new (t := 37) (c := #[Value.int IntKind.i64 m0_, Value.int IntKind.i64 m1_, Value.int IntKind.i64 m2_, Value.int IntKind.i64 m3_, Value.int IntKind.i64 m4_, Value.int IntKind.i64 m5_]) hsB)
  replace BB := Lib.hid (BB.out.alloc BB.out.size (.cells #[Value.int IntKind.i64 m0_, Value.int IntKind.i64 m1_, Value.int IntKind.i64 m2_, Value.int IntKind.i64 m3_, Value.int IntKind.i64 m4_, Value.int IntKind.i64 m5_] 37))
  replace R := KK.out.rules
  simp only [gro.Rules] at R
  go_wp2_with fail
  generalize wv.alloc (.cells #[Value.int IntKind.i64 m0_, Value.int IntKind.i64 m1_, Value.int IntKind.i64 m2_, Value.int IntKind.i64 m3_, Value.int IntKind.i64 m4_, Value.int IntKind.i64 m5_] 37) = WA at *
  clear hsB
  (with_reducible refine (h2.out _ BB.out).mono ?_)
  rintro e wv ⟨rfl, hbv⟩; replace BB := Lib.hid (BB.out.trans (hbv.mono BB.out.size)); replace KK := Lib.hid (KK.out.below hbv); replace R := KK.out.rules; simp only [gro.Rules] at R; clear hbv
  obtain ⟨sB, hsB⟩ : ∃ s, wv.heap.size = s := ⟨_, rfl⟩
  replace KK := Lib.hid (KK.out.new (t := 37) (c := #[Value.int IntKind.i64 m0_, Value.int IntKind.i64 m1_, Value.int IntKind.i64 m2_, Value.int IntKind.i64 m3_, Value.int IntKind.i64 m4_, Value.int IntKind.i64 m5_]) hsB)
  replace BB := Lib.hid (BB.out.alloc BB.out.size (.cells #[Value.int IntKind.i64 m0_, Value.int IntKind.i64 m1_, Value.int IntKind.i64 m2_, Value.int IntKind.i64 m3_, Value.int IntKind.i64 m4_, Value.int IntKind.i64 m5_] 37))
  replace R := KK.out.rules
  simp only [gro.Rules] at R
  go_wp2_with fail
  (with_reducible refine (h9.out _).mono ?_)
  rintro e wv ⟨rfl, hbv⟩; replace BB := Lib.hid (BB.out.trans (hbv.mono BB.out.size)); replace KK := Lib.hid (KK.out.below hbv); replace R := KK.out.rules; simp only [gro.Rules] at R; clear hbv
  go_wp2
  go_ret
  exact ⟨rfl, BB.out⟩
end Go.Proofs.Ytkpcljiipdbmhaa.countMerges
