/- The walk of the law RatioMultiplies: it returns true and leaves what was there. -/
import Derived.Test.YtoejhikcnnppnaaRows
import Derived.Test.YtoejhikcnnppnaaOpen
import Derived.Test.YtoejhikcnnppnaaMulR
import Derived.Test.YtoejhikcnnppnaaRat2
import Derived.Test.YtoejhikcnnppnaaOpenR
import Derived.WalkKit
import Derived.ProofKit
import Derived.OpenShut
import Derived.ShutString
namespace Go.Proofs.Ytoejhikcnnppnaa.ratioMultiplies
open Go.ChangeShapes Go.WideShapes Go.ChangeAt Go.RowKit
open Go.ChangeMaps (open_string shut_string)
set_option linter.unusedVariables false

set_option maxHeartbeats 4000000 in
theorem walk (a0 b0 : Int) (a1 b1 : Int) (w : World) (iw0 : opn.Rng a0 ∧ opn.Rng b0) (iw1 : opn.Rng a1 ∧ opn.Rng b1) :
    Calls Try.prog 6 #[.agg #[.int .i64 a0, .int .i64 b0], .agg #[.int .i64 a1, .int .i64 b1]] w fun e w' => e = .returned (.bool true) ∧ Below w.heap.size w w' := by
  have h1 := Lib.hid (fun W => wid.mulQ_any a0 b0 a1 b1 iw0.1 iw0.2 iw1.1 iw1.2 W)
  have h2 := Lib.hid (fun W => wid.mulQR_any a0 b0 a1 b1 iw0.1 iw0.2 iw1.1 iw1.2 W)
  have h3 := Lib.hid (fun W => wid.divQ_any a0 b0 a1 b1 iw0.1 iw0.2 iw1.1 iw1.2 W)
  have h4 := Lib.hid (fun W => wid.divQR_any a0 b0 a1 b1 iw0.1 iw0.2 iw1.1 iw1.2 W)
  have h5 := Lib.hid (fun W => wid.awake3_any W)
  clear iw0 iw1
  generalize wid.mulQN a0 b0 a1 b1 = yn at *
  generalize wid.mulQD a0 b0 a1 b1 = yd at *
  generalize wid.mulQOk a0 b0 a1 b1 = yk at *
  generalize wid.divQN a0 b0 a1 b1 = zn at *
  generalize wid.divQD a0 b0 a1 b1 = zd at *
  generalize wid.divQOk a0 b0 a1 b1 = zk at *
  go_enter Try.func6, Try.ntmps6
  go_wp2_with fail
  obtain ⟨W0, hW, hs0, K0, B0⟩ := gro.start2 w 23 23 #[Value.int IntKind.i64 a0, Value.int IntKind.i64 b0] #[Value.int IntKind.i64 a1, Value.int IntKind.i64 b1]
  rw [hW]
  clear hW
  have KK := Lib.hid K0
  have BB := Lib.hid B0
  have R := K0.rules
  simp only [gro.Rules] at R
  clear K0 B0
  have sz : w.heap.size + 1 + 1 ≤ W0.heap.size := by omega
  clear hs0
  (with_reducible refine (h1.out _).mono ?_)
  clear R
  rintro e w1 ⟨rfl, hb⟩
  replace BB := Lib.hid (BB.out.trans (hb.mono BB.out.size))
  replace KK := Lib.hid (KK.out.below hb)
  have R := KK.out.rules
  simp only [gro.Rules] at R
  replace sz := Nat.le_trans sz hb.size
  clear hb
  obtain ⟨s1, hs1⟩ : ∃ s1, w1.heap.size = s1 := ⟨_, rfl⟩
  rw [hs1] at sz
  go_wp2_with fail
  obtain ⟨W1, hW, K1, B1, z1⟩ := gro.name_world (KK.out.new (t := 23) (c := #[Value.int IntKind.i64 (yn), Value.int IntKind.i64 (yd)]) hs1) (BB.out.alloc BB.out.size _) (s := s1 + 1) (by simp; omega)
  rw [hW]
  clear hW R KK BB
  have KK := Lib.hid K1
  have BB := Lib.hid B1
  clear K1 B1 hs1
  replace sz : w.heap.size + 1 + 1 + 1 ≤ W1.heap.size := by omega
  (with_reducible refine (h2.out _).mono ?_)
  rintro e w2 ⟨rfl, hb⟩
  replace BB := Lib.hid (BB.out.trans (hb.mono BB.out.size))
  replace KK := Lib.hid (KK.out.below hb)
  have R := KK.out.rules
  simp only [gro.Rules] at R
  replace sz := Nat.le_trans sz hb.size
  clear hb
  obtain ⟨s2, hs2⟩ : ∃ s2, w2.heap.size = s2 := ⟨_, rfl⟩
  rw [hs2] at sz
  go_wp2_with fail
  obtain ⟨W2, hW, K1, B1, z2⟩ := gro.name_world (KK.out.new (t := 23) (c := #[Value.int IntKind.i64 (yn), Value.int IntKind.i64 (yd)]) hs2) (BB.out.alloc BB.out.size _) (s := s2 + 1) (by simp; omega)
  rw [hW]
  clear hW R KK BB
  have KK := Lib.hid K1
  have BB := Lib.hid B1
  clear K1 B1 hs2
  replace sz : w.heap.size + 1 + 1 + 1 + 1 ≤ W2.heap.size := by omega
  (with_reducible refine (h3.out _).mono ?_)
  rintro e w3 ⟨rfl, hb⟩
  replace BB := Lib.hid (BB.out.trans (hb.mono BB.out.size))
  replace KK := Lib.hid (KK.out.below hb)
  have R := KK.out.rules
  simp only [gro.Rules] at R
  replace sz := Nat.le_trans sz hb.size
  clear hb
  obtain ⟨s3, hs3⟩ : ∃ s3, w3.heap.size = s3 := ⟨_, rfl⟩
  rw [hs3] at sz
  go_wp2_with fail
  obtain ⟨W3, hW, K1, B1, z3⟩ := gro.name_world (KK.out.new (t := 23) (c := #[Value.int IntKind.i64 (zn), Value.int IntKind.i64 (zd)]) hs3) (BB.out.alloc BB.out.size _) (s := s3 + 1) (by simp; omega)
  rw [hW]
  clear hW R KK BB
  have KK := Lib.hid K1
  have BB := Lib.hid B1
  clear K1 B1 hs3
  replace sz : w.heap.size + 1 + 1 + 1 + 1 + 1 ≤ W3.heap.size := by omega
  (with_reducible refine (h4.out _).mono ?_)
  rintro e w4 ⟨rfl, hb⟩
  replace BB := Lib.hid (BB.out.trans (hb.mono BB.out.size))
  replace KK := Lib.hid (KK.out.below hb)
  have R := KK.out.rules
  simp only [gro.Rules] at R
  replace sz := Nat.le_trans sz hb.size
  clear hb
  obtain ⟨s4, hs4⟩ : ∃ s4, w4.heap.size = s4 := ⟨_, rfl⟩
  rw [hs4] at sz
  have E1 := wid.ratio_eql0 yn yd yn yd
  have E2 := wid.ratio_eql0 zn zd zn zd
  simp only [and_self, decide_true] at E1 E2
  go_wp2_with fail
  obtain ⟨W4, hW, K1, B1, z4⟩ := gro.name_world (KK.out.new (t := 23) (c := #[Value.int IntKind.i64 (zn), Value.int IntKind.i64 (zd)]) hs4) (BB.out.alloc BB.out.size _) (s := s4 + 1) (by simp; omega)
  rw [hW]
  clear hW R KK BB
  have KK := Lib.hid K1
  have BB := Lib.hid B1
  clear K1 B1 hs4
  replace sz : w.heap.size + 1 + 1 + 1 + 1 + 1 + 1 ≤ W4.heap.size := by omega
  (with_reducible refine (h5.out _).mono ?_)
  rintro e w5 ⟨rfl, hb⟩
  replace BB := Lib.hid (BB.out.trans (hb.mono BB.out.size))
  clear hb E1 E2 KK
  go_wp2
  go_ret
  exact ⟨rfl, BB.out⟩
end Go.Proofs.Ytoejhikcnnppnaa.ratioMultiplies
