/- The walk of the law RatioUndoes: it returns true and leaves what was there. -/
import Derived.Test.YtoejhikcnnppnaaRows
import Derived.Test.YtoejhikcnnppnaaOpen
import Derived.Test.YtoejhikcnnppnaaUndo
import Derived.Test.YtoejhikcnnppnaaAdds
import Derived.Test.YtoejhikcnnppnaaRat2
import Derived.Test.YtoejhikcnnppnaaOpenR
import Derived.WalkKit
import Derived.ProofKit
import Derived.OpenShut
import Derived.ShutString
namespace Go.Proofs.Ytoejhikcnnppnaa.ratioUndoes
open Go.ChangeShapes Go.WideShapes Go.ChangeAt Go.RowKit
open Go.ChangeMaps (open_string shut_string)
set_option linter.unusedVariables false

set_option maxHeartbeats 4000000 in
theorem walk (a0 b0 : Int) (a1 b1 : Int) (w : World) (iw0 : opn.Rng a0 ∧ opn.Rng b0) (iw1 : opn.Rng a1 ∧ opn.Rng b1) :
    Calls Try.prog 10 #[.agg #[.int .i64 a0, .int .i64 b0], .agg #[.int .i64 a1, .int .i64 b1]] w fun e w' => e = .returned (.bool true) ∧ Below w.heap.size w w' := by
  have h5 := Lib.hid (fun W => wid.awake3_any W)
  have HV := Lib.hid (fun W => wid.ValidR_any a0 b0 iw0.1 iw0.2 W)
  have HU := Lib.hid (fun W => wid.ValidR_any a1 b1 iw1.1 iw1.2 W)
  by_cases hv : wid.validQ a0 b0 = true
  case neg =>
    rw [show wid.validQ a0 b0 = false by simpa using hv] at HV
    clear hv iw0 iw1 HU
    go_enter Try.func10, Try.ntmps10
    go_wp2_with fail
    obtain ⟨W0, hW, hs0, K0, B0⟩ := gro.start2 w 23 23 #[Value.int IntKind.i64 a0, Value.int IntKind.i64 b0] #[Value.int IntKind.i64 a1, Value.int IntKind.i64 b1]
    rw [hW]
    clear hW
    have KK := Lib.hid K0
    have BB := Lib.hid B0
    have R := K0.rules
    simp only [gro.Rules] at R
    clear K0 B0
    have sz : w.heap.size + 1 + 1 ≤ W0.heap.size := by omega
    clear hs0
    (with_reducible refine (HV.out _).mono ?_)
    rintro e w1 ⟨rfl, hb⟩
    replace BB := Lib.hid (BB.out.trans (hb.mono BB.out.size))
    replace KK := Lib.hid (KK.out.below hb)
    replace sz := Nat.le_trans sz hb.size
    replace R := KK.out.rules
    simp only [gro.Rules] at R
    clear hb
    go_wp2_with fail
    (with_reducible refine (h5.out _).mono ?_)
    rintro e w9 ⟨rfl, hb⟩
    replace BB := Lib.hid (BB.out.trans (hb.mono BB.out.size))
    clear hb KK
    go_wp2
    go_ret
    exact ⟨rfl, BB.out⟩
  by_cases hu : wid.validQ a1 b1 = true
  case neg =>
    rw [hv] at HV
    rw [show wid.validQ a1 b1 = false by simpa using hu] at HU
    clear hv hu iw0 iw1
    go_enter Try.func10, Try.ntmps10
    go_wp2_with fail
    obtain ⟨W0, hW, hs0, K0, B0⟩ := gro.start2 w 23 23 #[Value.int IntKind.i64 a0, Value.int IntKind.i64 b0] #[Value.int IntKind.i64 a1, Value.int IntKind.i64 b1]
    rw [hW]
    clear hW
    have KK := Lib.hid K0
    have BB := Lib.hid B0
    have R := K0.rules
    simp only [gro.Rules] at R
    clear K0 B0
    have sz : w.heap.size + 1 + 1 ≤ W0.heap.size := by omega
    clear hs0
    (with_reducible refine (HV.out _).mono ?_)
    rintro e w1 ⟨rfl, hb⟩
    replace BB := Lib.hid (BB.out.trans (hb.mono BB.out.size))
    replace KK := Lib.hid (KK.out.below hb)
    replace sz := Nat.le_trans sz hb.size
    replace R := KK.out.rules
    simp only [gro.Rules] at R
    clear hb
    go_wp2_with fail
    (with_reducible refine (HU.out _).mono ?_)
    rintro e w2 ⟨rfl, hb⟩
    replace BB := Lib.hid (BB.out.trans (hb.mono BB.out.size))
    replace KK := Lib.hid (KK.out.below hb)
    replace sz := Nat.le_trans sz hb.size
    replace R := KK.out.rules
    simp only [gro.Rules] at R
    clear hb
    go_wp2_with fail
    (with_reducible refine (h5.out _).mono ?_)
    rintro e w9 ⟨rfl, hb⟩
    replace BB := Lib.hid (BB.out.trans (hb.mono BB.out.size))
    clear hb KK
    go_wp2
    go_ret
    exact ⟨rfl, BB.out⟩
  rw [hv] at HV
  rw [hu] at HU
  have hA := Lib.hid (fun W => wid.ratAdd_any a0 b0 a1 b1 iw0.1 iw0.2 iw1.1 iw1.2 W)
  have hM := Lib.hid (fun W => wid.mulQ_any a0 b0 a1 b1 iw0.1 iw0.2 iw1.1 iw1.2 W)
  have hS : Hid (wid.sumOk a0 b0 a1 b1 false = true → ∀ W, Calls Try.prog 38 #[(Value.agg #[Value.int IntKind.i64 (wid.sumN a0 b0 a1 b1 false), Value.int IntKind.i64 ( wid.sumD a0 b0 a1 b1 false)]), (Value.agg #[Value.int IntKind.i64 (a1), Value.int IntKind.i64 ( b1)])] W fun e w' => e = .returned (.tuple #[(Value.agg #[Value.int IntKind.i64 (a0), Value.int IntKind.i64 ( b0)]), .bool true]) ∧ Below W.heap.size W w') := fun h W => by
    obtain ⟨x1, x2, x3, x4, x5⟩ := wid.sum_undone iw0.1 iw0.2 hv hu h
    have := wid.ratSub_any (wid.sumN a0 b0 a1 b1 false) (wid.sumD a0 b0 a1 b1 false) a1 b1 x1 x2 iw1.1 iw1.2 W
    rwa [x3, x4, x5] at this
  have hD : Hid (wid.mulQOk a0 b0 a1 b1 = true → a1 ≠ 0 → ∀ W, Calls Try.prog 32 #[(Value.agg #[Value.int IntKind.i64 (wid.mulQN a0 b0 a1 b1), Value.int IntKind.i64 ( wid.mulQD a0 b0 a1 b1)]), (Value.agg #[Value.int IntKind.i64 (a1), Value.int IntKind.i64 ( b1)])] W fun e w' => e = .returned (.tuple #[(Value.agg #[Value.int IntKind.i64 (a0), Value.int IntKind.i64 ( b0)]), .bool true]) ∧ Below W.heap.size W w') := fun h h0 W => by
    obtain ⟨x1, x2, x3, x4, x5⟩ := wid.mul_undone iw0.1 iw0.2 hv hu h0 h
    have := wid.divQ_any (wid.mulQN a0 b0 a1 b1) (wid.mulQD a0 b0 a1 b1) a1 b1 x1 x2 iw1.1 iw1.2 W
    rwa [x3, x4, x5] at this
  clear iw0 iw1 hv hu
  generalize wid.sumN a0 b0 a1 b1 false = yn at *
  generalize wid.sumD a0 b0 a1 b1 false = yd at *
  generalize wid.sumOk a0 b0 a1 b1 false = yk at *
  generalize wid.mulQN a0 b0 a1 b1 = zn at *
  generalize wid.mulQD a0 b0 a1 b1 = zd at *
  generalize wid.mulQOk a0 b0 a1 b1 = zk at *
  have E1 := wid.ratio_neq0 a0 b0 a0 b0
  simp only [and_self, decide_true, Bool.not_true] at E1
  obtain ⟨cz, hcz⟩ : ∃ c, (a1 == 0) = c := ⟨_, rfl⟩
  replace hD : Hid (zk = true → cz = false → ∀ W, Calls Try.prog 32 #[(Value.agg #[Value.int IntKind.i64 (zn), Value.int IntKind.i64 ( zd)]), (Value.agg #[Value.int IntKind.i64 (a1), Value.int IntKind.i64 ( b1)])] W fun e w' => e = .returned (.tuple #[(Value.agg #[Value.int IntKind.i64 (a0), Value.int IntKind.i64 ( b0)]), .bool true]) ∧ Below W.heap.size W w') := fun h hc => hD.out h (by intro h0; rw [h0] at hcz; rw [← hcz] at hc; simp at hc)
  cases yk
  case false =>
    cases zk
    case false =>
      clear hcz
      go_enter Try.func10, Try.ntmps10
      go_wp2_with fail
      obtain ⟨W0, hW, hs0, K0, B0⟩ := gro.start2 w 23 23 #[Value.int IntKind.i64 a0, Value.int IntKind.i64 b0] #[Value.int IntKind.i64 a1, Value.int IntKind.i64 b1]
      rw [hW]
      clear hW
      have KK := Lib.hid K0
      have BB := Lib.hid B0
      have R := K0.rules
      simp only [gro.Rules] at R
      clear K0 B0
      have sz : w.heap.size + 1 + 1 ≤ W0.heap.size := by omega
      clear hs0
      (with_reducible refine (HV.out _).mono ?_)
      rintro e w1 ⟨rfl, hb⟩
      replace BB := Lib.hid (BB.out.trans (hb.mono BB.out.size))
      replace KK := Lib.hid (KK.out.below hb)
      replace sz := Nat.le_trans sz hb.size
      replace R := KK.out.rules
      simp only [gro.Rules] at R
      clear hb
      go_wp2_with fail
      (with_reducible refine (HU.out _).mono ?_)
      rintro e w2 ⟨rfl, hb⟩
      replace BB := Lib.hid (BB.out.trans (hb.mono BB.out.size))
      replace KK := Lib.hid (KK.out.below hb)
      replace sz := Nat.le_trans sz hb.size
      replace R := KK.out.rules
      simp only [gro.Rules] at R
      clear hb
      go_wp2_with fail
      (with_reducible refine (hA.out _).mono ?_)
      rintro e w3 ⟨rfl, hb⟩
      replace BB := Lib.hid (BB.out.trans (hb.mono BB.out.size))
      replace KK := Lib.hid (KK.out.below hb)
      replace sz := Nat.le_trans sz hb.size
      replace R := KK.out.rules
      simp only [gro.Rules] at R
      clear hb
      obtain ⟨s3, hs3⟩ : ∃ s3, w3.heap.size = s3 := ⟨_, rfl⟩
      rw [hs3] at sz
      go_wp2_with fail
      obtain ⟨W3, hW, K1, B1, z3⟩ := gro.name_world (KK.out.new (t := 23) (c := #[Value.int IntKind.i64 (yn), Value.int IntKind.i64 (yd)]) hs3) (BB.out.alloc BB.out.size _) (s := s3 + 1) (by simp; omega)
      rw [hW]
      clear hW R KK BB
      have KK := Lib.hid K1
      have BB := Lib.hid B1
      have R := K1.rules
      simp only [gro.Rules] at R
      clear K1 B1 hs3
      replace sz : w.heap.size + 1 + 1 ≤ W3.heap.size := by omega
      (with_reducible refine (hM.out _).mono ?_)
      rintro e w5 ⟨rfl, hb⟩
      replace BB := Lib.hid (BB.out.trans (hb.mono BB.out.size))
      replace KK := Lib.hid (KK.out.below hb)
      replace sz := Nat.le_trans sz hb.size
      replace R := KK.out.rules
      simp only [gro.Rules] at R
      clear hb
      obtain ⟨s5, hs5⟩ : ∃ s5, w5.heap.size = s5 := ⟨_, rfl⟩
      rw [hs5] at sz
      go_wp2_with fail
      obtain ⟨W5, hW, K1, B1, z5⟩ := gro.name_world (KK.out.new (t := 23) (c := #[Value.int IntKind.i64 (zn), Value.int IntKind.i64 (zd)]) hs5) (BB.out.alloc BB.out.size _) (s := s5 + 1) (by simp; omega)
      rw [hW]
      clear hW R KK BB
      have KK := Lib.hid K1
      have BB := Lib.hid B1
      have R := K1.rules
      simp only [gro.Rules] at R
      clear K1 B1 hs5
      replace sz : w.heap.size + 1 + 1 ≤ W5.heap.size := by omega
      (with_reducible refine (h5.out _).mono ?_)
      rintro e w9 ⟨rfl, hb⟩
      replace BB := Lib.hid (BB.out.trans (hb.mono BB.out.size))
      clear hb KK
      go_wp2
      go_ret
      exact ⟨rfl, BB.out⟩
    case true =>
      cases cz
      case false =>
        replace hD := Lib.hid (hD.out rfl rfl)
        go_enter Try.func10, Try.ntmps10
        go_wp2_with fail
        obtain ⟨W0, hW, hs0, K0, B0⟩ := gro.start2 w 23 23 #[Value.int IntKind.i64 a0, Value.int IntKind.i64 b0] #[Value.int IntKind.i64 a1, Value.int IntKind.i64 b1]
        rw [hW]
        clear hW
        have KK := Lib.hid K0
        have BB := Lib.hid B0
        have R := K0.rules
        simp only [gro.Rules] at R
        clear K0 B0
        have sz : w.heap.size + 1 + 1 ≤ W0.heap.size := by omega
        clear hs0
        (with_reducible refine (HV.out _).mono ?_)
        rintro e w1 ⟨rfl, hb⟩
        replace BB := Lib.hid (BB.out.trans (hb.mono BB.out.size))
        replace KK := Lib.hid (KK.out.below hb)
        replace sz := Nat.le_trans sz hb.size
        replace R := KK.out.rules
        simp only [gro.Rules] at R
        clear hb
        go_wp2_with fail
        (with_reducible refine (HU.out _).mono ?_)
        rintro e w2 ⟨rfl, hb⟩
        replace BB := Lib.hid (BB.out.trans (hb.mono BB.out.size))
        replace KK := Lib.hid (KK.out.below hb)
        replace sz := Nat.le_trans sz hb.size
        replace R := KK.out.rules
        simp only [gro.Rules] at R
        clear hb
        go_wp2_with fail
        (with_reducible refine (hA.out _).mono ?_)
        rintro e w3 ⟨rfl, hb⟩
        replace BB := Lib.hid (BB.out.trans (hb.mono BB.out.size))
        replace KK := Lib.hid (KK.out.below hb)
        replace sz := Nat.le_trans sz hb.size
        replace R := KK.out.rules
        simp only [gro.Rules] at R
        clear hb
        obtain ⟨s3, hs3⟩ : ∃ s3, w3.heap.size = s3 := ⟨_, rfl⟩
        rw [hs3] at sz
        go_wp2_with fail
        obtain ⟨W3, hW, K1, B1, z3⟩ := gro.name_world (KK.out.new (t := 23) (c := #[Value.int IntKind.i64 (yn), Value.int IntKind.i64 (yd)]) hs3) (BB.out.alloc BB.out.size _) (s := s3 + 1) (by simp; omega)
        rw [hW]
        clear hW R KK BB
        have KK := Lib.hid K1
        have BB := Lib.hid B1
        have R := K1.rules
        simp only [gro.Rules] at R
        clear K1 B1 hs3
        replace sz : w.heap.size + 1 + 1 ≤ W3.heap.size := by omega
        (with_reducible refine (hM.out _).mono ?_)
        rintro e w5 ⟨rfl, hb⟩
        replace BB := Lib.hid (BB.out.trans (hb.mono BB.out.size))
        replace KK := Lib.hid (KK.out.below hb)
        replace sz := Nat.le_trans sz hb.size
        replace R := KK.out.rules
        simp only [gro.Rules] at R
        clear hb
        obtain ⟨s5, hs5⟩ : ∃ s5, w5.heap.size = s5 := ⟨_, rfl⟩
        rw [hs5] at sz
        go_wp2_with fail
        obtain ⟨W5, hW, K1, B1, z5⟩ := gro.name_world (KK.out.new (t := 23) (c := #[Value.int IntKind.i64 (zn), Value.int IntKind.i64 (zd)]) hs5) (BB.out.alloc BB.out.size _) (s := s5 + 1) (by simp; omega)
        rw [hW]
        clear hW R KK BB
        have KK := Lib.hid K1
        have BB := Lib.hid B1
        have R := K1.rules
        simp only [gro.Rules] at R
        clear K1 B1 hs5
        replace sz : w.heap.size + 1 + 1 ≤ W5.heap.size := by omega
        (with_reducible refine (hD.out _).mono ?_)
        rintro e w6 ⟨rfl, hb⟩
        replace BB := Lib.hid (BB.out.trans (hb.mono BB.out.size))
        replace KK := Lib.hid (KK.out.below hb)
        replace sz := Nat.le_trans sz hb.size
        replace R := KK.out.rules
        simp only [gro.Rules] at R
        clear hb
        obtain ⟨s6, hs6⟩ : ∃ s6, w6.heap.size = s6 := ⟨_, rfl⟩
        rw [hs6] at sz
        go_wp2_with fail
        obtain ⟨W6, hW, K1, B1, z6⟩ := gro.name_world (KK.out.new (t := 23) (c := #[Value.int IntKind.i64 (a0), Value.int IntKind.i64 (b0)]) hs6) (BB.out.alloc BB.out.size _) (s := s6 + 1) (by simp; omega)
        rw [hW]
        clear hW R KK BB
        have KK := Lib.hid K1
        have BB := Lib.hid B1
        have R := K1.rules
        simp only [gro.Rules] at R
        clear K1 B1 hs6
        replace sz : w.heap.size + 1 + 1 ≤ W6.heap.size := by omega
        (with_reducible refine (h5.out _).mono ?_)
        rintro e w9 ⟨rfl, hb⟩
        replace BB := Lib.hid (BB.out.trans (hb.mono BB.out.size))
        clear hb KK
        go_wp2
        go_ret
        exact ⟨rfl, BB.out⟩
      case true =>
        have ha1 : a1 = 0 := by simpa using hcz
        subst ha1
        clear hcz
        go_enter Try.func10, Try.ntmps10
        go_wp2_with fail
        obtain ⟨W0, hW, hs0, K0, B0⟩ := gro.start2 w 23 23 #[Value.int IntKind.i64 a0, Value.int IntKind.i64 b0] #[Value.int IntKind.i64 0, Value.int IntKind.i64 b1]
        rw [hW]
        clear hW
        have KK := Lib.hid K0
        have BB := Lib.hid B0
        have R := K0.rules
        simp only [gro.Rules] at R
        clear K0 B0
        have sz : w.heap.size + 1 + 1 ≤ W0.heap.size := by omega
        clear hs0
        (with_reducible refine (HV.out _).mono ?_)
        rintro e w1 ⟨rfl, hb⟩
        replace BB := Lib.hid (BB.out.trans (hb.mono BB.out.size))
        replace KK := Lib.hid (KK.out.below hb)
        replace sz := Nat.le_trans sz hb.size
        replace R := KK.out.rules
        simp only [gro.Rules] at R
        clear hb
        go_wp2_with fail
        (with_reducible refine (HU.out _).mono ?_)
        rintro e w2 ⟨rfl, hb⟩
        replace BB := Lib.hid (BB.out.trans (hb.mono BB.out.size))
        replace KK := Lib.hid (KK.out.below hb)
        replace sz := Nat.le_trans sz hb.size
        replace R := KK.out.rules
        simp only [gro.Rules] at R
        clear hb
        go_wp2_with fail
        (with_reducible refine (hA.out _).mono ?_)
        rintro e w3 ⟨rfl, hb⟩
        replace BB := Lib.hid (BB.out.trans (hb.mono BB.out.size))
        replace KK := Lib.hid (KK.out.below hb)
        replace sz := Nat.le_trans sz hb.size
        replace R := KK.out.rules
        simp only [gro.Rules] at R
        clear hb
        obtain ⟨s3, hs3⟩ : ∃ s3, w3.heap.size = s3 := ⟨_, rfl⟩
        rw [hs3] at sz
        go_wp2_with fail
        obtain ⟨W3, hW, K1, B1, z3⟩ := gro.name_world (KK.out.new (t := 23) (c := #[Value.int IntKind.i64 (yn), Value.int IntKind.i64 (yd)]) hs3) (BB.out.alloc BB.out.size _) (s := s3 + 1) (by simp; omega)
        rw [hW]
        clear hW R KK BB
        have KK := Lib.hid K1
        have BB := Lib.hid B1
        have R := K1.rules
        simp only [gro.Rules] at R
        clear K1 B1 hs3
        replace sz : w.heap.size + 1 + 1 ≤ W3.heap.size := by omega
        (with_reducible refine (hM.out _).mono ?_)
        rintro e w5 ⟨rfl, hb⟩
        replace BB := Lib.hid (BB.out.trans (hb.mono BB.out.size))
        replace KK := Lib.hid (KK.out.below hb)
        replace sz := Nat.le_trans sz hb.size
        replace R := KK.out.rules
        simp only [gro.Rules] at R
        clear hb
        obtain ⟨s5, hs5⟩ : ∃ s5, w5.heap.size = s5 := ⟨_, rfl⟩
        rw [hs5] at sz
        go_wp2_with fail
        obtain ⟨W5, hW, K1, B1, z5⟩ := gro.name_world (KK.out.new (t := 23) (c := #[Value.int IntKind.i64 (zn), Value.int IntKind.i64 (zd)]) hs5) (BB.out.alloc BB.out.size _) (s := s5 + 1) (by simp; omega)
        rw [hW]
        clear hW R KK BB
        have KK := Lib.hid K1
        have BB := Lib.hid B1
        have R := K1.rules
        simp only [gro.Rules] at R
        clear K1 B1 hs5
        replace sz : w.heap.size + 1 + 1 ≤ W5.heap.size := by omega
        (with_reducible refine (h5.out _).mono ?_)
        rintro e w9 ⟨rfl, hb⟩
        replace BB := Lib.hid (BB.out.trans (hb.mono BB.out.size))
        clear hb KK
        go_wp2
        go_ret
        exact ⟨rfl, BB.out⟩
  case true =>
    cases zk
    case false =>
      clear hcz
      replace hS := Lib.hid (hS.out rfl)
      go_enter Try.func10, Try.ntmps10
      go_wp2_with fail
      obtain ⟨W0, hW, hs0, K0, B0⟩ := gro.start2 w 23 23 #[Value.int IntKind.i64 a0, Value.int IntKind.i64 b0] #[Value.int IntKind.i64 a1, Value.int IntKind.i64 b1]
      rw [hW]
      clear hW
      have KK := Lib.hid K0
      have BB := Lib.hid B0
      have R := K0.rules
      simp only [gro.Rules] at R
      clear K0 B0
      have sz : w.heap.size + 1 + 1 ≤ W0.heap.size := by omega
      clear hs0
      (with_reducible refine (HV.out _).mono ?_)
      rintro e w1 ⟨rfl, hb⟩
      replace BB := Lib.hid (BB.out.trans (hb.mono BB.out.size))
      replace KK := Lib.hid (KK.out.below hb)
      replace sz := Nat.le_trans sz hb.size
      replace R := KK.out.rules
      simp only [gro.Rules] at R
      clear hb
      go_wp2_with fail
      (with_reducible refine (HU.out _).mono ?_)
      rintro e w2 ⟨rfl, hb⟩
      replace BB := Lib.hid (BB.out.trans (hb.mono BB.out.size))
      replace KK := Lib.hid (KK.out.below hb)
      replace sz := Nat.le_trans sz hb.size
      replace R := KK.out.rules
      simp only [gro.Rules] at R
      clear hb
      go_wp2_with fail
      (with_reducible refine (hA.out _).mono ?_)
      rintro e w3 ⟨rfl, hb⟩
      replace BB := Lib.hid (BB.out.trans (hb.mono BB.out.size))
      replace KK := Lib.hid (KK.out.below hb)
      replace sz := Nat.le_trans sz hb.size
      replace R := KK.out.rules
      simp only [gro.Rules] at R
      clear hb
      obtain ⟨s3, hs3⟩ : ∃ s3, w3.heap.size = s3 := ⟨_, rfl⟩
      rw [hs3] at sz
      go_wp2_with fail
      obtain ⟨W3, hW, K1, B1, z3⟩ := gro.name_world (KK.out.new (t := 23) (c := #[Value.int IntKind.i64 (yn), Value.int IntKind.i64 (yd)]) hs3) (BB.out.alloc BB.out.size _) (s := s3 + 1) (by simp; omega)
      rw [hW]
      clear hW R KK BB
      have KK := Lib.hid K1
      have BB := Lib.hid B1
      have R := K1.rules
      simp only [gro.Rules] at R
      clear K1 B1 hs3
      replace sz : w.heap.size + 1 + 1 ≤ W3.heap.size := by omega
      (with_reducible refine (hS.out _).mono ?_)
      rintro e w4 ⟨rfl, hb⟩
      replace BB := Lib.hid (BB.out.trans (hb.mono BB.out.size))
      replace KK := Lib.hid (KK.out.below hb)
      replace sz := Nat.le_trans sz hb.size
      replace R := KK.out.rules
      simp only [gro.Rules] at R
      clear hb
      obtain ⟨s4, hs4⟩ : ∃ s4, w4.heap.size = s4 := ⟨_, rfl⟩
      rw [hs4] at sz
      go_wp2_with fail
      obtain ⟨W4, hW, K1, B1, z4⟩ := gro.name_world (KK.out.new (t := 23) (c := #[Value.int IntKind.i64 (a0), Value.int IntKind.i64 (b0)]) hs4) (BB.out.alloc BB.out.size _) (s := s4 + 1) (by simp; omega)
      rw [hW]
      clear hW R KK BB
      have KK := Lib.hid K1
      have BB := Lib.hid B1
      have R := K1.rules
      simp only [gro.Rules] at R
      clear K1 B1 hs4
      replace sz : w.heap.size + 1 + 1 ≤ W4.heap.size := by omega
      (with_reducible refine (hM.out _).mono ?_)
      rintro e w5 ⟨rfl, hb⟩
      replace BB := Lib.hid (BB.out.trans (hb.mono BB.out.size))
      replace KK := Lib.hid (KK.out.below hb)
      replace sz := Nat.le_trans sz hb.size
      replace R := KK.out.rules
      simp only [gro.Rules] at R
      clear hb
      obtain ⟨s5, hs5⟩ : ∃ s5, w5.heap.size = s5 := ⟨_, rfl⟩
      rw [hs5] at sz
      go_wp2_with fail
      obtain ⟨W5, hW, K1, B1, z5⟩ := gro.name_world (KK.out.new (t := 23) (c := #[Value.int IntKind.i64 (zn), Value.int IntKind.i64 (zd)]) hs5) (BB.out.alloc BB.out.size _) (s := s5 + 1) (by simp; omega)
      rw [hW]
      clear hW R KK BB
      have KK := Lib.hid K1
      have BB := Lib.hid B1
      have R := K1.rules
      simp only [gro.Rules] at R
      clear K1 B1 hs5
      replace sz : w.heap.size + 1 + 1 ≤ W5.heap.size := by omega
      (with_reducible refine (h5.out _).mono ?_)
      rintro e w9 ⟨rfl, hb⟩
      replace BB := Lib.hid (BB.out.trans (hb.mono BB.out.size))
      clear hb KK
      go_wp2
      go_ret
      exact ⟨rfl, BB.out⟩
    case true =>
      cases cz
      case false =>
        replace hS := Lib.hid (hS.out rfl)
        replace hD := Lib.hid (hD.out rfl rfl)
        go_enter Try.func10, Try.ntmps10
        go_wp2_with fail
        obtain ⟨W0, hW, hs0, K0, B0⟩ := gro.start2 w 23 23 #[Value.int IntKind.i64 a0, Value.int IntKind.i64 b0] #[Value.int IntKind.i64 a1, Value.int IntKind.i64 b1]
        rw [hW]
        clear hW
        have KK := Lib.hid K0
        have BB := Lib.hid B0
        have R := K0.rules
        simp only [gro.Rules] at R
        clear K0 B0
        have sz : w.heap.size + 1 + 1 ≤ W0.heap.size := by omega
        clear hs0
        (with_reducible refine (HV.out _).mono ?_)
        rintro e w1 ⟨rfl, hb⟩
        replace BB := Lib.hid (BB.out.trans (hb.mono BB.out.size))
        replace KK := Lib.hid (KK.out.below hb)
        replace sz := Nat.le_trans sz hb.size
        replace R := KK.out.rules
        simp only [gro.Rules] at R
        clear hb
        go_wp2_with fail
        (with_reducible refine (HU.out _).mono ?_)
        rintro e w2 ⟨rfl, hb⟩
        replace BB := Lib.hid (BB.out.trans (hb.mono BB.out.size))
        replace KK := Lib.hid (KK.out.below hb)
        replace sz := Nat.le_trans sz hb.size
        replace R := KK.out.rules
        simp only [gro.Rules] at R
        clear hb
        go_wp2_with fail
        (with_reducible refine (hA.out _).mono ?_)
        rintro e w3 ⟨rfl, hb⟩
        replace BB := Lib.hid (BB.out.trans (hb.mono BB.out.size))
        replace KK := Lib.hid (KK.out.below hb)
        replace sz := Nat.le_trans sz hb.size
        replace R := KK.out.rules
        simp only [gro.Rules] at R
        clear hb
        obtain ⟨s3, hs3⟩ : ∃ s3, w3.heap.size = s3 := ⟨_, rfl⟩
        rw [hs3] at sz
        go_wp2_with fail
        obtain ⟨W3, hW, K1, B1, z3⟩ := gro.name_world (KK.out.new (t := 23) (c := #[Value.int IntKind.i64 (yn), Value.int IntKind.i64 (yd)]) hs3) (BB.out.alloc BB.out.size _) (s := s3 + 1) (by simp; omega)
        rw [hW]
        clear hW R KK BB
        have KK := Lib.hid K1
        have BB := Lib.hid B1
        have R := K1.rules
        simp only [gro.Rules] at R
        clear K1 B1 hs3
        replace sz : w.heap.size + 1 + 1 ≤ W3.heap.size := by omega
        (with_reducible refine (hS.out _).mono ?_)
        rintro e w4 ⟨rfl, hb⟩
        replace BB := Lib.hid (BB.out.trans (hb.mono BB.out.size))
        replace KK := Lib.hid (KK.out.below hb)
        replace sz := Nat.le_trans sz hb.size
        replace R := KK.out.rules
        simp only [gro.Rules] at R
        clear hb
        obtain ⟨s4, hs4⟩ : ∃ s4, w4.heap.size = s4 := ⟨_, rfl⟩
        rw [hs4] at sz
        go_wp2_with fail
        obtain ⟨W4, hW, K1, B1, z4⟩ := gro.name_world (KK.out.new (t := 23) (c := #[Value.int IntKind.i64 (a0), Value.int IntKind.i64 (b0)]) hs4) (BB.out.alloc BB.out.size _) (s := s4 + 1) (by simp; omega)
        rw [hW]
        clear hW R KK BB
        have KK := Lib.hid K1
        have BB := Lib.hid B1
        have R := K1.rules
        simp only [gro.Rules] at R
        clear K1 B1 hs4
        replace sz : w.heap.size + 1 + 1 ≤ W4.heap.size := by omega
        (with_reducible refine (hM.out _).mono ?_)
        rintro e w5 ⟨rfl, hb⟩
        replace BB := Lib.hid (BB.out.trans (hb.mono BB.out.size))
        replace KK := Lib.hid (KK.out.below hb)
        replace sz := Nat.le_trans sz hb.size
        replace R := KK.out.rules
        simp only [gro.Rules] at R
        clear hb
        obtain ⟨s5, hs5⟩ : ∃ s5, w5.heap.size = s5 := ⟨_, rfl⟩
        rw [hs5] at sz
        go_wp2_with fail
        obtain ⟨W5, hW, K1, B1, z5⟩ := gro.name_world (KK.out.new (t := 23) (c := #[Value.int IntKind.i64 (zn), Value.int IntKind.i64 (zd)]) hs5) (BB.out.alloc BB.out.size _) (s := s5 + 1) (by simp; omega)
        rw [hW]
        clear hW R KK BB
        have KK := Lib.hid K1
        have BB := Lib.hid B1
        have R := K1.rules
        simp only [gro.Rules] at R
        clear K1 B1 hs5
        replace sz : w.heap.size + 1 + 1 ≤ W5.heap.size := by omega
        (with_reducible refine (hD.out _).mono ?_)
        rintro e w6 ⟨rfl, hb⟩
        replace BB := Lib.hid (BB.out.trans (hb.mono BB.out.size))
        replace KK := Lib.hid (KK.out.below hb)
        replace sz := Nat.le_trans sz hb.size
        replace R := KK.out.rules
        simp only [gro.Rules] at R
        clear hb
        obtain ⟨s6, hs6⟩ : ∃ s6, w6.heap.size = s6 := ⟨_, rfl⟩
        rw [hs6] at sz
        go_wp2_with fail
        obtain ⟨W6, hW, K1, B1, z6⟩ := gro.name_world (KK.out.new (t := 23) (c := #[Value.int IntKind.i64 (a0), Value.int IntKind.i64 (b0)]) hs6) (BB.out.alloc BB.out.size _) (s := s6 + 1) (by simp; omega)
        rw [hW]
        clear hW R KK BB
        have KK := Lib.hid K1
        have BB := Lib.hid B1
        have R := K1.rules
        simp only [gro.Rules] at R
        clear K1 B1 hs6
        replace sz : w.heap.size + 1 + 1 ≤ W6.heap.size := by omega
        (with_reducible refine (h5.out _).mono ?_)
        rintro e w9 ⟨rfl, hb⟩
        replace BB := Lib.hid (BB.out.trans (hb.mono BB.out.size))
        clear hb KK
        go_wp2
        go_ret
        exact ⟨rfl, BB.out⟩
      case true =>
        have ha1 : a1 = 0 := by simpa using hcz
        subst ha1
        clear hcz
        replace hS := Lib.hid (hS.out rfl)
        go_enter Try.func10, Try.ntmps10
        go_wp2_with fail
        obtain ⟨W0, hW, hs0, K0, B0⟩ := gro.start2 w 23 23 #[Value.int IntKind.i64 a0, Value.int IntKind.i64 b0] #[Value.int IntKind.i64 0, Value.int IntKind.i64 b1]
        rw [hW]
        clear hW
        have KK := Lib.hid K0
        have BB := Lib.hid B0
        have R := K0.rules
        simp only [gro.Rules] at R
        clear K0 B0
        have sz : w.heap.size + 1 + 1 ≤ W0.heap.size := by omega
        clear hs0
        (with_reducible refine (HV.out _).mono ?_)
        rintro e w1 ⟨rfl, hb⟩
        replace BB := Lib.hid (BB.out.trans (hb.mono BB.out.size))
        replace KK := Lib.hid (KK.out.below hb)
        replace sz := Nat.le_trans sz hb.size
        replace R := KK.out.rules
        simp only [gro.Rules] at R
        clear hb
        go_wp2_with fail
        (with_reducible refine (HU.out _).mono ?_)
        rintro e w2 ⟨rfl, hb⟩
        replace BB := Lib.hid (BB.out.trans (hb.mono BB.out.size))
        replace KK := Lib.hid (KK.out.below hb)
        replace sz := Nat.le_trans sz hb.size
        replace R := KK.out.rules
        simp only [gro.Rules] at R
        clear hb
        go_wp2_with fail
        (with_reducible refine (hA.out _).mono ?_)
        rintro e w3 ⟨rfl, hb⟩
        replace BB := Lib.hid (BB.out.trans (hb.mono BB.out.size))
        replace KK := Lib.hid (KK.out.below hb)
        replace sz := Nat.le_trans sz hb.size
        replace R := KK.out.rules
        simp only [gro.Rules] at R
        clear hb
        obtain ⟨s3, hs3⟩ : ∃ s3, w3.heap.size = s3 := ⟨_, rfl⟩
        rw [hs3] at sz
        go_wp2_with fail
        obtain ⟨W3, hW, K1, B1, z3⟩ := gro.name_world (KK.out.new (t := 23) (c := #[Value.int IntKind.i64 (yn), Value.int IntKind.i64 (yd)]) hs3) (BB.out.alloc BB.out.size _) (s := s3 + 1) (by simp; omega)
        rw [hW]
        clear hW R KK BB
        have KK := Lib.hid K1
        have BB := Lib.hid B1
        have R := K1.rules
        simp only [gro.Rules] at R
        clear K1 B1 hs3
        replace sz : w.heap.size + 1 + 1 ≤ W3.heap.size := by omega
        (with_reducible refine (hS.out _).mono ?_)
        rintro e w4 ⟨rfl, hb⟩
        replace BB := Lib.hid (BB.out.trans (hb.mono BB.out.size))
        replace KK := Lib.hid (KK.out.below hb)
        replace sz := Nat.le_trans sz hb.size
        replace R := KK.out.rules
        simp only [gro.Rules] at R
        clear hb
        obtain ⟨s4, hs4⟩ : ∃ s4, w4.heap.size = s4 := ⟨_, rfl⟩
        rw [hs4] at sz
        go_wp2_with fail
        obtain ⟨W4, hW, K1, B1, z4⟩ := gro.name_world (KK.out.new (t := 23) (c := #[Value.int IntKind.i64 (a0), Value.int IntKind.i64 (b0)]) hs4) (BB.out.alloc BB.out.size _) (s := s4 + 1) (by simp; omega)
        rw [hW]
        clear hW R KK BB
        have KK := Lib.hid K1
        have BB := Lib.hid B1
        have R := K1.rules
        simp only [gro.Rules] at R
        clear K1 B1 hs4
        replace sz : w.heap.size + 1 + 1 ≤ W4.heap.size := by omega
        (with_reducible refine (hM.out _).mono ?_)
        rintro e w5 ⟨rfl, hb⟩
        replace BB := Lib.hid (BB.out.trans (hb.mono BB.out.size))
        replace KK := Lib.hid (KK.out.below hb)
        replace sz := Nat.le_trans sz hb.size
        replace R := KK.out.rules
        simp only [gro.Rules] at R
        clear hb
        obtain ⟨s5, hs5⟩ : ∃ s5, w5.heap.size = s5 := ⟨_, rfl⟩
        rw [hs5] at sz
        go_wp2_with fail
        obtain ⟨W5, hW, K1, B1, z5⟩ := gro.name_world (KK.out.new (t := 23) (c := #[Value.int IntKind.i64 (zn), Value.int IntKind.i64 (zd)]) hs5) (BB.out.alloc BB.out.size _) (s := s5 + 1) (by simp; omega)
        rw [hW]
        clear hW R KK BB
        have KK := Lib.hid K1
        have BB := Lib.hid B1
        have R := K1.rules
        simp only [gro.Rules] at R
        clear K1 B1 hs5
        replace sz : w.heap.size + 1 + 1 ≤ W5.heap.size := by omega
        (with_reducible refine (h5.out _).mono ?_)
        rintro e w9 ⟨rfl, hb⟩
        replace BB := Lib.hid (BB.out.trans (hb.mono BB.out.size))
        clear hb KK
        go_wp2
        go_ret
        exact ⟨rfl, BB.out⟩
end Go.Proofs.Ytoejhikcnnppnaa.ratioUndoes
