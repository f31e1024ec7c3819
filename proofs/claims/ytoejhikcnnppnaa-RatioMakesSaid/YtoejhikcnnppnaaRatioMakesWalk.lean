/- The walk of the law RatioMakes: it returns true and leaves what was there. -/
import Derived.Test.YtoejhikcnnppnaaRows
import Derived.Test.YtoejhikcnnppnaaOpen
import Derived.Test.YtoejhikcnnppnaaMake
import Derived.Test.YtoejhikcnnppnaaRat2
import Derived.Test.YtoejhikcnnppnaaOpen
import Derived.WalkKit
import Derived.ProofKit
import Derived.OpenShut
import Derived.ShutString
namespace Go.Proofs.Ytoejhikcnnppnaa.ratioMakes
open Go.ChangeShapes Go.WideShapes Go.ChangeAt Go.RowKit
open Go.ChangeMaps (open_string shut_string)
set_option linter.unusedVariables false

set_option maxHeartbeats 4000000 in
theorem walk (a0 : Int) (a1 : Int) (w : World) (iw0 : opn.Rng a0) (iw1 : opn.Rng a1) :
    Calls Try.prog 5 #[.int .i64 a0, .int .i64 a1] w fun e w' => e = .returned (.bool true) ∧ Below w.heap.size w w' := by
  have h1 := Lib.hid (fun W => wid.makeQ_any a0 a1 iw0 iw1 W)
  have h2 := Lib.hid (fun W => wid.makeQR_any a0 a1 iw0 iw1 W)
  have h3 := Lib.hid (fun W => wid.ofQ_any a0 W)
  have h4 := Lib.hid (fun W => wid.ofQR_any a0 W)
  have h5 := Lib.hid (fun W => wid.awake3_any W)
  have h6 : Hid (wid.mkOk a0 a1 = true → ∀ W, Calls Try.prog 19 #[(Value.agg #[Value.int IntKind.i64 (wid.mkN a0 a1), Value.int IntKind.i64 ( wid.mkD a0 a1)])] W fun e w' => e = .returned (.bool true) ∧ Below W.heap.size W w') := fun h W => by
    have := wid.Valid_any (wid.mkN a0 a1) (wid.mkD a0 a1) (wid.mk_valid h).2.1 (wid.mk_valid h).2.2 W
    rwa [(wid.mk_valid h).1] at this
  clear iw0 iw1
  generalize wid.mkN a0 a1 = yn at *
  generalize wid.mkD a0 a1 = yd at *
  generalize wid.mkOk a0 a1 = yk at *
  have E1 := wid.ratio_eql0 yn yd yn yd
  have E2 := wid.ratio_eql0 a0 1 a0 1
  simp only [and_self, decide_true] at E1 E2
  go_enter Try.func5, Try.ntmps5
  go_wp2_with fail
  (with_reducible refine (h1.out _).mono ?_)
  rintro e w1 ⟨rfl, hb⟩
  have BB := Lib.hid hb
  obtain ⟨s1, hs1⟩ : ∃ s1, w1.heap.size = s1 := ⟨_, rfl⟩
  have sz := hb.size
  rw [hs1] at sz
  clear hb
  go_wp2_with fail
  obtain ⟨W1, hW, K1, B1, z1⟩ := gro.name_world (gro.Bx.nil_.new (t := 23) (c := #[Value.int IntKind.i64 (yn), Value.int IntKind.i64 (yd)]) hs1) (BB.out.alloc BB.out.size _) (s := s1 + 1) (by simp; omega)
  rw [hW]
  clear hW BB
  have KK := Lib.hid K1
  have BB := Lib.hid B1
  clear K1 B1 hs1
  (with_reducible refine (h2.out _).mono ?_)
  rintro e w2 ⟨rfl, hb⟩
  replace BB := Lib.hid (BB.out.trans (hb.mono BB.out.size))
  replace KK := Lib.hid (KK.out.below hb)
  have R := KK.out.rules
  simp only [gro.Rules] at R
  clear hb
  obtain ⟨s2, hs2⟩ : ∃ s2, w2.heap.size = s2 := ⟨_, rfl⟩
  cases yk
  case false =>
    go_wp2_with fail
    replace KK := Lib.hid (KK.out.new (t := 23) (c := #[Value.int IntKind.i64 (yn), Value.int IntKind.i64 (yd)]) hs2)
    replace BB := Lib.hid (BB.out.alloc BB.out.size (.cells #[Value.int IntKind.i64 (yn), Value.int IntKind.i64 (yd)] 23))
    (with_reducible refine (h3.out _).mono ?_)
    rintro e wv ⟨rfl, hbv⟩; replace BB := Lib.hid (BB.out.trans (hbv.mono BB.out.size)); replace KK := Lib.hid (KK.out.below hbv); replace R := KK.out.rules; simp only [gro.Rules] at R; clear hbv
    go_wp2_with fail
    (with_reducible refine (h4.out _).mono ?_)
    rintro e wv ⟨rfl, hbv⟩; replace BB := Lib.hid (BB.out.trans (hbv.mono BB.out.size)); replace KK := Lib.hid (KK.out.below hbv); replace R := KK.out.rules; simp only [gro.Rules] at R; clear hbv
    go_wp2_with fail
    (with_reducible refine (h5.out _).mono ?_)
    rintro e wv ⟨rfl, hbv⟩; replace BB := Lib.hid (BB.out.trans (hbv.mono BB.out.size)); replace KK := Lib.hid (KK.out.below hbv); replace R := KK.out.rules; simp only [gro.Rules] at R; clear hbv
    go_wp2
    go_ret
    exact ⟨rfl, BB.out⟩
  case true =>
    replace h6 := Lib.hid (h6.out rfl)
    go_wp2_with fail
    replace KK := Lib.hid (KK.out.new (t := 23) (c := #[Value.int IntKind.i64 (yn), Value.int IntKind.i64 (yd)]) hs2)
    replace BB := Lib.hid (BB.out.alloc BB.out.size (.cells #[Value.int IntKind.i64 (yn), Value.int IntKind.i64 (yd)] 23))
    (with_reducible refine (h3.out _).mono ?_)
    rintro e wv ⟨rfl, hbv⟩; replace BB := Lib.hid (BB.out.trans (hbv.mono BB.out.size)); replace KK := Lib.hid (KK.out.below hbv); replace R := KK.out.rules; simp only [gro.Rules] at R; clear hbv
    go_wp2_with fail
    (with_reducible refine (h4.out _).mono ?_)
    rintro e wv ⟨rfl, hbv⟩; replace BB := Lib.hid (BB.out.trans (hbv.mono BB.out.size)); replace KK := Lib.hid (KK.out.below hbv); replace R := KK.out.rules; simp only [gro.Rules] at R; clear hbv
    go_wp2_with fail
    (with_reducible refine (h6.out _).mono ?_)
    rintro e wv ⟨rfl, hbv⟩; replace BB := Lib.hid (BB.out.trans (hbv.mono BB.out.size)); replace KK := Lib.hid (KK.out.below hbv); replace R := KK.out.rules; simp only [gro.Rules] at R; clear hbv
    go_wp2_with fail
    (with_reducible refine (h5.out _).mono ?_)
    rintro e wv ⟨rfl, hbv⟩; replace BB := Lib.hid (BB.out.trans (hbv.mono BB.out.size)); replace KK := Lib.hid (KK.out.below hbv); replace R := KK.out.rules; simp only [gro.Rules] at R; clear hbv
    go_wp2
    go_ret
    exact ⟨rfl, BB.out⟩
end Go.Proofs.Ytoejhikcnnppnaa.ratioMakes
