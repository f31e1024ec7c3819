/- The walk of the law BoundsMakes: it returns true and leaves what was there. -/
import Derived.Test.YtoejhikcnnppnaaRows
import Derived.Test.YtoejhikcnnppnaaOpen
import Derived.Test.YtoejhikcnnppnaaMakesL
import Derived.Test.YtoejhikcnnppnaaAwake4
import Derived.Test.YtoejhikcnnppnaaOpenR
import Derived.WalkKit
import Derived.ProofKit
import Derived.OpenShut
import Derived.ShutString
namespace Go.Proofs.Ytoejhikcnnppnaa.boundsMakes
open Go.ChangeShapes Go.WideShapes Go.ChangeAt Go.RowKit
open Go.ChangeMaps (open_string shut_string)
set_option linter.unusedVariables false

set_option maxHeartbeats 4000000 in
theorem walk (a0 b0 : Int) (a1 : Int) (a2 : Int) (w : World) (iw0 : opn.Rng a0 ∧ opn.Rng b0) (iw1 : opn.Rng a1) (iw2 : opn.Rng a2) :
    Calls Try.prog 13 #[.agg #[.int .i64 a0, .int .i64 b0], .int .i64 a1, .int .i64 a2] w fun e w' => e = .returned (.bool true) ∧ Below w.heap.size w w' := by
  have h1 := Lib.hid (fun W => wid.WholeB_any a1 a2 iw1 iw2 W)
  have h2 := Lib.hid (fun W => wid.WholeBR_any a1 a2 iw1 iw2 W)
  have h3 := Lib.hid (fun W => wid.ExactB_any a0 b0 iw0.1 iw0.2 W)
  have h4 := Lib.hid (fun W => wid.ExactBR_any a0 b0 iw0.1 iw0.2 W)
  have h5 := Lib.hid (fun W => wid.awake4_any W)
  generalize wid.exN a0 b0 = en at *
  generalize wid.exD a0 b0 = ed at *
  have E1 := fun W => wid.bnd_eql en ed en ed en ed W
  by_cases hle : a1 ≤ a2
  case pos =>
    have h6 : Hid (∀ W, Calls Try.prog 39 #[.agg #[.int .i64 a1, .int .i64 1, .int .i64 ((a1 + a2) / 2), .int .i64 1, .int .i64 a2, .int .i64 1]] W fun e w' => e = .returned (.bool true) ∧ Below W.heap.size W w') := fun W => by
      have := wid.ValidB_any a1 1 ((a1 + a2) / 2) 1 a2 1 iw1 (by unfold wid.I64; omega) (by have h1 := iw1.1; have h2 := iw1.2; have h3 := iw2.1; have h4 := iw2.2; unfold wid.I64; omega) (by unfold wid.I64; omega) iw2 (by unfold wid.I64; omega) W
      rwa [wid.whole_valid hle] at this
    have q : ∀ v, wid.whl a1 a2 v = v := fun v => if_pos hle
    simp only [q, decide_eq_true hle] at h1 h2
    clear q hle iw0 iw1 iw2
    generalize (a1 + a2) / 2 = m at *
    have E2 := fun W => wid.bnd_eql a1 1 m 1 a2 1 W
    go_enter Try.func13, Try.ntmps13
    go_wp2_with fail
    obtain ⟨W0, hW, hs0, K0, B0⟩ := gro.start1 w 23 #[Value.int IntKind.i64 a0, Value.int IntKind.i64 b0]
    rw [hW]
    clear hW
    have KK := Lib.hid K0
    have BB := Lib.hid B0
    have sz : w.heap.size + 1 ≤ W0.heap.size := by omega
    clear K0 B0 hs0
    (with_reducible refine (h1.out _).mono ?_)
    rintro e w1 ⟨rfl, hb⟩
    replace BB := Lib.hid (BB.out.trans (hb.mono BB.out.size))
    replace KK := Lib.hid (KK.out.below hb)
    replace sz := Nat.le_trans sz hb.size
    have R := KK.out.rules
    simp only [gro.Rules] at R
    clear hb
    obtain ⟨s1, hs1⟩ : ∃ s1, w1.heap.size = s1 := ⟨_, rfl⟩
    rw [hs1] at sz
    go_wp2_with fail
    obtain ⟨W1, hW, K1, B1, z1⟩ := gro.name_world (KK.out.new (t := 36) (c := #[Value.int IntKind.i64 (a1), Value.int IntKind.i64 (1), Value.int IntKind.i64 (m), Value.int IntKind.i64 (1), Value.int IntKind.i64 (a2), Value.int IntKind.i64 (1)]) hs1) (BB.out.alloc BB.out.size _) (s := s1 + 1) (by simp; omega)
    rw [hW]
    clear hW R KK BB
    have KK := Lib.hid K1
    have BB := Lib.hid B1
    clear K1 B1 hs1
    replace sz : w.heap.size + 1 + 1 ≤ W1.heap.size := by omega
    (with_reducible refine (h2.out _).mono ?_)
    rintro e w2 ⟨rfl, hb⟩
    replace BB := Lib.hid (BB.out.trans (hb.mono BB.out.size))
    replace KK := Lib.hid (KK.out.below hb)
    replace sz := Nat.le_trans sz hb.size
    have R := KK.out.rules
    simp only [gro.Rules] at R
    clear hb
    obtain ⟨s2, hs2⟩ : ∃ s2, w2.heap.size = s2 := ⟨_, rfl⟩
    rw [hs2] at sz
    go_wp2_with fail
    obtain ⟨W2, hW, K1, B1, z2⟩ := gro.name_world (KK.out.new (t := 36) (c := #[Value.int IntKind.i64 (a1), Value.int IntKind.i64 (1), Value.int IntKind.i64 (m), Value.int IntKind.i64 (1), Value.int IntKind.i64 (a2), Value.int IntKind.i64 (1)]) hs2) (BB.out.alloc BB.out.size _) (s := s2 + 1) (by simp; omega)
    rw [hW]
    clear hW R KK BB
    have KK := Lib.hid K1
    have BB := Lib.hid B1
    clear K1 B1 hs2
    have R := KK.out.rules
    simp only [gro.Rules] at R
    (refine gro.wp_region_grown (by kernel_rfl) (by kernel_rfl) ?_; (repeat (go_big_quiet_step ((first | (go_at_call 46; exact gro.call_grown (h3.out _)) | (go_at_call 47; exact gro.call_grown (h4.out _)) | (go_at_call 39; exact gro.call_grown (h6.out _)) | (go_at_call 41; exact gro.call_grown (h5.out _)))))); refine wpQuiet_nil ?_; intro _ hw'; obtain ⟨nx, hw''⟩ := hw'; subst hw'')
    replace BB := Lib.hid (BB.out.trans ((gro.below_grown _ nx).mono BB.out.size))
    clear R KK
    go_wp2
    go_ret
    exact ⟨rfl, BB.out⟩
  case neg =>
    have q : ∀ v, wid.whl a1 a2 v = 0 := fun v => if_neg hle
    simp only [q, decide_eq_false hle] at h1 h2
    clear q hle iw0 iw1 iw2
    have E2 := fun W => wid.bnd_eql 0 0 0 0 0 0 W
    go_enter Try.func13, Try.ntmps13
    go_wp2_with fail
    obtain ⟨W0, hW, hs0, K0, B0⟩ := gro.start1 w 23 #[Value.int IntKind.i64 a0, Value.int IntKind.i64 b0]
    rw [hW]
    clear hW
    have KK := Lib.hid K0
    have BB := Lib.hid B0
    have sz : w.heap.size + 1 ≤ W0.heap.size := by omega
    clear K0 B0 hs0
    (with_reducible refine (h1.out _).mono ?_)
    rintro e w1 ⟨rfl, hb⟩
    replace BB := Lib.hid (BB.out.trans (hb.mono BB.out.size))
    replace KK := Lib.hid (KK.out.below hb)
    replace sz := Nat.le_trans sz hb.size
    have R := KK.out.rules
    simp only [gro.Rules] at R
    clear hb
    obtain ⟨s1, hs1⟩ : ∃ s1, w1.heap.size = s1 := ⟨_, rfl⟩
    rw [hs1] at sz
    go_wp2_with fail
    obtain ⟨W1, hW, K1, B1, z1⟩ := gro.name_world (KK.out.new (t := 36) (c := #[Value.int IntKind.i64 (0), Value.int IntKind.i64 (0), Value.int IntKind.i64 (0), Value.int IntKind.i64 (0), Value.int IntKind.i64 (0), Value.int IntKind.i64 (0)]) hs1) (BB.out.alloc BB.out.size _) (s := s1 + 1) (by simp; omega)
    rw [hW]
    clear hW R KK BB
    have KK := Lib.hid K1
    have BB := Lib.hid B1
    clear K1 B1 hs1
    replace sz : w.heap.size + 1 + 1 ≤ W1.heap.size := by omega
    (with_reducible refine (h2.out _).mono ?_)
    rintro e w2 ⟨rfl, hb⟩
    replace BB := Lib.hid (BB.out.trans (hb.mono BB.out.size))
    replace KK := Lib.hid (KK.out.below hb)
    replace sz := Nat.le_trans sz hb.size
    have R := KK.out.rules
    simp only [gro.Rules] at R
    clear hb
    obtain ⟨s2, hs2⟩ : ∃ s2, w2.heap.size = s2 := ⟨_, rfl⟩
    rw [hs2] at sz
    go_wp2_with fail
    obtain ⟨W2, hW, K1, B1, z2⟩ := gro.name_world (KK.out.new (t := 36) (c := #[Value.int IntKind.i64 (0), Value.int IntKind.i64 (0), Value.int IntKind.i64 (0), Value.int IntKind.i64 (0), Value.int IntKind.i64 (0), Value.int IntKind.i64 (0)]) hs2) (BB.out.alloc BB.out.size _) (s := s2 + 1) (by simp; omega)
    rw [hW]
    clear hW R KK BB
    have KK := Lib.hid K1
    have BB := Lib.hid B1
    clear K1 B1 hs2
    have R := KK.out.rules
    simp only [gro.Rules] at R
    (refine gro.wp_region_grown (by kernel_rfl) (by kernel_rfl) ?_; (repeat (go_big_quiet_step ((first | (go_at_call 46; exact gro.call_grown (h3.out _)) | (go_at_call 47; exact gro.call_grown (h4.out _)) | (go_at_call 41; exact gro.call_grown (h5.out _)))))); refine wpQuiet_nil ?_; intro _ hw'; obtain ⟨nx, hw''⟩ := hw'; subst hw'')
    replace BB := Lib.hid (BB.out.trans ((gro.below_grown _ nx).mono BB.out.size))
    clear R KK
    go_wp2
    go_ret
    exact ⟨rfl, BB.out⟩
end Go.Proofs.Ytoejhikcnnppnaa.boundsMakes
