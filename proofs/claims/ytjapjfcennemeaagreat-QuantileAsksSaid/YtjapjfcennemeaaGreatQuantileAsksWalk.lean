/- QuantileAsksWalk: proved here in one text, no conditions beyond those that each theorem states. -/
import Derived.Test.YtjapjfcennemeaaGreatRows
import Derived.WalkKit
import Derived.ProofKit
import Derived.OpenShut
import Derived.ShutString
import Derived.Test.YtjapjfcennemeaaGreatZ2
import Derived.Test.YtjapjfcennemeaaGreatZ52
import Derived.Test.YtjapjfcennemeaaGreatZ51
import Derived.Test.YtjapjfcennemeaaGreatZ33
set_option linter.unusedVariables false
set_option linter.unusedSimpArgs false
namespace Go.Proofs.YtjapjfcennemeaaGreat.quantileAsks
open Go.ChangeShapes Go.WideShapes Go.ChangeAt Go.RowKit
open Go.ChangeMaps (open_string shut_string)
set_option linter.unusedVariables false
set_option maxHeartbeats 4000000 in
theorem walk (ya0 yb0 yc0 yd0 : Int) (A0 : Option Addr) (n0 c0 : Nat) (z0 : List mem.BlkM) (a1 : Int) (a2 : Int) (a3 : Int) (w : World) (iw0 : opn.Rng ya0 ∧ opn.Rng yb0 ∧ opn.Rng yc0 ∧ opn.Rng yd0) (s0 : mem.BRead w w.heap.size A0 n0 z0) (e0 : n0 ≤ c0) (m0 : c0 ≤ maxLen) (iw1 : opn.Rng a1) (iw2 : opn.Rng a2) (iw3 : opn.Rng a3) :
    Calls Tryz.prog 3 #[.agg #[.int .i64 ya0, .int .i64 yb0, .int .i64 yc0, .int .i64 yd0, .slice A0 n0 c0], .int .i64 a1, .int .i64 a2, .int .i64 a3] w fun e w' => e = .returned (.bool true) ∧ Below w.heap.size w w' := by
  have hF := Lib.hid (fun W (hb : Below w.heap.size w W) => blk.few23_any ya0 yb0 yc0 yd0 A0 n0 c0 z0 W ((s0.below hb).more hb.size) (Nat.le_trans e0 m0))
  have HA := Lib.hid (fun W => qtl.awake23_any W)
  have H0 := Lib.hid s0
  have hp64 := iw0.2.2.1.2
  have ha64 := iw1.2
  have hb64 := iw2.2
  clear s0 iw0 iw1 iw2 iw3
  go_enter Tryz.func3, Tryz.ntmps3
  go_wp2_with fail
  obtain ⟨W0, hW, hs0, K0, B0⟩ := gro.start1 w 24 #[Value.int IntKind.i64 ya0, Value.int IntKind.i64 yb0, Value.int IntKind.i64 yc0, Value.int IntKind.i64 yd0, Value.slice A0 n0 c0]
  rw [hW]
  clear hW
  have KK := Lib.hid K0
  have BB := Lib.hid B0
  have R := K0.rules
  simp only [gro.Rules] at R
  clear K0 B0 hs0
  go_wp2_with fail
  refine (hF.out _ BB.out).mono ?_
  rintro e w0 ⟨f, rfl, hf40, hb0⟩
  replace BB := Lib.hid (BB.out.trans (hb0.mono BB.out.size))
  replace KK := Lib.hid (KK.out.below hb0)
  replace R := KK.out.rules
  simp only [gro.Rules] at R
  clear hb0 hF
  cases f with
  | false =>
    go_wp2_with (go_at_call 5; refine (HA.out _).mono ?_; rintro e w4 ⟨rfl, hb4⟩)
    go_ret
    exact ⟨rfl, BB.out.trans (hb4.mono BB.out.size)⟩
  | true =>
    obtain ⟨hn, hsum⟩ := hf40 rfl
    clear hf40
    have hE := rnk.few_ents H0.out hsum
    have hm16 : n0 ≤ 64000 := by omega
    have hn9 : n0 ≤ 900 := by omega
    have h1 := Lib.hid (fun W (hb : Below w.heap.size w W) => qtl.ValueQ_any ya0 yb0 yc0 yd0 a1 a2 A0 n0 c0 z0 W ((H0.out.below hb).more hb.size) hm16 e0 m0 hp64 ha64 hb64 hE)
    have h2 := Lib.hid (fun W (hb : Below w.heap.size w W) => qtl.ValueQR_any ya0 yb0 yc0 yd0 a1 a2 A0 n0 c0 z0 W ((H0.out.below hb).more hb.size) hn9 e0 m0 hp64 ha64 hb64 hE)
    have h3 := Lib.hid (fun W (hb : Below w.heap.size w W) => qtl.RankQ_any ya0 yb0 yc0 yd0 a3 A0 n0 c0 z0 W ((H0.out.below hb).more hb.size) hm16 e0 m0 hp64 hE)
    have h4 := Lib.hid (fun W (hb : Below w.heap.size w W) => qtl.RankQR_any ya0 yb0 yc0 yd0 a3 A0 n0 c0 z0 W ((H0.out.below hb).more hb.size) hm16 e0 m0 hp64 hE)
    obtain ⟨k1, k2, k3, k4, k5, k6, hk⟩ := qtl.rankQ_six (z0.map blk.bkey) ya0 yb0 yc0 yd0 a3
    rw [hk] at h3 h4
    clear hk hE hsum hp64 ha64 hb64
    generalize (qtl.rankQ (z0.map blk.bkey) ya0 yb0 yc0 yd0 a3).2 = er at *
    generalize qtl.valQ (z0.map blk.bkey) ya0 yb0 yc0 yd0 a1 a2 = qv at *
    obtain ⟨q1, q2⟩ := qv
    simp only [] at h1 h2
    have heq := fun W => wid.bnd_eql k1 k2 k3 k4 k5 k6 W
    have er1 : (er == er) = true := by simp
    have er2 : (q1 == q1) = true := by simp
    have er3 : (q2 == q2) = true := by simp
    clear H0
    go_wp2_with fail
    refine (h1.out _ BB.out).mono ?_
    rintro e w1 ⟨rfl, hb⟩
    replace BB := Lib.hid (BB.out.trans (hb.mono BB.out.size))
    replace KK := Lib.hid (KK.out.below hb)
    clear hb
    replace R := KK.out.rules
    simp only [gro.Rules] at R
    go_wp2_with fail
    refine (h2.out _ BB.out).mono ?_
    rintro e w2 ⟨rfl, hb⟩
    replace BB := Lib.hid (BB.out.trans (hb.mono BB.out.size))
    replace KK := Lib.hid (KK.out.below hb)
    clear hb
    replace R := KK.out.rules
    simp only [gro.Rules] at R
    go_wp2_with fail
    refine (h3.out _ BB.out).mono ?_
    rintro e w3 ⟨rfl, hb⟩
    replace BB := Lib.hid (BB.out.trans (hb.mono BB.out.size))
    replace KK := Lib.hid (KK.out.below hb)
    clear hb
    replace R := KK.out.rules
    simp only [gro.Rules] at R
    obtain ⟨g1, hg1⟩ : ∃ s, w3.heap.size = s := ⟨_, rfl⟩
    have BZ := Lib.hid (BB.out.alloc BB.out.size (.cells #[Value.int IntKind.i64 k1, Value.int IntKind.i64 k2, Value.int IntKind.i64 k3, Value.int IntKind.i64 k4, Value.int IntKind.i64 k5, Value.int IntKind.i64 k6] 33))
    have KZ := Lib.hid (KK.out.new (W := w3) (t := 33) (c := #[Value.int IntKind.i64 k1, Value.int IntKind.i64 k2, Value.int IntKind.i64 k3, Value.int IntKind.i64 k4, Value.int IntKind.i64 k5, Value.int IntKind.i64 k6]) hg1)
    go_upto_region 6 with fail
    obtain ⟨xg1, hW, K3, B3, z3⟩ := gro.name_world KZ.out BZ.out (s := 0) (Nat.zero_le _)
    rw [hW]
    clear hW BZ KZ z3 BB hg1 KK R
    have KK := Lib.hid K3
    have BB := Lib.hid B3
    have R := KK.out.rules
    simp only [gro.Rules] at R
    clear K3 B3
    go_wp2_with fail
    refine (h4.out _ BB.out).mono ?_
    rintro e w4 ⟨rfl, hb⟩
    replace BB := Lib.hid (BB.out.trans (hb.mono BB.out.size))
    replace KK := Lib.hid (KK.out.below hb)
    clear hb
    replace R := KK.out.rules
    simp only [gro.Rules] at R
    obtain ⟨g2, hg2⟩ : ∃ s, w4.heap.size = s := ⟨_, rfl⟩
    have BZ := Lib.hid (BB.out.alloc BB.out.size (.cells #[Value.int IntKind.i64 k1, Value.int IntKind.i64 k2, Value.int IntKind.i64 k3, Value.int IntKind.i64 k4, Value.int IntKind.i64 k5, Value.int IntKind.i64 k6] 33))
    have KZ := Lib.hid (KK.out.new (W := w4) (t := 33) (c := #[Value.int IntKind.i64 k1, Value.int IntKind.i64 k2, Value.int IntKind.i64 k3, Value.int IntKind.i64 k4, Value.int IntKind.i64 k5, Value.int IntKind.i64 k6]) hg2)
    go_upto_region 7 with fail
    obtain ⟨xg2, hW, K3, B3, z3⟩ := gro.name_world KZ.out BZ.out (s := 0) (Nat.zero_le _)
    rw [hW]
    clear hW BZ KZ z3 BB hg2 KK R
    have KK := Lib.hid K3
    have BB := Lib.hid B3
    have R := KK.out.rules
    simp only [gro.Rules] at R
    clear K3 B3
    go_wp2_with fail
    refine (HA.out _).mono ?_
    rintro e w8 ⟨rfl, hb8⟩
    replace BB := Lib.hid (BB.out.trans (hb8.mono BB.out.size))
    clear hb8
    go_wp2
    go_ret
    exact ⟨rfl, BB.out⟩
end Go.Proofs.YtjapjfcennemeaaGreat.quantileAsks
