/- The walk of the law BlocksAsks: it returns true and leaves what was there. -/
import Derived.Test.YtjapjfcennemeaaRows
import Derived.Test.YtjapjfcennemeaaMgTri
import Derived.Test.YtjapjfcennemeaaMgOpenK
import Derived.Test.YtjapjfcennemeaaBExp
import Derived.Test.YtjapjfcennemeaaMgExpire
import Derived.WalkKit
import Derived.ProofKit
import Derived.OpenShut
import Derived.ShutString
namespace Go.Proofs.Ytjapjfcennemeaa.blocksAsks
open Go.ChangeShapes Go.WideShapes Go.ChangeAt Go.RowKit
open Go.ChangeMaps (open_string shut_string)
set_option linter.unusedVariables false

set_option maxHeartbeats 4000000 in
theorem walk (A0 : Option Addr) (n0 c0 : Nat) (z0 : List mem.BlkM) (a1 : Int) (a2 : Int) (a3 : Int) (w : World) (iw0 : mem.BRead w w.heap.size A0 n0 z0) (e0 : n0 ≤ c0) (m0 : c0 ≤ maxLen) (iw1 : opn.Rng a1) (iw2 : opn.Rng a2) (iw3 : opn.Rng a3) :
    Calls Try.prog 7 #[.slice A0 n0 c0, .int .i64 a1, .int .i64 a2, .int .i64 a3] w fun e w' => e = .returned (.bool true) ∧ Below w.heap.size w w' := by
  have hF := Lib.hid (blk.few22s_any A0 n0 c0 z0 w iw0 (Nat.le_trans e0 m0))
  have HA := Lib.hid (fun W => blk.awake22_any W)
  have H0 := Lib.hid iw0
  have hp64 := iw1.2
  have hq64 := iw2.2
  clear iw0 iw1 iw2 iw3
  go_enter Try.func7, Try.ntmps7
  go_wp2_with fail
  refine hF.out.mono ?_
  rintro e w0 ⟨f, rfl, hf40, hb0⟩
  have BB := Lib.hid hb0
  clear hb0 hF
  cases f with
  | false =>
    go_wp2_with (go_at_call 14; refine (HA.out _).mono ?_; rintro e w4 ⟨rfl, hb4⟩)
    go_ret
    exact ⟨rfl, BB.out.trans (hb4.mono BB.out.size)⟩
  | true =>
    obtain ⟨hn, hsum⟩ := hf40 rfl
    clear hf40
    have hE := rnk.few_ents H0.out hsum
    have hm16 : n0 ≤ 65000 := by omega
    have h1 := Lib.hid (fun W (hb : Below w.heap.size w W) => rnk.SureB_any A0 n0 c0 z0 W ((H0.out.below hb).more hb.size) hm16 e0 m0 hE)
    have h2 := Lib.hid (fun W (hb : Below w.heap.size w W) => rnk.SureBR_any A0 n0 c0 z0 W ((H0.out.below hb).more hb.size) hm16 e0 m0 hE)
    have h3 := Lib.hid (fun W (hb : Below w.heap.size w W) => rnk.QuaB_any A0 n0 c0 z0 a1 a2 hp64 hq64 W ((H0.out.below hb).more hb.size) hm16 e0 m0 hE)
    have h4 := Lib.hid (fun W (hb : Below w.heap.size w W) => rnk.QuaBR_any A0 n0 c0 z0 a1 a2 hp64 hq64 W ((H0.out.below hb).more hb.size) hm16 e0 m0 hE)
    have h5 := Lib.hid (fun W (hb : Below w.heap.size w W) => rnk.RkB_any A0 n0 c0 z0 a3 W ((H0.out.below hb).more hb.size) hm16 e0 m0 hE)
    have h6 := Lib.hid (fun W (hb : Below w.heap.size w W) => rnk.RkBR_any A0 n0 c0 z0 a3 W ((H0.out.below hb).more hb.size) hm16 e0 m0 hE)
    have hlen := rnk.sureK_bd (xs := z0.map blk.bkey) (by rw [List.length_map]; exact H0.out.len) hE
    obtain ⟨k1, k2, k3, k4, k5, k6, hk⟩ := rnk.rkK_form (z0.map blk.bkey) a3
    rw [hk] at h5 h6
    clear hk hE hsum hp64 hq64
    generalize rnk.quK (z0.map blk.bkey) a1 a2 = qv at *
    obtain ⟨q1, q2⟩ := qv
    generalize rnk.sureK (z0.map blk.bkey) = S at *
    obtain ⟨⟨N, es⟩, er⟩ := S
    simp only [] at h1 h2 h3 h4 h5 h6 hlen
    have heq := fun W => wid.bnd_eql k1 k2 k3 k4 k5 k6 W
    have er1 : (er == er) = true := by simp
    have er2 : (q1 == q1) = true := by simp
    have er3 : (q2 == q2) = true := by simp
    clear H0
    go_wp2_with fail
    refine (h1.out _ BB.out).mono ?_
    rintro e w1 ⟨A1, m1, c1, rfl, p1, p2, p3, hb⟩
    replace BB := Lib.hid (BB.out.trans (hb.mono BB.out.size))
    have HR1 := Lib.hid p3
    clear p3
    clear hb
    obtain ⟨g1, hg1⟩ : ∃ s, w1.heap.size = s := ⟨_, rfl⟩
    have BZ := Lib.hid (BB.out.alloc BB.out.size (.cells #[Value.int IntKind.i64 N, Value.slice A1 m1 c1] 46))
    have KZ := Lib.hid (gro.Bx.nil_.new (W := w1) (t := 46) (c := #[Value.int IntKind.i64 N, Value.slice A1 m1 c1]) hg1)
    have hba : Below w1.heap.size w1 (w1.alloc (.cells #[Value.int IntKind.i64 N, Value.slice A1 m1 c1] 46)) := (Below.refl _ _).alloc (Nat.le_refl _) _
    replace HR1 := Lib.hid ((mem.Reads.below HR1.out hba).more hba.size)
    clear hba
    go_upto_region 4 with fail
    obtain ⟨xg1, hW, K3, B3, z3⟩ := gro.name_world KZ.out BZ.out (s := 0) (Nat.zero_le _)
    rw [hW] at HR1
    rw [hW]
    clear hW BZ KZ z3 BB hg1
    have KK := Lib.hid K3
    have BB := Lib.hid B3
    have R := KK.out.rules
    simp only [gro.Rules] at R
    clear K3 B3
    go_wp2_with fail
    refine (h2.out _ BB.out).mono ?_
    rintro e w2 ⟨A2, m2, c2, rfl, p4, p5, p6, hb⟩
    replace BB := Lib.hid (BB.out.trans (hb.mono BB.out.size))
    replace KK := Lib.hid (KK.out.below hb)
    replace HR1 := Lib.hid ((mem.Reads.below HR1.out hb).more hb.size)
    have HR2 := Lib.hid p6
    clear p6
    clear hb
    replace R := KK.out.rules
    simp only [gro.Rules] at R
    obtain ⟨g2, hg2⟩ : ∃ s, w2.heap.size = s := ⟨_, rfl⟩
    have BZ := Lib.hid (BB.out.alloc BB.out.size (.cells #[Value.int IntKind.i64 N, Value.slice A2 m2 c2] 46))
    have KZ := Lib.hid (KK.out.new (W := w2) (t := 46) (c := #[Value.int IntKind.i64 N, Value.slice A2 m2 c2]) hg2)
    have hba : Below w2.heap.size w2 (w2.alloc (.cells #[Value.int IntKind.i64 N, Value.slice A2 m2 c2] 46)) := (Below.refl _ _).alloc (Nat.le_refl _) _
    replace HR1 := Lib.hid ((mem.Reads.below HR1.out hba).more hba.size)
    replace HR2 := Lib.hid ((mem.Reads.below HR2.out hba).more hba.size)
    clear hba
    go_upto_region 5 with fail
    obtain ⟨xg2, hW, K3, B3, z3⟩ := gro.name_world KZ.out BZ.out (s := 0) (Nat.zero_le _)
    rw [hW] at HR1
    rw [hW] at HR2
    rw [hW]
    clear hW BZ KZ z3 BB hg2 KK R
    have KK := Lib.hid K3
    have BB := Lib.hid B3
    have R := KK.out.rules
    simp only [gro.Rules] at R
    clear K3 B3
    go_wp2_with fail
    refine (h3.out _ BB.out).mono ?_
    rintro e w3 ⟨rfl, hb⟩
    replace BB := Lib.hid (BB.out.trans (hb.mono BB.out.size))
    replace KK := Lib.hid (KK.out.below hb)
    replace HR1 := Lib.hid ((mem.Reads.below HR1.out hb).more hb.size)
    replace HR2 := Lib.hid ((mem.Reads.below HR2.out hb).more hb.size)
    clear hb
    replace R := KK.out.rules
    simp only [gro.Rules] at R
    go_wp2_with fail
    refine (h4.out _ BB.out).mono ?_
    rintro e w4 ⟨rfl, hb⟩
    replace BB := Lib.hid (BB.out.trans (hb.mono BB.out.size))
    replace KK := Lib.hid (KK.out.below hb)
    replace HR1 := Lib.hid ((mem.Reads.below HR1.out hb).more hb.size)
    replace HR2 := Lib.hid ((mem.Reads.below HR2.out hb).more hb.size)
    clear hb
    replace R := KK.out.rules
    simp only [gro.Rules] at R
    go_wp2_with fail
    refine (h5.out _ BB.out).mono ?_
    rintro e w5 ⟨rfl, hb⟩
    replace BB := Lib.hid (BB.out.trans (hb.mono BB.out.size))
    replace KK := Lib.hid (KK.out.below hb)
    replace HR1 := Lib.hid ((mem.Reads.below HR1.out hb).more hb.size)
    replace HR2 := Lib.hid ((mem.Reads.below HR2.out hb).more hb.size)
    clear hb
    replace R := KK.out.rules
    simp only [gro.Rules] at R
    obtain ⟨g3, hg3⟩ : ∃ s, w5.heap.size = s := ⟨_, rfl⟩
    have BZ := Lib.hid (BB.out.alloc BB.out.size (.cells #[Value.int IntKind.i64 k1, Value.int IntKind.i64 k2, Value.int IntKind.i64 k3, Value.int IntKind.i64 k4, Value.int IntKind.i64 k5, Value.int IntKind.i64 k6] 55))
    have KZ := Lib.hid (KK.out.new (W := w5) (t := 55) (c := #[Value.int IntKind.i64 k1, Value.int IntKind.i64 k2, Value.int IntKind.i64 k3, Value.int IntKind.i64 k4, Value.int IntKind.i64 k5, Value.int IntKind.i64 k6]) hg3)
    have hba : Below w5.heap.size w5 (w5.alloc (.cells #[Value.int IntKind.i64 k1, Value.int IntKind.i64 k2, Value.int IntKind.i64 k3, Value.int IntKind.i64 k4, Value.int IntKind.i64 k5, Value.int IntKind.i64 k6] 55)) := (Below.refl _ _).alloc (Nat.le_refl _) _
    replace HR1 := Lib.hid ((mem.Reads.below HR1.out hba).more hba.size)
    replace HR2 := Lib.hid ((mem.Reads.below HR2.out hba).more hba.size)
    clear hba
    go_upto_region 8 with fail
    obtain ⟨xg3, hW, K3, B3, z3⟩ := gro.name_world KZ.out BZ.out (s := 0) (Nat.zero_le _)
    rw [hW] at HR1
    rw [hW] at HR2
    rw [hW]
    clear hW BZ KZ z3 BB hg3 KK R
    have KK := Lib.hid K3
    have BB := Lib.hid B3
    have R := KK.out.rules
    simp only [gro.Rules] at R
    clear K3 B3
    go_wp2_with fail
    refine (h6.out _ BB.out).mono ?_
    rintro e w6 ⟨rfl, hb⟩
    replace BB := Lib.hid (BB.out.trans (hb.mono BB.out.size))
    replace KK := Lib.hid (KK.out.below hb)
    replace HR1 := Lib.hid ((mem.Reads.below HR1.out hb).more hb.size)
    replace HR2 := Lib.hid ((mem.Reads.below HR2.out hb).more hb.size)
    clear hb
    replace R := KK.out.rules
    simp only [gro.Rules] at R
    obtain ⟨g4, hg4⟩ : ∃ s, w6.heap.size = s := ⟨_, rfl⟩
    have BZ := Lib.hid (BB.out.alloc BB.out.size (.cells #[Value.int IntKind.i64 k1, Value.int IntKind.i64 k2, Value.int IntKind.i64 k3, Value.int IntKind.i64 k4, Value.int IntKind.i64 k5, Value.int IntKind.i64 k6] 55))
    have KZ := Lib.hid (KK.out.new (W := w6) (t := 55) (c := #[Value.int IntKind.i64 k1, Value.int IntKind.i64 k2, Value.int IntKind.i64 k3, Value.int IntKind.i64 k4, Value.int IntKind.i64 k5, Value.int IntKind.i64 k6]) hg4)
    have hba : Below w6.heap.size w6 (w6.alloc (.cells #[Value.int IntKind.i64 k1, Value.int IntKind.i64 k2, Value.int IntKind.i64 k3, Value.int IntKind.i64 k4, Value.int IntKind.i64 k5, Value.int IntKind.i64 k6] 55)) := (Below.refl _ _).alloc (Nat.le_refl _) _
    replace HR1 := Lib.hid ((mem.Reads.below HR1.out hba).more hba.size)
    replace HR2 := Lib.hid ((mem.Reads.below HR2.out hba).more hba.size)
    clear hba
    go_upto_region 9 with fail
    obtain ⟨xg4, hW, K3, B3, z3⟩ := gro.name_world KZ.out BZ.out (s := 0) (Nat.zero_le _)
    rw [hW] at HR1
    rw [hW] at HR2
    rw [hW]
    clear hW BZ KZ z3 BB hg4 KK R
    have KK := Lib.hid K3
    have BB := Lib.hid B3
    have R := KK.out.rules
    simp only [gro.Rules] at R
    clear K3 B3
    go_wp2_with fail
    have HS := Lib.hid (blk.SameR_ok N A1 A2 m1 c1 m2 c2 es _ HR1.out HR2.out (by have := mem.ERead.len HR1.out; omega))
    refine HS.out.mono ?_
    rintro e w7 ⟨rfl, hb7⟩
    replace BB := Lib.hid (BB.out.trans (hb7.mono BB.out.size))
    replace KK := Lib.hid (KK.out.below hb7)
    clear hb7
    replace R := KK.out.rules
    simp only [gro.Rules] at R
    go_wp2_with fail
    refine (HA.out _).mono ?_
    rintro e w8 ⟨rfl, hb8⟩
    replace BB := Lib.hid (BB.out.trans (hb8.mono BB.out.size))
    clear hb8
    go_wp2
    go_ret
    exact ⟨rfl, BB.out⟩
end Go.Proofs.Ytjapjfcennemeaa.blocksAsks
