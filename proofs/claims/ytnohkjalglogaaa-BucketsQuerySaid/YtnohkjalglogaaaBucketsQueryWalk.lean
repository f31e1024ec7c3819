/- The walk of the law BucketsQuery: it returns true and leaves what was there. -/
import Derived.Test.YtnohkjalglogaaaRows
import Derived.Test.YtnohkjalglogaaaOpen
import Derived.Test.YtnohkjalglogaaaQuery
import Derived.Test.YtnohkjalglogaaaFew
import Derived.WalkKit
import Derived.ProofKit
import Derived.OpenShut
import Derived.ShutString
namespace Go.Proofs.Ytnohkjalglogaaa.bucketsQuery
open Go.ChangeShapes Go.WideShapes Go.ChangeAt Go.RowKit
open Go.ChangeMaps (open_string shut_string)
set_option linter.unusedVariables false

set_option maxHeartbeats 4000000 in
theorem walk (A0 : Option Addr) (n0 c0 : Nat) (z0 : List (Int × Int)) (w : World) (iw0 : mem.PRead w w.heap.size A0 n0 z0) (e0 : n0 ≤ c0) (m0 : c0 ≤ maxLen) (r0 : ∀ p ∈ z0, opn.Rng p.1 ∧ opn.Rng p.2) :
    Calls Try.prog 10 #[.slice A0 n0 c0] w fun e w' => e = .returned (.bool true) ∧ Below w.heap.size w w' := by
  have hF := Lib.hid (lst.few_any A0 n0 c0 w (Nat.le_trans e0 m0))
  by_cases hs : n0 ≤ 300
  · rw [decide_eq_true hs] at hF
    have h1 := Lib.hid (fun W (hb : Below w.heap.size w W) => lst.Counts_any A0 n0 c0 z0 W ((iw0.below hb).more hb.size) (by omega))
    have h2 := Lib.hid (fun W (hb : Below w.heap.size w W) => lst.CountsR_any A0 n0 c0 z0 W ((iw0.below hb).more hb.size) (by omega))
    have HCl := Lib.hid (lst.counts_len z0)
    have hql : lst.lvOk z0 n0 → 0 < n0 → 0 ≤ (buk.at_ z0 0).2 ∧ (buk.at_ z0 0).2 ≤ 30 := fun h h0 => h 0 h0
    obtain ⟨m0_, m1_, m2_, m4_, hqv⟩ : ∃ m0 m1 m2 m4 : Int, lst.qv z0 = .agg #[.int .i64 m0, .int .i64 m1, .int .i64 m2, .int .i64 m1, .int .i64 m4, .int .i64 m1] := ⟨_, _, _, _, rfl⟩
    have h3 : Hid (lst.lvOk z0 n0 → ∀ W, Below w.heap.size w W → Calls Try.prog 34 #[.slice A0 n0 c0] W fun e w' => e = .returned (.agg #[.int .i64 m0_, .int .i64 m1_, .int .i64 m2_, .int .i64 m1_, .int .i64 m4_, .int .i64 m1_]) ∧ Below W.heap.size W w') := fun h W hb => by
      have := lst.Query_any A0 n0 c0 z0 W ((iw0.below hb).more hb.size) (by omega) (hql h)
      rwa [hqv] at this
    have h4 : Hid (lst.lvOk z0 n0 → ∀ W, Below w.heap.size w W → Calls Try.prog 35 #[.slice A0 n0 c0] W fun e w' => e = .returned (.agg #[.int .i64 m0_, .int .i64 m1_, .int .i64 m2_, .int .i64 m1_, .int .i64 m4_, .int .i64 m1_]) ∧ Below W.heap.size W w') := fun h W hb => by
      have := lst.QueryR_any A0 n0 c0 z0 W ((iw0.below hb).more hb.size) (by omega) (hql h)
      rwa [hqv] at this
    have E1 := fun W => wid.bnd_eql m0_ m1_ m2_ m1_ m4_ m1_ W
    have H1 := Lib.hid iw0
    clear iw0 hqv hql
    go_enter Try.func10, Try.ntmps10
    go_wp2_with (first | (go_at_call 12; refine hF.out.mono ?_; rintro e w' ⟨rfl, rfl⟩) | (go_at_call 32; refine (h1.out _ (Below.refl _ _)).mono ?_; rintro e w1 ⟨A1, k1, d1, rfl, g1, g2, hr1, hb1⟩; have HR1 := Lib.hid hr1; have HB1 := Lib.hid hb1; clear hr1 hb1) | (go_at_call 33; refine (h2.out _ HB1.out).mono ?_; rintro e w2 ⟨A2, k2, d2, rfl, g3, g4, hr2, hb2⟩; have HR2 := Lib.hid hr2; have HB2 := Lib.hid hb2; clear hr2 hb2))
    have l1 := HR1.out.len
    have hm64 : k1 ≤ 31 := by have := HCl.out; omega
    have HS := Lib.hid (lst.SameInts_any A1 A2 k1 d1 k2 d2 _ _ w2 _ _ (HR1.out.below HB2.out) HR2.out (by omega))
    rw [decide_eq_true rfl] at HS
    have HBx := Lib.hid (HB1.out.trans (HB2.out.mono HB1.out.size))
    clear HR1 HB1 HR2 HB2 h1 h2 HCl l1 hm64 g1 g2 g3 g4
    go_wp2_with (go_at_call 18; refine HS.out.mono ?_; rintro e w3 ⟨rfl, q, rfl⟩)
    have HBy := Lib.hid (mem.below_drewN HBx.out q)
    clear HBx HS
    generalize w2.drewN q = w4 at *
    go_loopg [17] n0 (fun kx s wr => ∃ k : Nat, k ≤ n0 ∧ s = .int .i64 k ∧ n0 - k ≤ kx ∧ Hid (lst.lvOk z0 k) ∧ Hid (Below w.heap.size w wr))
    case atStart => exact ⟨0, Nat.zero_le _, rfl, by omega, fun i hi => absurd hi (Nat.not_lt_zero _), HBy.out⟩
    case round =>
      obtain ⟨k, hk, rfl, hg, HV, HB⟩ := hrel
      clear HBy
      by_cases hlt : k < n0
      · have H2 := H1.out.below HB.out
        obtain ⟨ad, rfl, hbl, hc1, hc2⟩ := mem.PRead.at_ H2 hlt
        have hs := HB.out.size
        have hbl2 : ad.block < wr.heap.size := by omega
        clear H2
        have hS := Lib.hid (lst.lvOk_succ HV.out)
        change wr.cell? (ad.add (k * 2)) = some (.int .i64 (buk.at_ z0 k).1) at hc1
        change wr.cell? ⟨(ad.add (k * 2)).block, (ad.add (k * 2)).off + 1, none⟩ = some (.int .i64 (buk.at_ z0 k).2) at hc2
        generalize (buk.at_ z0 k).1 = t1 at *
        generalize (buk.at_ z0 k).2 = l1 at *
        by_cases hl1 : l1 < 0
        · have q1 : decide (l1 < 0) = true := decide_eq_true hl1
          go_wp2_with (go_at_call 13; refine (lst.awake_any _).mono ?_; rintro e w5 ⟨rfl, hb5⟩)
          go_ret
          exact ⟨rfl, (HB.out.alloc HB.out.size _).trans (hb5.mono (HB.out.alloc HB.out.size _).size)⟩
        · have q1 : decide (l1 < 0) = false := decide_eq_false hl1
          by_cases hl2 : 30 < l1
          · have q2 : decide (30 < l1) = true := decide_eq_true hl2
            go_wp2_with (go_at_call 13; refine (lst.awake_any _).mono ?_; rintro e w5 ⟨rfl, hb5⟩)
            go_ret
            exact ⟨rfl, (HB.out.alloc HB.out.size _).trans (hb5.mono (HB.out.alloc HB.out.size _).size)⟩
          · have q2 : decide (30 < l1) = false := decide_eq_false hl2
            go_wp2
            go_roundg (n0 - (k + 1))
            case measure => omega
            case rel => exact ⟨k + 1, by omega, by go_num, by omega, hS.out (by omega), HB.out.alloc HB.out.size _⟩
      · obtain rfl : n0 = k := by omega
        have h5 := Lib.hid (h3.out HV.out)
        have h6 := Lib.hid (h4.out HV.out)
        clear h3 h4
        go_wp2_with (first | (go_at_call 34; refine (h5.out _ HB.out).mono ?_; rintro e w5 ⟨rfl, hb5⟩; have HB5 := Lib.hid (HB.out.trans (hb5.mono HB.out.size)); clear hb5) | (go_at_call 35; refine (h6.out _ HB5.out).mono ?_; rintro e w6 ⟨rfl, hb6⟩; have HB6 := Lib.hid (HB5.out.trans (hb6.mono HB5.out.size)); clear hb6) | (go_at_call 13; refine (lst.awake_any _).mono ?_; rintro e w7 ⟨rfl, hb7⟩))
        go_ret
        exact ⟨rfl, HB6.out.trans (hb7.mono HB6.out.size)⟩
  · rw [decide_eq_false hs] at hF
    go_enter Try.func10, Try.ntmps10
    go_wp2_with (first | (go_at_call 12; refine hF.out.mono ?_; rintro e w' ⟨rfl, rfl⟩) | (go_at_call 13; refine (lst.awake_any _).mono ?_; rintro e w4 ⟨rfl, hb4⟩))
    go_ret
    exact ⟨rfl, hb4⟩
end Go.Proofs.Ytnohkjalglogaaa.bucketsQuery
