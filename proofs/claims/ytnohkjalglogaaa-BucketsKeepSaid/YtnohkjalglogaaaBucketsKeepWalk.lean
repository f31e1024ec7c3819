/- The walk of the law BucketsKeep: it returns true and leaves what was there. -/
import Derived.Test.YtnohkjalglogaaaRows
import Derived.Test.YtnohkjalglogaaaOpen
import Derived.Test.YtnohkjalglogaaaMg15
import Derived.Test.YtnohkjalglogaaaMg11
import Derived.WalkKit
import Derived.ProofKit
import Derived.OpenShut
import Derived.ShutString
namespace Go.Proofs.Ytnohkjalglogaaa.bucketsKeep
open Go.ChangeShapes Go.WideShapes Go.ChangeAt Go.RowKit
open Go.ChangeMaps (open_string shut_string)
set_option linter.unusedVariables false

set_option maxHeartbeats 4000000 in
set_option maxRecDepth 100000 in
theorem walk (A0 : Option Addr) (n0 c0 : Nat) (z0 : List Int) (a1 : Int) (w : World) (iw0 : mem.Reads w w.heap.size 1 A0 n0 (z0.map (Value.int .i64))) (e0 : n0 ≤ c0) (m0 : c0 ≤ maxLen) (l0 : z0.length = n0) (r0 : ∀ p ∈ z0, opn.Rng p) (iw1 : opn.Rng a1) :
    Calls Try.prog 11 #[.slice A0 n0 c0, .int .i64 a1] w fun e w' => e = .returned (.bool true) ∧ Below w.heap.size w w' := by
  have hki := Lib.hid (made.Int_any a1 5 w iw1 (by omega) (by omega))
  have k0 : 0 ≤ a1 % 5 := Int.emod_nonneg _ (by omega)
  have k1 : a1 % 5 < 5 := Int.emod_lt_of_pos _ (by omega)
  clear iw1
  generalize a1 % 5 = kk at *
  have H0 : Hid (mem.IRead w w.heap.size A0 n0 z0) := iw0
  have HRn := Lib.hid r0
  have HZ := Lib.hid l0
  clear iw0 r0
  have m9 : c0 ≤ 9223372036854775807 := m0
  clear m0
  obtain ⟨K, hK⟩ : ∃ K : Nat, (1 : Int) + kk = K := ⟨(1 + kk).toNat, by omega⟩
  have hK1 : 1 ≤ K := by omega
  have hK2 : K ≤ 5 := by omega
  go_enter Try.func11, Try.ntmps11
  go_wp2_with (go_at_call 31; refine hki.out.mono ?_; rintro e w' ⟨rfl, rfl⟩)
  try rw [hK]
  clear hki
  go_loopg [5, 6, 7] 120 (fun kx s5 s6 s7 wr => ∃ (i : Nat) (A5 : Option Addr) (l5 c5 : Nat) (ys : List (Int × Int)) (t : Int), s7 = .int .i64 i ∧ s6 = .int .i64 t ∧ s5 = .slice A5 l5 c5 ∧ i ≤ 120 ∧ i ≤ n0 ∧ 120 - i ≤ kx ∧ l5 ≤ c5 ∧ c5 ≤ 9223372036854775807 ∧ 0 ≤ t ∧ t ≤ 2 * i ∧ Hid (lst.Good ys K t i) ∧ Hid (mem.PRead wr wr.heap.size A5 l5 ys) ∧ Hid (Below w.heap.size w wr))
  case atStart => exact ⟨0, none, 0, 0, [], 0, rfl, rfl, rfl, by omega, by omega, by omega, by omega, by omega, by omega, by omega, lst.good_nil hK1 (by omega), mem.PRead.nil_, Below.refl _ _⟩
  case round =>
    obtain ⟨i, A5, l5, c5, ys, t, rfl, rfl, rfl, hi, hin, hg, hlc, hcm, ht0, ht1, HGd, HR, HB⟩ := hrel
    by_cases hlt : i < n0
    case neg =>
      go_wp2_with (go_at_call 13; refine (lst.awake_any _).mono ?_; rintro e w5 ⟨rfl, hb5⟩)
      go_ret
      exact ⟨rfl, HB.out.trans (hb5.mono HB.out.size)⟩
    by_cases hlt2 : i < 120
    case neg =>
      go_wp2_with (go_at_call 13; refine (lst.awake_any _).mono ?_; rintro e w5 ⟨rfl, hb5⟩)
      go_ret
      exact ⟨rfl, HB.out.trans (hb5.mono HB.out.size)⟩
    obtain ⟨ad, rfl, hbl, hc⟩ := mem.IRead.at_ H0.out hlt
    have hx := HRn.out (z0[i]?.getD 0) (by rw [List.getElem?_eq_getElem (by rw [HZ.out]; exact hlt)]; exact List.getElem_mem _)
    have HC : Hid (∀ W, Below w.heap.size w W → W.cell? (ad.add i) = some (.int .i64 (z0[i]?.getD 0))) := fun W hb => by
      have := hb.cell (p := ad.add i) (by rw [mem.block_of_add]; exact hbl)
      rw [this]; exact hc
    clear hc
    generalize z0[i]?.getD 0 = x at *
    have hx1 := hx.1
    have hx2 := hx.2
    clear hx
    have M6 := Lib.hid (fun W => made.Mod_any x 6 W ⟨hx1, hx2⟩ (by omega) (by omega))
    have hq : -9223372036854775808 ≤ x.tdiv 6 ∧ x.tdiv 6 ≤ 9223372036854775807 := by
      have : (x.tdiv 6).natAbs = x.natAbs / 6 := Int.natAbs_tdiv x 6
      omega
    have hqw : IntKind.i64.wrap (x.tdiv 6) = x.tdiv 6 := IntWalk.i64_in _ hq
    have M5 := Lib.hid (fun W => made.Mod_any (x.tdiv 6) 5 W hq (by omega) (by omega))
    have M3 := Lib.hid (fun W => made.Mod_any (x.tdiv 6) 3 W hq (by omega) (by omega))
    have m50 : 0 ≤ x.tdiv 6 % 5 := Int.emod_nonneg _ (by omega)
    have m51 : x.tdiv 6 % 5 < 5 := Int.emod_lt_of_pos _ (by omega)
    have m30 : 0 ≤ x.tdiv 6 % 3 := Int.emod_nonneg _ (by omega)
    have m31 : x.tdiv 6 % 3 < 3 := Int.emod_lt_of_pos _ (by omega)
    have hT : Hid (∀ W, Below wr.heap.size wr W → Calls Try.prog 24 #[.slice A5 l5 c5] W fun e w' => e = .returned (.int .i64 (lst.totalN ys : Nat)) ∧ Below W.heap.size W w') := fun W hb => lst.Total_any A5 l5 c5 ys W ((HR.out.below hb).more hb.size) (by have := lst.good_tail HGd.out (by omega); have := mem.PRead.len HR.out; omega)
    have hl5 : l5 ≤ 1000 := by have := lst.good_tail HGd.out (by omega); have := mem.PRead.len HR.out; omega
    have hty : (lst.totalN ys : Int) ≤ 1000 := (lst.good_tail HGd.out (by omega)).2.2.2.2.2.1
    generalize x.tdiv 6 % 5 = f5 at *
    generalize x.tdiv 6 % 3 = f3 at *
    go_wp2_with fail
    (with_reducible refine (hT.out _ (Below.refl _ _)).mono ?_)
    rintro e w1 ⟨rfl, hb1⟩
    have HB1 := Lib.hid (HB.out.trans (hb1.mono HB.out.size))
    have HR1 := Lib.hid ((HR.out.below hb1).more hb1.size)
    have hbl1 : ad.block < w1.heap.size := by have := HB1.out.size; omega
    have hc1 := HC.out _ HB1.out
    clear hb1 hT HR HB
    go_wp2_with fail
    (with_reducible refine (M6.out _).mono ?_)
    rintro e w2 ⟨rfl, rfl⟩
    clear M6
    by_cases h5 : x % 6 = 5
    case pos =>
      have q5b : (x % 6 == 5) = true := by simpa using h5
      obtain ⟨HG0, hge⟩ := lst.good_expire HGd.out (t - f5)
      have HGe : Hid (lst.Good (lst.expireL (t - f5) ys) K t i) := HG0
      have hse : IntKind.i64.wrap (t - f5) = t - f5 := IntWalk.i64_in _ (by omega)
      have HE := Lib.hid (lst.Expire_any A5 l5 c5 ys (t - f5) w1 HR1.out hlc hcm (by omega))
      have hle := lst.expireL_le (t - f5) ys
      rw [mem.PRead.len HR1.out] at hle
      clear HG0 HGd h5
      generalize lst.expireL (t - f5) ys = zs at *
      go_wp2_with fail
      (with_reducible refine (M5.out _).mono ?_)
      rintro e w2 ⟨rfl, rfl⟩
      clear M5 M3
      go_wp2_with fail
      (refine HE.out.mono ?_)
      rintro e w3 ⟨A6, l6, c6, rfl, r1, r2, hr3, hb3⟩
      have hl6 := mem.PRead.len hr3
      rw [hl6] at hle
      have ql : decide ((l5 : Int) < (l6 : Int)) = false := decide_eq_false (by omega)
      have qt : decide ((lst.totalN ys : Int) < (lst.totalN zs : Int)) = false := decide_eq_false (by omega)
      have hT2 : Hid (Calls Try.prog 24 #[.slice A6 l6 c6] w3 fun e w' => e = .returned (.int .i64 (lst.totalN zs : Nat)) ∧ Below w3.heap.size w3 w') := lst.Total_any A6 l6 c6 zs w3 hr3 (by omega)
      have HB3 := Lib.hid (HB1.out.trans (hb3.mono HB1.out.size))
      have HR3 := Lib.hid hr3
      clear hr3 hb3 HE HR1 HB1 hc1
      have r2 : c6 ≤ 9223372036854775807 := r2
      go_wp2_with fail
      (with_reducible refine hT2.out.mono ?_)
      rintro e W ⟨rfl, hbW⟩
      have HRz := Lib.hid ((HR3.out.below hbW).more hbW.size)
      have HBz := Lib.hid (HB3.out.trans (hbW.mono HB3.out.size))
      clear hbW hT2 HR3 HB3
      have HG : Hid (lst.Good zs K t (i + 1)) := ⟨HGe.out.1, HGe.out.2.1, Nat.le_succ_of_le HGe.out.2.2⟩
      clear HGe
      generalize ((lst.totalN ys : Nat) : Int) = ty at *
      have hlz := mem.PRead.len HRz.out
      obtain ⟨g1, g2, g3, g4, g5, g6, lo, mid, g7, g8, g9, g10, g11⟩ := lst.good_tail HG.out (by omega)
      rw [hlz] at g2 g3 g4
      have q1 : Hid (Calls Try.prog 34 #[.slice A6 l6 c6] W fun e w' => e = .returned (.agg #[Value.int IntKind.i64 lo, Value.int IntKind.i64 1, Value.int IntKind.i64 mid, Value.int IntKind.i64 1, Value.int IntKind.i64 (lst.totalN zs : Nat), Value.int IntKind.i64 1]) ∧ Below W.heap.size W w') := by
        have := lst.Query_any A6 l6 c6 zs W HRz.out (by omega) g4
        rwa [g7] at this
      have q2 : Hid (∀ W', Below W.heap.size W W' → Calls Try.prog 23 #[.slice A6 l6 c6, .int .i64 K] W' fun e w' => e = .returned (.bool true) ∧ Below W'.heap.size W' w') := fun W' hb => by
        have := lst.ValidRef_any A6 l6 c6 zs K W' ((HRz.out.below hb).more hb.size) (by omega)
        rwa [g1] at this
      have q3 : Hid (∀ W', Below W.heap.size W W' → Calls Try.prog 25 #[.slice A6 l6 c6] W' fun e w' => e = .returned (.int .i64 (lst.totalN zs : Nat)) ∧ Below W'.heap.size W' w') := fun W' hb => lst.TotalRef_any A6 l6 c6 zs W' ((HRz.out.below hb).more hb.size) (by omega)
      have q4 := Lib.hid (fun W' => lst.MostRef_any K (lst.totalN zs : Nat) W' (by omega))
      have b1 : wid.I64 1 := by unfold wid.I64; omega
      have bt : wid.I64 (lst.totalN zs : Nat) := by unfold wid.I64; omega
      have bK : wid.I64 K := by unfold wid.I64; omega
      have q5 : Hid (∀ W', Calls Try.prog 36 #[.agg #[Value.int IntKind.i64 lo, Value.int IntKind.i64 1, Value.int IntKind.i64 mid, Value.int IntKind.i64 1, Value.int IntKind.i64 (lst.totalN zs : Nat), Value.int IntKind.i64 1]] W' fun e w' => e = .returned (.bool true) ∧ Below W'.heap.size W' w') := fun W' => by
        have := wid.ValidB_any lo 1 mid 1 (lst.totalN zs : Nat) 1 g8 b1 g9 b1 bt b1 W'
        rwa [g10] at this
      have q6 : Hid (∀ W', Calls Try.prog 37 #[.agg #[Value.int IntKind.i64 lo, Value.int IntKind.i64 1, Value.int IntKind.i64 mid, Value.int IntKind.i64 1, Value.int IntKind.i64 (lst.totalN zs : Nat), Value.int IntKind.i64 1], .int .i64 K, .agg #[.int .i64 lo, .int .i64 1]] W' fun e w' => e = .returned (.bool true) ∧ Below W'.heap.size W' w') := fun W' => by
        have := wid.Within_any lo 1 mid 1 (lst.totalN zs : Nat) 1 K lo 1 g8 b1 g9 b1 bt b1 bK g8 b1 W'
        rwa [g11] at this
      have qm : decide (lst.mostI K (lst.totalN zs : Nat) < (l6 : Int)) = false := decide_eq_false (by omega)
      clear g1 g2 g4 g5 g6 g7 g8 g9 g10 g11 b1 bt bK
      generalize ((lst.totalN zs : Nat) : Int) = tz at *
      generalize lst.mostI K tz = mo at *
      go_wp2_with fail
      (with_reducible refine q1.out.mono ?_)
      rintro e w4 ⟨rfl, hb4⟩
      obtain ⟨s4, hs4⟩ : ∃ s, w4.heap.size = s := ⟨_, rfl⟩
      have BB := Lib.hid (hb4.alloc hb4.size (.cells #[Value.int IntKind.i64 lo, Value.int IntKind.i64 1, Value.int IntKind.i64 mid, Value.int IntKind.i64 1, Value.int IntKind.i64 tz, Value.int IntKind.i64 1] 49))
      have KK := Lib.hid (gro.Bx.nil_.new (W := w4) (t := 49) (c := #[Value.int IntKind.i64 lo, Value.int IntKind.i64 1, Value.int IntKind.i64 mid, Value.int IntKind.i64 1, Value.int IntKind.i64 tz, Value.int IntKind.i64 1]) hs4)
      have R := KK.out.rules
      simp only [gro.Rules] at R
      clear hb4
      go_wp2_with fail
      (with_reducible refine (q2.out _ BB.out).mono ?_)
      rintro e wv ⟨rfl, hbv⟩; replace BB := Lib.hid (BB.out.trans (hbv.mono BB.out.size)); replace KK := Lib.hid (KK.out.below hbv); replace R := KK.out.rules; simp only [gro.Rules] at R; clear hbv
      go_wp2_with fail
      (with_reducible refine (q3.out _ BB.out).mono ?_)
      rintro e wv ⟨rfl, hbv⟩; replace BB := Lib.hid (BB.out.trans (hbv.mono BB.out.size)); replace KK := Lib.hid (KK.out.below hbv); replace R := KK.out.rules; simp only [gro.Rules] at R; clear hbv
      go_wp2_with fail
      (with_reducible refine (q4.out _).mono ?_)
      rintro e w6 ⟨rfl, rfl⟩
      go_wp2_with fail
      (with_reducible refine (q5.out _).mono ?_)
      rintro e wv ⟨rfl, hbv⟩; replace BB := Lib.hid (BB.out.trans (hbv.mono BB.out.size)); replace KK := Lib.hid (KK.out.below hbv); replace R := KK.out.rules; simp only [gro.Rules] at R; clear hbv
      go_wp2_with fail
      (with_reducible refine (q6.out _).mono ?_)
      rintro e wv ⟨rfl, hbv⟩; replace BB := Lib.hid (BB.out.trans (hbv.mono BB.out.size)); replace KK := Lib.hid (KK.out.below hbv); replace R := KK.out.rules; simp only [gro.Rules] at R; clear hbv
      go_wp2_with fail
      go_roundg (120 - (i + 1))
      case measure => omega
      case rel => exact ⟨i + 1, A6, l6, c6, zs, t, by go_num, rfl, rfl, by omega, by omega, by omega, by omega, by omega, by omega, by omega, HG.out, (HRz.out.below BB.out).more BB.out.size, HBz.out.trans (BB.out.mono HBz.out.size)⟩
    case neg =>
      have q5b : (x % 6 == 5) = false := by simpa using h5
      have hsi : IntKind.i64.wrap (t + f3) = t + f3 := IntWalk.i64_in _ (by omega)
      obtain ⟨HG0, hge⟩ := lst.good_insert HGd.out (t := t + f3) (by omega) (by omega) (by omega)
      have HG : Hid (lst.Good (lst.insI ys K (t + f3)) K (t + f3) (i + 1)) := HG0
      have HE := Lib.hid (lst.Insert_any A5 l5 c5 ys K (t + f3) w1 HR1.out (by omega))
      clear HG0 HGd h5
      generalize lst.insI ys K (t + f3) = zs at *
      go_wp2_with fail
      (with_reducible refine (M3.out _).mono ?_)
      rintro e w2 ⟨rfl, rfl⟩
      clear M5 M3
      go_wp2_with fail
      (refine HE.out.mono ?_)
      rintro e w3 ⟨A6, l6, c6, rfl, r1, r2, hr3, hb3⟩
      have hl6 := mem.PRead.len hr3
      have hl61 : l6 ≤ 1000 := by have := lst.good_tail HG.out (by omega); omega
      have hsw : IntKind.i64.wrap ((lst.totalN ys : Int) + 1) = (lst.totalN zs : Int) := by rw [hge]; exact IntWalk.i64_in _ (by omega)
      have hT2 : Hid (Calls Try.prog 24 #[.slice A6 l6 c6] w3 fun e w' => e = .returned (.int .i64 (lst.totalN zs : Nat)) ∧ Below w3.heap.size w3 w') := lst.Total_any A6 l6 c6 zs w3 hr3 (by omega)
      have HB3 := Lib.hid (HB1.out.trans (hb3.mono HB1.out.size))
      have HR3 := Lib.hid hr3
      clear hr3 hb3 HE HR1 HB1 hc1 hge
      have r2 : c6 ≤ 9223372036854775807 := r2
      go_wp2_with fail
      (with_reducible refine hT2.out.mono ?_)
      rintro e W ⟨rfl, hbW⟩
      have HRz := Lib.hid ((HR3.out.below hbW).more hbW.size)
      have HBz := Lib.hid (HB3.out.trans (hbW.mono HB3.out.size))
      clear hbW hT2 HR3 HB3
      generalize ((lst.totalN ys : Nat) : Int) = ty at *
      have hlz := mem.PRead.len HRz.out
      obtain ⟨g1, g2, g3, g4, g5, g6, lo, mid, g7, g8, g9, g10, g11⟩ := lst.good_tail HG.out (by omega)
      rw [hlz] at g2 g3 g4
      have q1 : Hid (Calls Try.prog 34 #[.slice A6 l6 c6] W fun e w' => e = .returned (.agg #[Value.int IntKind.i64 lo, Value.int IntKind.i64 1, Value.int IntKind.i64 mid, Value.int IntKind.i64 1, Value.int IntKind.i64 (lst.totalN zs : Nat), Value.int IntKind.i64 1]) ∧ Below W.heap.size W w') := by
        have := lst.Query_any A6 l6 c6 zs W HRz.out (by omega) g4
        rwa [g7] at this
      have q2 : Hid (∀ W', Below W.heap.size W W' → Calls Try.prog 23 #[.slice A6 l6 c6, .int .i64 K] W' fun e w' => e = .returned (.bool true) ∧ Below W'.heap.size W' w') := fun W' hb => by
        have := lst.ValidRef_any A6 l6 c6 zs K W' ((HRz.out.below hb).more hb.size) (by omega)
        rwa [g1] at this
      have q3 : Hid (∀ W', Below W.heap.size W W' → Calls Try.prog 25 #[.slice A6 l6 c6] W' fun e w' => e = .returned (.int .i64 (lst.totalN zs : Nat)) ∧ Below W'.heap.size W' w') := fun W' hb => lst.TotalRef_any A6 l6 c6 zs W' ((HRz.out.below hb).more hb.size) (by omega)
      have q4 := Lib.hid (fun W' => lst.MostRef_any K (lst.totalN zs : Nat) W' (by omega))
      have b1 : wid.I64 1 := by unfold wid.I64; omega
      have bt : wid.I64 (lst.totalN zs : Nat) := by unfold wid.I64; omega
      have bK : wid.I64 K := by unfold wid.I64; omega
      have q5 : Hid (∀ W', Calls Try.prog 36 #[.agg #[Value.int IntKind.i64 lo, Value.int IntKind.i64 1, Value.int IntKind.i64 mid, Value.int IntKind.i64 1, Value.int IntKind.i64 (lst.totalN zs : Nat), Value.int IntKind.i64 1]] W' fun e w' => e = .returned (.bool true) ∧ Below W'.heap.size W' w') := fun W' => by
        have := wid.ValidB_any lo 1 mid 1 (lst.totalN zs : Nat) 1 g8 b1 g9 b1 bt b1 W'
        rwa [g10] at this
      have q6 : Hid (∀ W', Calls Try.prog 37 #[.agg #[Value.int IntKind.i64 lo, Value.int IntKind.i64 1, Value.int IntKind.i64 mid, Value.int IntKind.i64 1, Value.int IntKind.i64 (lst.totalN zs : Nat), Value.int IntKind.i64 1], .int .i64 K, .agg #[.int .i64 lo, .int .i64 1]] W' fun e w' => e = .returned (.bool true) ∧ Below W'.heap.size W' w') := fun W' => by
        have := wid.Within_any lo 1 mid 1 (lst.totalN zs : Nat) 1 K lo 1 g8 b1 g9 b1 bt b1 bK g8 b1 W'
        rwa [g11] at this
      have qm : decide (lst.mostI K (lst.totalN zs : Nat) < (l6 : Int)) = false := decide_eq_false (by omega)
      clear g1 g2 g4 g5 g6 g7 g8 g9 g10 g11 b1 bt bK
      generalize ((lst.totalN zs : Nat) : Int) = tz at *
      generalize lst.mostI K tz = mo at *
      go_wp2_with fail
      (with_reducible refine q1.out.mono ?_)
      rintro e w4 ⟨rfl, hb4⟩
      obtain ⟨s4, hs4⟩ : ∃ s, w4.heap.size = s := ⟨_, rfl⟩
      have BB := Lib.hid (hb4.alloc hb4.size (.cells #[Value.int IntKind.i64 lo, Value.int IntKind.i64 1, Value.int IntKind.i64 mid, Value.int IntKind.i64 1, Value.int IntKind.i64 tz, Value.int IntKind.i64 1] 49))
      have KK := Lib.hid (gro.Bx.nil_.new (W := w4) (t := 49) (c := #[Value.int IntKind.i64 lo, Value.int IntKind.i64 1, Value.int IntKind.i64 mid, Value.int IntKind.i64 1, Value.int IntKind.i64 tz, Value.int IntKind.i64 1]) hs4)
      have R := KK.out.rules
      simp only [gro.Rules] at R
      clear hb4
      go_wp2_with fail
      (with_reducible refine (q2.out _ BB.out).mono ?_)
      rintro e wv ⟨rfl, hbv⟩; replace BB := Lib.hid (BB.out.trans (hbv.mono BB.out.size)); replace KK := Lib.hid (KK.out.below hbv); replace R := KK.out.rules; simp only [gro.Rules] at R; clear hbv
      go_wp2_with fail
      (with_reducible refine (q3.out _ BB.out).mono ?_)
      rintro e wv ⟨rfl, hbv⟩; replace BB := Lib.hid (BB.out.trans (hbv.mono BB.out.size)); replace KK := Lib.hid (KK.out.below hbv); replace R := KK.out.rules; simp only [gro.Rules] at R; clear hbv
      go_wp2_with fail
      (with_reducible refine (q4.out _).mono ?_)
      rintro e w6 ⟨rfl, rfl⟩
      go_wp2_with fail
      (with_reducible refine (q5.out _).mono ?_)
      rintro e wv ⟨rfl, hbv⟩; replace BB := Lib.hid (BB.out.trans (hbv.mono BB.out.size)); replace KK := Lib.hid (KK.out.below hbv); replace R := KK.out.rules; simp only [gro.Rules] at R; clear hbv
      go_wp2_with fail
      (with_reducible refine (q6.out _).mono ?_)
      rintro e wv ⟨rfl, hbv⟩; replace BB := Lib.hid (BB.out.trans (hbv.mono BB.out.size)); replace KK := Lib.hid (KK.out.below hbv); replace R := KK.out.rules; simp only [gro.Rules] at R; clear hbv
      go_wp2_with fail
      go_roundg (120 - (i + 1))
      case measure => omega
      case rel => exact ⟨i + 1, A6, l6, c6, zs, t + f3, by go_num, rfl, rfl, by omega, by omega, by omega, by omega, by omega, by omega, by omega, HG.out, (HRz.out.below BB.out).more BB.out.size, HBz.out.trans (BB.out.mono HBz.out.size)⟩
end Go.Proofs.Ytnohkjalglogaaa.bucketsKeep
