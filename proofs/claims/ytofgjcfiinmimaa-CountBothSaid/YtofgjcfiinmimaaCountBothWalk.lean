/- The walk of the law CountBoth: it returns true and leaves what was there. -/
import Derived.Test.YtofgjcfiinmimaaRows
import Derived.Test.YtofgjcfiinmimaaMgClk
import Derived.Test.YtofgjcfiinmimaaRun
import Derived.Test.YtofgjcfiinmimaaMgMeetR
import Derived.Test.YtofgjcfiinmimaaMgSteady3
import Derived.Test.YtofgjcfiinmimaaMgRunO
import Derived.Test.YtofgjcfiinmimaaMgOpenC
import Derived.Test.YtofgjcfiinmimaaMgCanon
import Derived.Test.YtofgjcfiinmimaaCst8
import Derived.Test.YtofgjcfiinmimaaMgHold
import Derived.Test.YtofgjcfiinmimaaWithin
import Derived.WalkKit
import Derived.ProofKit
import Derived.OpenShut
import Derived.ShutString
namespace Go.Proofs.Ytofgjcfiinmimaa.countBoth
open Go.ChangeShapes Go.WideShapes Go.ChangeAt Go.RowKit
open Go.ChangeMaps (open_string shut_string)
set_option linter.unusedVariables false

set_option maxHeartbeats 4000000 in
set_option maxRecDepth 100000 in
theorem walk (A0 : Option Addr) (n0 c0 : Nat) (z0 : List (Int × Int)) (A1 : Option Addr) (n1 c1 : Nat) (z1 : List (Int × Int)) (a2 : Int) (a3 : Int) (a4 : Int) (w : World) (iw0 : mem.PRead w w.heap.size A0 n0 z0) (e0 : n0 ≤ c0) (m0 : c0 ≤ maxLen) (r0 : ∀ p ∈ z0, opn.Rng p.1 ∧ opn.Rng p.2) (iw1 : mem.PRead w w.heap.size A1 n1 z1) (e1 : n1 ≤ c1) (m1 : c1 ≤ maxLen) (r1 : ∀ p ∈ z1, opn.Rng p.1 ∧ opn.Rng p.2) (iw2 : opn.Rng a2) (iw3 : opn.Rng a3) (iw4 : opn.Rng a4) :
    Calls Try.prog 13 #[.slice A0 n0 c0, .slice A1 n1 c1, .int .i64 a2, .int .i64 a3, .int .i64 a4] w fun e w' => e = .returned (.bool true) ∧ Below w.heap.size w w' := by
  have HZ0 := Lib.hid iw0
  have HZ1 := Lib.hid iw1
  have M1 := Lib.hid (fun W => made.Mod_any a2 20 W iw2 (by omega) (by omega))
  have M2 := Lib.hid (fun W => made.Int_any a3 4 W iw3 (by omega) (by omega))
  have M3 := Lib.hid (fun W => made.Int_any a4 4 W iw4 (by omega) (by omega))
  have b10 : 0 ≤ a2 % 20 := Int.emod_nonneg _ (by omega)
  have b11 : a2 % 20 < 20 := Int.emod_lt_of_pos _ (by omega)
  have b20 : 0 ≤ a3 % 4 := Int.emod_nonneg _ (by omega)
  have b21 : a3 % 4 < 4 := Int.emod_lt_of_pos _ (by omega)
  have b30 : 0 ≤ a4 % 4 := Int.emod_nonneg _ (by omega)
  have b31 : a4 % 4 < 4 := Int.emod_lt_of_pos _ (by omega)
  clear iw2 iw3 iw4 iw0 iw1
  generalize a2 % 20 = x1 at *
  generalize a3 % 4 = x2 at *
  generalize a4 % 4 = x3 at *
  obtain ⟨v, hv⟩ : ∃ v : Int, 1 + x1 = v := ⟨_, rfl⟩
  obtain ⟨k, hk⟩ : ∃ k : Nat, 1 + x2 = k := ⟨(1 + x2).toNat, by omega⟩
  obtain ⟨j, hj⟩ : ∃ j : Nat, 1 + x3 = j := ⟨(1 + x3).toNat, by omega⟩
  have hv1 : 1 ≤ v := by omega
  have hv2 : v ≤ 20 := by omega
  have hk1 : 1 ≤ k := by omega
  have hk2 : k ≤ 4 := by omega
  have hj1 : 1 ≤ j := by omega
  have hj2 : j ≤ 4 := by omega
  have hsv : IntKind.i64.wrap (1 + x1) = v := by rw [hv]; exact IntWalk.i64_in _ (by omega)
  have hsk : IntKind.i64.wrap (1 + x2) = k := by rw [hk]; exact IntWalk.i64_in _ (by omega)
  have hsj : IntKind.i64.wrap (1 + x3) = j := by rw [hj]; exact IntWalk.i64_in _ (by omega)
  clear hv hk hj b10 b11 b20 b21 b30 b31
  have H1 := Lib.hid (fun W => cst.NewC_ok (v := v) (k := k) (p := 1000) (o := 0) (cst.goodC_iff.2 (by omega)) W)
  have H1b := Lib.hid (fun W => cst.NewC_ok (v := v) (k := j) (p := 1000) (o := 0) (cst.goodC_iff.2 (by omega)) W)
  have H2 := Lib.hid (fun W (hb : Below w.heap.size w W) => made.Items_any A0 n0 c0 z0 v 80 W ((HZ0.out.below hb).more hb.size) r0 e0 m0 (by omega) (by omega))
  have H2b := Lib.hid (fun W (hb : Below w.heap.size w W) => made.Items_any A1 n1 c1 z1 v 80 W ((HZ1.out.below hb).more hb.size) r1 e1 m1 (by omega) (by omega))
  have H3 : Hid (∀ A m c its W, mem.PRead W W.heap.size A m its → m ≤ c → c ≤ maxLen → made.Asc its (-4096) 4096 → m ≤ 1000 → Calls Try.prog 32 #[.agg #[.int .i64 v, .int .i64 k, .int .i64 1000, .int .i64 0, .slice none 0 0], .slice A m c, .int .i64 v, .int .i64 k, .int .i64 1000] W (cst.RunOut k v 1000 m W)) := fun A m c its W h1 h2 h3 h4 h5 => cst.run_any A m c its k 1000 v W h1 h2 h3 h4 h5 (by omega) (by omega) (by omega)
  have H3b : Hid (∀ A m c its W, mem.PRead W W.heap.size A m its → m ≤ c → c ≤ maxLen → made.Asc its (-4096) 4096 → m ≤ 1000 → Calls Try.prog 32 #[.agg #[.int .i64 v, .int .i64 j, .int .i64 1000, .int .i64 0, .slice none 0 0], .slice A m c, .int .i64 v, .int .i64 j, .int .i64 1000] W (cst.RunOut j v 1000 m W)) := fun A m c its W h1 h2 h3 h4 h5 => cst.run_any A m c its j 1000 v W h1 h2 h3 h4 h5 (by omega) (by omega) (by omega)
  have H9 := Lib.hid (fun W => cst.awake11_any W)
  clear e0 m0 r0 e1 m1 r1
  have BB := Lib.hid (Below.refl w.heap.size w)
  have sz : w.heap.size ≤ w.heap.size := Nat.le_refl _
  go_enter Try.func13, Try.ntmps13
  go_wp2_with fail
  (with_reducible refine (M1.out _).mono ?_)
  rintro e w1 ⟨rfl, rfl⟩
  go_wp2_with fail
  (with_reducible refine (M2.out _).mono ?_)
  rintro e w1 ⟨rfl, rfl⟩
  go_wp2_with fail
  (with_reducible refine (M3.out _).mono ?_)
  rintro e w1 ⟨rfl, rfl⟩
  clear M1 M2 M3
  go_wp2_with fail
  (with_reducible refine (H1.out _).mono ?_)
  rintro e v1 ⟨rfl, hb⟩
  replace BB := Lib.hid (BB.out.trans (hb.mono BB.out.size))
  replace sz := Nat.le_trans sz hb.size
  clear hb
  obtain ⟨gx, hs_gx⟩ : ∃ s, (v1).heap.size = s := ⟨_, rfl⟩
  have wg_gx : w.heap.size ≤ gx := by have := BB.out.size; omega
  go_wp2_with fail
  obtain ⟨v2, hv2, K5, B5, z5, P5⟩ := cst.newbox (24) #[Value.int IntKind.i64 v, Value.int IntKind.i64 k, Value.int IntKind.i64 1000, Value.int IntKind.i64 0, Value.slice none 0 0] (gro.Bx.nil_ (W := v1)) hs_gx BB.out BB.out.size
  rw [hv2]
  have KK := Lib.hid K5
  replace BB := Lib.hid B5
  replace sz : gx + 1 ≤ (v2).heap.size := by rw [z5]; exact Nat.le_refl _
  clear K5 B5 P5 z5 hv2 hs_gx
  have R2 := KK.out.rules
  simp only [gro.Rules] at R2
  go_wp2_with fail
  (refine (H1b.out _).mono ?_)
  rintro e v3 ⟨rfl, hb⟩
  replace BB := Lib.hid (BB.out.trans (hb.mono BB.out.size))
  replace KK := Lib.hid (KK.out.below hb)
  replace sz := Nat.le_trans sz hb.size
  clear hb
  have R3 := KK.out.rules
  simp only [gro.Rules] at R3
  obtain ⟨gy, hs_gy⟩ : ∃ s, (v3).heap.size = s := ⟨_, rfl⟩
  have wg_gy : w.heap.size ≤ gy := by have := BB.out.size; omega
  go_wp2_with fail
  clear R2
  obtain ⟨v4, hv4, K5, B5, z5, P5⟩ := cst.newbox (24) #[Value.int IntKind.i64 v, Value.int IntKind.i64 j, Value.int IntKind.i64 1000, Value.int IntKind.i64 0, Value.slice none 0 0] KK.out hs_gy BB.out BB.out.size
  rw [hv4]
  have o_gx_gy : gx < gy := by omega
  replace KK := Lib.hid K5
  replace BB := Lib.hid B5
  replace sz : gy + 1 ≤ (v4).heap.size := by rw [z5]; exact Nat.le_refl _
  clear K5 B5 P5 z5 hv4 hs_gy
  have R4 := KK.out.rules
  simp only [gro.Rules] at R4
  (refine gro.wp_region_heldA [0, 1, 2, 4, 5] 9 11 _ (gro.lasts_bx _) (by kernel_rfl) (by kernel_rfl) (by intro _ _ _ _ _ h; exact h) (by kernel_rfl) (by kernel_rfl) (by kernel_rfl) (by kernel_rfl) (by kernel_rfl) (by decide) (KK.out).drew ?_; apply Exists.intro; refine ⟨fun w0 hb0 => ?_, ?_⟩; focus (have RZ := gro.Bx.rules hb0; simp only [gro.Rules] at RZ; simp only [gro.pickA, List.filterMap_cons, List.filterMap_nil, List.getElem?_toArray, List.getElem?_cons_succ, List.getElem?_cons_zero]; change wpQuiet _ _ _ _ (_ :: _ :: _ :: _ :: _ ::  []) _; (repeat (go_big_quiet_step ((fail)))); exact wpQuiet_nil rfl))
  replace BB := Lib.hid BB.out.drew
  replace KK := Lib.hid KK.out.drew
  replace sz := (show _ ≤ (v4.drew).heap.size from sz)
  generalize v4.drew = v5 at *
  refine gro.anyM_one 3 (by kernel_rfl) rfl ?_
  intro v6 hz K' hK'
  replace BB := Lib.hid (BB.out.trans (hz.mono BB.out.size))
  replace KK := Lib.hid (KK.out.below hz)
  replace sz := Nat.le_trans sz hz.size
  clear hz
  go_simp
  (refine (H2.out _ BB.out).mono ?_)
  rintro e v7 ⟨u, its, rfl, hown, hlm, hok, hb⟩
  replace BB := Lib.hid (BB.out.trans (hb.mono BB.out.size))
  replace KK := Lib.hid (KK.out.below hb)
  replace sz := Nat.le_trans sz hb.size
  clear hb
  have HA := Lib.hid (made.ItOk.asc hok (by omega) ⟨hv1, by omega⟩)
  obtain ⟨A1_, c1_, rfl, i1, i2, i3⟩ := mem.own_form hown
  obtain ⟨mm2, hm⟩ : ∃ m, its.length = m := ⟨_, rfl⟩
  rw [hm] at hlm i1 i3
  simp only [hm]
  have HI := Lib.hid i3
  have i2' : c1_ ≤ 9223372036854775807 := i2
  clear hown hok i3 hm H2 HZ0
  refine hK' _ _ ⟨fun _ => KK.out.perm (by simp), ?_⟩
  clear hK' K'
  refine gro.anyM_one 6 (by kernel_rfl) rfl ?_
  intro v8 hz K' hK'
  replace BB := Lib.hid (BB.out.trans (hz.mono BB.out.size))
  replace KK := Lib.hid (KK.out.below hz)
  replace HI := Lib.hid ((HI.out.below hz).more hz.size)
  replace sz := Nat.le_trans sz hz.size
  clear hz
  go_simp
  (refine (H3.out _ _ _ _ _ HI.out i1 i2 HA.out (by omega)).mono ?_)
  rintro e v9 ⟨A2, n2, c2, B2, m2, d2, ys2, added2, now2, rfl, q2, ⟨p2, fr⟩, hr, hmd2, ⟨hd2, frB⟩, hrB, HR2, hto2, hal2, hn02, hn12, hb⟩
  try rw [show ((1000 : Nat) : Int) = 1000 from rfl]
  clear HI HA i1 i2 i2'
  replace BB := Lib.hid (BB.out.trans (hb.mono BB.out.size))
  replace KK := Lib.hid (KK.out.below hb)
  have HA2 := Lib.hid hr
  have f_HA2_gy : 0 < n2 → ∀ ad, A2 = some ad → ad.block ≠ gy := fun _ ad h => by have := fr ad h; omega
  have f_HA2_gx : 0 < n2 → ∀ ad, A2 = some ad → ad.block ≠ gx := fun _ ad h => by have := fr ad h; omega
  have HB2 := Lib.hid hrB
  have f_HB2_gy : 0 < m2 → ∀ ad, B2 = some ad → ad.block ≠ gy := fun _ ad h => by have := frB ad h; omega
  have f_HB2_gx : 0 < m2 → ∀ ad, B2 = some ad → ad.block ≠ gx := fun _ ad h => by have := frB ad h; omega
  have HR2 := Lib.hid HR2
  have hal2 := Lib.hid hal2
  replace sz := Nat.le_trans sz hb.size
  clear hb hr fr hrB frB
  refine hK' _ _ ⟨fun _ => KK.out.perm (by simp), ?_⟩
  clear hK' K'
  refine gro.anyM_one 7 (by kernel_rfl) rfl ?_
  intro v10 hz K' hK'
  replace BB := Lib.hid (BB.out.trans (hz.mono BB.out.size))
  replace KK := Lib.hid (KK.out.below hz)
  replace HA2 := Lib.hid ((HA2.out.below hz).more hz.size)
  replace HB2 := Lib.hid ((HB2.out.below hz).more hz.size)
  replace sz := Nat.le_trans sz hz.size
  clear hz
  go_simp
  refine hK' _ _ ⟨fun _ => KK.out.perm (by simp), ?_⟩
  clear hK' K'
  (refine gro.anyM_first_all [8, 9, 10] 3 (gro.lasts_bx _) (by kernel_rfl) (by intro _ _ _ _ _ h; exact h) (by kernel_rfl) (by kernel_rfl) (by kernel_rfl) (by kernel_rfl) (by kernel_rfl) (KK.out.perm (by simp)) ?_; apply Exists.intro; refine ⟨fun w0 => ?_, ?_⟩; focus (simp only [gro.pickA, List.filterMap_cons, List.filterMap_nil, List.getElem?_toArray, List.getElem?_cons_succ, List.getElem?_cons_zero]; change wpQuiet _ _ _ _ (_ :: _ :: _ ::  []) _; (repeat (go_big_quiet_step ((fail)))); exact wpQuiet_nil rfl))
  refine gro.anyM_one 11 (by kernel_rfl) rfl ?_
  intro v11 hz K' hK'
  replace BB := Lib.hid (BB.out.trans (hz.mono BB.out.size))
  replace KK := Lib.hid (KK.out.below hz)
  replace HA2 := Lib.hid ((HA2.out.below hz).more hz.size)
  replace HB2 := Lib.hid ((HB2.out.below hz).more hz.size)
  replace sz := Nat.le_trans sz hz.size
  clear hz
  have R11 := KK.out.rules
  simp only [gro.Rules] at R11
  go_simp
  refine hK' _ _ ?_
  clear hK' K'
  clear R11
  have KP := KK.out.perm (L' := [(gx, 24, #[Value.int IntKind.i64 v, Value.int IntKind.i64 k, Value.int IntKind.i64 1000, Value.int IntKind.i64 0, Value.slice none 0 0]), (gy, 24, #[Value.int IntKind.i64 v, Value.int IntKind.i64 j, Value.int IntKind.i64 1000, Value.int IntKind.i64 0, Value.slice none 0 0])]) (by simp)
  obtain ⟨v12, hv12, K5, B5, z5, P5⟩ := cst.putC (Value.int IntKind.i64 v) (Value.int IntKind.i64 k) (Value.int IntKind.i64 1000) (Value.int IntKind.i64 now2) (Value.slice A2 n2 c2) KP (by simp <;> omega) BB.out wg_gx
  replace HA2 := Lib.hid (P5 _ _ _ HA2.out f_HA2_gx)
  replace HB2 := Lib.hid (P5 _ _ _ HB2.out f_HB2_gx)
  replace KK := Lib.hid K5
  replace BB := Lib.hid B5
  rw [← z5] at sz
  clear K5 B5 P5 KP z5
  rw [hv12]
  clear hv12
  refine ⟨fun h => absurd (show true = false from h) (by decide), ?_⟩
  refine gro.anyM_one 12 (by kernel_rfl) rfl ?_
  intro v13 hz K' hK'
  replace BB := Lib.hid (BB.out.trans (hz.mono BB.out.size))
  replace KK := Lib.hid (KK.out.below hz)
  replace HA2 := Lib.hid ((HA2.out.below hz).more hz.size)
  replace HB2 := Lib.hid ((HB2.out.below hz).more hz.size)
  replace sz := Nat.le_trans sz hz.size
  clear hz
  go_simp
  refine hK' _ _ ⟨fun h => absurd (show true = false from h) (by decide), ?_⟩
  clear hK' K'
  refine gro.anyM_one 13 (by kernel_rfl) rfl ?_
  intro v14 hz K' hK'
  replace BB := Lib.hid (BB.out.trans (hz.mono BB.out.size))
  replace KK := Lib.hid (KK.out.below hz)
  replace HA2 := Lib.hid ((HA2.out.below hz).more hz.size)
  replace HB2 := Lib.hid ((HB2.out.below hz).more hz.size)
  replace sz := Nat.le_trans sz hz.size
  clear hz
  go_simp
  refine hK' _ _ ⟨fun h => absurd (show true = false from h) (by decide), ?_⟩
  clear hK' K'
  refine gro.anyM_done (by kernel_rfl) ?_
  intro v15 hz
  replace BB := Lib.hid (BB.out.trans (hz.mono BB.out.size))
  replace KK := Lib.hid (KK.out.below hz)
  replace HA2 := Lib.hid ((HA2.out.below hz).more hz.size)
  replace HB2 := Lib.hid ((HB2.out.below hz).more hz.size)
  replace sz := Nat.le_trans sz hz.size
  clear hz
  have R15 := KK.out.rules
  simp only [gro.Rules] at R15
  go_wp2_with fail
  clear R3 R4
  (refine gro.wp_region_heldA [0, 1, 2, 4, 5] 9 11 _ (gro.lasts_bx _) (by kernel_rfl) (by kernel_rfl) (by intro _ _ _ _ _ h; exact h) (by kernel_rfl) (by kernel_rfl) (by kernel_rfl) (by kernel_rfl) (by kernel_rfl) (by decide) (KK.out).drew ?_; apply Exists.intro; refine ⟨fun w0 hb0 => ?_, ?_⟩; focus (have RZ := gro.Bx.rules hb0; simp only [gro.Rules] at RZ; simp only [gro.pickA, List.filterMap_cons, List.filterMap_nil, List.getElem?_toArray, List.getElem?_cons_succ, List.getElem?_cons_zero]; change wpQuiet _ _ _ _ (_ :: _ :: _ :: _ :: _ ::  []) _; (repeat (go_big_quiet_step ((fail)))); exact wpQuiet_nil rfl))
  replace BB := Lib.hid BB.out.drew
  replace KK := Lib.hid KK.out.drew
  replace HA2 := Lib.hid (show mem.PRead (v15.drew) (v15.drew).heap.size _ _ _ from mem.Reads.drew HA2.out)
  replace HB2 := Lib.hid (show mem.PRead (v15.drew) (v15.drew).heap.size _ _ _ from mem.Reads.drew HB2.out)
  replace sz := (show _ ≤ (v15.drew).heap.size from sz)
  generalize v15.drew = v16 at *
  refine gro.anyM_one 3 (by kernel_rfl) rfl ?_
  intro v17 hz K' hK'
  replace BB := Lib.hid (BB.out.trans (hz.mono BB.out.size))
  replace KK := Lib.hid (KK.out.below hz)
  replace HA2 := Lib.hid ((HA2.out.below hz).more hz.size)
  replace HB2 := Lib.hid ((HB2.out.below hz).more hz.size)
  replace sz := Nat.le_trans sz hz.size
  clear hz
  go_simp
  (refine (H2b.out _ BB.out).mono ?_)
  rintro e v18 ⟨u, its, rfl, hown, hlm, hok, hb⟩
  replace BB := Lib.hid (BB.out.trans (hb.mono BB.out.size))
  replace KK := Lib.hid (KK.out.below hb)
  replace HA2 := Lib.hid ((HA2.out.below hb).more hb.size)
  replace HB2 := Lib.hid ((HB2.out.below hb).more hb.size)
  replace sz := Nat.le_trans sz hb.size
  clear hb
  have HA := Lib.hid (made.ItOk.asc hok (by omega) ⟨hv1, by omega⟩)
  obtain ⟨A1_, c1_, rfl, i1, i2, i3⟩ := mem.own_form hown
  obtain ⟨mm5, hm⟩ : ∃ m, its.length = m := ⟨_, rfl⟩
  rw [hm] at hlm i1 i3
  simp only [hm]
  have HI := Lib.hid i3
  have i2' : c1_ ≤ 9223372036854775807 := i2
  clear hown hok i3 hm H2b HZ1 H1 H1b H3
  refine hK' _ _ ⟨fun _ => KK.out.perm (by simp), ?_⟩
  clear hK' K'
  refine gro.anyM_one 6 (by kernel_rfl) rfl ?_
  intro v19 hz K' hK'
  replace BB := Lib.hid (BB.out.trans (hz.mono BB.out.size))
  replace KK := Lib.hid (KK.out.below hz)
  replace HA2 := Lib.hid ((HA2.out.below hz).more hz.size)
  replace HB2 := Lib.hid ((HB2.out.below hz).more hz.size)
  replace HI := Lib.hid ((HI.out.below hz).more hz.size)
  replace sz := Nat.le_trans sz hz.size
  clear hz
  go_simp
  (refine (H3b.out _ _ _ _ _ HI.out i1 i2 HA.out (by omega)).mono ?_)
  rintro e v20 ⟨A5, n5, c5, B5, m5, d5, ys5, added5, now5, rfl, q5, ⟨p5, fr⟩, hr, hmd5, ⟨hd5, frB⟩, hrB, HR5, hto5, hal5, hn05, hn15, hb⟩
  try rw [show ((1000 : Nat) : Int) = 1000 from rfl]
  clear HI HA i1 i2 i2'
  replace BB := Lib.hid (BB.out.trans (hb.mono BB.out.size))
  replace KK := Lib.hid (KK.out.below hb)
  replace HA2 := Lib.hid ((HA2.out.below hb).more hb.size)
  replace HB2 := Lib.hid ((HB2.out.below hb).more hb.size)
  have HA5 := Lib.hid hr
  have f_HA5_gx : 0 < n5 → ∀ ad, A5 = some ad → ad.block ≠ gx := fun _ ad h => by have := fr ad h; omega
  have f_HA5_gy : 0 < n5 → ∀ ad, A5 = some ad → ad.block ≠ gy := fun _ ad h => by have := fr ad h; omega
  have HB5 := Lib.hid hrB
  have f_HB5_gx : 0 < m5 → ∀ ad, B5 = some ad → ad.block ≠ gx := fun _ ad h => by have := frB ad h; omega
  have f_HB5_gy : 0 < m5 → ∀ ad, B5 = some ad → ad.block ≠ gy := fun _ ad h => by have := frB ad h; omega
  have HR5 := Lib.hid HR5
  have hal5 := Lib.hid hal5
  replace sz := Nat.le_trans sz hb.size
  clear hb hr fr hrB frB
  refine hK' _ _ ⟨fun _ => KK.out.perm (by simp), ?_⟩
  clear hK' K'
  refine gro.anyM_one 7 (by kernel_rfl) rfl ?_
  intro v21 hz K' hK'
  replace BB := Lib.hid (BB.out.trans (hz.mono BB.out.size))
  replace KK := Lib.hid (KK.out.below hz)
  replace HA2 := Lib.hid ((HA2.out.below hz).more hz.size)
  replace HB2 := Lib.hid ((HB2.out.below hz).more hz.size)
  replace HA5 := Lib.hid ((HA5.out.below hz).more hz.size)
  replace HB5 := Lib.hid ((HB5.out.below hz).more hz.size)
  replace sz := Nat.le_trans sz hz.size
  clear hz
  go_simp
  refine hK' _ _ ⟨fun _ => KK.out.perm (by simp), ?_⟩
  clear hK' K'
  (refine gro.anyM_first_all [8, 9, 10] 3 (gro.lasts_bx _) (by kernel_rfl) (by intro _ _ _ _ _ h; exact h) (by kernel_rfl) (by kernel_rfl) (by kernel_rfl) (by kernel_rfl) (by kernel_rfl) (KK.out.perm (by simp)) ?_; apply Exists.intro; refine ⟨fun w0 => ?_, ?_⟩; focus (simp only [gro.pickA, List.filterMap_cons, List.filterMap_nil, List.getElem?_toArray, List.getElem?_cons_succ, List.getElem?_cons_zero]; change wpQuiet _ _ _ _ (_ :: _ :: _ ::  []) _; (repeat (go_big_quiet_step ((fail)))); exact wpQuiet_nil rfl))
  refine gro.anyM_one 11 (by kernel_rfl) rfl ?_
  intro v22 hz K' hK'
  replace BB := Lib.hid (BB.out.trans (hz.mono BB.out.size))
  replace KK := Lib.hid (KK.out.below hz)
  replace HA2 := Lib.hid ((HA2.out.below hz).more hz.size)
  replace HB2 := Lib.hid ((HB2.out.below hz).more hz.size)
  replace HA5 := Lib.hid ((HA5.out.below hz).more hz.size)
  replace HB5 := Lib.hid ((HB5.out.below hz).more hz.size)
  replace sz := Nat.le_trans sz hz.size
  clear hz
  have R22 := KK.out.rules
  simp only [gro.Rules] at R22
  go_simp
  refine hK' _ _ ?_
  clear hK' K'
  clear R22
  have KP := KK.out.perm (L' := [(gy, 24, #[Value.int IntKind.i64 v, Value.int IntKind.i64 j, Value.int IntKind.i64 1000, Value.int IntKind.i64 0, Value.slice none 0 0]), (gx, 24, #[Value.int IntKind.i64 v, Value.int IntKind.i64 k, Value.int IntKind.i64 1000, Value.int IntKind.i64 now2, Value.slice A2 n2 c2])]) (by simp)
  obtain ⟨v23, hv23, K5, B5, z5, P5⟩ := cst.putC (Value.int IntKind.i64 v) (Value.int IntKind.i64 j) (Value.int IntKind.i64 1000) (Value.int IntKind.i64 now5) (Value.slice A5 n5 c5) KP (by simp <;> omega) BB.out wg_gy
  replace HA2 := Lib.hid (P5 _ _ _ HA2.out f_HA2_gy)
  replace HB2 := Lib.hid (P5 _ _ _ HB2.out f_HB2_gy)
  replace HA5 := Lib.hid (P5 _ _ _ HA5.out f_HA5_gy)
  replace HB5 := Lib.hid (P5 _ _ _ HB5.out f_HB5_gy)
  replace KK := Lib.hid K5
  replace BB := Lib.hid B5
  rw [← z5] at sz
  clear K5 B5 P5 KP z5
  rw [hv23]
  clear hv23
  refine ⟨fun h => absurd (show true = false from h) (by decide), ?_⟩
  refine gro.anyM_one 12 (by kernel_rfl) rfl ?_
  intro v24 hz K' hK'
  replace BB := Lib.hid (BB.out.trans (hz.mono BB.out.size))
  replace KK := Lib.hid (KK.out.below hz)
  replace HA2 := Lib.hid ((HA2.out.below hz).more hz.size)
  replace HB2 := Lib.hid ((HB2.out.below hz).more hz.size)
  replace HA5 := Lib.hid ((HA5.out.below hz).more hz.size)
  replace HB5 := Lib.hid ((HB5.out.below hz).more hz.size)
  replace sz := Nat.le_trans sz hz.size
  clear hz
  go_simp
  refine hK' _ _ ⟨fun h => absurd (show true = false from h) (by decide), ?_⟩
  clear hK' K'
  refine gro.anyM_one 13 (by kernel_rfl) rfl ?_
  intro v25 hz K' hK'
  replace BB := Lib.hid (BB.out.trans (hz.mono BB.out.size))
  replace KK := Lib.hid (KK.out.below hz)
  replace HA2 := Lib.hid ((HA2.out.below hz).more hz.size)
  replace HB2 := Lib.hid ((HB2.out.below hz).more hz.size)
  replace HA5 := Lib.hid ((HA5.out.below hz).more hz.size)
  replace HB5 := Lib.hid ((HB5.out.below hz).more hz.size)
  replace sz := Nat.le_trans sz hz.size
  clear hz
  go_simp
  refine hK' _ _ ⟨fun h => absurd (show true = false from h) (by decide), ?_⟩
  clear hK' K'
  refine gro.anyM_done (by kernel_rfl) ?_
  intro v26 hz
  replace BB := Lib.hid (BB.out.trans (hz.mono BB.out.size))
  replace KK := Lib.hid (KK.out.below hz)
  replace HA2 := Lib.hid ((HA2.out.below hz).more hz.size)
  replace HB2 := Lib.hid ((HB2.out.below hz).more hz.size)
  replace HA5 := Lib.hid ((HA5.out.below hz).more hz.size)
  replace HB5 := Lib.hid ((HB5.out.below hz).more hz.size)
  replace sz := Nat.le_trans sz hz.size
  clear hz
  have R26 := KK.out.rules
  simp only [gro.Rules] at R26
  obtain ⟨now, hnow⟩ : ∃ now : Int, max now2 now5 = now := ⟨_, rfl⟩
  have hle2 : now2 ≤ now := by rw [← hnow]; exact Int.le_max_left _ _
  have hle5 : now5 ≤ now := by rw [← hnow]; exact Int.le_max_right _ _
  have hnu : now ≤ 100000 := by rw [← hnow]; exact Int.max_le.2 ⟨by omega, by omega⟩
  obtain ⟨_, hyl, hyt, _, _, _, _, _⟩ := HR2.out.ask (p := 1000) (by have := hal2.out; simp; omega) (by omega)
  have hn2_ : n2 ≤ 2000 := by have := mem.PRead.len HA2.out; omega
  clear hyl hyt
  obtain ⟨HS2, ht2⟩ := HR2.out.adv (now2 := now) hn02 (by omega) (by omega) ⟨hv1, by omega⟩
  have hf2 := HR2.out.fitB (p := 1000) hn02 (by omega) ⟨hv1, by omega⟩ (by omega) (by omega) (by omega)
  have hg2 := HS2.fitB (p := 1000) (by omega) (by omega) ⟨hv1, by omega⟩ (by omega) (by omega) (by omega)
  obtain ⟨r12, r22, r32, r42, r52, r62, r72, r82⟩ := HS2.ask (p := 1000) (by have := hal2.out; simp; omega) (by omega)
  have hLv : (made.liveI now v added2).length = buk.liveN (now - v) (added2.map (·.1)) := cst.liveN_map (fun q hq => by have := (HS2.bd q.1 (List.mem_map_of_mem hq)).2; omega)
  rw [← hLv] at r42 r52
  clear hLv
  have C12 := Lib.hid (fun W (h : mem.PRead W W.heap.size A2 n2 ys2) => cst.AdvC_ok (v := v) (k := k) (p := 1000) (o := now2) (tt := now) h q2 p2 hn2_ hf2 ⟨by omega, by omega⟩)
  have hnm := mem.PRead.len HB2.out
  have hlb2 := made.live_len now v added2 added2.length
  rw [List.take_length] at hlb2
  have C32 := Lib.hid (fun W (h : mem.PRead W W.heap.size B2 m2 added2) => made.Live_any B2 m2 d2 added2 now v W h hmd2 hd2 ⟨by omega, by omega⟩ ⟨hv1, by omega⟩ (by have := hal2.out; omega))
  have hb2 : (lst.totalN (lst.expireL (clk.firstI now v) ys2) : Int) ≤ 1000 := by omega
  have hl2 : (lst.expireL (clk.firstI now v) ys2).length ≤ 2000 := by omega
  have hal2' := hal2.out
  rw [hnm] at hlb2
  obtain ⟨_, hyl, hyt, _, _, _, _, _⟩ := HR5.out.ask (p := 1000) (by have := hal5.out; simp; omega) (by omega)
  have hn5_ : n5 ≤ 2000 := by have := mem.PRead.len HA5.out; omega
  clear hyl hyt
  obtain ⟨HS5, ht5⟩ := HR5.out.adv (now2 := now) hn05 (by omega) (by omega) ⟨hv1, by omega⟩
  have hf5 := HR5.out.fitB (p := 1000) hn05 (by omega) ⟨hv1, by omega⟩ (by omega) (by omega) (by omega)
  have hg5 := HS5.fitB (p := 1000) (by omega) (by omega) ⟨hv1, by omega⟩ (by omega) (by omega) (by omega)
  obtain ⟨r15, r25, r35, r45, r55, r65, r75, r85⟩ := HS5.ask (p := 1000) (by have := hal5.out; simp; omega) (by omega)
  have hLv : (made.liveI now v added5).length = buk.liveN (now - v) (added5.map (·.1)) := cst.liveN_map (fun q hq => by have := (HS5.bd q.1 (List.mem_map_of_mem hq)).2; omega)
  rw [← hLv] at r45 r55
  clear hLv
  have C15 := Lib.hid (fun W (h : mem.PRead W W.heap.size A5 n5 ys5) => cst.AdvC_ok (v := v) (k := j) (p := 1000) (o := now5) (tt := now) h q5 p5 hn5_ hf5 ⟨by omega, by omega⟩)
  have hnm := mem.PRead.len HB5.out
  have hlb5 := made.live_len now v added5 added5.length
  rw [List.take_length] at hlb5
  have C35 := Lib.hid (fun W (h : mem.PRead W W.heap.size B5 m5 added5) => made.Live_any B5 m5 d5 added5 now v W h hmd5 hd5 ⟨by omega, by omega⟩ ⟨hv1, by omega⟩ (by have := hal5.out; omega))
  have hb5 : (lst.totalN (lst.expireL (clk.firstI now v) ys5) : Int) ≤ 1000 := by omega
  have hl5 : (lst.expireL (clk.firstI now v) ys5).length ≤ 2000 := by omega
  have hal5' := hal5.out
  rw [hnm] at hlb5
  have C2 := Lib.hid (fun A n c A' n' c' W (h : mem.PRead W W.heap.size A n (lst.expireL (clk.firstI now v) ys2)) h1 h2 (h' : mem.PRead W W.heap.size A' n' (lst.expireL (clk.firstI now v) ys5)) h1' h2' => cst.MergeC_ok (v := v) (k := k) (p := 1000) (o := now) (k2 := j) (p2 := 1000) (c1 := c) (c2 := c') h h1 h2 (by have := mem.PRead.len h; omega) h' h1' h2' (by have := mem.PRead.len h'; omega) hg2 hg5 r72 r75 ⟨r62, by omega⟩ ⟨r65, by omega⟩)
  clear HR2 HR5 HS2 HS5 hf2 hf5 hg2 hg5 ht2 ht5 hl2 hl5 r12 r15 r22 r25 r32 r35 hal2 hal5 hnm
  generalize lst.expireL (clk.firstI now v) ys2 = yy2 at *
  generalize lst.expireL (clk.firstI now v) ys5 = yy5 at *
  obtain ⟨i, hi⟩ : ∃ i : Nat, min (k : Int) j = i := ⟨min k j, by omega⟩
  have hik : (i : Int) ≤ k := by omega
  have hij : (i : Int) ≤ j := by omega
  have hi1 : 1 ≤ i := by omega
  have C6 := cst.narrow_two hik hij (Int.le_trans r82 r52) (Int.le_trans r85 r55) r72 r75
  generalize made.liveI now v added2 = lv2 at *
  generalize made.liveI now v added5 = lv5 at *
  generalize (lst.totalN yy2 : Int) = tot2 at *
  generalize (lst.totalN yy5 : Int) = tot5 at *
  generalize lst.qlo yy2 = lo2 at *
  generalize lst.qlo yy5 = lo5 at *
  obtain ⟨mid, hmid⟩ : ∃ m, (lo2 + tot2) / 2 + (lo5 + tot5) / 2 = m := ⟨_, rfl⟩
  obtain ⟨lo, hlo⟩ : ∃ m, lo2 + lo5 = m := ⟨_, rfl⟩
  obtain ⟨tot, htot⟩ : ∃ m, tot2 + tot5 = m := ⟨_, rfl⟩
  obtain ⟨nn, hnn⟩ : ∃ m : Int, (lv2.length : Int) + lv5.length = m := ⟨_, rfl⟩
  have z1 : lo ≤ mid := by omega
  have z2 : mid ≤ tot := by omega
  have z3 : lo ≤ nn := by omega
  have z4 : nn ≤ tot := by omega
  have z5 : 0 ≤ lo := by omega
  have z6 : tot ≤ 2000 := by omega
  rw [hmid, hlo, htot] at C2
  rw [hlo, htot, hnn] at C6
  clear hmid hlo htot r42 r45 r52 r55 r62 r65 r72 r75 r82 r85
  have C5 := Lib.hid (cst.mid_holds z1 z2 z3 z4)
  have C7 := Lib.hid (cst.mid_within (k := i) z1 z2 (by omega) (by omega) C6)
  clear C6
  have D5 := Lib.hid (fun W => wid.HoldB_any lo 1 mid 1 tot 1 nn 1 (by unfold wid.I64; omega) (by unfold wid.I64; omega) (by unfold wid.I64; omega) (by unfold wid.I64; omega) (by unfold wid.I64; omega) (by unfold wid.I64; omega) (by unfold wid.I64; omega) (by unfold wid.I64; omega) W)
  have D6 := Lib.hid (fun W => wid.Within_any lo 1 mid 1 tot 1 i nn 1 (by unfold wid.I64; omega) (by unfold wid.I64; omega) (by unfold wid.I64; omega) (by unfold wid.I64; omega) (by unfold wid.I64; omega) (by unfold wid.I64; omega) (by unfold wid.I64; omega) (by unfold wid.I64; omega) (by unfold wid.I64; omega) W)
  rw [C5.out] at D5
  rw [C7.out] at D6
  have H7 := Lib.hid (fun W => wid.ofQR_any nn W)
  have wn : IntKind.i64.wrap nn = nn := IntWalk.i64_in _ (by omega)
  clear C5 C7 z1 z2 z3 z4 z5 z6
  go_wp2_with fail
  clear R15
  (refine (C12.out _ HA2.out).mono ?_)
  rintro e v27 ⟨A7, n7, c7, rfl, q7, ⟨p7, fr⟩, hr, hb⟩
  replace BB := Lib.hid (BB.out.trans (hb.mono BB.out.size))
  replace KK := Lib.hid (KK.out.below hb)
  replace HA2 := Lib.hid ((HA2.out.below hb).more hb.size)
  replace HB2 := Lib.hid ((HB2.out.below hb).more hb.size)
  replace HA5 := Lib.hid ((HA5.out.below hb).more hb.size)
  replace HB5 := Lib.hid ((HB5.out.below hb).more hb.size)
  have HA7 := Lib.hid hr
  have f_HA7_gy : 0 < n7 → ∀ ad, A7 = some ad → ad.block ≠ gy := fun _ ad h => by have := fr ad h; omega
  have f_HA7_gx : 0 < n7 → ∀ ad, A7 = some ad → ad.block ≠ gx := fun _ ad h => by have := fr ad h; omega
  replace sz := Nat.le_trans sz hb.size
  clear hb hr fr
  have R27 := KK.out.rules
  simp only [gro.Rules] at R27
  clear HA2
  have KP := KK.out.perm (L' := [(gx, 24, #[Value.int IntKind.i64 v, Value.int IntKind.i64 k, Value.int IntKind.i64 1000, Value.int IntKind.i64 now2, Value.slice A2 n2 c2]), (gy, 24, #[Value.int IntKind.i64 v, Value.int IntKind.i64 j, Value.int IntKind.i64 1000, Value.int IntKind.i64 now5, Value.slice A5 n5 c5])]) (by simp)
  obtain ⟨v28, hv28, K5, B5, z5, P5⟩ := cst.putC (Value.int IntKind.i64 v) (Value.int IntKind.i64 k) (Value.int IntKind.i64 1000) (Value.int IntKind.i64 now) (Value.slice A7 n7 c7) KP (by simp <;> omega) BB.out wg_gx
  replace HB2 := Lib.hid (P5 _ _ _ HB2.out f_HB2_gx)
  replace HA5 := Lib.hid (P5 _ _ _ HA5.out f_HA5_gx)
  replace HB5 := Lib.hid (P5 _ _ _ HB5.out f_HB5_gx)
  replace HA7 := Lib.hid (P5 _ _ _ HA7.out f_HA7_gx)
  replace KK := Lib.hid K5
  replace BB := Lib.hid B5
  rw [← z5] at sz
  clear K5 B5 P5 KP z5
  have R28 := KK.out.rules
  simp only [gro.Rules] at R28
  go_wp2_with fail
  clear R26 R27 hv28
  (refine (C15.out _ HA5.out).mono ?_)
  rintro e v29 ⟨A8, n8, c8, rfl, q8, ⟨p8, fr⟩, hr, hb⟩
  replace BB := Lib.hid (BB.out.trans (hb.mono BB.out.size))
  replace KK := Lib.hid (KK.out.below hb)
  replace HB2 := Lib.hid ((HB2.out.below hb).more hb.size)
  replace HA5 := Lib.hid ((HA5.out.below hb).more hb.size)
  replace HB5 := Lib.hid ((HB5.out.below hb).more hb.size)
  replace HA7 := Lib.hid ((HA7.out.below hb).more hb.size)
  have HA8 := Lib.hid hr
  have f_HA8_gx : 0 < n8 → ∀ ad, A8 = some ad → ad.block ≠ gx := fun _ ad h => by have := fr ad h; omega
  have f_HA8_gy : 0 < n8 → ∀ ad, A8 = some ad → ad.block ≠ gy := fun _ ad h => by have := fr ad h; omega
  replace sz := Nat.le_trans sz hb.size
  clear hb hr fr
  have R29 := KK.out.rules
  simp only [gro.Rules] at R29
  clear HA5
  have KP := KK.out.perm (L' := [(gy, 24, #[Value.int IntKind.i64 v, Value.int IntKind.i64 j, Value.int IntKind.i64 1000, Value.int IntKind.i64 now5, Value.slice A5 n5 c5]), (gx, 24, #[Value.int IntKind.i64 v, Value.int IntKind.i64 k, Value.int IntKind.i64 1000, Value.int IntKind.i64 now, Value.slice A7 n7 c7])]) (by simp)
  obtain ⟨v30, hv30, K5, B5, z5, P5⟩ := cst.putC (Value.int IntKind.i64 v) (Value.int IntKind.i64 j) (Value.int IntKind.i64 1000) (Value.int IntKind.i64 now) (Value.slice A8 n8 c8) KP (by simp <;> omega) BB.out wg_gy
  replace HB2 := Lib.hid (P5 _ _ _ HB2.out f_HB2_gy)
  replace HB5 := Lib.hid (P5 _ _ _ HB5.out f_HB5_gy)
  replace HA7 := Lib.hid (P5 _ _ _ HA7.out f_HA7_gy)
  replace HA8 := Lib.hid (P5 _ _ _ HA8.out f_HA8_gy)
  replace KK := Lib.hid K5
  replace BB := Lib.hid B5
  rw [← z5] at sz
  clear K5 B5 P5 KP z5
  have R30 := KK.out.rules
  simp only [gro.Rules] at R30
  go_wp2_with fail
  clear R28 R29 hv30
  (refine (C2.out _ _ _ _ _ _ _ HA7.out q7 p7 HA8.out q8 p8).mono ?_)
  rintro e v31 ⟨rfl, hb⟩
  replace BB := Lib.hid (BB.out.trans (hb.mono BB.out.size))
  replace KK := Lib.hid (KK.out.below hb)
  replace HB2 := Lib.hid ((HB2.out.below hb).more hb.size)
  replace HB5 := Lib.hid ((HB5.out.below hb).more hb.size)
  replace HA7 := Lib.hid ((HA7.out.below hb).more hb.size)
  replace HA8 := Lib.hid ((HA8.out.below hb).more hb.size)
  replace sz := Nat.le_trans sz hb.size
  clear hb
  have R31 := KK.out.rules
  simp only [gro.Rules] at R31
  clear HA7
  clear HA8
  obtain ⟨gb, hs_gb⟩ : ∃ s, (v31).heap.size = s := ⟨_, rfl⟩
  have wg_gb : w.heap.size ≤ gb := by have := BB.out.size; omega
  go_wp2_with fail
  clear R30
  obtain ⟨v32, hv32, K5, B5, z5, P5⟩ := cst.newbox (43) #[Value.int IntKind.i64 lo, Value.int IntKind.i64 1, Value.int IntKind.i64 mid, Value.int IntKind.i64 1, Value.int IntKind.i64 tot, Value.int IntKind.i64 1] KK.out hs_gb BB.out BB.out.size
  rw [hv32]
  have o_gy_gb : gy < gb := by omega
  have o_gx_gb : gx < gb := by omega
  have f_HB2_gb := (P5 _ _ _ HB2.out).2
  replace HB2 := Lib.hid (P5 _ _ _ HB2.out).1
  have f_HB5_gb := (P5 _ _ _ HB5.out).2
  replace HB5 := Lib.hid (P5 _ _ _ HB5.out).1
  replace KK := Lib.hid K5
  replace BB := Lib.hid B5
  replace sz : gb + 1 ≤ (v32).heap.size := by rw [z5]; exact Nat.le_refl _
  clear K5 B5 P5 z5 hv32 hs_gb
  have R32 := KK.out.rules
  simp only [gro.Rules] at R32
  go_wp2_with fail
  clear R31
  (refine (C32.out _ HB2.out).mono ?_)
  rintro e v33 ⟨A9, n9, c9, rfl, q9, ⟨p9, fr⟩, hr, hb⟩
  replace BB := Lib.hid (BB.out.trans (hb.mono BB.out.size))
  replace KK := Lib.hid (KK.out.below hb)
  replace HB2 := Lib.hid ((HB2.out.below hb).more hb.size)
  replace HB5 := Lib.hid ((HB5.out.below hb).more hb.size)
  have HA9 := Lib.hid hr
  have f_HA9_gb : 0 < n9 → ∀ ad, A9 = some ad → ad.block ≠ gb := fun _ ad h => by have := fr ad h; omega
  have f_HA9_gy : 0 < n9 → ∀ ad, A9 = some ad → ad.block ≠ gy := fun _ ad h => by have := fr ad h; omega
  have f_HA9_gx : 0 < n9 → ∀ ad, A9 = some ad → ad.block ≠ gx := fun _ ad h => by have := fr ad h; omega
  replace sz := Nat.le_trans sz hb.size
  clear hb hr fr
  have R33 := KK.out.rules
  simp only [gro.Rules] at R33
  clear HB2
  have hn9 := mem.PRead.len HA9.out
  rw [hn9] at hnn
  clear HA9
  go_wp2_with fail
  clear R32
  (refine (C35.out _ HB5.out).mono ?_)
  rintro e v34 ⟨A10, n10, c10, rfl, q10, ⟨p10, fr⟩, hr, hb⟩
  replace BB := Lib.hid (BB.out.trans (hb.mono BB.out.size))
  replace KK := Lib.hid (KK.out.below hb)
  replace HB5 := Lib.hid ((HB5.out.below hb).more hb.size)
  have HA10 := Lib.hid hr
  have f_HA10_gb : 0 < n10 → ∀ ad, A10 = some ad → ad.block ≠ gb := fun _ ad h => by have := fr ad h; omega
  have f_HA10_gy : 0 < n10 → ∀ ad, A10 = some ad → ad.block ≠ gy := fun _ ad h => by have := fr ad h; omega
  have f_HA10_gx : 0 < n10 → ∀ ad, A10 = some ad → ad.block ≠ gx := fun _ ad h => by have := fr ad h; omega
  replace sz := Nat.le_trans sz hb.size
  clear hb hr fr
  have R34 := KK.out.rules
  simp only [gro.Rules] at R34
  clear HB5
  have hn10 := mem.PRead.len HA10.out
  rw [hn10] at hnn
  have hnw : IntKind.i64.wrap ((n9 : Int) + n10) = nn := by rw [hnn]; exact wn
  clear HA10
  go_wp2_with fail
  clear R33
  (refine (H7.out _).mono ?_)
  rintro e v35 ⟨rfl, hb⟩
  replace BB := Lib.hid (BB.out.trans (hb.mono BB.out.size))
  replace KK := Lib.hid (KK.out.below hb)
  replace sz := Nat.le_trans sz hb.size
  clear hb
  have R35 := KK.out.rules
  simp only [gro.Rules] at R35
  obtain ⟨gn, hs_gn⟩ : ∃ s, (v35).heap.size = s := ⟨_, rfl⟩
  have wg_gn : w.heap.size ≤ gn := by have := BB.out.size; omega
  go_wp2_with fail
  clear R34
  obtain ⟨v36, hv36, K5, B5, z5, P5⟩ := cst.newbox (41) #[Value.int IntKind.i64 nn, Value.int IntKind.i64 1] KK.out hs_gn BB.out BB.out.size
  rw [hv36]
  have o_gb_gn : gb < gn := by omega
  have o_gy_gn : gy < gn := by omega
  have o_gx_gn : gx < gn := by omega
  replace KK := Lib.hid K5
  replace BB := Lib.hid B5
  replace sz : gn + 1 ≤ (v36).heap.size := by rw [z5]; exact Nat.le_refl _
  clear K5 B5 P5 z5 hv36 hs_gn
  have R36 := KK.out.rules
  simp only [gro.Rules] at R36
  go_wp2_with fail
  clear R35
  (refine (D5.out _).mono ?_)
  rintro e v37 ⟨rfl, hb⟩
  replace BB := Lib.hid (BB.out.trans (hb.mono BB.out.size))
  replace KK := Lib.hid (KK.out.below hb)
  replace sz := Nat.le_trans sz hb.size
  clear hb
  have R37 := KK.out.rules
  simp only [gro.Rules] at R37
  go_wp2_with fail
  clear R36
  (refine (D6.out _).mono ?_)
  rintro e v38 ⟨rfl, hb⟩
  replace BB := Lib.hid (BB.out.trans (hb.mono BB.out.size))
  replace KK := Lib.hid (KK.out.below hb)
  replace sz := Nat.le_trans sz hb.size
  clear hb
  have R38 := KK.out.rules
  simp only [gro.Rules] at R38
  go_wp2_with fail
  clear R37
  (refine (H9.out _).mono ?_)
  rintro e v39 ⟨rfl, hb⟩
  replace BB := Lib.hid (BB.out.trans (hb.mono BB.out.size))
  replace KK := Lib.hid (KK.out.below hb)
  replace sz := Nat.le_trans sz hb.size
  clear hb
  have R39 := KK.out.rules
  simp only [gro.Rules] at R39
  go_wp2
  clear R38
  go_ret
  exact ⟨rfl, BB.out⟩
end Go.Proofs.Ytofgjcfiinmimaa.countBoth
