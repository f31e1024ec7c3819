/- The walk of the law ExtremeTruth: it returns true and leaves what was there. -/
import Derived.Test.YteajgmihhnghfaaRows
import Derived.Test.YteajgmihhnghfaaOpen
import Derived.Test.YteajgmihhnghfaaExtH
import Derived.Test.YteajgmihhnghfaaExtR
import Derived.Test.YteajgmihhnghfaaPutB
import Derived.Test.YteajgmihhnghfaaLive
import Derived.Test.YteajgmihhnghfaaItems
import Derived.Test.YteajgmihhnghfaaItemsP
import Derived.Test.YteajgmihhnghfaaAwake17
import Derived.Test.YteajgmihhnghfaaSteady3
import Derived.Test.YteajgmihhnghfaaSteady4
import Derived.Test.YteajgmihhnghfaaOpenC
import Derived.WalkKit
import Derived.ProofKit
import Derived.OpenShut
import Derived.ShutString
namespace Go.Proofs.Yteajgmihhnghfaa.extremeTruth
open Go.ChangeShapes Go.WideShapes Go.ChangeAt Go.RowKit
open Go.ChangeMaps (open_string shut_string)
set_option linter.unusedVariables false

set_option maxHeartbeats 4000000 in
set_option maxRecDepth 100000 in
theorem walk (A0 : Option Addr) (n0 c0 : Nat) (z0 : List (Int × Int)) (a1 : Bool) (a2 : Int) (a3 : Int) (w : World) (iw0 : mem.PRead w w.heap.size A0 n0 z0) (e0 : n0 ≤ c0) (m0 : c0 ≤ maxLen) (r0 : ∀ p ∈ z0, opn.Rng p.1 ∧ opn.Rng p.2) (iw2 : opn.Rng a2) (iw3 : opn.Rng a3) :
    Calls Try.prog 5 #[.slice A0 n0 c0, .bool a1, .int .i64 a2, .int .i64 a3] w fun e w' => e = .returned (.bool true) ∧ Below w.heap.size w w' := by
  have HZ := Lib.hid iw0
  have M1 := Lib.hid (fun W => made.Mod_any a2 20 W iw2 (by omega) (by omega))
  have b10 : 0 ≤ a2 % 20 := Int.emod_nonneg _ (by omega)
  have b11 : a2 % 20 < 20 := Int.emod_lt_of_pos _ (by omega)
  have hi3 := Lib.hid iw3
  clear iw2 iw0 iw3
  generalize a2 % 20 = x1 at *
  obtain ⟨v, hv⟩ : ∃ v : Int, 1 + x1 = v := ⟨_, rfl⟩
  have hv1 : 1 ≤ v := by omega
  have hv2 : v ≤ 20 := by omega
  have hsv : IntKind.i64.wrap (1 + x1) = v := by rw [hv]; exact IntWalk.i64_in _ (by omega)
  clear hv b10 b11
  have H1 := Lib.hid (fun W => ext.NewE_ok (m := a1) (v := v) (p := 200) (o := 0) (ext.mayB_iff.2 (by omega)) W)
  have H2 := Lib.hid (fun W (hb : Below w.heap.size w W) => made.Items_any A0 n0 c0 z0 v 100 W ((HZ.out.below hb).more hb.size) r0 e0 m0 (by omega) (by omega))
  have H9 := Lib.hid (fun W => ext.awake17_any W)
  have M4 := Lib.hid (fun W => made.Mod_any a3 (v + 2) W hi3.out (by omega) (by omega))
  have b40 : 0 ≤ a3 % (v + 2) := Int.emod_nonneg _ (by omega)
  have b41 : a3 % (v + 2) < v + 2 := Int.emod_lt_of_pos _ (by omega)
  have w2 : IntKind.i64.wrap (v + 2) = v + 2 := IntWalk.i64_in _ (by omega)
  generalize a3 % (v + 2) = x5 at *
  clear r0 e0 m0 hi3
  have BB := Lib.hid (Below.refl w.heap.size w)
  have sz : w.heap.size ≤ w.heap.size := Nat.le_refl _
  go_enter Try.func5, Try.ntmps5
  go_wp2_with fail
  (with_reducible refine (M1.out _).mono ?_)
  rintro e w1 ⟨rfl, rfl⟩
  clear M1
  go_wp2_with fail
  (with_reducible refine (H1.out _).mono ?_)
  rintro e v1 ⟨rfl, hb⟩
  replace BB := Lib.hid (BB.out.trans (hb.mono BB.out.size))
  replace sz := Nat.le_trans sz hb.size
  clear hb
  obtain ⟨gx, hs_gx⟩ : ∃ s, (v1).heap.size = s := ⟨_, rfl⟩
  have wg_gx : w.heap.size ≤ gx := by have := BB.out.size; omega
  go_wp2_with fail
  obtain ⟨v2, hv2, K5, B5, z5, P5⟩ := cst.newbox (24) #[Value.bool a1, Value.int IntKind.i64 v, Value.int IntKind.i64 200, Value.int IntKind.i64 0, Value.slice none 0 0] (gro.Bx.nil_ (W := v1)) hs_gx BB.out BB.out.size
  rw [hv2]
  have KK := Lib.hid K5
  replace BB := Lib.hid B5
  replace sz : gx + 1 ≤ (v2).heap.size := by rw [z5]; exact Nat.le_refl _
  clear K5 B5 P5 z5 hv2 hs_gx
  have R2 := KK.out.rules
  simp only [gro.Rules] at R2
  go_wp2_with fail
  have szB := sz
  (refine (H2.out _ BB.out).mono ?_)
  rintro e v3 ⟨u, its, rfl, hown, hlm, hok, hb⟩
  replace BB := Lib.hid (BB.out.trans (hb.mono BB.out.size))
  replace KK := Lib.hid (KK.out.below hb)
  replace sz := Nat.le_trans sz hb.size
  clear hb
  have R3 := KK.out.rules
  simp only [gro.Rules] at R3
  have HA := Lib.hid (made.ItOk.asc hok (by omega) ⟨hv1, by omega⟩)
  have fI : ∀ ad, (∃ n c, u = .slice (some ad) n c) → ad.block ≠ gx := fun ad h => by obtain ⟨n, c, rfl⟩ := h; have := mem.own_block_ge hown ad.block rfl; omega
  obtain ⟨A1, c1, rfl, i1, i2, i3⟩ := mem.own_form hown
  obtain ⟨m, hm⟩ : ∃ m, its.length = m := ⟨_, rfl⟩
  have HL : Hid (its.length = m) := hm
  rw [hm] at hlm i1 i3
  simp only [hm]
  have HI := Lib.hid i3
  have i2' : c1 ≤ 9223372036854775807 := i2
  have f_HI_gx : 0 < m → ∀ ad, A1 = some ad → ad.block ≠ gx := fun _ ad h => fI ad ⟨_, _, by rw [h]⟩
  clear hown hok i3 hm H1 H2 HZ fI szB
  go_wp2_with fail
  clear R2
  clear R3
  go_loopg [10, 33] m (fun kx s10 s33 wr => ∃ (i : Nat) (A : Option Addr) (n c : Nat) (ys : List (Int × Int)) (now : Int), s33 = .int .i64 i ∧ s10 = .int .i64 0 ∧ i ≤ m ∧ m - i ≤ kx ∧ n ≤ c ∧ c ≤ 9223372036854775807 ∧ 0 ≤ now ∧ now ≤ 100000 ∧ Hid (i < m → now ≤ (buk.at_ its i).1) ∧ n ≤ i ∧ Hid (ext.ERun a1 ys now v (its.take i)) ∧ Hid (mem.PRead wr wr.heap.size A n ys) ∧ Hid (mem.PRead wr wr.heap.size A1 m its) ∧ Hid (∀ ad, A = some ad → gx < ad.block) ∧ Hid (gro.Bx wr [(gx, 24, #[Value.bool a1, Value.int IntKind.i64 v, Value.int IntKind.i64 200, Value.int IntKind.i64 now, Value.slice A n c])]) ∧ Hid (Below w.heap.size w wr) ∧ gx + 1 ≤ wr.heap.size)
  case atStart => exact ⟨0, none, 0, 0, [], 0, rfl, rfl, by omega, by omega, by omega, by omega, by omega, by omega, fun h => (HA.out 0 (by rw [HL.out]; exact h)).1.1, by omega, ext.ERun.nil a1 v, mem.PRead.nil_, HI, Lib.hid (fun ad h => by (cases h)), KK, BB, sz⟩
  case round =>
    clear KK BB sz HI
    obtain ⟨i, A, n, c, ys, now, rfl, rfl, hi, hkx, hnc, hcm, hn0, hn1, HT, hni, HR, HX, HI, fx, KK, BB, sz⟩ := hrel
    have f_HX_gx : 0 < n → ∀ ad, A = some ad → ad.block ≠ gx := fun _ ad h => by have := fx.out ad h; omega
    have hlx := mem.PRead.len HX.out
    by_cases hlt : i < m
    case neg =>
      obtain rfl : m = i := by omega
      clear HT hkx
      have HR1 : ext.ERun a1 ys now v its := by
        have := HR.out
        rwa [List.take_of_length_le (by rw [HL.out]; exact Nat.le_refl _)] at this
      have HR2 := HR1.adv (t := now + x5) (by omega)
      have hle2 := lst.expireL_le (now + x5 - v + 1) ys
      have hg1 := HR1.val (p := 200) (by omega) ⟨hv1, by omega⟩ (by omega) (by omega)
      have hg2 := HR2.val (p := 200) (by omega) ⟨hv1, by omega⟩ (by omega) (by omega)
      have hlen := HR2.len (by omega)
      have hlive := ext.late_live (v := v) (now := now + x5) (fun q hq => (HR2.bd q hq).2.1)
      have hkept := HR2.kept
      rw [← hlive] at hkept
      obtain ⟨hbest, hzero⟩ := ext.kept_best hkept
      have hkeq := ext.kept_eq hkept
      have hlb := made.live_len (now + x5) v its its.length
      rw [List.take_length] at hlb
      have C1 := Lib.hid (fun W (h : mem.PRead W W.heap.size A n ys) => ext.AdvE_ok (m := a1) (v := v) (p := 200) (o := now) (tt := now + x5) h hnc hcm (by omega) hg1 ⟨by omega, by omega⟩)
      have C3 := Lib.hid (fun W (h : mem.PRead W W.heap.size A1 m its) => made.Live_any A1 m c1 its (now + x5) v W h i1 i2 ⟨by omega, by omega⟩ ⟨hv1, by omega⟩ (by omega))
      have C4 := Lib.hid (fun A n c W (h : mem.PRead W W.heap.size A n (lst.expireL (now + x5 - v + 1) ys)) => ext.AskE_ok (m := a1) (v := v) (p := 200) (o := now + x5) (c := c) h (by have := mem.PRead.len h; omega) hg2)
      have hll := HL.out
      have w3 : IntKind.i64.wrap (now + x5) = now + x5 := IntWalk.i64_in _ (by omega)
      clear HR HR1 HR2 hg1 hg2 hkept hlive HA HL hle2
      generalize made.liveI (now + x5) v its = lv at *
      generalize lst.expireL (now + x5 - v + 1) ys = yy at *
      have C5 := Lib.hid (fun A n c W (h : mem.PRead W W.heap.size A n lv) (hs : n ≤ 1000) => ext.Kept_f a1 A n c lv W h hs)
      have C6 := Lib.hid (fun A n c W (h : mem.PRead W W.heap.size A n lv) (hs : n ≤ 1000) => ext.Extreme8_any a1 A n c lv W h hs)
      have C7 := Lib.hid (fun A n c A' n' c' W (h : mem.PRead W W.heap.size A n yy) (h' : mem.PRead W W.heap.size A' n' yy) => ext.SameItems_ok A A' n c n' c' yy W h h' (by have := mem.PRead.len h; omega))
      replace hbest := Lib.hid hbest
      replace hkeq := Lib.hid hkeq
      have R120 := KK.out.rules
      simp only [gro.Rules] at R120
      go_wp2_with fail
      (refine gro.wp_region_heldA [0, 1, 2, 3, 4, 5, 6, 7] 6 12 _ (gro.lasts_bx _) (by kernel_rfl) (by kernel_rfl) (by intro _ _ _ _ _ h; exact h) (by kernel_rfl) (by kernel_rfl) (by kernel_rfl) (by kernel_rfl) (by kernel_rfl) (by decide) (KK.out).drew ?_; apply Exists.intro; refine ⟨fun w0 hb0 => ?_, ?_⟩; focus (have RZ := gro.Bx.rules hb0; simp only [gro.Rules] at RZ; simp only [gro.pickA, List.filterMap_cons, List.filterMap_nil, List.getElem?_toArray, List.getElem?_cons_succ, List.getElem?_cons_zero]; change wpQuiet _ _ _ _ (_ :: _ :: _ :: _ :: _ :: _ :: _ :: _ ::  []) _; (repeat (go_big_quiet_step ((go_at_call 22; exact gro.call_same (M4.out _))))); exact wpQuiet_nil rfl))
      replace BB := Lib.hid BB.out.drew
      replace KK := Lib.hid KK.out.drew
      replace HX := Lib.hid (show mem.PRead (wr.drew) (wr.drew).heap.size _ _ _ from mem.Reads.drew HX.out)
      replace HI := Lib.hid (show mem.PRead (wr.drew) (wr.drew).heap.size _ _ _ from mem.Reads.drew HI.out)
      replace sz := (show _ ≤ (wr.drew).heap.size from sz)
      generalize wr.drew = v121 at *
      refine gro.anyM_one 8 (by kernel_rfl) rfl ?_
      intro v122 hz K' hK'
      replace BB := Lib.hid (BB.out.trans (hz.mono BB.out.size))
      replace KK := Lib.hid (KK.out.below hz)
      replace HX := Lib.hid ((HX.out.below hz).more hz.size)
      replace HI := Lib.hid ((HI.out.below hz).more hz.size)
      replace sz := Nat.le_trans sz hz.size
      clear hz
      go_simp
      (refine (C1.out _ HX.out).mono ?_)
      rintro e v123 ⟨A3, n3, c3, rfl, q3, ⟨p3, fr⟩, hr, hb⟩
      replace BB := Lib.hid (BB.out.trans (hb.mono BB.out.size))
      replace KK := Lib.hid (KK.out.below hb)
      replace HX := Lib.hid ((HX.out.below hb).more hb.size)
      replace HI := Lib.hid ((HI.out.below hb).more hb.size)
      have HA3 := Lib.hid hr
      have f_HA3_gx : 0 < n3 → ∀ ad, A3 = some ad → ad.block ≠ gx := fun _ ad h => by have := fr ad h; omega
      replace sz := Nat.le_trans sz hb.size
      clear hb hr fr
      refine hK' _ _ ⟨fun _ => KK.out.perm (by simp), ?_⟩
      clear hK' K'
      clear HX
      refine gro.anyM_one 9 (by kernel_rfl) rfl ?_
      intro v124 hz K' hK'
      replace BB := Lib.hid (BB.out.trans (hz.mono BB.out.size))
      replace KK := Lib.hid (KK.out.below hz)
      replace HI := Lib.hid ((HI.out.below hz).more hz.size)
      replace HA3 := Lib.hid ((HA3.out.below hz).more hz.size)
      replace sz := Nat.le_trans sz hz.size
      clear hz
      go_simp
      refine hK' _ _ ⟨fun _ => KK.out.perm (by simp), ?_⟩
      clear hK' K'
      (refine gro.anyM_first_all [10, 11] 2 (gro.lasts_bx _) (by kernel_rfl) (by intro _ _ _ _ _ h; exact h) (by kernel_rfl) (by kernel_rfl) (by kernel_rfl) (by kernel_rfl) (by kernel_rfl) (KK.out.perm (by simp)) ?_; apply Exists.intro; refine ⟨fun w0 => ?_, ?_⟩; focus (simp only [gro.pickA, List.filterMap_cons, List.filterMap_nil, List.getElem?_toArray, List.getElem?_cons_succ, List.getElem?_cons_zero]; change wpQuiet _ _ _ _ (_ :: _ ::  []) _; (repeat (go_big_quiet_step ((fail)))); exact wpQuiet_nil rfl))
      refine gro.anyM_one 12 (by kernel_rfl) rfl ?_
      intro v125 hz K' hK'
      replace BB := Lib.hid (BB.out.trans (hz.mono BB.out.size))
      replace KK := Lib.hid (KK.out.below hz)
      replace HI := Lib.hid ((HI.out.below hz).more hz.size)
      replace HA3 := Lib.hid ((HA3.out.below hz).more hz.size)
      replace sz := Nat.le_trans sz hz.size
      clear hz
      have R125 := KK.out.rules
      simp only [gro.Rules] at R125
      go_simp
      refine hK' _ _ ?_
      clear hK' K'
      clear R125
      have KP := KK.out.perm (L' := [(gx, 24, #[Value.bool a1, Value.int IntKind.i64 v, Value.int IntKind.i64 200, Value.int IntKind.i64 now, Value.slice A n c])]) (by simp)
      obtain ⟨v126, hv126, K5, B5, z5, P5⟩ := cst.putC (Value.bool a1) (Value.int IntKind.i64 v) (Value.int IntKind.i64 200) (Value.int IntKind.i64 (now + x5)) (Value.slice A3 n3 c3) KP (by simp <;> omega) BB.out wg_gx
      replace HI := Lib.hid (P5 _ _ _ HI.out f_HI_gx)
      replace HA3 := Lib.hid (P5 _ _ _ HA3.out f_HA3_gx)
      replace KK := Lib.hid K5
      replace BB := Lib.hid B5
      rw [← z5] at sz
      clear K5 B5 P5 KP z5
      rw [hv126]
      clear hv126
      refine ⟨fun h => absurd (show true = false from h) (by decide), ?_⟩
      refine gro.anyM_one 13 (by kernel_rfl) rfl ?_
      intro v127 hz K' hK'
      replace BB := Lib.hid (BB.out.trans (hz.mono BB.out.size))
      replace KK := Lib.hid (KK.out.below hz)
      replace HI := Lib.hid ((HI.out.below hz).more hz.size)
      replace HA3 := Lib.hid ((HA3.out.below hz).more hz.size)
      replace sz := Nat.le_trans sz hz.size
      clear hz
      go_simp
      refine hK' _ _ ⟨fun h => absurd (show true = false from h) (by decide), ?_⟩
      clear hK' K'
      refine gro.anyM_done (by kernel_rfl) ?_
      intro v128 hz
      replace BB := Lib.hid (BB.out.trans (hz.mono BB.out.size))
      replace KK := Lib.hid (KK.out.below hz)
      replace HI := Lib.hid ((HI.out.below hz).more hz.size)
      replace HA3 := Lib.hid ((HA3.out.below hz).more hz.size)
      replace sz := Nat.le_trans sz hz.size
      clear hz
      have R128 := KK.out.rules
      simp only [gro.Rules] at R128
      go_wp2_with fail
      clear R120
      (refine (C3.out _ HI.out).mono ?_)
      rintro e v129 ⟨A4, n4, c4, rfl, q4, ⟨p4, fr⟩, hr, hb⟩
      replace BB := Lib.hid (BB.out.trans (hb.mono BB.out.size))
      replace KK := Lib.hid (KK.out.below hb)
      replace HI := Lib.hid ((HI.out.below hb).more hb.size)
      replace HA3 := Lib.hid ((HA3.out.below hb).more hb.size)
      have HA4 := Lib.hid hr
      have f_HA4_gx : 0 < n4 → ∀ ad, A4 = some ad → ad.block ≠ gx := fun _ ad h => by have := fr ad h; omega
      replace sz := Nat.le_trans sz hb.size
      clear hb hr fr
      have R129 := KK.out.rules
      simp only [gro.Rules] at R129
      clear HI
      have hn4 := mem.PRead.len HA4.out
      have hn3 := mem.PRead.len HA3.out
      rw [hn4] at hkeq hbest
      have hln4 : n4 ≤ 1000 := by omega
      have hvn : decide (v < (n3 : Int)) = false := decide_eq_false (by omega)
      go_wp2_with fail
      clear R128
      (refine gro.wp_region_heldA [] 18 8 _ (gro.lasts_bx _) (by kernel_rfl) (by kernel_rfl) (by intro _ _ _ _ _ h; exact h) (by kernel_rfl) (by kernel_rfl) (by kernel_rfl) (by kernel_rfl) (by kernel_rfl) (by decide) (KK.out).drew ?_; apply Exists.intro; refine ⟨fun w0 hb0 => ?_, ?_⟩; focus (have RZ := gro.Bx.rules hb0; simp only [gro.Rules] at RZ; simp only [gro.pickA, List.filterMap_cons, List.filterMap_nil, List.getElem?_toArray, List.getElem?_cons_succ, List.getElem?_cons_zero]; change wpQuiet _ _ _ _ ( []) _; (repeat (go_big_quiet_step ((fail)))); exact wpQuiet_nil rfl))
      replace BB := Lib.hid BB.out.drew
      replace KK := Lib.hid KK.out.drew
      replace HA3 := Lib.hid (show mem.PRead (v129.drew) (v129.drew).heap.size _ _ _ from mem.Reads.drew HA3.out)
      replace HA4 := Lib.hid (show mem.PRead (v129.drew) (v129.drew).heap.size _ _ _ from mem.Reads.drew HA4.out)
      replace sz := (show _ ≤ (v129.drew).heap.size from sz)
      generalize v129.drew = v130 at *
      refine gro.anyM_one 0 (by kernel_rfl) rfl ?_
      intro v131 hz K' hK'
      replace BB := Lib.hid (BB.out.trans (hz.mono BB.out.size))
      replace KK := Lib.hid (KK.out.below hz)
      replace HA3 := Lib.hid ((HA3.out.below hz).more hz.size)
      replace HA4 := Lib.hid ((HA4.out.below hz).more hz.size)
      replace sz := Nat.le_trans sz hz.size
      clear hz
      go_simp
      refine hK' _ _ ⟨fun _ => KK.out.perm (by simp), ?_⟩
      clear hK' K'
      refine gro.anyM_one 1 (by kernel_rfl) rfl ?_
      intro v132 hz K' hK'
      replace BB := Lib.hid (BB.out.trans (hz.mono BB.out.size))
      replace KK := Lib.hid (KK.out.below hz)
      replace HA3 := Lib.hid ((HA3.out.below hz).more hz.size)
      replace HA4 := Lib.hid ((HA4.out.below hz).more hz.size)
      replace sz := Nat.le_trans sz hz.size
      clear hz
      go_simp
      refine hK' _ _ ⟨fun _ => KK.out.perm (by simp), ?_⟩
      clear hK' K'
      refine gro.anyM_one 2 (by kernel_rfl) rfl ?_
      intro v133 hz K' hK'
      replace BB := Lib.hid (BB.out.trans (hz.mono BB.out.size))
      replace KK := Lib.hid (KK.out.below hz)
      replace HA3 := Lib.hid ((HA3.out.below hz).more hz.size)
      replace HA4 := Lib.hid ((HA4.out.below hz).more hz.size)
      replace sz := Nat.le_trans sz hz.size
      clear hz
      go_simp
      refine hK' _ _ ⟨fun _ => KK.out.perm (by simp), ?_⟩
      clear hK' K'
      (refine gro.anyM_first_all [3, 5, 6] 12 (gro.lasts_bx _) (by kernel_rfl) (by intro _ _ _ _ _ h; exact h) (by kernel_rfl) (by kernel_rfl) (by kernel_rfl) (by kernel_rfl) (by kernel_rfl) (KK.out.perm (by simp)) ?_; apply Exists.intro; refine ⟨fun w0 => ?_, ?_⟩; focus (simp only [gro.pickA, List.filterMap_cons, List.filterMap_nil, List.getElem?_toArray, List.getElem?_cons_succ, List.getElem?_cons_zero]; change wpQuiet _ _ _ _ (_ :: _ :: _ ::  []) _; (repeat (go_big_quiet_step ((fail)))); exact wpQuiet_nil rfl))
      (refine gro.anyM_mid_all [4] 11 (gro.lasts_bx _) (by kernel_rfl) (by intro _ _ _ _ _ h; exact h) (by kernel_rfl) (by kernel_rfl) (by kernel_rfl) (by kernel_rfl) (by kernel_rfl) (by kernel_rfl) (KK.out.perm (by simp)) ?_; apply Exists.intro; refine ⟨fun w0 hb0 => ?_, ?_⟩; focus (have RZ := gro.Bx.rules hb0; simp only [gro.Rules] at RZ; simp only [gro.pickA, List.filterMap_cons, List.filterMap_nil, List.getElem?_toArray, List.getElem?_cons_succ, List.getElem?_cons_zero]; change wpQuiet _ _ _ _ (_ ::  []) _; (repeat (go_big_quiet_step ((fail)))); exact wpQuiet_nil rfl))
      refine gro.anyM_one 7 (by kernel_rfl) rfl ?_
      intro v134 hz K' hK'
      replace BB := Lib.hid (BB.out.trans (hz.mono BB.out.size))
      replace KK := Lib.hid (KK.out.below hz)
      replace HA3 := Lib.hid ((HA3.out.below hz).more hz.size)
      replace HA4 := Lib.hid ((HA4.out.below hz).more hz.size)
      replace sz := Nat.le_trans sz hz.size
      clear hz
      go_simp
      (refine (C5.out _ _ _ _ HA4.out hln4).mono ?_)
      rintro e v135 ⟨A6, n6, c6, rfl, q6, ⟨p6, fr⟩, hr, hb⟩
      replace BB := Lib.hid (BB.out.trans (hb.mono BB.out.size))
      replace KK := Lib.hid (KK.out.below hb)
      replace HA3 := Lib.hid ((HA3.out.below hb).more hb.size)
      replace HA4 := Lib.hid ((HA4.out.below hb).more hb.size)
      have HA6 := Lib.hid hr
      have f_HA6_gx : 0 < n6 → ∀ ad, A6 = some ad → ad.block ≠ gx := fun _ ad h => by have := fr ad h; omega
      replace sz := Nat.le_trans sz hb.size
      clear hb hr fr
      refine hK' _ _ ⟨fun _ => KK.out.perm (by simp), ?_⟩
      clear hK' K'
      rw [hkeq.out] at HA6
      refine gro.anyM_one 8 (by kernel_rfl) rfl ?_
      intro v136 hz K' hK'
      replace BB := Lib.hid (BB.out.trans (hz.mono BB.out.size))
      replace KK := Lib.hid (KK.out.below hz)
      replace HA3 := Lib.hid ((HA3.out.below hz).more hz.size)
      replace HA4 := Lib.hid ((HA4.out.below hz).more hz.size)
      replace HA6 := Lib.hid ((HA6.out.below hz).more hz.size)
      replace sz := Nat.le_trans sz hz.size
      clear hz
      go_simp
      (refine (C7.out _ _ _ _ _ _ _ HA3.out HA6.out).mono ?_)
      rintro e v137 ⟨rfl, hb⟩
      replace BB := Lib.hid (BB.out.trans (hb.mono BB.out.size))
      replace KK := Lib.hid (KK.out.below hb)
      replace HA3 := Lib.hid ((HA3.out.below hb).more hb.size)
      replace HA4 := Lib.hid ((HA4.out.below hb).more hb.size)
      replace HA6 := Lib.hid ((HA6.out.below hb).more hb.size)
      replace sz := Nat.le_trans sz hb.size
      clear hb
      refine hK' _ _ ⟨fun h => absurd (show true = false from h) (by decide), ?_⟩
      clear hK' K'
      clear HA6
      (refine gro.anyM_first_all [9, 10, 11, 12, 15] 4 (gro.lasts_bx _) (by kernel_rfl) (by intro _ _ _ _ _ h; exact h) (by kernel_rfl) (by kernel_rfl) (by kernel_rfl) (by kernel_rfl) (by kernel_rfl) (KK.out.perm (by simp)) ?_; apply Exists.intro; refine ⟨fun w0 => ?_, ?_⟩; focus (simp only [gro.pickA, List.filterMap_cons, List.filterMap_nil, List.getElem?_toArray, List.getElem?_cons_succ, List.getElem?_cons_zero]; change wpQuiet _ _ _ _ (_ :: _ :: _ :: _ :: _ ::  []) _; (repeat (go_big_quiet_step ((fail)))); exact wpQuiet_nil rfl))
      refine gro.anyM_one 13 (by kernel_rfl) rfl ?_
      intro v138 hz K' hK'
      replace BB := Lib.hid (BB.out.trans (hz.mono BB.out.size))
      replace KK := Lib.hid (KK.out.below hz)
      replace HA3 := Lib.hid ((HA3.out.below hz).more hz.size)
      replace HA4 := Lib.hid ((HA4.out.below hz).more hz.size)
      replace sz := Nat.le_trans sz hz.size
      clear hz
      have R138 := KK.out.rules
      simp only [gro.Rules] at R138
      go_simp
      refine hK' _ _ ⟨fun h => absurd (show true = false from h) (by decide), ?_⟩
      clear hK' K'
      clear R138
      (refine gro.anyM_first_all [14, 16] 1 (gro.lasts_bx _) (by kernel_rfl) (by intro _ _ _ _ _ h; exact h) (by kernel_rfl) (by kernel_rfl) (by kernel_rfl) (by kernel_rfl) (by kernel_rfl) (KK.out.perm (by simp)) ?_; apply Exists.intro; refine ⟨fun w0 => ?_, ?_⟩; focus (simp only [gro.pickA, List.filterMap_cons, List.filterMap_nil, List.getElem?_toArray, List.getElem?_cons_succ, List.getElem?_cons_zero]; change wpQuiet _ _ _ _ (_ :: _ ::  []) _; (repeat (go_big_quiet_step ((fail)))); exact wpQuiet_nil rfl))
      refine gro.anyM_one 17 (by kernel_rfl) rfl ?_
      intro v139 hz K' hK'
      replace BB := Lib.hid (BB.out.trans (hz.mono BB.out.size))
      replace KK := Lib.hid (KK.out.below hz)
      replace HA3 := Lib.hid ((HA3.out.below hz).more hz.size)
      replace HA4 := Lib.hid ((HA4.out.below hz).more hz.size)
      replace sz := Nat.le_trans sz hz.size
      clear hz
      go_simp
      refine hK' _ _ ⟨fun h => absurd (show true = false from h) (by decide), ?_⟩
      clear hK' K'
      refine gro.anyM_done (by kernel_rfl) ?_
      intro v140 hz
      replace BB := Lib.hid (BB.out.trans (hz.mono BB.out.size))
      replace KK := Lib.hid (KK.out.below hz)
      replace HA3 := Lib.hid ((HA3.out.below hz).more hz.size)
      replace HA4 := Lib.hid ((HA4.out.below hz).more hz.size)
      replace sz := Nat.le_trans sz hz.size
      clear hz
      have R140 := KK.out.rules
      simp only [gro.Rules] at R140
      go_wp2_with fail
      clear R129
      (refine (C4.out _ _ _ _ HA3.out).mono ?_)
      rintro e v141 ⟨rfl, hb⟩
      replace BB := Lib.hid (BB.out.trans (hb.mono BB.out.size))
      replace KK := Lib.hid (KK.out.below hb)
      replace HA3 := Lib.hid ((HA3.out.below hb).more hb.size)
      replace HA4 := Lib.hid ((HA4.out.below hb).more hb.size)
      replace sz := Nat.le_trans sz hb.size
      clear hb
      have R141 := KK.out.rules
      simp only [gro.Rules] at R141
      generalize hge : (if n3 = 0 then (7 : Int) else 0) = ge
      go_wp2_with fail
      clear R140
      (refine (C6.out _ _ _ _ HA4.out hln4).mono ?_)
      rintro e v142 ⟨rfl, hb⟩
      replace BB := Lib.hid (BB.out.trans (hb.mono BB.out.size))
      replace KK := Lib.hid (KK.out.below hb)
      replace HA3 := Lib.hid ((HA3.out.below hb).more hb.size)
      replace HA4 := Lib.hid ((HA4.out.below hb).more hb.size)
      replace sz := Nat.le_trans sz hb.size
      clear hb
      have R142 := KK.out.rules
      simp only [gro.Rules] at R142
      rw [hbest.out]
      by_cases hz : n3 = 0
      · have hz4 : n4 = 0 := by omega
        rw [if_pos hz] at hge
        subst hge
        rw [decide_eq_false (by omega)]
        go_wp2_with fail
        (refine (H9.out _).mono ?_)
        rintro e wz ⟨rfl, hb⟩
        go_wp2
        go_ret
        exact ⟨rfl, BB.out.trans (hb.mono BB.out.size)⟩
      · rw [if_neg hz] at hge
        subst hge
        rw [decide_eq_true (by omega)]
        go_wp2_with fail
        (refine (H9.out _).mono ?_)
        rintro e wz ⟨rfl, hb⟩
        go_wp2
        go_ret
        exact ⟨rfl, BB.out.trans (hb.mono BB.out.size)⟩
    have hmes : m - (i + 1) < m - i := by omega
    have hmes2 : i + 1 ≤ m := by omega
    obtain ⟨ad, rfl, hblt, hc1, hc2⟩ := mem.PRead.at_ HI.out hlt
    change wr.cell? (ad.add (i * 2)) = some (.int .i64 (buk.at_ its i).1) at hc1
    change wr.cell? ⟨(ad.add (i * 2)).block, (ad.add (i * 2)).off + 1, none⟩ = some (.int .i64 (buk.at_ its i).2) at hc2
    obtain ⟨⟨ha1, ha2⟩, ⟨ha3, ha4⟩, HN⟩ := HA.out i (by rw [HL.out]; exact hlt)
    have HT1 := HT.out hlt
    have HN2 : Hid (i + 1 < m → (buk.at_ its i).1 ≤ (buk.at_ its (i + 1)).1) := fun h => HN (by rw [HL.out]; exact h)
    have hta : Hid (its.take (i + 1) = its.take i ++ [((buk.at_ its i).1, (buk.at_ its i).2)]) := by
      rw [Hid, List.take_succ_eq_append_getElem (by rw [HL.out]; exact hlt), buk.at_, List.getElem?_eq_getElem (by rw [HL.out]; exact hlt)]; rfl
    clear HN HT
    generalize (buk.at_ its i).1 = T at *
    generalize (buk.at_ its i).2 = V at *
    have HR2 := HR.out.adv (t := T) HT1
    have HR3 := HR2.add (x := V) (by omega) (by omega) ⟨ha3, ha4⟩
    have hle2 := lst.expireL_le (T - v + 1) ys
    have hle3 := ext.addL_len a1 V T (lst.expireL (T - v + 1) ys)
    have hg1 := HR.out.val (p := 200) (by omega) ⟨hv1, by omega⟩ (by omega) (by omega)
    have hg2 := HR2.val (p := 200) (by omega) ⟨hv1, by omega⟩ (by omega) (by omega)
    have C1 := Lib.hid (fun W (h : mem.PRead W W.heap.size A n ys) => ext.AdvE_ok (m := a1) (v := v) (p := 200) (o := now) (tt := T) h hnc hcm (by omega) hg1 ⟨HT1, by omega⟩)
    have C2 := Lib.hid (fun A n c W (h : mem.PRead W W.heap.size A n (lst.expireL (T - v + 1) ys)) h1 h2 => ext.AddE_ok (m := a1) (v := v) (p := 200) (o := T) (x := V) (c := c) h h1 h2 (by have := mem.PRead.len h; omega) hg2 ⟨ha3, ha4⟩ (by omega))
    rw [← hta.out] at HR3
    replace HR3 := Lib.hid HR3
    have hln : Hid ((ext.addL a1 V T (lst.expireL (T - v + 1) ys)).length ≤ i + 1) := by rw [Hid]; omega
    clear hg1 hg2 HR HR2 hle2 hle3 hta
    generalize ext.addL a1 V T (lst.expireL (T - v + 1) ys) = yq3 at *
    generalize lst.expireL (T - v + 1) ys = yq2 at *
    have R20 := KK.out.rules
    simp only [gro.Rules] at R20
    obtain ⟨gi, hs_gi⟩ : ∃ s, (wr).heap.size = s := ⟨_, rfl⟩
    have wg_gi : w.heap.size ≤ gi := by have := BB.out.size; omega
    obtain ⟨v21, hv21, K5, B5, z5, P5⟩ := cst.newbox (40) #[Value.int IntKind.i64 T, Value.int IntKind.i64 V] KK.out hs_gi BB.out BB.out.size
    have o_gx_gi : gx < gi := by omega
    have f_HX_gi := (P5 _ _ _ HX.out).2
    replace HX := Lib.hid (P5 _ _ _ HX.out).1
    have f_HI_gi := (P5 _ _ _ HI.out).2
    replace HI := Lib.hid (P5 _ _ _ HI.out).1
    replace KK := Lib.hid K5
    replace BB := Lib.hid B5
    replace sz : gi + 1 ≤ (v21).heap.size := by rw [z5]; exact Nat.le_refl _
    clear K5 B5 P5 z5
    have R21 := KK.out.rules
    simp only [gro.Rules] at R21
    go_wp2_with fail
    clear R20 hv21 hs_gi
    (refine (C1.out _ HX.out).mono ?_)
    rintro e v22 ⟨A3, n3, c3, rfl, q3, ⟨p3, fr⟩, hr, hb⟩
    replace BB := Lib.hid (BB.out.trans (hb.mono BB.out.size))
    replace KK := Lib.hid (KK.out.below hb)
    replace HX := Lib.hid ((HX.out.below hb).more hb.size)
    replace HI := Lib.hid ((HI.out.below hb).more hb.size)
    have HA3 := Lib.hid hr
    have f_HA3_gi : 0 < n3 → ∀ ad, A3 = some ad → ad.block ≠ gi := fun _ ad h => by have := fr ad h; omega
    have f_HA3_gx : 0 < n3 → ∀ ad, A3 = some ad → ad.block ≠ gx := fun _ ad h => by have := fr ad h; omega
    replace sz := Nat.le_trans sz hb.size
    clear hb hr fr
    have R22 := KK.out.rules
    simp only [gro.Rules] at R22
    clear HX
    have KP := KK.out.perm (L' := [(gx, 24, #[Value.bool a1, Value.int IntKind.i64 v, Value.int IntKind.i64 200, Value.int IntKind.i64 now, Value.slice A n c]), (gi, 40, #[Value.int IntKind.i64 T, Value.int IntKind.i64 V])]) (by simp)
    obtain ⟨v23, hv23, K5, B5, z5, P5⟩ := cst.putC (Value.bool a1) (Value.int IntKind.i64 v) (Value.int IntKind.i64 200) (Value.int IntKind.i64 T) (Value.slice A3 n3 c3) KP (by simp <;> omega) BB.out wg_gx
    replace HI := Lib.hid (P5 _ _ _ HI.out f_HI_gx)
    replace HA3 := Lib.hid (P5 _ _ _ HA3.out f_HA3_gx)
    replace KK := Lib.hid K5
    replace BB := Lib.hid B5
    rw [← z5] at sz
    clear K5 B5 P5 KP z5
    have R23 := KK.out.rules
    simp only [gro.Rules] at R23
    go_wp2_with fail
    clear R21 R22 hv23
    (refine (C2.out _ _ _ _ HA3.out q3 p3).mono ?_)
    rintro e v24 ⟨A4, n4, c4, rfl, q4, ⟨p4, fr⟩, hr, hb⟩
    replace BB := Lib.hid (BB.out.trans (hb.mono BB.out.size))
    replace KK := Lib.hid (KK.out.below hb)
    replace HI := Lib.hid ((HI.out.below hb).more hb.size)
    replace HA3 := Lib.hid ((HA3.out.below hb).more hb.size)
    have HA4 := Lib.hid hr
    have f_HA4_gx : 0 < n4 → ∀ ad, A4 = some ad → ad.block ≠ gx := fun _ ad h => by have := fr ad h; omega
    have f_HA4_gi : 0 < n4 → ∀ ad, A4 = some ad → ad.block ≠ gi := fun _ ad h => by have := fr ad h; omega
    have fx4 : ∀ ad, A4 = some ad → gx < ad.block := fun ad h => by have := fr ad h; omega
    replace sz := Nat.le_trans sz hb.size
    clear hb hr fr
    have R24 := KK.out.rules
    simp only [gro.Rules] at R24
    clear HA3
    have KP := KK.out.perm (L' := [(gx, 24, #[Value.bool a1, Value.int IntKind.i64 v, Value.int IntKind.i64 200, Value.int IntKind.i64 T, Value.slice A3 n3 c3]), (gi, 40, #[Value.int IntKind.i64 T, Value.int IntKind.i64 V])]) (by simp)
    obtain ⟨v25, hv25, K5, B5, z5, P5⟩ := cst.putC (Value.bool a1) (Value.int IntKind.i64 v) (Value.int IntKind.i64 200) (Value.int IntKind.i64 T) (Value.slice A4 n4 c4) KP (by simp <;> omega) BB.out wg_gx
    replace HI := Lib.hid (P5 _ _ _ HI.out f_HI_gx)
    replace HA4 := Lib.hid (P5 _ _ _ HA4.out f_HA4_gx)
    replace KK := Lib.hid K5
    replace BB := Lib.hid B5
    rw [← z5] at sz
    clear K5 B5 P5 KP z5
    have R25 := KK.out.rules
    simp only [gro.Rules] at R25
    have hl4 := mem.PRead.len HA4.out
    have hn4 : n4 ≤ i + 1 := by have := hln.out; omega
    have hsz2 : gx + 1 ≤ (v25).heap.size := by omega
    go_wp2_with fail
    clear R23 R24 hv25
    go_roundg (m - (i + 1))
    case measure => omega
    case rel => exact ⟨i + 1, A4, n4, c4, yq3, T, by go_num, rfl, hmes2, Nat.le_refl _, q4, p4, ha1, ha2, HN2.out, hn4, HR3.out, HA4.out, HI.out, Lib.hid fx4, KK.out.perm (by simp), BB.out, hsz2⟩
end Go.Proofs.Yteajgmihhnghfaa.extremeTruth
