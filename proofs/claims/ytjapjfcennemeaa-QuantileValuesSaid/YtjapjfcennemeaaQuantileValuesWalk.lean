/- QuantileValuesWalk: proved here in one text, no conditions beyond those that each theorem states. -/
import Derived.Test.YtjapjfcennemeaaRows
import Derived.Deep.Strs
import Derived.WalkKit
import Derived.ProofKit
import Derived.OpenShut
import Derived.ShutString
import Derived.Test.YtjapjfcennemeaaZ2
import Derived.Test.YtjapjfcennemeaaZ48
import Derived.Test.YtjapjfcennemeaaZ3
import Derived.Test.YtjapjfcennemeaaZ32
import Derived.Test.YtjapjfcennemeaaZ21
import Derived.Test.YtjapjfcennemeaaZ23
import Derived.Test.YtjapjfcennemeaaZ22
import Derived.Test.YtjapjfcennemeaaZ25
import Derived.Test.YtjapjfcennemeaaZ20
import Derived.Test.YtjapjfcennemeaaZ1
set_option linter.unusedVariables false
set_option linter.unusedSimpArgs false
namespace Go.Proofs.Ytjapjfcennemeaa.quantileValues
open Go.ChangeShapes Go.WideShapes Go.ChangeAt Go.RowKit
open Go.ChangeMaps (open_string shut_string)
set_option linter.unusedVariables false
set_option maxHeartbeats 4000000 in
set_option maxRecDepth 100000 in
theorem walk (A0 : Option Addr) (n0 c0 : Nat) (z0 : List (Int × Int)) (a1 : Int) (a2 : Int) (a3 : Int) (a4 : Int) (a5 : Int) (a6 : Int) (w : World) (iw0 : mem.PRead w w.heap.size A0 n0 z0) (e0 : n0 ≤ c0) (m0 : c0 ≤ maxLen) (r0 : ∀ p ∈ z0, opn.Rng p.1 ∧ opn.Rng p.2) (iw1 : opn.Rng a1) (iw2 : opn.Rng a2) (iw3 : opn.Rng a3) (iw4 : opn.Rng a4) (iw5 : opn.Rng a5) (iw6 : opn.Rng a6) :
    Calls Try.prog 11 #[.slice A0 n0 c0, .int .i64 a1, .int .i64 a2, .int .i64 a3, .int .i64 a4, .int .i64 a5, .int .i64 a6] w fun e w' => e = .returned (.bool true) ∧ Below w.heap.size w w' := by
  have HZ := Lib.hid iw0
  have M0 := Lib.hid (fun W => made.Window_any a1 a2 a3 W iw1 iw2 iw3)
  have M5 := Lib.hid (fun W => made.Mod_any a5 30 W iw5 (by omega) (by omega))
  obtain ⟨wd, hwd⟩ : ∃ k : Int, 1 + a1 % 25 = k := ⟨_, rfl⟩
  obtain ⟨k, hk⟩ : ∃ k : Int, 1 + a2 % 4 = k := ⟨_, rfl⟩
  obtain ⟨x5, hx5⟩ : ∃ k : Int, a5 % 30 = k := ⟨_, rfl⟩
  obtain ⟨q, hq⟩ : ∃ k : Int, 1 + x5 = k := ⟨_, rfl⟩
  rw [hwd, hk] at M0
  rw [hx5] at M5
  have hw1 : 1 ≤ wd := by omega
  have hw2 : wd ≤ 25 := by omega
  have hk1 : 1 ≤ k := by omega
  have hk2 : k ≤ 4 := by omega
  have hq1 : 1 ≤ q := by omega
  have hq2 : q ≤ 30 := by omega
  have hsq : IntKind.i64.wrap (1 + x5) = q := by rw [hq]; exact IntWalk.i64_in _ (by omega)
  have hsq1 : IntKind.i64.wrap (q + 1) = q + 1 := IntWalk.i64_in _ (by omega)
  have M4 := Lib.hid (fun W => made.Mod_any a4 (q + 1) W iw4 (by omega) (by omega))
  have M6 := Lib.hid (fun W => made.Mod_any a6 (2 * wd + 2) W iw6 (by omega) (by omega))
  have b40 : 0 ≤ a4 % (q + 1) := Int.emod_nonneg _ (by omega)
  have b41 : a4 % (q + 1) < q + 1 := Int.emod_lt_of_pos _ (by omega)
  have b60 : 0 ≤ a6 % (2 * wd + 2) := Int.emod_nonneg _ (by omega)
  have b61 : a6 % (2 * wd + 2) < 2 * wd + 2 := Int.emod_lt_of_pos _ (by omega)
  clear iw1 iw2 iw3 iw4 iw5 iw6 iw0 hwd hk hx5 hq
  generalize a4 % (q + 1) = pp at *
  generalize a6 % (2 * wd + 2) = x6 at *
  have hA : Hid (rnk.asksQ pp q) := ⟨hq1, b40, by omega⟩
  have s1 : IntKind.i64.wrap (2 * wd) = 2 * wd := IntWalk.i64_in _ (by omega)
  have s2 : IntKind.i64.wrap (2 * wd + 2) = 2 * wd + 2 := IntWalk.i64_in _ (by omega)
  have s3 : wrap64 (2 * wd) = 2 * wd := (rnk.wrapE _).trans s1
  have s4 : wrap64 (2 * wd + 2) = 2 * wd + 2 := (rnk.wrapE _).trans s2
  have H3 := Lib.hid (fun W (hb : Below w.heap.size w W) => made.Items_any A0 n0 c0 z0 wd 100 W ((HZ.out.below hb).more hb.size) r0 e0 m0 (by omega) (by omega))
  have H9 := Lib.hid (fun W => qtl.awake23_any W)
  clear r0 e0 m0
  go_enter Try.func11, Try.ntmps11
  go_wp2_with fail
  (with_reducible refine (M0.out _).mono ?_)
  rintro e w1 ⟨⟨cap, rfl, hc1, hc2⟩, rfl⟩
  go_wp2_with fail
  (with_reducible refine (M5.out _).mono ?_)
  rintro e w1 ⟨rfl, rfl⟩
  go_wp2_with fail
  (with_reducible refine (M4.out _).mono ?_)
  rintro e w1 ⟨rfl, rfl⟩
  go_wp2_with fail
  clear M0 M4 M5 hsq hsq1
  (refine (H3.out _ (Below.refl _ _)).mono ?_)
  rintro e w2 ⟨u, its, rfl, hown, hlm, hok, hbl⟩
  have HA := Lib.hid (made.ItOk.asc hok (by omega) (by omega))
  obtain ⟨A1, c1, rfl, i1, i2, i3⟩ := mem.own_form hown
  obtain ⟨m, hm⟩ : ∃ m, its.length = m := ⟨_, rfl⟩
  rw [hm] at hlm i1 i3
  have HI := Lib.hid i3
  have BB := Lib.hid hbl
  clear hown hok hbl i3 H3 HZ
  simp only [hm]
  have i2' : c1 ≤ 9223372036854775807 := i2
  clear hm
  go_wp2_with fail
  refine (qtl.runQ_any A1 m c1 its k cap wd _ HI.out i1 i2 HA.out (by omega) ⟨hk1, by omega⟩ ⟨hc1, hc2⟩ ⟨hw1, by omega⟩).mono ?_
  rintro e w3 ⟨A, n, c, ys, B, d, added, now, rfl, hnc, hcm, hX, hd1, hd2, hB, hR, hal, hnow, hb⟩
  replace BB := Lib.hid (BB.out.trans (hb.mono BB.out.size))
  have HX := Lib.hid hX
  have HB := Lib.hid hB
  have HR := Lib.hid hR
  have hd2' : d ≤ 9223372036854775807 := hd2
  have hn0 : 0 ≤ now := hR.run.pos
  clear hX hB hR hb HI HA i1 i2 i2'
  obtain ⟨gs, hgs⟩ : ∃ s, w3.heap.size = s := ⟨_, rfl⟩
  have wg_gs : w.heap.size ≤ gs := by have := BB.out.size; omega
  have HC : Hid (qtl.Off gs n A ys) := by rw [Hid, ← hgs]; exact qtl.off_old HX.out
  have f_HB : 0 < added.length → ∀ ad, B = some ad → ad.block ≠ gs := by rw [← hgs]; exact qtl.PRead.off HB.out
  go_upto_region 5 with fail
  obtain ⟨w4, hW, K2, B2, z2, hb⟩ := qtl.newboxQ 70 #[Value.int IntKind.i64 wd, Value.int IntKind.i64 k, Value.int IntKind.i64 cap, Value.int IntKind.i64 now, Value.slice A n c] (gro.Bx.nil_ (W := w3)) hgs BB.out BB.out.size
  rw [hW]
  clear hW
  have KK := Lib.hid K2
  replace BB := Lib.hid B2
  replace HX := Lib.hid ((HX.out.below hb).more hb.size)
  replace HB := Lib.hid ((HB.out.below hb).more hb.size)
  have sz : gs + 1 ≤ w4.heap.size := by omega
  clear K2 B2 z2 hb hgs
  have R := KK.out.rules
  simp only [gro.Rules] at R
  go_wp2_with fail
  clear R
  have s5 : IntKind.i64.wrap (now + x6) = now + x6 := IntWalk.i64_in _ (by omega)
  have s6 : wrap64 (now + x6) = now + x6 := (rnk.wrapE _).trans s5
  have C1 := Lib.hid (fun W (h : mem.BRead W W.heap.size A n ys) (hg : gs < W.heap.size) => qtl.adv_off (c := c) (now + x6) HR.out (by omega) h hnc hcm HC.out hg ⟨by omega, by omega⟩)
  (refine gro.wp_region_heldA [0, 1, 2, 3, 4, 5, 6, 7, 8] 6 13 _ (gro.lasts_bx _) (by kernel_rfl) (by kernel_rfl) (by intro _ _ _ _ _ h; exact h) (by kernel_rfl) (by kernel_rfl) (by kernel_rfl) (by kernel_rfl) (by kernel_rfl) (by decide) (KK.out).drew ?_; apply Exists.intro; refine ⟨fun w0 hb0 => ?_, ?_⟩; focus (have RZ := gro.Bx.rules hb0; simp only [gro.Rules] at RZ; simp only [gro.pickA, List.filterMap_cons, List.filterMap_nil, List.getElem?_toArray, List.getElem?_cons_succ, List.getElem?_cons_zero]; change wpQuiet _ _ _ _ (_ :: _ :: _ :: _ :: _ :: _ :: _ :: _ :: _ ::  []) _; (repeat (go_big_quiet_step ((go_at_call 38; exact gro.call_same (M6.out _))))); exact wpQuiet_nil rfl))
  replace BB := Lib.hid BB.out.drew
  replace KK := Lib.hid KK.out.drew
  replace HX := Lib.hid (show mem.BRead (w4.drew) (w4.drew).heap.size _ _ _ from ⟨mem.Reads.drew HX.out.1, fun b hb => ⟨mem.Reads.drew (HX.out.2 b hb).1, (HX.out.2 b hb).2⟩⟩)
  replace HB := Lib.hid (show mem.PRead (w4.drew) (w4.drew).heap.size _ _ _ from mem.Reads.drew HB.out)
  replace sz := (show gs + 1 ≤ (w4.drew).heap.size from sz)
  generalize w4.drew = v1 at *
  refine gro.anyM_one 9 (by kernel_rfl) rfl ?_
  intro v2 hz K' hK'
  replace BB := Lib.hid (BB.out.trans (hz.mono BB.out.size))
  replace KK := Lib.hid (KK.out.below hz)
  replace HX := Lib.hid ((HX.out.below hz).more hz.size)
  replace HB := Lib.hid ((HB.out.below hz).more hz.size)
  replace sz := Nat.le_trans sz hz.size
  clear hz
  go_simp
  refine (C1.out _ HX.out (by omega)).mono ?_
  rintro e v3 ⟨A3, n3, c3, zs, rfl, q1, q2, q3, q4, q5, hb⟩
  clear HX HR HC C1
  replace BB := Lib.hid (BB.out.trans (hb.mono BB.out.size))
  replace KK := Lib.hid (KK.out.below hb)
  replace HB := Lib.hid ((HB.out.below hb).more hb.size)
  replace sz := Nat.le_trans sz hb.size
  clear hb
  have HX := Lib.hid q3
  have HR := Lib.hid q4
  have HC := Lib.hid q5
  clear q3 q4 q5
  refine hK' _ _ ⟨fun _ => KK.out.perm (by simp), ?_⟩
  clear hK' K'
  refine gro.anyM_one 10 (by kernel_rfl) rfl ?_
  intro v4 hz K' hK'
  replace BB := Lib.hid (BB.out.trans (hz.mono BB.out.size))
  replace KK := Lib.hid (KK.out.below hz)
  replace HX := Lib.hid ((HX.out.below hz).more hz.size)
  replace HB := Lib.hid ((HB.out.below hz).more hz.size)
  replace sz := Nat.le_trans sz hz.size
  clear hz
  go_simp
  refine hK' _ _ ⟨fun _ => KK.out.perm (by simp), ?_⟩
  clear hK' K'
  (refine gro.anyM_first_all [11, 12] 2 (gro.lasts_bx _) (by kernel_rfl) (by intro _ _ _ _ _ h; exact h) (by kernel_rfl) (by kernel_rfl) (by kernel_rfl) (by kernel_rfl) (by kernel_rfl) (KK.out.perm (by simp)) ?_; apply Exists.intro; refine ⟨fun w0 => ?_, ?_⟩; focus (simp only [gro.pickA, List.filterMap_cons, List.filterMap_nil, List.getElem?_toArray, List.getElem?_cons_succ, List.getElem?_cons_zero]; change wpQuiet _ _ _ _ (_ :: _ ::  []) _; (repeat (go_big_quiet_step ((fail)))); exact wpQuiet_nil rfl))
  refine gro.anyM_one 13 (by kernel_rfl) rfl ?_
  intro v5 hz K' hK'
  replace BB := Lib.hid (BB.out.trans (hz.mono BB.out.size))
  replace KK := Lib.hid (KK.out.below hz)
  replace HX := Lib.hid ((HX.out.below hz).more hz.size)
  replace HB := Lib.hid ((HB.out.below hz).more hz.size)
  replace sz := Nat.le_trans sz hz.size
  clear hz
  have R := KK.out.rules
  simp only [gro.Rules] at R
  go_simp
  refine hK' _ _ ?_
  clear hK' K' R
  obtain ⟨y1, hy1, K5, B5, z5, P5, O5⟩ := qtl.putN (Value.int IntKind.i64 wd) (Value.int IntKind.i64 k) (Value.int IntKind.i64 cap) (Value.int IntKind.i64 (now + x6)) (Value.slice A3 n3 c3) KK.out (by simp) BB.out wg_gs
  rw [hy1]
  refine ⟨fun h => absurd (show true = false from h) (by decide), ?_⟩
  replace HX := Lib.hid (P5 _ _ _ HX.out HC.out)
  replace HB := Lib.hid (O5 _ _ _ HB.out f_HB)
  replace KK := Lib.hid K5
  replace BB := Lib.hid B5
  rw [← z5] at sz
  clear P5 O5 K5 B5 z5 hy1
  refine gro.anyM_one 14 (by kernel_rfl) rfl ?_
  intro v6 hz K' hK'
  replace BB := Lib.hid (BB.out.trans (hz.mono BB.out.size))
  replace KK := Lib.hid (KK.out.below hz)
  replace HX := Lib.hid ((HX.out.below hz).more hz.size)
  replace HB := Lib.hid ((HB.out.below hz).more hz.size)
  replace sz := Nat.le_trans sz hz.size
  clear hz
  go_simp
  refine hK' _ _ ⟨fun h => absurd (show true = false from h) (by decide), ?_⟩
  clear hK' K'
  refine gro.anyM_done (by kernel_rfl) ?_
  intro v7 hz
  replace BB := Lib.hid (BB.out.trans (hz.mono BB.out.size))
  replace KK := Lib.hid (KK.out.below hz)
  replace HX := Lib.hid ((HX.out.below hz).more hz.size)
  replace HB := Lib.hid ((HB.out.below hz).more hz.size)
  replace sz := Nat.le_trans sz hz.size
  clear hz
  clear s1 s2 s3 s4 s5 s6 M6 hnc hcm HC f_HB
  have hT : 0 ≤ now + x6 ∧ now + x6 ≤ 100100 := by omega
  generalize now + x6 = T at *
  clear hn0 hnow b60 b61
  have R := KK.out.rules
  simp only [gro.Rules] at R
  go_wp2_with fail
  refine (made.Live_any B added.length d added T wd _ HB.out hd1 hd2 (by omega) (by omega) (by omega)).mono ?_
  rintro e v8 ⟨A9, m9, c9, rfl, p1, ⟨p2, _⟩, p3, hb⟩
  clear HB R
  replace BB := Lib.hid (BB.out.trans (hb.mono BB.out.size))
  replace KK := Lib.hid (KK.out.below hb)
  replace HX := Lib.hid ((HX.out.below hb).more hb.size)
  replace sz := Nat.le_trans sz hb.size
  clear hb
  have HV := Lib.hid p3
  have hvl := mem.PRead.len HV.out
  have hll : (made.liveI T wd added).length = (rnk.liveV T wd added).length := by rw [rnk.liveV_eq, List.length_map]; rfl
  have hlv : (rnk.liveV T wd added).length ≤ 100 := by
    rw [rnk.liveV_eq, List.length_map]
    exact Nat.le_trans (List.length_filter_le _ _) (by omega)
  have hlm2 : (made.liveI T wd added).map Prod.snd = rnk.liveV T wd added := rfl
  rw [hll] at hvl
  clear p3
  have p2' : c9 ≤ 9223372036854775807 := p2
  have hln := qtl.run_len HR.out (by omega) HX.out
  have D3 := Lib.hid (fun W (h : mem.BRead W W.heap.size A3 n3 zs) => qtl.ValueQ_any wd k cap T pp q A3 n3 c3 zs W h (by omega) q1 q2 (by omega) (by omega) (by omega) (fun _ => hln.2))
  have hyl := HX.out.len
  cases hzs : zs with
  | nil =>
    subst hzs
    obtain ⟨e1, e2⟩ := qtl.RunQ.none_ HR.out hA.out
    have e1 : qtl.valQ (List.map blk.bkey []) wd k cap T pp q = (0, 7) := e1
    rw [e1] at D3
    rw [e2] at hvl
    obtain rfl : m9 = 0 := hvl.symm
    have h20b : (((0 : Nat) : Int) == 0) = true := rfl
    have R := KK.out.rules
    simp only [gro.Rules] at R
    go_wp2_with fail
    refine (D3.out _ HX.out).mono ?_
    rintro e v10 ⟨rfl, hb⟩
    clear R HX D3
    replace BB := Lib.hid (BB.out.trans (hb.mono BB.out.size))
    replace KK := Lib.hid (KK.out.below hb)
    clear hb
    go_wp2_with fail
    refine (H9.out _).mono ?_
    rintro e v11 ⟨rfl, hb⟩
    replace BB := Lib.hid (BB.out.trans (hb.mono BB.out.size))
    clear hb
    go_wp2
    go_ret
    exact ⟨rfl, BB.out⟩
  | cons y yr =>
    subst hzs
    have HR1 : qtl.RunQ (blk.bkey y :: yr.map blk.bkey) k cap wd T added := HR.out
    obtain ⟨u, f1, f2, f3, f4, f5⟩ := HR1.val (by omega) hA.out
    rw [List.map_cons, f1] at D3
    simp only [] at D3
    have E2 := Lib.hid (fun W (h : mem.PRead W W.heap.size A9 m9 (made.liveI T wd added)) => rnk.Rank8_any A9 m9 c9 (made.liveI T wd added) u W h (by omega))
    have E3 := Lib.hid (fun W (h : mem.PRead W W.heap.size A9 m9 (made.liveI T wd added)) => rnk.Below8_any A9 m9 c9 (made.liveI T wd added) u W h (by omega))
    rw [hlm2] at E2 E3
    have g2 := rnk.rk_le (rnk.liveV T wd added) u
    have g3 := rnk.bl_nn (rnk.liveV T wd added) u
    rw [hvl] at hlv f2 f4 f5 g2
    have hTg := Lib.hid (fun W => rnk.Target_any pp q m9 W hA.out (by omega) (by omega))
    have hWt := Lib.hid (show rnk.wantT pp q m9 = if 0 < pp then rnk.tgtQ pp q m9 else 0 from rfl)
    have hTb := Lib.hid (rnk.tgtQ_bd hA.out (show 1 ≤ (m9 : Int) by omega))
    clear hvl hll hlm2 HR HR1 hyl hln f1
    generalize rnk.rk (rnk.liveV T wd added) u = ru at *
    generalize rnk.bl (rnk.liveV T wd added) u = bu at *
    generalize rnk.wantT pp q m9 = Tw at *
    have hT0 : 0 ≤ Tw ∧ Tw ≤ 100 := by have h := hWt.out; have h2 := hTb.out; split at h <;> omega
    have hov : ∀ x : Int, -1000 ≤ x → x ≤ 1000 → -4000 ≤ k * x ∧ k * x ≤ 4000 := by
      intro x h1 h2
      rcases (show k = 1 ∨ k = 2 ∨ k = 3 ∨ k = 4 by omega) with h | h | h | h <;> rw [h] <;> omega
    have ho1 := hov (bu + 1 - Tw - 1) (by omega) (by omega)
    have ho2 := hov (Tw - 1 - ru) (by omega) (by omega)
    have s31 : IntKind.i64.wrap (bu + 1) = bu + 1 := IntWalk.i64_in _ (by omega)
    have s32 : IntKind.i64.wrap (bu + 1 - Tw) = bu + 1 - Tw := IntWalk.i64_in _ (by omega)
    have s33 : IntKind.i64.wrap (bu + 1 - Tw - 1) = bu + 1 - Tw - 1 := IntWalk.i64_in _ (by omega)
    have s34 : IntKind.i64.wrap (k * (bu + 1 - Tw - 1)) = k * (bu + 1 - Tw - 1) := IntWalk.i64_in _ (by omega)
    have s35 : IntKind.i64.wrap (Tw - 1) = Tw - 1 := IntWalk.i64_in _ (by omega)
    have s36 : IntKind.i64.wrap (Tw - 1 - ru) = Tw - 1 - ru := IntWalk.i64_in _ (by omega)
    have s37 : IntKind.i64.wrap (k * (Tw - 1 - ru)) = k * (Tw - 1 - ru) := IntWalk.i64_in _ (by omega)
    have h20 : ¬ (m9 : Int) = 0 := by omega
    have h20b : ((m9 : Int) == 0) = false := by simp; omega
    clear ho1 ho2 hov
    have R := KK.out.rules
    simp only [gro.Rules] at R
    go_wp2_with fail
    refine (D3.out _ HX.out).mono ?_
    rintro e v9 ⟨rfl, hb⟩
    clear R HX D3
    replace BB := Lib.hid (BB.out.trans (hb.mono BB.out.size))
    replace KK := Lib.hid (KK.out.below hb)
    replace HV := Lib.hid ((HV.out.below hb).more hb.size)
    clear hb
    clear KK
    by_cases hp : 0 < pp
    case pos =>
      have hTT := hWt.out
      rw [if_pos hp] at hTT
      rw [← hTT] at hTg
      clear hTT hWt hTb
      go_wp2_with fail
      refine (hTg.out _).mono ?_
      rintro e v7 ⟨rfl, hb⟩
      replace BB := Lib.hid (BB.out.trans (hb.mono BB.out.size))
      replace HV := Lib.hid ((HV.out.below hb).more hb.size)
      clear hb hTg
      go_wp2_with fail
      refine (E3.out _ HV.out).mono ?_
      rintro e v10 ⟨rfl, hb⟩
      replace BB := Lib.hid (BB.out.trans (hb.mono BB.out.size))
      replace HV := Lib.hid ((HV.out.below hb).more hb.size)
      clear hb
      go_wp2_with fail
      refine (E2.out _ HV.out).mono ?_
      rintro e v11 ⟨rfl, hb⟩
      replace BB := Lib.hid (BB.out.trans (hb.mono BB.out.size))
      clear hb HV
      go_wp2_with fail
      refine (H9.out _).mono ?_
      rintro e v12 ⟨rfl, hb⟩
      replace BB := Lib.hid (BB.out.trans (hb.mono BB.out.size))
      clear hb
      go_wp2
      go_ret
      exact ⟨rfl, BB.out⟩
    have hTT := hWt.out
    rw [if_neg hp] at hTT
    subst hTT
    have t1 : bu + 1 - 0 - 1 = bu := by omega
    have t2 : (0 : Int) - 1 - ru = -1 - ru := by omega
    rw [t1] at f4 s34 s33
    rw [t2] at f5 s37 s36
    clear hWt hTb hTg t1 t2 s32 s33 s35
    go_wp2_with fail
    refine (E3.out _ HV.out).mono ?_
    rintro e v10 ⟨rfl, hb⟩
    replace BB := Lib.hid (BB.out.trans (hb.mono BB.out.size))
    replace HV := Lib.hid ((HV.out.below hb).more hb.size)
    clear hb
    go_wp2_with fail
    refine (E2.out _ HV.out).mono ?_
    rintro e v11 ⟨rfl, hb⟩
    replace BB := Lib.hid (BB.out.trans (hb.mono BB.out.size))
    clear hb HV
    go_wp2_with fail
    refine (H9.out _).mono ?_
    rintro e v12 ⟨rfl, hb⟩
    replace BB := Lib.hid (BB.out.trans (hb.mono BB.out.size))
    clear hb
    go_wp2
    go_ret
    exact ⟨rfl, BB.out⟩
end Go.Proofs.Ytjapjfcennemeaa.quantileValues
