/- QuantileRanksWalk: proved here in one text, no conditions beyond those that each theorem states. -/
import Derived.Test.YtjapjfcennemeaaRows
import Derived.Deep.Strs
import Derived.WalkKit
import Derived.ProofKit
import Derived.OpenShut
import Derived.ShutString
import Derived.Test.YtjapjfcennemeaaZ2
import Derived.Test.YtjapjfcennemeaaZ48
import Derived.Test.YtjapjfcennemeaaZ43
import Derived.Test.YtjapjfcennemeaaZ3
import Derived.Test.YtjapjfcennemeaaZ32
import Derived.Test.YtjapjfcennemeaaZ21
import Derived.Test.YtjapjfcennemeaaZ23
import Derived.Test.YtjapjfcennemeaaZ22
import Derived.Test.YtjapjfcennemeaaZ25
import Derived.Test.YtjapjfcennemeaaZ20
import Derived.Test.YtjapjfcennemeaaZ1
set_option linter.unusedVariables false
set_option linter.unusedSimpArgs false
namespace Go.Proofs.Ytjapjfcennemeaa.quantileRanks
open Go.ChangeShapes Go.WideShapes Go.ChangeAt Go.RowKit
open Go.ChangeMaps (open_string shut_string)
set_option linter.unusedVariables false
set_option maxHeartbeats 4000000 in
set_option maxRecDepth 100000 in
theorem walk (A0 : Option Addr) (n0 c0 : Nat) (z0 : List (Int × Int)) (a1 : Int) (a2 : Int) (a3 : Int) (a4 : Int) (a5 : Int) (w : World) (iw0 : mem.PRead w w.heap.size A0 n0 z0) (e0 : n0 ≤ c0) (m0 : c0 ≤ maxLen) (r0 : ∀ p ∈ z0, opn.Rng p.1 ∧ opn.Rng p.2) (iw1 : opn.Rng a1) (iw2 : opn.Rng a2) (iw3 : opn.Rng a3) (iw4 : opn.Rng a4) (iw5 : opn.Rng a5) :
    Calls Try.prog 12 #[.slice A0 n0 c0, .int .i64 a1, .int .i64 a2, .int .i64 a3, .int .i64 a4, .int .i64 a5] w fun e w' => e = .returned (.bool true) ∧ Below w.heap.size w w' := by
  have HZ := Lib.hid iw0
  have M0 := Lib.hid (fun W => made.Window_any a1 a2 a3 W iw1 iw2 iw3)
  obtain ⟨wd, hwd⟩ : ∃ k : Int, 1 + a1 % 25 = k := ⟨_, rfl⟩
  obtain ⟨k, hk⟩ : ∃ k : Int, 1 + a2 % 4 = k := ⟨_, rfl⟩
  rw [hwd, hk] at M0
  have hw1 : 1 ≤ wd := by omega
  have hw2 : wd ≤ 25 := by omega
  have hk1 : 1 ≤ k := by omega
  have hk2 : k ≤ 4 := by omega
  have M6 := Lib.hid (fun W => made.Mod_any a5 (2 * wd + 2) W iw5 (by omega) (by omega))
  have b60 : 0 ≤ a5 % (2 * wd + 2) := Int.emod_nonneg _ (by omega)
  have b61 : a5 % (2 * wd + 2) < 2 * wd + 2 := Int.emod_lt_of_pos _ (by omega)
  clear iw1 iw2 iw3 iw4 iw5 iw0 hwd hk
  generalize a5 % (2 * wd + 2) = x6 at *
  have s1 : IntKind.i64.wrap (2 * wd) = 2 * wd := IntWalk.i64_in _ (by omega)
  have s2 : IntKind.i64.wrap (2 * wd + 2) = 2 * wd + 2 := IntWalk.i64_in _ (by omega)
  have s3 : wrap64 (2 * wd) = 2 * wd := (rnk.wrapE _).trans s1
  have s4 : wrap64 (2 * wd + 2) = 2 * wd + 2 := (rnk.wrapE _).trans s2
  have H3 := Lib.hid (fun W (hb : Below w.heap.size w W) => made.Items_any A0 n0 c0 z0 wd 100 W ((HZ.out.below hb).more hb.size) r0 e0 m0 (by omega) (by omega))
  have H9 := Lib.hid (fun W => qtl.awake23_any W)
  clear r0 e0 m0
  go_enter Try.func12, Try.ntmps12
  go_wp2_with fail
  (with_reducible refine (M0.out _).mono ?_)
  rintro e w1 ⟨⟨cap, rfl, hc1, hc2⟩, rfl⟩
  go_wp2_with fail
  clear M0
  (refine (H3.out _ (Below.refl _ _)).mono ?_)
  rintro e w2 ⟨u, its, rfl, hown, hlm, hok, hbl⟩
  have HA := Lib.hid (made.ItOk.asc hok (by omega) (by omega))
  obtain ⟨A1, c1, rfl, i1, i2, i3⟩ := mem.own_form hown
  obtain ⟨m, hm⟩ : ∃ m, its.length = m := ⟨_, rfl⟩
  rw [hm] at hlm i1 i3
  have HI := Lib.hid i3
  have BB := Lib.hid hbl
  clear hown hok hbl i3 H3 HZ
  simp only [hm]
  have i2' : c1 ≤ 9223372036854775807 := i2
  clear hm
  go_wp2_with fail
  refine (qtl.runQ_any A1 m c1 its k cap wd _ HI.out i1 i2 HA.out (by omega) ⟨hk1, by omega⟩ ⟨hc1, hc2⟩ ⟨hw1, by omega⟩).mono ?_
  rintro e w3 ⟨A, n, c, ys, B, d, added, now, rfl, hnc, hcm, hX, hd1, hd2, hB, hR, hal, hnow, hb⟩
  replace BB := Lib.hid (BB.out.trans (hb.mono BB.out.size))
  have HX := Lib.hid hX
  have HB := Lib.hid hB
  have HR := Lib.hid hR
  have hd2' : d ≤ 9223372036854775807 := hd2
  have hn0 : 0 ≤ now := hR.run.pos
  clear hX hB hR hb HI HA i1 i2 i2'
  obtain ⟨gs, hgs⟩ : ∃ s, w3.heap.size = s := ⟨_, rfl⟩
  have wg_gs : w.heap.size ≤ gs := by have := BB.out.size; omega
  have HC : Hid (qtl.Off gs n A ys) := by rw [Hid, ← hgs]; exact qtl.off_old HX.out
  have f_HB : 0 < added.length → ∀ ad, B = some ad → ad.block ≠ gs := by rw [← hgs]; exact qtl.PRead.off HB.out
  go_upto_region 3 with fail
  obtain ⟨w4, hW, K2, B2, z2, hb⟩ := qtl.newboxQ 70 #[Value.int IntKind.i64 wd, Value.int IntKind.i64 k, Value.int IntKind.i64 cap, Value.int IntKind.i64 now, Value.slice A n c] (gro.Bx.nil_ (W := w3)) hgs BB.out BB.out.size
  rw [hW]
  clear hW
  have KK := Lib.hid K2
  replace BB := Lib.hid B2
  replace HX := Lib.hid ((HX.out.below hb).more hb.size)
  replace HB := Lib.hid ((HB.out.below hb).more hb.size)
  have sz : gs + 1 ≤ w4.heap.size := by omega
  clear K2 B2 z2 hb hgs
  have R := KK.out.rules
  simp only [gro.Rules] at R
  go_wp2_with fail
  clear R
  have s5 : IntKind.i64.wrap (now + x6) = now + x6 := IntWalk.i64_in _ (by omega)
  have s6 : wrap64 (now + x6) = now + x6 := (rnk.wrapE _).trans s5
  have C1 := Lib.hid (fun W (h : mem.BRead W W.heap.size A n ys) (hg : gs < W.heap.size) => qtl.adv_off (c := c) (now + x6) HR.out (by omega) h hnc hcm HC.out hg ⟨by omega, by omega⟩)
  (refine gro.wp_region_heldA [0, 1, 2, 3, 4, 5, 6, 7, 8] 6 13 _ (gro.lasts_bx _) (by kernel_rfl) (by kernel_rfl) (by intro _ _ _ _ _ h; exact h) (by kernel_rfl) (by kernel_rfl) (by kernel_rfl) (by kernel_rfl) (by kernel_rfl) (by decide) (KK.out).drew ?_; apply Exists.intro; refine ⟨fun w0 hb0 => ?_, ?_⟩; focus (have RZ := gro.Bx.rules hb0; simp only [gro.Rules] at RZ; simp only [gro.pickA, List.filterMap_cons, List.filterMap_nil, List.getElem?_toArray, List.getElem?_cons_succ, List.getElem?_cons_zero]; change wpQuiet _ _ _ _ (_ :: _ :: _ :: _ :: _ :: _ :: _ :: _ :: _ ::  []) _; (repeat (go_big_quiet_step ((go_at_call 38; exact gro.call_same (M6.out _))))); exact wpQuiet_nil rfl))
  replace BB := Lib.hid BB.out.drew
  replace KK := Lib.hid KK.out.drew
  replace HX := Lib.hid (show mem.BRead (w4.drew) (w4.drew).heap.size _ _ _ from ⟨mem.Reads.drew HX.out.1, fun b hb => ⟨mem.Reads.drew (HX.out.2 b hb).1, (HX.out.2 b hb).2⟩⟩)
  replace HB := Lib.hid (show mem.PRead (w4.drew) (w4.drew).heap.size _ _ _ from mem.Reads.drew HB.out)
  replace sz := (show gs + 1 ≤ (w4.drew).heap.size from sz)
  generalize w4.drew = v1 at *
  refine gro.anyM_one 9 (by kernel_rfl) rfl ?_
  intro v2 hz K' hK'
  replace BB := Lib.hid (BB.out.trans (hz.mono BB.out.size))
  replace KK := Lib.hid (KK.out.below hz)
  replace HX := Lib.hid ((HX.out.below hz).more hz.size)
  replace HB := Lib.hid ((HB.out.below hz).more hz.size)
  replace sz := Nat.le_trans sz hz.size
  clear hz
  go_simp
  refine (C1.out _ HX.out (by omega)).mono ?_
  rintro e v3 ⟨A3, n3, c3, zs, rfl, q1, q2, q3, q4, q5, hb⟩
  clear HX HR HC C1
  replace BB := Lib.hid (BB.out.trans (hb.mono BB.out.size))
  replace KK := Lib.hid (KK.out.below hb)
  replace HB := Lib.hid ((HB.out.below hb).more hb.size)
  replace sz := Nat.le_trans sz hb.size
  clear hb
  have HX := Lib.hid q3
  have HR := Lib.hid q4
  have HC := Lib.hid q5
  clear q3 q4 q5
  refine hK' _ _ ⟨fun _ => KK.out.perm (by simp), ?_⟩
  clear hK' K'
  refine gro.anyM_one 10 (by kernel_rfl) rfl ?_
  intro v4 hz K' hK'
  replace BB := Lib.hid (BB.out.trans (hz.mono BB.out.size))
  replace KK := Lib.hid (KK.out.below hz)
  replace HX := Lib.hid ((HX.out.below hz).more hz.size)
  replace HB := Lib.hid ((HB.out.below hz).more hz.size)
  replace sz := Nat.le_trans sz hz.size
  clear hz
  go_simp
  refine hK' _ _ ⟨fun _ => KK.out.perm (by simp), ?_⟩
  clear hK' K'
  (refine gro.anyM_first_all [11, 12] 2 (gro.lasts_bx _) (by kernel_rfl) (by intro _ _ _ _ _ h; exact h) (by kernel_rfl) (by kernel_rfl) (by kernel_rfl) (by kernel_rfl) (by kernel_rfl) (KK.out.perm (by simp)) ?_; apply Exists.intro; refine ⟨fun w0 => ?_, ?_⟩; focus (simp only [gro.pickA, List.filterMap_cons, List.filterMap_nil, List.getElem?_toArray, List.getElem?_cons_succ, List.getElem?_cons_zero]; change wpQuiet _ _ _ _ (_ :: _ ::  []) _; (repeat (go_big_quiet_step ((fail)))); exact wpQuiet_nil rfl))
  refine gro.anyM_one 13 (by kernel_rfl) rfl ?_
  intro v5 hz K' hK'
  replace BB := Lib.hid (BB.out.trans (hz.mono BB.out.size))
  replace KK := Lib.hid (KK.out.below hz)
  replace HX := Lib.hid ((HX.out.below hz).more hz.size)
  replace HB := Lib.hid ((HB.out.below hz).more hz.size)
  replace sz := Nat.le_trans sz hz.size
  clear hz
  have R := KK.out.rules
  simp only [gro.Rules] at R
  go_simp
  refine hK' _ _ ?_
  clear hK' K' R
  obtain ⟨y1, hy1, K5, B5, z5, P5, O5⟩ := qtl.putN (Value.int IntKind.i64 wd) (Value.int IntKind.i64 k) (Value.int IntKind.i64 cap) (Value.int IntKind.i64 (now + x6)) (Value.slice A3 n3 c3) KK.out (by simp) BB.out wg_gs
  rw [hy1]
  refine ⟨fun h => absurd (show true = false from h) (by decide), ?_⟩
  replace HX := Lib.hid (P5 _ _ _ HX.out HC.out)
  replace HB := Lib.hid (O5 _ _ _ HB.out f_HB)
  replace KK := Lib.hid K5
  replace BB := Lib.hid B5
  rw [← z5] at sz
  clear P5 O5 K5 B5 z5 hy1
  refine gro.anyM_one 14 (by kernel_rfl) rfl ?_
  intro v6 hz K' hK'
  replace BB := Lib.hid (BB.out.trans (hz.mono BB.out.size))
  replace KK := Lib.hid (KK.out.below hz)
  replace HX := Lib.hid ((HX.out.below hz).more hz.size)
  replace HB := Lib.hid ((HB.out.below hz).more hz.size)
  replace sz := Nat.le_trans sz hz.size
  clear hz
  go_simp
  refine hK' _ _ ⟨fun h => absurd (show true = false from h) (by decide), ?_⟩
  clear hK' K'
  refine gro.anyM_done (by kernel_rfl) ?_
  intro v7 hz
  replace BB := Lib.hid (BB.out.trans (hz.mono BB.out.size))
  replace KK := Lib.hid (KK.out.below hz)
  replace HX := Lib.hid ((HX.out.below hz).more hz.size)
  replace HB := Lib.hid ((HB.out.below hz).more hz.size)
  replace sz := Nat.le_trans sz hz.size
  clear hz
  clear s1 s2 s3 s4 s5 s6 M6 hnc hcm HC f_HB
  have hT : 0 ≤ now + x6 ∧ now + x6 ≤ 100100 := by omega
  generalize now + x6 = T at *
  clear hn0 hnow b60 b61
  have R := KK.out.rules
  simp only [gro.Rules] at R
  go_wp2_with fail
  refine (made.Live_any B added.length d added T wd _ HB.out hd1 hd2 (by omega) (by omega) (by omega)).mono ?_
  rintro e v8 ⟨A9, m9, c9, rfl, p1, ⟨p2, _⟩, p3, hb⟩
  clear HB R
  replace BB := Lib.hid (BB.out.trans (hb.mono BB.out.size))
  replace KK := Lib.hid (KK.out.below hb)
  replace HX := Lib.hid ((HX.out.below hb).more hb.size)
  replace sz := Nat.le_trans sz hb.size
  clear hb
  have HV := Lib.hid p3
  have hvl := mem.PRead.len HV.out
  have hll : (made.liveI T wd added).length = (rnk.liveV T wd added).length := by rw [rnk.liveV_eq, List.length_map]; rfl
  have hlv : (rnk.liveV T wd added).length ≤ 100 := by
    rw [rnk.liveV_eq, List.length_map]
    exact Nat.le_trans (List.length_filter_le _ _) (by omega)
  have hlm2 : (made.liveI T wd added).map Prod.snd = rnk.liveV T wd added := rfl
  rw [hll] at hvl
  clear p3
  have p2' : c9 ≤ 9223372036854775807 := p2
  have hln := qtl.run_len HR.out (by omega) HX.out
  obtain ⟨lo, hi, f1, f2, f3, f4, f5⟩ := qtl.RunQ.rank HR.out (by omega) a4
  have D3 := Lib.hid (fun W (h : mem.BRead W W.heap.size A3 n3 zs) => qtl.RankQ_run wd k cap T a4 lo hi A3 n3 c3 zs added W HR.out (by omega) h q1 q2 f1 f2)
  have g2 := rnk.rk_le (rnk.liveV T wd added) a4
  have g3 := rnk.rk_nn (rnk.liveV T wd added) a4
  have E2 := Lib.hid (fun W (h : mem.PRead W W.heap.size A9 m9 (made.liveI T wd added)) => rnk.Rank8_any A9 m9 c9 (made.liveI T wd added) a4 W h (by omega))
  rw [hlm2] at E2
  rw [hvl] at hlv f5 g2
  have hlo : -100000 ≤ lo ∧ hi ≤ 100000 := by
    rcases (show k = 1 ∨ k = 2 ∨ k = 3 ∨ k = 4 by omega) with h | h | h | h <;> rw [h] at f5 <;> omega
  clear hvl hll hlm2 f1 f2 hln HR
  generalize rnk.rk (rnk.liveV T wd added) a4 = rv at *
  have C5 := Lib.hid (qtl.whole_holds f3 f4)
  have C6 := Lib.hid (qtl.whole_within (m := 0) (show lo ≤ hi by omega) hk1 (show (0 : Int) ≤ m9 by omega) f5)
  obtain ⟨md, hmd⟩ : ∃ x, (lo + hi) / 2 = x := ⟨_, rfl⟩
  rw [hmd] at D3 C5 C6
  have D5 := Lib.hid (fun W => wid.HoldB_any lo 1 md 1 hi 1 rv 1 (by unfold wid.I64; omega) (by unfold wid.I64; omega) (by unfold wid.I64; omega) (by unfold wid.I64; omega) (by unfold wid.I64; omega) (by unfold wid.I64; omega) (by unfold wid.I64; omega) (by unfold wid.I64; omega) W)
  have D6 := Lib.hid (fun W => wid.Within_any lo 1 md 1 hi 1 k m9 1 (by unfold wid.I64; omega) (by unfold wid.I64; omega) (by unfold wid.I64; omega) (by unfold wid.I64; omega) (by unfold wid.I64; omega) (by unfold wid.I64; omega) (by unfold wid.I64; omega) (by unfold wid.I64; omega) (by unfold wid.I64; omega) W)
  rw [C5.out] at D5
  rw [C6.out] at D6
  have H7 := Lib.hid (fun W => wid.ofQR_any rv W)
  have H8 := Lib.hid (fun W => wid.ofQR_any m9 W)
  clear C5 C6 hmd f3 f4 f5
  have R := KK.out.rules
  simp only [gro.Rules] at R
  go_wp2_with fail
  refine (D3.out _ HX.out).mono ?_
  rintro e v9 ⟨rfl, hb⟩
  clear R HX D3
  replace BB := Lib.hid (BB.out.trans (hb.mono BB.out.size))
  replace KK := Lib.hid (KK.out.below hb)
  replace HV := Lib.hid ((HV.out.below hb).more hb.size)
  replace sz := Nat.le_trans sz hb.size
  clear hb
  obtain ⟨gb, hgb⟩ : ∃ s, v9.heap.size = s := ⟨_, rfl⟩
  go_upto_region 8 with fail
  obtain ⟨v10, hW, K2, B2, z2, hb⟩ := qtl.newboxQ 55 #[Value.int IntKind.i64 lo, Value.int IntKind.i64 1, Value.int IntKind.i64 md, Value.int IntKind.i64 1, Value.int IntKind.i64 hi, Value.int IntKind.i64 1] KK.out hgb BB.out BB.out.size
  rw [hW]
  clear hW
  replace KK := Lib.hid K2
  replace BB := Lib.hid B2
  replace HV := Lib.hid ((HV.out.below hb).more hb.size)
  clear K2 B2 z2 hb hgb sz
  go_wp2_with fail
  refine (E2.out _ HV.out).mono ?_
  rintro e v11 ⟨rfl, hb⟩
  replace BB := Lib.hid (BB.out.trans (hb.mono BB.out.size))
  replace KK := Lib.hid (KK.out.below hb)
  clear hb
  go_wp2_with fail
  refine (H7.out _).mono ?_
  rintro e v12 ⟨rfl, hb⟩
  replace BB := Lib.hid (BB.out.trans (hb.mono BB.out.size))
  replace KK := Lib.hid (KK.out.below hb)
  clear hb
  obtain ⟨gn, hgn⟩ : ∃ s, v12.heap.size = s := ⟨_, rfl⟩
  go_upto_region 9 with fail
  obtain ⟨v13, hW, K2, B2, z2, hb⟩ := qtl.newboxQ 53 #[Value.int IntKind.i64 rv, Value.int IntKind.i64 1] KK.out hgn BB.out BB.out.size
  rw [hW]
  clear hW
  replace KK := Lib.hid K2
  replace BB := Lib.hid B2
  clear K2 B2 z2 hb hgn
  have R := KK.out.rules
  simp only [gro.Rules] at R
  (refine gro.wp_region_grown (by kernel_rfl) (by kernel_rfl) ?_; (repeat (go_big_quiet_step ((first | (go_at_call 64; exact gro.call_grown (D5.out _)) | (go_at_call 65; exact gro.call_grown (D6.out _)) | (go_at_call 63; exact gro.call_grown (H8.out _)) | (go_at_call 51; exact gro.call_grown (H9.out _)))))); refine wpQuiet_nil ?_; intro _ hw'; obtain ⟨nx, hw''⟩ := hw'; subst hw'')
  go_wp2
  go_ret
  exact ⟨rfl, BB.out.trans ((gro.below_grown _ nx).mono BB.out.size)⟩
end Go.Proofs.Ytjapjfcennemeaa.quantileRanks
