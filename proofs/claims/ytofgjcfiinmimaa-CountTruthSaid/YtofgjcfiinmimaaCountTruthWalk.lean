/- The walk of the law CountTruth: it returns true and leaves what was there. -/
import Derived.Test.YtofgjcfiinmimaaRows
import Derived.Test.YtofgjcfiinmimaaMgClk
import Derived.Test.YtofgjcfiinmimaaRun
import Derived.Test.YtofgjcfiinmimaaMgWin
import Derived.Test.YtofgjcfiinmimaaMgRunO
import Derived.Test.YtofgjcfiinmimaaMgOpenC
import Derived.Test.YtofgjcfiinmimaaSteady3
import Derived.Test.YtofgjcfiinmimaaMgCanon
import Derived.Test.YtofgjcfiinmimaaCst8
import Derived.Test.YtofgjcfiinmimaaMgMeetR
import Derived.Test.YtofgjcfiinmimaaMgHold
import Derived.Test.YtofgjcfiinmimaaWithin
import Derived.WalkKit
import Derived.ProofKit
import Derived.OpenShut
import Derived.ShutString
namespace Go.Proofs.Ytofgjcfiinmimaa.countTruth
open Go.ChangeShapes Go.WideShapes Go.ChangeAt Go.RowKit
open Go.ChangeMaps (open_string shut_string)
set_option linter.unusedVariables false

set_option maxHeartbeats 4000000 in
set_option maxRecDepth 100000 in
theorem walk (A0 : Option Addr) (n0 c0 : Nat) (z0 : List (Int × Int)) (a1 : Int) (a2 : Int) (a3 : Int) (a4 : Int) (w : World) (iw0 : mem.PRead w w.heap.size A0 n0 z0) (e0 : n0 ≤ c0) (m0 : c0 ≤ maxLen) (r0 : ∀ p ∈ z0, opn.Rng p.1 ∧ opn.Rng p.2) (iw1 : opn.Rng a1) (iw2 : opn.Rng a2) (iw3 : opn.Rng a3) (iw4 : opn.Rng a4) :
    Calls Try.prog 11 #[.slice A0 n0 c0, .int .i64 a1, .int .i64 a2, .int .i64 a3, .int .i64 a4] w fun e w' => e = .returned (.bool true) ∧ Below w.heap.size w w' := by
  have HZ := Lib.hid iw0
  have M1 := Lib.hid (fun W => made.Window_any a1 a2 a3 W iw1 iw2 iw3)
  have b10 : 0 ≤ a1 % 25 := Int.emod_nonneg _ (by omega)
  have b11 : a1 % 25 < 25 := Int.emod_lt_of_pos _ (by omega)
  have b20 : 0 ≤ a2 % 4 := Int.emod_nonneg _ (by omega)
  have b21 : a2 % 4 < 4 := Int.emod_lt_of_pos _ (by omega)
  have hi4 := Lib.hid iw4
  clear iw1 iw2 iw3 iw0 iw4
  generalize a1 % 25 = x1 at *
  generalize a2 % 4 = x2 at *
  obtain ⟨v, hv⟩ : ∃ v : Int, 1 + x1 = v := ⟨_, rfl⟩
  obtain ⟨k, hk⟩ : ∃ k : Nat, 1 + x2 = k := ⟨(1 + x2).toNat, by omega⟩
  rw [hv, hk] at M1
  have hv1 : 1 ≤ v := by omega
  have hv2 : v ≤ 25 := by omega
  have hk1 : 1 ≤ k := by omega
  have hk2 : k ≤ 4 := by omega
  clear hv hk b10 b11 b20 b21
  have H2 := Lib.hid (fun W (hb : Below w.heap.size w W) => made.Items_any A0 n0 c0 z0 v 150 W ((HZ.out.below hb).more hb.size) r0 e0 m0 (by omega) (by omega))
  have H9 := Lib.hid (fun W => cst.awake11_any W)
  have M4 := Lib.hid (fun W => made.Mod_any a4 (2 * v + 2) W hi4.out (by omega) (by omega))
  have b40 : 0 ≤ a4 % (2 * v + 2) := Int.emod_nonneg _ (by omega)
  have b41 : a4 % (2 * v + 2) < 2 * v + 2 := Int.emod_lt_of_pos _ (by omega)
  have w1 : IntKind.i64.wrap (2 * v) = 2 * v := IntWalk.i64_in _ (by omega)
  have w2 : IntKind.i64.wrap (2 * v + 2) = 2 * v + 2 := IntWalk.i64_in _ (by omega)
  generalize a4 % (2 * v + 2) = x4 at *
  clear r0 e0 m0 hi4
  have BB := Lib.hid (Below.refl w.heap.size w)
  have sz : w.heap.size ≤ w.heap.size := Nat.le_refl _
  go_enter Try.func11, Try.ntmps11
  go_wp2_with fail
  (with_reducible refine (M1.out _).mono ?_)
  rintro e w1 ⟨⟨p0, rfl, hp1, hp2⟩, rfl⟩
  obtain ⟨p, rfl⟩ : ∃ p : Nat, p0 = p := ⟨p0.toNat, by omega⟩
  clear M1
  have H1 := Lib.hid (fun W => cst.NewC_ok (v := v) (k := k) (p := p) (o := 0) (cst.goodC_iff.2 (by omega)) W)
  have H3 := Lib.hid (fun A m c its W h1 h2 h3 h4 h5 => cst.run_any A m c its k p v W h1 h2 h3 h4 h5 (by omega) (by omega) (by omega))
  have H8 := Lib.hid (fun W => lst.MostRef_any k p W (by omega))
  go_wp2_with fail
  (with_reducible refine (H1.out _).mono ?_)
  rintro e v1 ⟨rfl, hb⟩
  replace BB := Lib.hid (BB.out.trans (hb.mono BB.out.size))
  replace sz := Nat.le_trans sz hb.size
  clear hb
  obtain ⟨gx, hs_gx⟩ : ∃ s, (v1).heap.size = s := ⟨_, rfl⟩
  have wg_gx : w.heap.size ≤ gx := by have := BB.out.size; omega
  go_wp2_with fail
  obtain ⟨v2, hv2, K5, B5, z5, P5⟩ := cst.newbox (24) #[Value.int IntKind.i64 v, Value.int IntKind.i64 k, Value.int IntKind.i64 p, Value.int IntKind.i64 0, Value.slice none 0 0] (gro.Bx.nil_ (W := v1)) hs_gx BB.out BB.out.size
  rw [hv2]
  have KK := Lib.hid K5
  replace BB := Lib.hid B5
  replace sz : gx + 1 ≤ (v2).heap.size := by rw [z5]; exact Nat.le_refl _
  clear K5 B5 P5 z5 hv2 hs_gx
  have R2 := KK.out.rules
  simp only [gro.Rules] at R2
  (refine gro.wp_region_heldA [0, 1, 2, 4, 5, 6] 9 12 _ (gro.lasts_bx _) (by kernel_rfl) (by kernel_rfl) (by intro _ _ _ _ _ h; exact h) (by kernel_rfl) (by kernel_rfl) (by kernel_rfl) (by kernel_rfl) (by kernel_rfl) (by decide) (KK.out).drew ?_; apply Exists.intro; refine ⟨fun w0 hb0 => ?_, ?_⟩; focus (have RZ := gro.Bx.rules hb0; simp only [gro.Rules] at RZ; simp only [gro.pickA, List.filterMap_cons, List.filterMap_nil, List.getElem?_toArray, List.getElem?_cons_succ, List.getElem?_cons_zero]; change wpQuiet _ _ _ _ (_ :: _ :: _ :: _ :: _ :: _ ::  []) _; (repeat (go_big_quiet_step ((fail)))); exact wpQuiet_nil rfl))
  replace BB := Lib.hid BB.out.drew
  replace KK := Lib.hid KK.out.drew
  replace sz := (show _ ≤ (v2.drew).heap.size from sz)
  generalize v2.drew = v3 at *
  refine gro.anyM_one 3 (by kernel_rfl) rfl ?_
  intro v4 hz K' hK'
  replace BB := Lib.hid (BB.out.trans (hz.mono BB.out.size))
  replace KK := Lib.hid (KK.out.below hz)
  replace sz := Nat.le_trans sz hz.size
  clear hz
  go_simp
  (refine (H2.out _ BB.out).mono ?_)
  rintro e v5 ⟨u, its, rfl, hown, hlm, hok, hb⟩
  replace BB := Lib.hid (BB.out.trans (hb.mono BB.out.size))
  replace KK := Lib.hid (KK.out.below hb)
  replace sz := Nat.le_trans sz hb.size
  clear hb
  have HA := Lib.hid (made.ItOk.asc hok (by omega) ⟨hv1, by omega⟩)
  obtain ⟨A1, c1, rfl, i1, i2, i3⟩ := mem.own_form hown
  obtain ⟨m, hm⟩ : ∃ m, its.length = m := ⟨_, rfl⟩
  rw [hm] at hlm i1 i3
  simp only [hm]
  have HI := Lib.hid i3
  have i2' : c1 ≤ 9223372036854775807 := i2
  clear hown hok i3 hm H1 H2 HZ
  refine hK' _ _ ⟨fun _ => KK.out.perm (by simp), ?_⟩
  clear hK' K'
  refine gro.anyM_one 7 (by kernel_rfl) rfl ?_
  intro v6 hz K' hK'
  replace BB := Lib.hid (BB.out.trans (hz.mono BB.out.size))
  replace KK := Lib.hid (KK.out.below hz)
  replace HI := Lib.hid ((HI.out.below hz).more hz.size)
  replace sz := Nat.le_trans sz hz.size
  clear hz
  go_simp
  (refine (H3.out _ _ _ _ _ HI.out i1 i2 HA.out (by omega)).mono ?_)
  rintro e v7 ⟨A2, n2, c2, B2, m2, d2, ys, added, now, rfl, q2, ⟨p2, fr⟩, hr, hmd, ⟨hd, frB⟩, hrB, HR, hto, hal, hn0, hn1, hb⟩
  clear HI HA
  replace BB := Lib.hid (BB.out.trans (hb.mono BB.out.size))
  replace KK := Lib.hid (KK.out.below hb)
  have HA2 := Lib.hid hr
  have HB2 := Lib.hid hrB
  have f_HA2_gx : 0 < n2 → ∀ ad, A2 = some ad → ad.block ≠ gx := fun _ ad h => by have := fr ad h; omega
  have f_HB2_gx : 0 < m2 → ∀ ad, B2 = some ad → ad.block ≠ gx := fun _ ad h => by have := frB ad h; omega
  replace sz := Nat.le_trans sz hb.size
  clear hb hr fr hrB frB
  refine hK' _ _ ⟨fun _ => KK.out.perm (by simp), ?_⟩
  clear hK' K'
  refine gro.anyM_one 8 (by kernel_rfl) rfl ?_
  intro v8 hz K' hK'
  replace BB := Lib.hid (BB.out.trans (hz.mono BB.out.size))
  replace KK := Lib.hid (KK.out.below hz)
  replace HA2 := Lib.hid ((HA2.out.below hz).more hz.size)
  replace HB2 := Lib.hid ((HB2.out.below hz).more hz.size)
  replace sz := Nat.le_trans sz hz.size
  clear hz
  go_simp
  refine hK' _ _ ⟨fun _ => KK.out.perm (by simp), ?_⟩
  clear hK' K'
  (refine gro.anyM_first_all [9, 10, 11] 3 (gro.lasts_bx _) (by kernel_rfl) (by intro _ _ _ _ _ h; exact h) (by kernel_rfl) (by kernel_rfl) (by kernel_rfl) (by kernel_rfl) (by kernel_rfl) (KK.out.perm (by simp)) ?_; apply Exists.intro; refine ⟨fun w0 => ?_, ?_⟩; focus (simp only [gro.pickA, List.filterMap_cons, List.filterMap_nil, List.getElem?_toArray, List.getElem?_cons_succ, List.getElem?_cons_zero]; change wpQuiet _ _ _ _ (_ :: _ :: _ ::  []) _; (repeat (go_big_quiet_step ((fail)))); exact wpQuiet_nil rfl))
  refine gro.anyM_one 12 (by kernel_rfl) rfl ?_
  intro v9 hz K' hK'
  replace BB := Lib.hid (BB.out.trans (hz.mono BB.out.size))
  replace KK := Lib.hid (KK.out.below hz)
  replace HA2 := Lib.hid ((HA2.out.below hz).more hz.size)
  replace HB2 := Lib.hid ((HB2.out.below hz).more hz.size)
  replace sz := Nat.le_trans sz hz.size
  clear hz
  have R9 := KK.out.rules
  simp only [gro.Rules] at R9
  go_simp
  refine hK' _ _ ?_
  clear hK' K'
  clear R9
  have KP := KK.out.perm (L' := [(gx, 24, #[Value.int IntKind.i64 v, Value.int IntKind.i64 k, Value.int IntKind.i64 p, Value.int IntKind.i64 0, Value.slice none 0 0])]) (by simp)
  obtain ⟨v10, hv10, K5, B5, z5, P5⟩ := cst.putC (Value.int IntKind.i64 v) (Value.int IntKind.i64 k) (Value.int IntKind.i64 p) (Value.int IntKind.i64 now) (Value.slice A2 n2 c2) KP (by simp <;> omega) BB.out wg_gx
  replace HA2 := Lib.hid (P5 _ _ _ HA2.out f_HA2_gx)
  replace HB2 := Lib.hid (P5 _ _ _ HB2.out f_HB2_gx)
  replace KK := Lib.hid K5
  replace BB := Lib.hid B5
  rw [← z5] at sz
  clear K5 B5 P5 KP z5
  rw [hv10]
  clear hv10
  refine ⟨fun h => absurd (show true = false from h) (by decide), ?_⟩
  refine gro.anyM_one 13 (by kernel_rfl) rfl ?_
  intro v11 hz K' hK'
  replace BB := Lib.hid (BB.out.trans (hz.mono BB.out.size))
  replace KK := Lib.hid (KK.out.below hz)
  replace HA2 := Lib.hid ((HA2.out.below hz).more hz.size)
  replace HB2 := Lib.hid ((HB2.out.below hz).more hz.size)
  replace sz := Nat.le_trans sz hz.size
  clear hz
  go_simp
  refine hK' _ _ ⟨fun h => absurd (show true = false from h) (by decide), ?_⟩
  clear hK' K'
  refine gro.anyM_one 14 (by kernel_rfl) rfl ?_
  intro v12 hz K' hK'
  replace BB := Lib.hid (BB.out.trans (hz.mono BB.out.size))
  replace KK := Lib.hid (KK.out.below hz)
  replace HA2 := Lib.hid ((HA2.out.below hz).more hz.size)
  replace HB2 := Lib.hid ((HB2.out.below hz).more hz.size)
  replace sz := Nat.le_trans sz hz.size
  clear hz
  go_simp
  refine hK' _ _ ⟨fun h => absurd (show true = false from h) (by decide), ?_⟩
  clear hK' K'
  refine gro.anyM_done (by kernel_rfl) ?_
  intro v13 hz
  replace BB := Lib.hid (BB.out.trans (hz.mono BB.out.size))
  replace KK := Lib.hid (KK.out.below hz)
  replace HA2 := Lib.hid ((HA2.out.below hz).more hz.size)
  replace HB2 := Lib.hid ((HB2.out.below hz).more hz.size)
  replace sz := Nat.le_trans sz hz.size
  clear hz
  have R13 := KK.out.rules
  simp only [gro.Rules] at R13
  have HR := Lib.hid HR
  have hrk := HR.out.ask (p := p) (by simp; omega) hto
  obtain ⟨_, hyl, hyt, _, _, _, _, _⟩ := hrk
  have hlx := mem.PRead.len HA2.out
  have hn2 : n2 ≤ 2000 := by omega
  clear hyl hyt hlx
  obtain ⟨HR2, ht2⟩ := HR.out.adv (now2 := now + x4) hn0 (by omega) (by omega) ⟨hv1, by omega⟩
  have hf1 := HR.out.fitB (p := p) hn0 (by omega) ⟨hv1, by omega⟩ (by omega) (by omega) hto
  have hf2 := HR2.fitB (p := p) (by omega) (by omega) ⟨hv1, by omega⟩ (by omega) (by omega) (by omega)
  have hrk2 := HR2.ask (p := p) (by simp; omega) (by omega)
  have hLv : (made.liveI (now + x4) v added).length = buk.liveN (now + x4 - v) (added.map (·.1)) := cst.liveN_map (fun q hq => by have := (HR2.bd q.1 (List.mem_map_of_mem hq)).2; omega)
  rw [← hLv] at hrk2
  have hlb := made.live_len (now + x4) v added added.length
  rw [List.take_length] at hlb
  have C1 := Lib.hid (fun W (h : mem.PRead W W.heap.size A2 n2 ys) => cst.AdvC_ok (v := v) (k := k) (p := p) (o := now) (tt := now + x4) h q2 p2 hn2 hf1 ⟨by omega, by omega⟩)
  obtain ⟨r1, r2, r3, r4, r5, r6, r7, r8⟩ := hrk2
  have C2 := Lib.hid (fun A n c W (h : mem.PRead W W.heap.size A n (lst.expireL (clk.firstI (now + x4) v) ys)) h1 h2 => cst.AskC_ok (v := v) (k := k) (p := p) (o := now + x4) (c := c) h h1 h2 (by have := mem.PRead.len h; omega) hf2 r7)
  have hnm := mem.PRead.len HB2.out
  have C3 := Lib.hid (fun W (h : mem.PRead W W.heap.size B2 m2 added) => made.Live_any B2 m2 d2 added (now + x4) v W h hmd hd ⟨by omega, by omega⟩ ⟨hv1, by omega⟩ (by omega))
  have w3 : IntKind.i64.wrap (now + x4) = now + x4 := IntWalk.i64_in _ (by omega)
  have hyn : ∀ W A n, mem.PRead W W.heap.size A n (lst.expireL (clk.firstI (now + x4) v) ys) → (n : Int) ≤ lst.mostI k p := fun W A n h => by have := mem.PRead.len h; omega
  replace hyn := Lib.hid hyn
  have bt : (lst.totalN (lst.expireL (clk.firstI (now + x4) v) ys) : Int) ≤ 65536 := by omega
  clear HR HR2 ht2 hf1 hf2 hLv hnm r1 r2 r3 hmd hd
  generalize hyy : lst.expireL (clk.firstI (now + x4) v) ys = yy at *
  clear hyy
  have C5 := Lib.hid (cst.whole_holds r5 r4)
  have C6 := Lib.hid (cst.whole_within (k := k) r7 (by omega) (by omega) (Int.le_trans r8 r5))
  generalize made.liveI (now + x4) v added = lv at *
  generalize (lst.totalN yy : Int) = tot at *
  generalize lst.qlo yy = lo at *
  obtain ⟨mid, hmid⟩ : ∃ m, (lo + tot) / 2 = m := ⟨_, rfl⟩
  have D5 := Lib.hid (fun W => wid.HoldB_any lo 1 mid 1 tot 1 lv.length 1 (by unfold wid.I64; omega) (by unfold wid.I64; omega) (by unfold wid.I64; omega) (by unfold wid.I64; omega) (by unfold wid.I64; omega) (by unfold wid.I64; omega) (by unfold wid.I64; omega) (by unfold wid.I64; omega) W)
  have D6 := Lib.hid (fun W => wid.Within_any lo 1 mid 1 tot 1 k lv.length 1 (by unfold wid.I64; omega) (by unfold wid.I64; omega) (by unfold wid.I64; omega) (by unfold wid.I64; omega) (by unfold wid.I64; omega) (by unfold wid.I64; omega) (by unfold wid.I64; omega) (by unfold wid.I64; omega) (by unfold wid.I64; omega) W)
  rw [hmid] at C2 C5 C6
  rw [C5.out] at D5
  rw [C6.out] at D6
  clear C5 C6 hmid r4 r5 r6 r7 r8
  go_wp2_with fail
  clear R2
  (refine gro.wp_region_heldA [0, 1, 2, 3, 4, 5, 6, 7, 8] 6 13 _ (gro.lasts_bx _) (by kernel_rfl) (by kernel_rfl) (by intro _ _ _ _ _ h; exact h) (by kernel_rfl) (by kernel_rfl) (by kernel_rfl) (by kernel_rfl) (by kernel_rfl) (by decide) (KK.out).drew ?_; apply Exists.intro; refine ⟨fun w0 hb0 => ?_, ?_⟩; focus (have RZ := gro.Bx.rules hb0; simp only [gro.Rules] at RZ; simp only [gro.pickA, List.filterMap_cons, List.filterMap_nil, List.getElem?_toArray, List.getElem?_cons_succ, List.getElem?_cons_zero]; change wpQuiet _ _ _ _ (_ :: _ :: _ :: _ :: _ :: _ :: _ :: _ :: _ ::  []) _; (repeat (go_big_quiet_step ((go_at_call 31; exact gro.call_same (M4.out _))))); exact wpQuiet_nil rfl))
  replace BB := Lib.hid BB.out.drew
  replace KK := Lib.hid KK.out.drew
  replace HA2 := Lib.hid (show mem.PRead (v13.drew) (v13.drew).heap.size _ _ _ from mem.Reads.drew HA2.out)
  replace HB2 := Lib.hid (show mem.PRead (v13.drew) (v13.drew).heap.size _ _ _ from mem.Reads.drew HB2.out)
  replace sz := (show _ ≤ (v13.drew).heap.size from sz)
  generalize v13.drew = v14 at *
  refine gro.anyM_one 9 (by kernel_rfl) rfl ?_
  intro v15 hz K' hK'
  replace BB := Lib.hid (BB.out.trans (hz.mono BB.out.size))
  replace KK := Lib.hid (KK.out.below hz)
  replace HA2 := Lib.hid ((HA2.out.below hz).more hz.size)
  replace HB2 := Lib.hid ((HB2.out.below hz).more hz.size)
  replace sz := Nat.le_trans sz hz.size
  clear hz
  go_simp
  (refine (C1.out _ HA2.out).mono ?_)
  rintro e v16 ⟨A3, n3, c3, rfl, q3, ⟨p3, fr⟩, hr, hb⟩
  replace BB := Lib.hid (BB.out.trans (hb.mono BB.out.size))
  replace KK := Lib.hid (KK.out.below hb)
  replace HA2 := Lib.hid ((HA2.out.below hb).more hb.size)
  replace HB2 := Lib.hid ((HB2.out.below hb).more hb.size)
  have HA3 := Lib.hid hr
  have f_HA3_gx : 0 < n3 → ∀ ad, A3 = some ad → ad.block ≠ gx := fun _ ad h => by have := fr ad h; omega
  replace sz := Nat.le_trans sz hb.size
  clear hb hr fr
  refine hK' _ _ ⟨fun _ => KK.out.perm (by simp), ?_⟩
  clear hK' K'
  clear HA2
  refine gro.anyM_one 10 (by kernel_rfl) rfl ?_
  intro v17 hz K' hK'
  replace BB := Lib.hid (BB.out.trans (hz.mono BB.out.size))
  replace KK := Lib.hid (KK.out.below hz)
  replace HB2 := Lib.hid ((HB2.out.below hz).more hz.size)
  replace HA3 := Lib.hid ((HA3.out.below hz).more hz.size)
  replace sz := Nat.le_trans sz hz.size
  clear hz
  go_simp
  refine hK' _ _ ⟨fun _ => KK.out.perm (by simp), ?_⟩
  clear hK' K'
  (refine gro.anyM_first_all [11, 12] 2 (gro.lasts_bx _) (by kernel_rfl) (by intro _ _ _ _ _ h; exact h) (by kernel_rfl) (by kernel_rfl) (by kernel_rfl) (by kernel_rfl) (by kernel_rfl) (KK.out.perm (by simp)) ?_; apply Exists.intro; refine ⟨fun w0 => ?_, ?_⟩; focus (simp only [gro.pickA, List.filterMap_cons, List.filterMap_nil, List.getElem?_toArray, List.getElem?_cons_succ, List.getElem?_cons_zero]; change wpQuiet _ _ _ _ (_ :: _ ::  []) _; (repeat (go_big_quiet_step ((fail)))); exact wpQuiet_nil rfl))
  refine gro.anyM_one 13 (by kernel_rfl) rfl ?_
  intro v18 hz K' hK'
  replace BB := Lib.hid (BB.out.trans (hz.mono BB.out.size))
  replace KK := Lib.hid (KK.out.below hz)
  replace HB2 := Lib.hid ((HB2.out.below hz).more hz.size)
  replace HA3 := Lib.hid ((HA3.out.below hz).more hz.size)
  replace sz := Nat.le_trans sz hz.size
  clear hz
  have R18 := KK.out.rules
  simp only [gro.Rules] at R18
  go_simp
  refine hK' _ _ ?_
  clear hK' K'
  clear R18
  have KP := KK.out.perm (L' := [(gx, 24, #[Value.int IntKind.i64 v, Value.int IntKind.i64 k, Value.int IntKind.i64 p, Value.int IntKind.i64 now, Value.slice A2 n2 c2])]) (by simp)
  obtain ⟨v19, hv19, K5, B5, z5, P5⟩ := cst.putC (Value.int IntKind.i64 v) (Value.int IntKind.i64 k) (Value.int IntKind.i64 p) (Value.int IntKind.i64 (now + x4)) (Value.slice A3 n3 c3) KP (by simp <;> omega) BB.out wg_gx
  replace HB2 := Lib.hid (P5 _ _ _ HB2.out f_HB2_gx)
  replace HA3 := Lib.hid (P5 _ _ _ HA3.out f_HA3_gx)
  replace KK := Lib.hid K5
  replace BB := Lib.hid B5
  rw [← z5] at sz
  clear K5 B5 P5 KP z5
  rw [hv19]
  clear hv19
  refine ⟨fun h => absurd (show true = false from h) (by decide), ?_⟩
  refine gro.anyM_one 14 (by kernel_rfl) rfl ?_
  intro v20 hz K' hK'
  replace BB := Lib.hid (BB.out.trans (hz.mono BB.out.size))
  replace KK := Lib.hid (KK.out.below hz)
  replace HB2 := Lib.hid ((HB2.out.below hz).more hz.size)
  replace HA3 := Lib.hid ((HA3.out.below hz).more hz.size)
  replace sz := Nat.le_trans sz hz.size
  clear hz
  go_simp
  refine hK' _ _ ⟨fun h => absurd (show true = false from h) (by decide), ?_⟩
  clear hK' K'
  refine gro.anyM_done (by kernel_rfl) ?_
  intro v21 hz
  replace BB := Lib.hid (BB.out.trans (hz.mono BB.out.size))
  replace KK := Lib.hid (KK.out.below hz)
  replace HB2 := Lib.hid ((HB2.out.below hz).more hz.size)
  replace HA3 := Lib.hid ((HA3.out.below hz).more hz.size)
  replace sz := Nat.le_trans sz hz.size
  clear hz
  have R21 := KK.out.rules
  simp only [gro.Rules] at R21
  go_wp2_with fail
  clear R13
  (refine (C2.out _ _ _ _ HA3.out q3 p3).mono ?_)
  rintro e v22 ⟨rfl, hb⟩
  replace BB := Lib.hid (BB.out.trans (hb.mono BB.out.size))
  replace KK := Lib.hid (KK.out.below hb)
  replace HB2 := Lib.hid ((HB2.out.below hb).more hb.size)
  replace HA3 := Lib.hid ((HA3.out.below hb).more hb.size)
  replace sz := Nat.le_trans sz hb.size
  clear hb
  have R22 := KK.out.rules
  simp only [gro.Rules] at R22
  obtain ⟨gb, hs_gb⟩ : ∃ s, (v22).heap.size = s := ⟨_, rfl⟩
  have wg_gb : w.heap.size ≤ gb := by have := BB.out.size; omega
  go_wp2_with fail
  clear R21
  obtain ⟨v23, hv23, K5, B5, z5, P5⟩ := cst.newbox (43) #[Value.int IntKind.i64 lo, Value.int IntKind.i64 1, Value.int IntKind.i64 mid, Value.int IntKind.i64 1, Value.int IntKind.i64 tot, Value.int IntKind.i64 1] KK.out hs_gb BB.out BB.out.size
  rw [hv23]
  have o_gx_gb : gx < gb := by omega
  have f_HB2_gb := (P5 _ _ _ HB2.out).2
  replace HB2 := Lib.hid (P5 _ _ _ HB2.out).1
  have f_HA3_gb := (P5 _ _ _ HA3.out).2
  replace HA3 := Lib.hid (P5 _ _ _ HA3.out).1
  replace KK := Lib.hid K5
  replace BB := Lib.hid B5
  replace sz : gb + 1 ≤ (v23).heap.size := by rw [z5]; exact Nat.le_refl _
  clear K5 B5 P5 z5 hv23 hs_gb
  have R23 := KK.out.rules
  simp only [gro.Rules] at R23
  go_wp2_with fail
  clear R22
  (refine (C3.out _ HB2.out).mono ?_)
  rintro e v24 ⟨A4, n4, c4, rfl, q4, ⟨p4, fr⟩, hr, hb⟩
  replace BB := Lib.hid (BB.out.trans (hb.mono BB.out.size))
  replace KK := Lib.hid (KK.out.below hb)
  replace HB2 := Lib.hid ((HB2.out.below hb).more hb.size)
  replace HA3 := Lib.hid ((HA3.out.below hb).more hb.size)
  have HA4 := Lib.hid hr
  have f_HA4_gb : 0 < n4 → ∀ ad, A4 = some ad → ad.block ≠ gb := fun _ ad h => by have := fr ad h; omega
  have f_HA4_gx : 0 < n4 → ∀ ad, A4 = some ad → ad.block ≠ gx := fun _ ad h => by have := fr ad h; omega
  replace sz := Nat.le_trans sz hb.size
  clear hb hr fr
  have R24 := KK.out.rules
  simp only [gro.Rules] at R24
  clear HB2
  have hn4 := mem.PRead.len HA4.out
  rw [hn4] at D5 D6 hlb
  have H7 := Lib.hid (fun W => wid.ofQR_any n4 W)
  have hn3 := hyn.out _ _ _ HA3.out
  go_wp2_with fail
  clear R23
  (refine (H7.out _).mono ?_)
  rintro e v25 ⟨rfl, hb⟩
  replace BB := Lib.hid (BB.out.trans (hb.mono BB.out.size))
  replace KK := Lib.hid (KK.out.below hb)
  replace HA3 := Lib.hid ((HA3.out.below hb).more hb.size)
  replace HA4 := Lib.hid ((HA4.out.below hb).more hb.size)
  replace sz := Nat.le_trans sz hb.size
  clear hb
  have R25 := KK.out.rules
  simp only [gro.Rules] at R25
  obtain ⟨gn, hs_gn⟩ : ∃ s, (v25).heap.size = s := ⟨_, rfl⟩
  have wg_gn : w.heap.size ≤ gn := by have := BB.out.size; omega
  go_wp2_with fail
  clear R24
  obtain ⟨v26, hv26, K5, B5, z5, P5⟩ := cst.newbox (41) #[Value.int IntKind.i64 n4, Value.int IntKind.i64 1] KK.out hs_gn BB.out BB.out.size
  rw [hv26]
  have o_gb_gn : gb < gn := by omega
  have o_gx_gn : gx < gn := by omega
  have f_HA3_gn := (P5 _ _ _ HA3.out).2
  replace HA3 := Lib.hid (P5 _ _ _ HA3.out).1
  have f_HA4_gn := (P5 _ _ _ HA4.out).2
  replace HA4 := Lib.hid (P5 _ _ _ HA4.out).1
  replace KK := Lib.hid K5
  replace BB := Lib.hid B5
  replace sz : gn + 1 ≤ (v26).heap.size := by rw [z5]; exact Nat.le_refl _
  clear K5 B5 P5 z5 hv26 hs_gn
  have R26 := KK.out.rules
  simp only [gro.Rules] at R26
  generalize lst.mostI k p = M at *
  have qm : decide ((n3 : Int) ≤ M) = true := decide_eq_true hn3
  go_wp2_with fail
  clear R25
  (refine gro.wp_region_grown (by kernel_rfl) (by kernel_rfl) ?_; (repeat (go_big_quiet_step ((first | (go_at_call 51; exact gro.call_grown (D5.out _)) | (go_at_call 52; exact gro.call_grown (D6.out _)) | (go_at_call 53; exact gro.call_same (H8.out _)) | (go_at_call 17; exact gro.call_grown (H9.out _)))))); refine wpQuiet_nil ?_; intro _ hw'; obtain ⟨nx, hw''⟩ := hw'; subst hw'')
  go_wp2
  go_ret
  exact ⟨rfl, BB.out.trans ((gro.below_grown _ nx).mono BB.out.size)⟩
end Go.Proofs.Ytofgjcfiinmimaa.countTruth
