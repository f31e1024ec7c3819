/- The walk of the law SumTruth: it returns true and leaves what was there. -/
import Derived.Test.YtofgjcfiinmimaaRows
import Derived.Test.YtofgjcfiinmimaaMgClk
import Derived.Test.YtofgjcfiinmimaaMgMeetR
import Derived.Test.YtofgjcfiinmimaaRunU
import Derived.Test.YtofgjcfiinmimaaMgRunO
import Derived.Test.YtofgjcfiinmimaaMgAwake12
import Derived.Test.YtofgjcfiinmimaaMgSteady3
import Derived.Test.YtofgjcfiinmimaaMgOpenC
import Derived.Test.YtofgjcfiinmimaaMgCanon
import Derived.Test.YtofgjcfiinmimaaCst8
import Derived.Test.YtofgjcfiinmimaaMgHold
import Derived.Test.YtofgjcfiinmimaaWithin
import Derived.WalkKit
import Derived.ProofKit
import Derived.OpenShut
import Derived.ShutString
namespace Go.Proofs.Ytofgjcfiinmimaa.sumTruth
open Go.ChangeShapes Go.WideShapes Go.ChangeAt Go.RowKit
open Go.ChangeMaps (open_string shut_string)
set_option linter.unusedVariables false

set_option maxHeartbeats 4000000 in
set_option maxRecDepth 100000 in
theorem walk (A0 : Option Addr) (n0 c0 : Nat) (z0 : List (Int × Int)) (a1 : Int) (a2 : Int) (a3 : Int) (a4 : Int) (a5 : Int) (w : World) (iw0 : mem.PRead w w.heap.size A0 n0 z0) (e0 : n0 ≤ c0) (m0 : c0 ≤ maxLen) (r0 : ∀ p ∈ z0, opn.Rng p.1 ∧ opn.Rng p.2) (iw1 : opn.Rng a1) (iw2 : opn.Rng a2) (iw3 : opn.Rng a3) (iw4 : opn.Rng a4) (iw5 : opn.Rng a5) :
    Calls Try.prog 12 #[.slice A0 n0 c0, .int .i64 a1, .int .i64 a2, .int .i64 a3, .int .i64 a4, .int .i64 a5] w fun e w' => e = .returned (.bool true) ∧ Below w.heap.size w w' := by
  have HZ := Lib.hid iw0
  have M1 := Lib.hid (fun W => made.Window_any a1 a2 a3 W iw1 iw2 iw3)
  have M2 := Lib.hid (fun W => made.Int_any a4 30 W iw4 (by omega) (by omega))
  have b10 : 0 ≤ a1 % 25 := Int.emod_nonneg _ (by omega)
  have b11 : a1 % 25 < 25 := Int.emod_lt_of_pos _ (by omega)
  have b20 : 0 ≤ a2 % 4 := Int.emod_nonneg _ (by omega)
  have b21 : a2 % 4 < 4 := Int.emod_lt_of_pos _ (by omega)
  have b30 : 0 ≤ a4 % 30 := Int.emod_nonneg _ (by omega)
  have b31 : a4 % 30 < 30 := Int.emod_lt_of_pos _ (by omega)
  have hi5 := Lib.hid iw5
  clear iw1 iw2 iw3 iw0 iw4 iw5
  generalize a1 % 25 = x1 at *
  generalize a2 % 4 = x2 at *
  generalize a4 % 30 = x4 at *
  obtain ⟨v, hv⟩ : ∃ v : Int, 1 + x1 = v := ⟨_, rfl⟩
  obtain ⟨k, hk⟩ : ∃ k : Nat, 1 + x2 = k := ⟨(1 + x2).toNat, by omega⟩
  obtain ⟨q, hq⟩ : ∃ q : Nat, 1 + x4 = q := ⟨(1 + x4).toNat, by omega⟩
  rw [hv, hk] at M1
  have hv1 : 1 ≤ v := by omega
  have hv2 : v ≤ 25 := by omega
  have hk1 : 1 ≤ k := by omega
  have hk2 : k ≤ 4 := by omega
  have hq1 : 1 ≤ q := by omega
  have hq2 : q ≤ 30 := by omega
  have hsq : IntKind.i64.wrap (1 + x4) = q := by rw [hq]; exact IntWalk.i64_in _ (by omega)
  clear hv hk hq b10 b11 b20 b21 b30 b31
  have H2 := Lib.hid (fun W (hb : Below w.heap.size w W) => made.PositiveItems_any A0 n0 c0 z0 v 80 q W ((HZ.out.below hb).more hb.size) r0 e0 m0 (by omega) (by omega) (by omega))
  have H9 := Lib.hid (fun W => cst.awake12_any W)
  have M4 := Lib.hid (fun W => made.Mod_any a5 (2 * v + 2) W hi5.out (by omega) (by omega))
  have b40 : 0 ≤ a5 % (2 * v + 2) := Int.emod_nonneg _ (by omega)
  have b41 : a5 % (2 * v + 2) < 2 * v + 2 := Int.emod_lt_of_pos _ (by omega)
  have w1 : IntKind.i64.wrap (2 * v) = 2 * v := IntWalk.i64_in _ (by omega)
  have w2 : IntKind.i64.wrap (2 * v + 2) = 2 * v + 2 := IntWalk.i64_in _ (by omega)
  generalize a5 % (2 * v + 2) = x5 at *
  clear r0 e0 m0 hi5
  obtain ⟨i0, hi0, hz0, hz1, hz2⟩ := Go.info_parts made.item_info
  have HIn := Lib.hid hi0
  have HZ0 := Lib.hid hz0
  have HZ1 := Lib.hid hz1
  have HZ2 := Lib.hid hz2
  clear hi0 hz0 hz1 hz2
  have BB := Lib.hid (Below.refl w.heap.size w)
  have sz : w.heap.size ≤ w.heap.size := Nat.le_refl _
  go_enter Try.func12, Try.ntmps12
  go_wp2_with fail
  (with_reducible refine (M1.out _).mono ?_)
  rintro e w1 ⟨⟨p0, rfl, hp1, hp2⟩, rfl⟩
  obtain ⟨p, rfl⟩ : ∃ p : Nat, p0 = p := ⟨p0.toNat, by omega⟩
  clear M1
  have H1 := Lib.hid (fun W => cst.NewS_ok (v := v) (k := k) (p := p) (m := q) (o := 0) (cst.goodS_iff.2 (by omega)) W)
  have H8 := Lib.hid (fun W => lst.MostRef_any k p W (by omega))
  go_wp2_with fail
  (with_reducible refine (M2.out _).mono ?_)
  rintro e w1 ⟨rfl, rfl⟩
  clear M2
  go_wp2_with fail
  (with_reducible refine (H1.out _).mono ?_)
  rintro e v1 ⟨rfl, hb⟩
  replace BB := Lib.hid (BB.out.trans (hb.mono BB.out.size))
  replace sz := Nat.le_trans sz hb.size
  clear hb
  obtain ⟨gx, hs_gx⟩ : ∃ s, (v1).heap.size = s := ⟨_, rfl⟩
  have wg_gx : w.heap.size ≤ gx := by have := BB.out.size; omega
  go_wp2_with fail
  obtain ⟨v2, hv2, K5, B5, z5, P5⟩ := cst.newbox (32) #[Value.int IntKind.i64 v, Value.int IntKind.i64 k, Value.int IntKind.i64 p, Value.int IntKind.i64 q, Value.int IntKind.i64 0, Value.slice none 0 0] (gro.Bx.nil_ (W := v1)) hs_gx BB.out BB.out.size
  rw [hv2]
  have KK := Lib.hid K5
  replace BB := Lib.hid B5
  replace sz : gx + 1 ≤ (v2).heap.size := by rw [z5]; exact Nat.le_refl _
  clear K5 B5 P5 z5 hv2 hs_gx
  have R2 := KK.out.rules
  simp only [gro.Rules] at R2
  go_wp2_with fail
  have szB := sz
  (refine (H2.out _ BB.out).mono ?_)
  rintro e v3 ⟨u, its, rfl, hown, hlm, hok, hb⟩
  replace BB := Lib.hid (BB.out.trans (hb.mono BB.out.size))
  replace KK := Lib.hid (KK.out.below hb)
  replace sz := Nat.le_trans sz hb.size
  clear hb
  have R3 := KK.out.rules
  simp only [gro.Rules] at R3
  have HA := Lib.hid (made.MidOk.asc hok (by omega) ⟨hv1, by omega⟩)
  have fI : ∀ ad, (∃ n c, u = .slice (some ad) n c) → ad.block ≠ gx := fun ad h => by obtain ⟨n, c, rfl⟩ := h; have := mem.own_block_ge hown ad.block rfl; omega
  obtain ⟨A1, c1, rfl, i1, i2, i3⟩ := mem.own_form hown
  obtain ⟨m, hm⟩ : ∃ m, its.length = m := ⟨_, rfl⟩
  have HL : Hid (its.length = m) := hm
  rw [hm] at hlm i1 i3
  simp only [hm]
  have HI := Lib.hid i3
  have i2' : c1 ≤ 9223372036854775807 := i2
  have f_HI_gx : 0 < m → ∀ ad, A1 = some ad → ad.block ≠ gx := fun _ ad h => fI ad ⟨_, _, by rw [h]⟩
  clear hown hok i3 hm H1 H2 HZ fI i2 szB
  go_wp2_with fail
  clear R2
  clear R3
  go_loopg [15, 50] m (fun kx s15 s50 wr => ∃ (u : Value) (i : Nat) (A : Option Addr) (n c : Nat) (ys added : List (Int × Int)) (now : Int), s50 = .int .i64 i ∧ u = s15 ∧ i ≤ m ∧ m - i ≤ kx ∧ n ≤ c ∧ c ≤ 9223372036854775807 ∧ 0 ≤ now ∧ now ≤ 100000 ∧ Hid (i < m → now ≤ (buk.at_ its i).1) ∧ added.length ≤ i ∧ Hid ((lst.totalN ys : Int) ≤ p) ∧ Hid (cst.Run ys k v now (cst.un added)) ∧ Hid (∀ x ∈ added, 0 ≤ x.1 ∧ x.1 ≤ now ∧ 0 ≤ x.2 ∧ x.2 ≤ q) ∧ Hid (mem.PRead wr wr.heap.size A n ys) ∧ Hid (mem.PRead wr wr.heap.size A1 m its) ∧ Hid (∀ ad, A = some ad → gx < ad.block) ∧ Hid (0 < n → ∀ ad, A = some ad → some ad.block ≠ u.ownBlock) ∧ Hid (0 < m → ∀ ad, A1 = some ad → some ad.block ≠ u.ownBlock) ∧ Hid (wr.ownsRow (gx + 1) 61 2 u added.length (mem.pc added)) ∧ Hid (gro.Bx wr [(gx, 32, #[Value.int IntKind.i64 v, Value.int IntKind.i64 k, Value.int IntKind.i64 p, Value.int IntKind.i64 q, Value.int IntKind.i64 now, Value.slice A n c])]) ∧ Hid (Below w.heap.size w wr) ∧ gx + 1 ≤ wr.heap.size)
  case atStart => exact ⟨_, 0, none, 0, 0, [], [], 0, rfl, rfl, by omega, by omega, by omega, by omega, by omega, by omega, fun h => (HA.out 0 (by rw [HL.out]; exact h)).1.1, by simp, (by simp [lst.totalN] : ((lst.totalN [] : Nat) : Int) ≤ p), cst.Run.nil v (by omega) (by omega), Lib.hid (fun x hx => absurd hx List.not_mem_nil), mem.PRead.nil_, HI, Lib.hid (fun ad h => by (cases h)), Lib.hid (fun _ ad h => by (cases h)), Lib.hid (fun _ ad _ h => by (cases h)), mem.own_nil _ _ _ _, KK, BB, sz⟩
  case round =>
    clear KK BB sz HI
    obtain ⟨u, i, A, n, c, ys, added, now, rfl, rfl, hi, hkx, hnc, hcm, hn0, hn1, HT, hal, hto, HR, HQ, HX, HI, fx, dx, di, HU, KK, BB, sz⟩ := hrel
    have f_HX_gx : 0 < n → ∀ ad, A = some ad → ad.block ≠ gx := fun _ ad h => by have := fx.out ad h; omega
    have d_HX_HU := dx.out
    have d_HI_HU := di.out
    have hto := hto.out
    by_cases hlt : i < m
    case neg =>
      obtain rfl : i = m := by omega
      clear HT hkx
      obtain ⟨B2, d2, hu, hmd, hd, j3⟩ := mem.own_form HU.out
      subst hu
      have f_HB2_gx : 0 < added.length → ∀ ad, B2 = some ad → ad.block ≠ gx := fun _ ad h => by subst h; have := mem.own_block_ge HU.out ad.block rfl; omega
      have HB2 := Lib.hid j3
      have hd' : d2 ≤ 9223372036854775807 := hd
      clear j3 HU dx di HI f_HI_gx d_HX_HU d_HI_HU
      have hul : (cst.un added).length ≤ 2400 := by
        have h1 := cst.un_len (b := q) (its := added) (fun x hx => (HQ.out x hx).2.2)
        have h2 : q * added.length ≤ 30 * 80 := Nat.mul_le_mul (by omega) (by omega)
        omega
      have hrk := HR.out.ask (p := p) (by omega) hto
      obtain ⟨_, hyl, hyt, _, _, _, _, _⟩ := hrk
      have hlx := mem.PRead.len HX.out
      have hn2 : n ≤ 2000 := by omega
      clear hyl hyt hlx
      obtain ⟨HR2, ht2⟩ := HR.out.adv (now2 := now + x5) hn0 (by omega) (by omega) ⟨hv1, by omega⟩
      have hf1 := HR.out.fitS (p := p) (m := q) hn0 (by omega) ⟨hv1, by omega⟩ (by omega) (by omega) (by omega) hto
      have hf2 := HR2.fitS (p := p) (m := q) (by omega) (by omega) ⟨hv1, by omega⟩ (by omega) (by omega) (by omega) (by omega)
      have hrk2 := HR2.ask (p := p) (by omega) (by omega)
      have hLv : cst.sumV (made.liveI (now + x5) v added) = (buk.liveN (now + x5 - v) (cst.un added) : Int) := cst.live_sum (fun x hx => by have := HQ.out x hx; omega)
      rw [← hLv] at hrk2
      have hlb := made.live_len (now + x5) v added added.length
      rw [List.take_length] at hlb
      have hlq : Hid (∀ x ∈ made.liveI (now + x5) v added, 0 ≤ x.2 ∧ x.2 ≤ 30) := fun x hx => by have := HQ.out x (cst.live_mem hx); omega
      have C1 := Lib.hid (fun W (h : mem.PRead W W.heap.size A n ys) => cst.AdvS_ok (v := v) (k := k) (p := p) (m := q) (o := now) (tt := now + x5) h hnc hcm hn2 hf1 ⟨by omega, by omega⟩)
      obtain ⟨r1, r2, r3, r4, r5, r6, r7, r8⟩ := hrk2
      have C2 := Lib.hid (fun A n c W (h : mem.PRead W W.heap.size A n (lst.expireL (clk.firstI (now + x5) v) ys)) h1 h2 => cst.AskS_ok (v := v) (k := k) (p := p) (m := q) (o := now + x5) (c := c) h h1 h2 (by have := mem.PRead.len h; omega) hf2 r7)
      have C3 := Lib.hid (fun W (h : mem.PRead W W.heap.size B2 added.length added) => made.Live_any B2 added.length d2 added (now + x5) v W h hmd hd ⟨by omega, by omega⟩ ⟨hv1, by omega⟩ (by omega))
      have w3 : IntKind.i64.wrap (now + x5) = now + x5 := IntWalk.i64_in _ (by omega)
      have hyn : ∀ W A n, mem.PRead W W.heap.size A n (lst.expireL (clk.firstI (now + x5) v) ys) → (n : Int) ≤ lst.mostI k p := fun W A n h => by have := mem.PRead.len h; omega
      replace hyn := Lib.hid hyn
      have bt : (lst.totalN (lst.expireL (clk.firstI (now + x5) v) ys) : Int) ≤ 65536 := by omega
      clear HR HR2 ht2 hf1 hf2 hLv r1 r2 r3 hmd hd HQ
      generalize hyy : lst.expireL (clk.firstI (now + x5) v) ys = yy at *
      clear hyy
      generalize hlv : made.liveI (now + x5) v added = lv at *
      obtain ⟨nn, hnn⟩ : ∃ s : Int, cst.sumV lv = s := ⟨_, rfl⟩
      rw [hnn] at r4 r5
      generalize (lst.totalN yy : Int) = tot at *
      generalize lst.qlo yy = lo at *
      have C5 := Lib.hid (cst.whole_holds r5 r4)
      have C6 := Lib.hid (cst.whole_within (k := k) r7 (by omega) (by omega) (Int.le_trans r8 r5))
      obtain ⟨mid, hmid⟩ : ∃ m, (lo + tot) / 2 = m := ⟨_, rfl⟩
      have D5 := Lib.hid (fun W => wid.HoldB_any lo 1 mid 1 tot 1 nn 1 (by unfold wid.I64; omega) (by unfold wid.I64; omega) (by unfold wid.I64; omega) (by unfold wid.I64; omega) (by unfold wid.I64; omega) (by unfold wid.I64; omega) (by unfold wid.I64; omega) (by unfold wid.I64; omega) W)
      have D6 := Lib.hid (fun W => wid.Within_any lo 1 mid 1 tot 1 k nn 1 (by unfold wid.I64; omega) (by unfold wid.I64; omega) (by unfold wid.I64; omega) (by unfold wid.I64; omega) (by unfold wid.I64; omega) (by unfold wid.I64; omega) (by unfold wid.I64; omega) (by unfold wid.I64; omega) (by unfold wid.I64; omega) W)
      have D7 := Lib.hid (fun W => wid.ofQR_any nn W)
      rw [hmid] at C2 C5 C6
      rw [C5.out] at D5
      rw [C6.out] at D6
      clear C5 C6 hmid r4 r5 r6 r7 r8 HA HL i1
      have R120 := KK.out.rules
      simp only [gro.Rules] at R120
      go_wp2_with fail
      (refine gro.wp_region_heldA [0, 1, 2, 3, 4, 5, 6, 7, 8] 6 13 _ (gro.lasts_bx _) (by kernel_rfl) (by kernel_rfl) (by intro _ _ _ _ _ h; exact h) (by kernel_rfl) (by kernel_rfl) (by kernel_rfl) (by kernel_rfl) (by kernel_rfl) (by decide) (KK.out).drew ?_; apply Exists.intro; refine ⟨fun w0 hb0 => ?_, ?_⟩; focus (have RZ := gro.Bx.rules hb0; simp only [gro.Rules] at RZ; simp only [gro.pickA, List.filterMap_cons, List.filterMap_nil, List.getElem?_toArray, List.getElem?_cons_succ, List.getElem?_cons_zero]; change wpQuiet _ _ _ _ (_ :: _ :: _ :: _ :: _ :: _ :: _ :: _ :: _ ::  []) _; (repeat (go_big_quiet_step ((go_at_call 31; exact gro.call_same (M4.out _))))); exact wpQuiet_nil rfl))
      replace BB := Lib.hid BB.out.drew
      replace KK := Lib.hid KK.out.drew
      replace HX := Lib.hid (show mem.PRead (wr.drew) (wr.drew).heap.size _ _ _ from mem.Reads.drew HX.out)
      replace HB2 := Lib.hid (show mem.PRead (wr.drew) (wr.drew).heap.size _ _ _ from mem.Reads.drew HB2.out)
      replace sz := (show _ ≤ (wr.drew).heap.size from sz)
      generalize wr.drew = v121 at *
      refine gro.anyM_one 9 (by kernel_rfl) rfl ?_
      intro v122 hz K' hK'
      replace BB := Lib.hid (BB.out.trans (hz.mono BB.out.size))
      replace KK := Lib.hid (KK.out.below hz)
      replace HX := Lib.hid ((HX.out.below hz).more hz.size)
      replace HB2 := Lib.hid ((HB2.out.below hz).more hz.size)
      replace sz := Nat.le_trans sz hz.size
      clear hz
      go_simp
      (refine (C1.out _ HX.out).mono ?_)
      rintro e v123 ⟨A3, n3, c3, rfl, q3, ⟨p3, fr⟩, hr, hb⟩
      replace BB := Lib.hid (BB.out.trans (hb.mono BB.out.size))
      replace KK := Lib.hid (KK.out.below hb)
      replace HX := Lib.hid ((HX.out.below hb).more hb.size)
      replace HB2 := Lib.hid ((HB2.out.below hb).more hb.size)
      have HA3 := Lib.hid hr
      have f_HA3_gx : 0 < n3 → ∀ ad, A3 = some ad → ad.block ≠ gx := fun _ ad h => by have := fr ad h; omega
      replace sz := Nat.le_trans sz hb.size
      clear hb hr fr
      refine hK' _ _ ⟨fun _ => KK.out.perm (by simp), ?_⟩
      clear hK' K'
      clear HX
      refine gro.anyM_one 10 (by kernel_rfl) rfl ?_
      intro v124 hz K' hK'
      replace BB := Lib.hid (BB.out.trans (hz.mono BB.out.size))
      replace KK := Lib.hid (KK.out.below hz)
      replace HB2 := Lib.hid ((HB2.out.below hz).more hz.size)
      replace HA3 := Lib.hid ((HA3.out.below hz).more hz.size)
      replace sz := Nat.le_trans sz hz.size
      clear hz
      go_simp
      refine hK' _ _ ⟨fun _ => KK.out.perm (by simp), ?_⟩
      clear hK' K'
      (refine gro.anyM_first_all [11, 12] 2 (gro.lasts_bx _) (by kernel_rfl) (by intro _ _ _ _ _ h; exact h) (by kernel_rfl) (by kernel_rfl) (by kernel_rfl) (by kernel_rfl) (by kernel_rfl) (KK.out.perm (by simp)) ?_; apply Exists.intro; refine ⟨fun w0 => ?_, ?_⟩; focus (simp only [gro.pickA, List.filterMap_cons, List.filterMap_nil, List.getElem?_toArray, List.getElem?_cons_succ, List.getElem?_cons_zero]; change wpQuiet _ _ _ _ (_ :: _ ::  []) _; (repeat (go_big_quiet_step ((fail)))); exact wpQuiet_nil rfl))
      refine gro.anyM_one 13 (by kernel_rfl) rfl ?_
      intro v125 hz K' hK'
      replace BB := Lib.hid (BB.out.trans (hz.mono BB.out.size))
      replace KK := Lib.hid (KK.out.below hz)
      replace HB2 := Lib.hid ((HB2.out.below hz).more hz.size)
      replace HA3 := Lib.hid ((HA3.out.below hz).more hz.size)
      replace sz := Nat.le_trans sz hz.size
      clear hz
      have R125 := KK.out.rules
      simp only [gro.Rules] at R125
      go_simp
      refine hK' _ _ ?_
      clear hK' K'
      clear R125
      have KP := KK.out.perm (L' := [(gx, 32, #[Value.int IntKind.i64 v, Value.int IntKind.i64 k, Value.int IntKind.i64 p, Value.int IntKind.i64 q, Value.int IntKind.i64 now, Value.slice A n c])]) (by simp)
      obtain ⟨v126, hv126, K5, B5, z5, P5⟩ := cst.putS (Value.int IntKind.i64 v) (Value.int IntKind.i64 k) (Value.int IntKind.i64 p) (Value.int IntKind.i64 q) (Value.int IntKind.i64 (now + x5)) (Value.slice A3 n3 c3) KP (by simp <;> omega) BB.out wg_gx
      replace HB2 := Lib.hid (P5 _ _ _ HB2.out f_HB2_gx)
      replace HA3 := Lib.hid (P5 _ _ _ HA3.out f_HA3_gx)
      replace KK := Lib.hid K5
      replace BB := Lib.hid B5
      rw [← z5] at sz
      clear K5 B5 P5 KP z5
      rw [hv126]
      clear hv126
      refine ⟨fun h => absurd (show true = false from h) (by decide), ?_⟩
      refine gro.anyM_one 14 (by kernel_rfl) rfl ?_
      intro v127 hz K' hK'
      replace BB := Lib.hid (BB.out.trans (hz.mono BB.out.size))
      replace KK := Lib.hid (KK.out.below hz)
      replace HB2 := Lib.hid ((HB2.out.below hz).more hz.size)
      replace HA3 := Lib.hid ((HA3.out.below hz).more hz.size)
      replace sz := Nat.le_trans sz hz.size
      clear hz
      go_simp
      refine hK' _ _ ⟨fun h => absurd (show true = false from h) (by decide), ?_⟩
      clear hK' K'
      refine gro.anyM_done (by kernel_rfl) ?_
      intro v128 hz
      replace BB := Lib.hid (BB.out.trans (hz.mono BB.out.size))
      replace KK := Lib.hid (KK.out.below hz)
      replace HB2 := Lib.hid ((HB2.out.below hz).more hz.size)
      replace HA3 := Lib.hid ((HA3.out.below hz).more hz.size)
      replace sz := Nat.le_trans sz hz.size
      clear hz
      have R128 := KK.out.rules
      simp only [gro.Rules] at R128
      go_wp2_with fail
      clear R120
      (refine (C3.out _ HB2.out).mono ?_)
      rintro e v129 ⟨A4, n4, c4, rfl, q4, ⟨p4, fr⟩, hr, hb⟩
      replace BB := Lib.hid (BB.out.trans (hb.mono BB.out.size))
      replace KK := Lib.hid (KK.out.below hb)
      replace HB2 := Lib.hid ((HB2.out.below hb).more hb.size)
      replace HA3 := Lib.hid ((HA3.out.below hb).more hb.size)
      have HA4 := Lib.hid hr
      have f_HA4_gx : 0 < n4 → ∀ ad, A4 = some ad → ad.block ≠ gx := fun _ ad h => by have := fr ad h; omega
      replace sz := Nat.le_trans sz hb.size
      clear hb hr fr
      have R129 := KK.out.rules
      simp only [gro.Rules] at R129
      clear HB2
      have hn4 := Lib.hid (mem.PRead.len HA4.out)
      have hn3 := hyn.out _ _ _ HA3.out
      have hln4 : n4 ≤ 80 := by have := hn4.out; omega
      have hc4 : c4 ≤ 9223372036854775807 := p4
      clear hyn
      go_wp2_with fail
      clear R128
      clear R129
      go_loopg [20, 105] n4 (fun kx s20 s105 wr => ∃ (i : Nat) (S : Int), s105 = .int .i64 i ∧ s20 = .int .i64 S ∧ i ≤ n4 ∧ n4 - i ≤ kx ∧ 0 ≤ S ∧ S ≤ 30 * i ∧ Hid (cst.sumV (lv.take i) = S) ∧ Hid (mem.PRead wr wr.heap.size A3 n3 yy) ∧ Hid (mem.PRead wr wr.heap.size A4 n4 lv) ∧ Hid (gro.Bx wr [(gx, 32, #[Value.int IntKind.i64 v, Value.int IntKind.i64 k, Value.int IntKind.i64 p, Value.int IntKind.i64 q, Value.int IntKind.i64 (now + x5), Value.slice A3 n3 c3])]) ∧ Hid (Below w.heap.size w wr) ∧ gx + 1 ≤ wr.heap.size)
      case atStart => exact ⟨0, 0, rfl, rfl, by omega, by omega, by omega, by omega, (rfl : cst.sumV (lv.take 0) = 0), HA3, HA4, KK, BB, by omega⟩
      case round =>
        clear KK BB sz HA3 HA4
        obtain ⟨i, S, rfl, rfl, hi2, hkx2, hS0, hS1, HS, HA3, HA4, KK, BB, sz⟩ := hrel
        by_cases hlt2 : i < n4
        case neg =>
          obtain rfl : i = n4 := by omega
          have e : S = nn := by rw [← HS.out, ← hnn, List.take_of_length_le (by rw [hn4.out]; exact Nat.le_refl _)]
          subst e
          clear HS hnn hkx2 hi2 hlq
          have R160 := KK.out.rules
          simp only [gro.Rules] at R160
          go_wp2_with fail
          (refine (C2.out _ _ _ _ HA3.out q3 p3).mono ?_)
          rintro e v161 ⟨rfl, hb⟩
          replace BB := Lib.hid (BB.out.trans (hb.mono BB.out.size))
          replace KK := Lib.hid (KK.out.below hb)
          replace HA3 := Lib.hid ((HA3.out.below hb).more hb.size)
          replace HA4 := Lib.hid ((HA4.out.below hb).more hb.size)
          replace sz := Nat.le_trans sz hb.size
          clear hb
          have R161 := KK.out.rules
          simp only [gro.Rules] at R161
          obtain ⟨gb, hs_gb⟩ : ∃ s, (v161).heap.size = s := ⟨_, rfl⟩
          have wg_gb : w.heap.size ≤ gb := by have := BB.out.size; omega
          go_wp2_with fail
          clear R160
          obtain ⟨v162, hv162, K5, B5, z5, P5⟩ := cst.newbox (43) #[Value.int IntKind.i64 lo, Value.int IntKind.i64 1, Value.int IntKind.i64 mid, Value.int IntKind.i64 1, Value.int IntKind.i64 tot, Value.int IntKind.i64 1] KK.out hs_gb BB.out BB.out.size
          rw [hv162]
          have o_gx_gb : gx < gb := by omega
          have f_HA3_gb := (P5 _ _ _ HA3.out).2
          replace HA3 := Lib.hid (P5 _ _ _ HA3.out).1
          have f_HA4_gb := (P5 _ _ _ HA4.out).2
          replace HA4 := Lib.hid (P5 _ _ _ HA4.out).1
          replace KK := Lib.hid K5
          replace BB := Lib.hid B5
          replace sz : gb + 1 ≤ (v162).heap.size := by rw [z5]; exact Nat.le_refl _
          clear K5 B5 P5 z5 hv162 hs_gb
          have R162 := KK.out.rules
          simp only [gro.Rules] at R162
          generalize lst.mostI k p = M at *
          have qm : decide ((n3 : Int) ≤ M) = true := decide_eq_true hn3
          go_wp2_with fail
          clear R161
          (refine gro.wp_region_grown (by kernel_rfl) (by kernel_rfl) ?_; (repeat (go_big_quiet_step ((first | (go_at_call 49; exact gro.call_grown (D7.out _)) | (go_at_call 51; exact gro.call_grown (D5.out _)) | (go_at_call 52; exact gro.call_grown (D6.out _)) | (go_at_call 53; exact gro.call_same (H8.out _)) | (go_at_call 21; exact gro.call_grown (H9.out _)))))); refine wpQuiet_nil ?_; intro _ hw'; obtain ⟨nx, hw''⟩ := hw'; subst hw'')
          go_wp2
          go_ret
          exact ⟨rfl, BB.out.trans ((gro.below_grown _ nx).mono BB.out.size)⟩
        obtain ⟨ad, rfl, hblt, hc1, hc2⟩ := mem.PRead.at_ HA4.out hlt2
        change wr.cell? (ad.add (i * 2)) = some (.int .i64 (buk.at_ lv i).1) at hc1
        change wr.cell? ⟨(ad.add (i * 2)).block, (ad.add (i * 2)).off + 1, none⟩ = some (.int .i64 (buk.at_ lv i).2) at hc2
        have hq5 := hlq.out (buk.at_ lv i) (by rw [buk.at_, List.getElem?_eq_getElem (by rw [hn4.out]; exact hlt2)]; exact List.getElem_mem _)
        have HS2 := Lib.hid (cst.sumV_take (its := lv) (i := i) (by rw [hn4.out]; exact hlt2))
        rw [HS.out] at HS2
        generalize (buk.at_ lv i).1 = T at *
        generalize (buk.at_ lv i).2 = V at *
        obtain ⟨gi, hgi⟩ : ∃ s, wr.heap.size = s := ⟨_, rfl⟩
        have KZ := KK.out.new (t := 61) (c := #[Value.int IntKind.i64 T, Value.int IntKind.i64 V]) hgi
        have RZ := KZ.rules
        simp only [gro.Rules] at RZ
        have hw5 : IntKind.i64.wrap (S + V) = S + V := IntWalk.i64_in _ (by omega)
        go_wp2_with fail
        have hbz : Below wr.heap.size wr (wr.alloc (.cells #[Value.int IntKind.i64 T, Value.int IntKind.i64 V] 61)) := (Below.refl _ _).alloc (Nat.le_refl _) _
        have HA3' := Lib.hid ((HA3.out.below hbz).more hbz.size)
        have HA4' := Lib.hid ((HA4.out.below hbz).more hbz.size)
        go_roundg (n4 - (i + 1))
        case measure => omega
        case rel => exact ⟨i + 1, S + V, by go_num, rfl, by omega, by omega, by omega, by omega, HS2, HA3'.out, HA4'.out, fun q hq => KZ q (List.mem_cons_of_mem _ hq), BB.out.alloc BB.out.size _, by simp; omega⟩
    have hmes : m - (i + 1) < m - i := by omega
    have hmes2 : i + 1 ≤ m := by omega
    have hul : (cst.un added).length ≤ 2400 := by
      have h1 := cst.un_len (b := q) (its := added) (fun x hx => (HQ.out x hx).2.2)
      have h2 : q * added.length ≤ 30 * 80 := Nat.mul_le_mul (by omega) (by omega)
      omega
    have hrk := HR.out.ask (p := p) (by omega) hto
    obtain ⟨_, hyl, hyt, _, _, _, _, _⟩ := hrk
    have hlx := mem.PRead.len HX.out
    have hnx : n ≤ 2000 := by omega
    clear hyl hyt
    obtain ⟨ad, rfl, hblt, hc1, hc2⟩ := mem.PRead.at_ HI.out hlt
    change wr.cell? (ad.add (i * 2)) = some (.int .i64 (buk.at_ its i).1) at hc1
    change wr.cell? ⟨(ad.add (i * 2)).block, (ad.add (i * 2)).off + 1, none⟩ = some (.int .i64 (buk.at_ its i).2) at hc2
    obtain ⟨⟨ha1, ha2⟩, ⟨ha3, ha4⟩, HN⟩ := HA.out i (by rw [HL.out]; exact hlt)
    have HT1 := HT.out hlt
    have HN2 : Hid (i + 1 < m → (buk.at_ its i).1 ≤ (buk.at_ its (i + 1)).1) := fun h => HN (by rw [HL.out]; exact h)
    clear HN HT
    generalize (buk.at_ its i).1 = T at *
    generalize hV : (buk.at_ its i).2 = V at *
    obtain ⟨V, rfl⟩ : ∃ n : Nat, V = n := ⟨V.toNat, by omega⟩
    clear hV
    obtain ⟨HR2, ht2⟩ := HR.out.adv (now2 := T) hn0 HT1 (by omega) ⟨hv1, by omega⟩
    obtain ⟨hin, HR3, ht3⟩ := HR2.many (by omega) (by omega) hv1 V (by omega) (by omega)
    have hg1 := HR.out.fitS (p := p) (m := q) hn0 (by omega) ⟨hv1, by omega⟩ (by omega) (by omega) (by omega) hto
    have hg2 := HR2.fitS (p := p) (m := q) (by omega) (by omega) ⟨hv1, by omega⟩ (by omega) (by omega) (by omega) (by omega)
    obtain ⟨_, r1, r2, r3, r4, r5, r6, r7⟩ := HR2.ask (p := p) (by omega) (by omega)
    rw [← hin] at HR3 ht3
    have C1 := Lib.hid (fun W (h : mem.PRead W W.heap.size A n ys) => cst.AdvS_ok (p := p) (m := q) (tt := T) h hnc hcm hnx hg1 ⟨HT1, by omega⟩)
    have hpc : Hid (mem.pc (added ++ [(T, (V : Int))]) = mem.pc added ++ [.int .i64 T, .int .i64 V]) := made.pc_snoc added T V
    have hun : Hid (cst.un (added ++ [(T, (V : Int))]) = cst.un added ++ List.replicate V T) := by rw [Hid, cst.un_snoc, Int.toNat_natCast]
    have HQ2 : Hid (∀ x ∈ added, 0 ≤ x.1 ∧ x.1 ≤ T ∧ 0 ≤ x.2 ∧ x.2 ≤ q) := fun x hx => by obtain ⟨e1, e2, e3, e4⟩ := HQ.out x hx; exact ⟨e1, Int.le_trans e2 HT1, e3, e4⟩
    have HQ3 : Hid (∀ x ∈ added ++ [(T, (V : Int))], 0 ≤ x.1 ∧ x.1 ≤ T ∧ 0 ≤ x.2 ∧ x.2 ≤ q) := fun x hx => by
      rcases List.mem_append.1 hx with h | h
      · exact HQ2.out x h
      · obtain rfl := List.mem_singleton.1 h; exact ⟨ha1, Int.le_refl _, ha3, ha4⟩
    replace HR3 := Lib.hid HR3
    replace HR2 := Lib.hid HR2
    by_cases hfull : (p : Int) < (lst.totalN (lst.expireL (clk.firstI T v) ys) : Int) + V
    case pos =>
      have C2 := Lib.hid (fun A n c W (h : mem.PRead W W.heap.size A n (lst.expireL (clk.firstI T v) ys)) h1 h2 => cst.AddS_full (c := c) h h1 h2 (by have := mem.PRead.len h; omega) hg2 ⟨ha3, ha4⟩ (by omega) hfull)
      have hto2 : (lst.totalN (lst.expireL (clk.firstI T v) ys) : Int) ≤ p := by omega
      clear hg1 hg2 r1 r2 r3 r4 r5 r6 r7 ht2 ht3 hfull hin
      generalize hyq2 : lst.expireL (clk.firstI T v) ys = yq2 at *
      have R20 := KK.out.rules
      simp only [gro.Rules] at R20
      obtain ⟨gi, hs_gi⟩ : ∃ s, (wr).heap.size = s := ⟨_, rfl⟩
      have wg_gi : w.heap.size ≤ gi := by have := BB.out.size; omega
      obtain ⟨v21, hv21, K5, B5, z5, P5⟩ := cst.newbox (61) #[Value.int IntKind.i64 T, Value.int IntKind.i64 V] KK.out hs_gi BB.out BB.out.size
      have o_gx_gi : gx < gi := by omega
      have f_HX_gi := (P5 _ _ _ HX.out).2
      replace HX := Lib.hid (P5 _ _ _ HX.out).1
      have f_HI_gi := (P5 _ _ _ HI.out).2
      replace HI := Lib.hid (P5 _ _ _ HI.out).1
      have HO5 := mem.own_alloc HU.out (.cells #[Value.int IntKind.i64 T, Value.int IntKind.i64 V] 61)
      rw [hv21] at HO5
      have k_HU_gi : ∀ k, (u).ownBlock = some k → k < gi := fun k h => by have := (World.ownsRow.lt HU.out k h).2; omega
      replace HU := Lib.hid HO5
      clear HO5
      replace KK := Lib.hid K5
      replace BB := Lib.hid B5
      replace sz : gi + 1 ≤ (v21).heap.size := by rw [z5]; exact Nat.le_refl _
      clear K5 B5 P5 z5
      have R21 := KK.out.rules
      simp only [gro.Rules] at R21
      go_wp2_with fail
      clear R20 hv21 hs_gi
      (refine (C1.out _ HX.out).mono ?_)
      rintro e v22 ⟨A3, n3, c3, rfl, q3, ⟨p3, fr⟩, hr, hb⟩
      replace BB := Lib.hid (BB.out.trans (hb.mono BB.out.size))
      replace KK := Lib.hid (KK.out.below hb)
      replace HX := Lib.hid ((HX.out.below hb).more hb.size)
      replace HI := Lib.hid ((HI.out.below hb).more hb.size)
      have d_HA3_HU : 0 < n3 → ∀ ad, A3 = some ad → some ad.block ≠ (u).ownBlock := fun _ ad h e => by have h1 := fr ad h; have h2 := (World.ownsRow.lt HU.out _ e.symm).2; omega
      replace HU := Lib.hid (mem.own_keep HU.out hb)
      have HA3 := Lib.hid hr
      have f_HA3_gi : 0 < n3 → ∀ ad, A3 = some ad → ad.block ≠ gi := fun _ ad h => by have := fr ad h; omega
      have f_HA3_gx : 0 < n3 → ∀ ad, A3 = some ad → ad.block ≠ gx := fun _ ad h => by have := fr ad h; omega
      have fx3 : ∀ ad, A3 = some ad → gx < ad.block := fun ad h => by have := fr ad h; omega
      replace sz := Nat.le_trans sz hb.size
      clear hb hr fr
      have R22 := KK.out.rules
      simp only [gro.Rules] at R22
      clear HX
      have KP := KK.out.perm (L' := [(gx, 32, #[Value.int IntKind.i64 v, Value.int IntKind.i64 k, Value.int IntKind.i64 p, Value.int IntKind.i64 q, Value.int IntKind.i64 now, Value.slice A n c]), (gi, 61, #[Value.int IntKind.i64 T, Value.int IntKind.i64 V])]) (by simp)
      obtain ⟨v23, hv23, K5, B5, z5, P5⟩ := cst.putS (Value.int IntKind.i64 v) (Value.int IntKind.i64 k) (Value.int IntKind.i64 p) (Value.int IntKind.i64 q) (Value.int IntKind.i64 T) (Value.slice A3 n3 c3) KP (by simp <;> omega) BB.out wg_gx
      replace HI := Lib.hid (P5 _ _ _ HI.out f_HI_gx)
      replace HA3 := Lib.hid (P5 _ _ _ HA3.out f_HA3_gx)
      have HO5 := cst.own6 HU.out (show gx < gx + 1 by omega) (Value.int IntKind.i64 v) (Value.int IntKind.i64 k) (Value.int IntKind.i64 p) (Value.int IntKind.i64 q) (Value.int IntKind.i64 T) (Value.slice A3 n3 c3)
      rw [hv23] at HO5
      replace HU := Lib.hid HO5
      clear HO5
      replace KK := Lib.hid K5
      replace BB := Lib.hid B5
      rw [← z5] at sz
      clear K5 B5 P5 KP z5
      have R23 := KK.out.rules
      simp only [gro.Rules] at R23
      go_wp2_with fail
      clear R21 R22 hv23
      (refine (C2.out _ _ _ _ HA3.out q3 p3).mono ?_)
      rintro e v24 ⟨A4, n4, c4, rfl, q4, ⟨p4, fr⟩, hr, hb⟩
      replace BB := Lib.hid (BB.out.trans (hb.mono BB.out.size))
      replace KK := Lib.hid (KK.out.below hb)
      replace HI := Lib.hid ((HI.out.below hb).more hb.size)
      replace HA3 := Lib.hid ((HA3.out.below hb).more hb.size)
      have d_HA4_HU : 0 < n4 → ∀ ad, A4 = some ad → some ad.block ≠ (u).ownBlock := fun _ ad h e => by have h1 := fr ad h; have h2 := (World.ownsRow.lt HU.out _ e.symm).2; omega
      replace HU := Lib.hid (mem.own_keep HU.out hb)
      have HA4 := Lib.hid hr
      have f_HA4_gx : 0 < n4 → ∀ ad, A4 = some ad → ad.block ≠ gx := fun _ ad h => by have := fr ad h; omega
      have f_HA4_gi : 0 < n4 → ∀ ad, A4 = some ad → ad.block ≠ gi := fun _ ad h => by have := fr ad h; omega
      have fx4 : ∀ ad, A4 = some ad → gx < ad.block := fun ad h => by have := fr ad h; omega
      replace sz := Nat.le_trans sz hb.size
      clear hb hr fr
      have R24 := KK.out.rules
      simp only [gro.Rules] at R24
      obtain ⟨gy, hs_gy⟩ : ∃ s, (v24).heap.size = s := ⟨_, rfl⟩
      have wg_gy : w.heap.size ≤ gy := by have := BB.out.size; omega
      obtain ⟨v25, hv25, K5, B5, z5, P5⟩ := cst.newbox (32) #[Value.int IntKind.i64 0, Value.int IntKind.i64 0, Value.int IntKind.i64 0, Value.int IntKind.i64 0, Value.int IntKind.i64 0, Value.slice A4 n4 c4] KK.out hs_gy BB.out BB.out.size
      have o_gx_gy : gx < gy := by omega
      have o_gi_gy : gi < gy := by omega
      have f_HI_gy := (P5 _ _ _ HI.out).2
      replace HI := Lib.hid (P5 _ _ _ HI.out).1
      have f_HA3_gy := (P5 _ _ _ HA3.out).2
      replace HA3 := Lib.hid (P5 _ _ _ HA3.out).1
      have f_HA4_gy := (P5 _ _ _ HA4.out).2
      replace HA4 := Lib.hid (P5 _ _ _ HA4.out).1
      have HO5 := mem.own_alloc HU.out (.cells #[Value.int IntKind.i64 0, Value.int IntKind.i64 0, Value.int IntKind.i64 0, Value.int IntKind.i64 0, Value.int IntKind.i64 0, Value.slice A4 n4 c4] 32)
      rw [hv25] at HO5
      have k_HU_gy : ∀ k, (u).ownBlock = some k → k < gy := fun k h => by have := (World.ownsRow.lt HU.out k h).2; omega
      replace HU := Lib.hid HO5
      clear HO5
      replace KK := Lib.hid K5
      replace BB := Lib.hid B5
      replace sz : gy + 1 ≤ (v25).heap.size := by rw [z5]; exact Nat.le_refl _
      clear K5 B5 P5 z5
      have R25 := KK.out.rules
      simp only [gro.Rules] at R25
      go_wp2_with fail
      clear R23 R24 hv25 hs_gy
      have hgb : gx + 1 ≤ gy + 1 := by omega
      replace hgb := Lib.hid hgb
      replace hmes := Lib.hid hmes
      replace hmes2 := Lib.hid hmes2
      replace ha1 := Lib.hid ha1
      replace ha2 := Lib.hid ha2
      replace hal := Lib.hid hal
      replace hkx := Lib.hid hkx
      replace sz := Lib.hid sz
      replace hto2 := Lib.hid hto2
      clear hn0 hn1 HT1 hnc hcm hnx hlx hp1 hp2 hk1 hk2 hi hc1 hc2 hblt hto hv1 hv2 hul ha3 ha4 hq1 hq2
      go_roundg (m - (i + 1))
      case measure => exact Nat.lt_of_lt_of_le hmes.out hkx.out
      case rel => exact ⟨_, i + 1, A3, n3, c3, yq2, added, T, by go_num, rfl, hmes2.out, Nat.le_refl _, q3, p3, ha1.out, ha2.out, HN2.out, Nat.le_succ_of_le hal.out, hto2.out, HR2.out, HQ2, HA3.out, HI.out, Lib.hid fx3, Lib.hid d_HA3_HU, Lib.hid d_HI_HU, HU.out, KK.out.perm (by simp), BB.out, Nat.le_trans hgb.out sz.out⟩
    case neg =>
      have C2 := Lib.hid (fun A n c W (h : mem.PRead W W.heap.size A n (lst.expireL (clk.firstI T v) ys)) h1 h2 => cst.AddS_ok (c := c) h h1 h2 (by have := mem.PRead.len h; omega) hg2 ⟨ha3, ha4⟩ (by omega) (by omega))
      have hto3 : (lst.totalN (lst.insM (lst.expireL (clk.firstI T v) ys) k T V) : Int) ≤ p := by omega
      clear hg1 hg2 r1 r2 r3 r4 r5 r6 r7 ht2 ht3 hfull hin
      generalize hyq2 : lst.expireL (clk.firstI T v) ys = yq2 at *
      generalize hyq3 : lst.insM yq2 k T V = yq3 at *
      have R20 := KK.out.rules
      simp only [gro.Rules] at R20
      obtain ⟨gi, hs_gi⟩ : ∃ s, (wr).heap.size = s := ⟨_, rfl⟩
      have wg_gi : w.heap.size ≤ gi := by have := BB.out.size; omega
      obtain ⟨v21, hv21, K5, B5, z5, P5⟩ := cst.newbox (61) #[Value.int IntKind.i64 T, Value.int IntKind.i64 V] KK.out hs_gi BB.out BB.out.size
      have o_gx_gi : gx < gi := by omega
      have f_HX_gi := (P5 _ _ _ HX.out).2
      replace HX := Lib.hid (P5 _ _ _ HX.out).1
      have f_HI_gi := (P5 _ _ _ HI.out).2
      replace HI := Lib.hid (P5 _ _ _ HI.out).1
      have HO5 := mem.own_alloc HU.out (.cells #[Value.int IntKind.i64 T, Value.int IntKind.i64 V] 61)
      rw [hv21] at HO5
      have k_HU_gi : ∀ k, (u).ownBlock = some k → k < gi := fun k h => by have := (World.ownsRow.lt HU.out k h).2; omega
      replace HU := Lib.hid HO5
      clear HO5
      replace KK := Lib.hid K5
      replace BB := Lib.hid B5
      replace sz : gi + 1 ≤ (v21).heap.size := by rw [z5]; exact Nat.le_refl _
      clear K5 B5 P5 z5
      have R21 := KK.out.rules
      simp only [gro.Rules] at R21
      go_wp2_with fail
      clear R20 hv21 hs_gi
      (refine (C1.out _ HX.out).mono ?_)
      rintro e v22 ⟨A3, n3, c3, rfl, q3, ⟨p3, fr⟩, hr, hb⟩
      replace BB := Lib.hid (BB.out.trans (hb.mono BB.out.size))
      replace KK := Lib.hid (KK.out.below hb)
      replace HX := Lib.hid ((HX.out.below hb).more hb.size)
      replace HI := Lib.hid ((HI.out.below hb).more hb.size)
      have d_HA3_HU : 0 < n3 → ∀ ad, A3 = some ad → some ad.block ≠ (u).ownBlock := fun _ ad h e => by have h1 := fr ad h; have h2 := (World.ownsRow.lt HU.out _ e.symm).2; omega
      replace HU := Lib.hid (mem.own_keep HU.out hb)
      have HA3 := Lib.hid hr
      have f_HA3_gi : 0 < n3 → ∀ ad, A3 = some ad → ad.block ≠ gi := fun _ ad h => by have := fr ad h; omega
      have f_HA3_gx : 0 < n3 → ∀ ad, A3 = some ad → ad.block ≠ gx := fun _ ad h => by have := fr ad h; omega
      have fx3 : ∀ ad, A3 = some ad → gx < ad.block := fun ad h => by have := fr ad h; omega
      replace sz := Nat.le_trans sz hb.size
      clear hb hr fr
      have R22 := KK.out.rules
      simp only [gro.Rules] at R22
      clear HX
      have KP := KK.out.perm (L' := [(gx, 32, #[Value.int IntKind.i64 v, Value.int IntKind.i64 k, Value.int IntKind.i64 p, Value.int IntKind.i64 q, Value.int IntKind.i64 now, Value.slice A n c]), (gi, 61, #[Value.int IntKind.i64 T, Value.int IntKind.i64 V])]) (by simp)
      obtain ⟨v23, hv23, K5, B5, z5, P5⟩ := cst.putS (Value.int IntKind.i64 v) (Value.int IntKind.i64 k) (Value.int IntKind.i64 p) (Value.int IntKind.i64 q) (Value.int IntKind.i64 T) (Value.slice A3 n3 c3) KP (by simp <;> omega) BB.out wg_gx
      replace HI := Lib.hid (P5 _ _ _ HI.out f_HI_gx)
      replace HA3 := Lib.hid (P5 _ _ _ HA3.out f_HA3_gx)
      have HO5 := cst.own6 HU.out (show gx < gx + 1 by omega) (Value.int IntKind.i64 v) (Value.int IntKind.i64 k) (Value.int IntKind.i64 p) (Value.int IntKind.i64 q) (Value.int IntKind.i64 T) (Value.slice A3 n3 c3)
      rw [hv23] at HO5
      replace HU := Lib.hid HO5
      clear HO5
      replace KK := Lib.hid K5
      replace BB := Lib.hid B5
      rw [← z5] at sz
      clear K5 B5 P5 KP z5
      have R23 := KK.out.rules
      simp only [gro.Rules] at R23
      go_wp2_with fail
      clear R21 R22 hv23
      (refine (C2.out _ _ _ _ HA3.out q3 p3).mono ?_)
      rintro e v24 ⟨A4, n4, c4, rfl, q4, ⟨p4, fr⟩, hr, hb⟩
      replace BB := Lib.hid (BB.out.trans (hb.mono BB.out.size))
      replace KK := Lib.hid (KK.out.below hb)
      replace HI := Lib.hid ((HI.out.below hb).more hb.size)
      replace HA3 := Lib.hid ((HA3.out.below hb).more hb.size)
      have d_HA4_HU : 0 < n4 → ∀ ad, A4 = some ad → some ad.block ≠ (u).ownBlock := fun _ ad h e => by have h1 := fr ad h; have h2 := (World.ownsRow.lt HU.out _ e.symm).2; omega
      replace HU := Lib.hid (mem.own_keep HU.out hb)
      have HA4 := Lib.hid hr
      have f_HA4_gx : 0 < n4 → ∀ ad, A4 = some ad → ad.block ≠ gx := fun _ ad h => by have := fr ad h; omega
      have f_HA4_gi : 0 < n4 → ∀ ad, A4 = some ad → ad.block ≠ gi := fun _ ad h => by have := fr ad h; omega
      have fx4 : ∀ ad, A4 = some ad → gx < ad.block := fun ad h => by have := fr ad h; omega
      replace sz := Nat.le_trans sz hb.size
      clear hb hr fr
      have R24 := KK.out.rules
      simp only [gro.Rules] at R24
      obtain ⟨gy, hs_gy⟩ : ∃ s, (v24).heap.size = s := ⟨_, rfl⟩
      have wg_gy : w.heap.size ≤ gy := by have := BB.out.size; omega
      obtain ⟨v25, hv25, K5, B5, z5, P5⟩ := cst.newbox (32) #[Value.int IntKind.i64 v, Value.int IntKind.i64 k, Value.int IntKind.i64 p, Value.int IntKind.i64 q, Value.int IntKind.i64 T, Value.slice A4 n4 c4] KK.out hs_gy BB.out BB.out.size
      have o_gx_gy : gx < gy := by omega
      have o_gi_gy : gi < gy := by omega
      have f_HI_gy := (P5 _ _ _ HI.out).2
      replace HI := Lib.hid (P5 _ _ _ HI.out).1
      have f_HA3_gy := (P5 _ _ _ HA3.out).2
      replace HA3 := Lib.hid (P5 _ _ _ HA3.out).1
      have f_HA4_gy := (P5 _ _ _ HA4.out).2
      replace HA4 := Lib.hid (P5 _ _ _ HA4.out).1
      have HO5 := mem.own_alloc HU.out (.cells #[Value.int IntKind.i64 v, Value.int IntKind.i64 k, Value.int IntKind.i64 p, Value.int IntKind.i64 q, Value.int IntKind.i64 T, Value.slice A4 n4 c4] 32)
      rw [hv25] at HO5
      have k_HU_gy : ∀ k, (u).ownBlock = some k → k < gy := fun k h => by have := (World.ownsRow.lt HU.out k h).2; omega
      replace HU := Lib.hid HO5
      clear HO5
      replace KK := Lib.hid K5
      replace BB := Lib.hid B5
      replace sz : gy + 1 ≤ (v25).heap.size := by rw [z5]; exact Nat.le_refl _
      clear K5 B5 P5 z5
      have R25 := KK.out.rules
      simp only [gro.Rules] at R25
      go_wp2_with fail
      clear R23 R24 hv25 hs_gy
      have hgb : gx + 1 ≤ gy + 1 := by omega
      replace hgb := Lib.hid hgb
      clear HA3
      replace hmes := Lib.hid hmes
      replace hmes2 := Lib.hid hmes2
      replace ha1 := Lib.hid ha1
      replace ha2 := Lib.hid ha2
      replace hal := Lib.hid hal
      replace hkx := Lib.hid hkx
      replace sz := Lib.hid sz
      replace hto3 := Lib.hid hto3
      clear hn0 hn1 HT1 hnc hcm hnx hlx hp1 hp2 hk1 hk2 hi hc1 hc2 hblt hto hv1 hv2 hul ha3 ha4 hq1 hq2
      obtain ⟨B2, d2, hu, j1, j2, j3⟩ := mem.own_form HU.out
      subst hu
      have j2' : d2 ≤ 9223372036854775807 := j2
      clear j3
      have KL := KK.out.perm (L' := [(gy, 32, #[Value.int IntKind.i64 v, Value.int IntKind.i64 k, Value.int IntKind.i64 p, Value.int IntKind.i64 q, Value.int IntKind.i64 T, Value.slice A4 n4 c4]), (gi, 61, #[Value.int IntKind.i64 T, Value.int IntKind.i64 V])]) (by simp)
      (refine gro.wp_region_steady_s 3 4 _ (gro.lasts_bx _) (by kernel_rfl) (by kernel_rfl) (by intro _ _ _ _ _ h; exact h) (by kernel_rfl) (by kernel_rfl) (by kernel_rfl) (KL).drew ?_; apply Exists.intro; refine ⟨fun w0 hb0 => ?_, ?_⟩; focus (have RZ := gro.Bx.rules hb0; simp only [gro.Rules] at RZ; simp only [List.take_succ_cons, List.take_zero]; (repeat (go_big_quiet_step ((fail)))); exact wpQuiet_nil rfl))
      refine gro.anyG_one 3 (by kernel_rfl) rfl ?_
      intro y1 hz1 K' hK'
      have KL1 := KL.drew.below hz1
      have HU1 := mem.own_keep (World.ownsRow.drew HU.out) hz1
      go_simp
      refine hK' _ _ ⟨KL1.alloc _, ?_⟩
      clear hK' K'
      obtain ⟨y2, hy2⟩ : ∃ y, y1.alloc (.cells #[Value.int IntKind.i64 T, Value.int IntKind.i64 V] 61) = y := ⟨_, rfl⟩
      have hzA : Below y1.heap.size y1 y2 := by rw [← hy2]; exact (Below.refl _ _).alloc (Nat.le_refl _) _
      have hBy : y1.heap.size + 1 ≤ y2.heap.size := by rw [← hy2]; simp
      have hRA : mem.Reads y2 (y1.heap.size + 1) 2 (some ⟨y1.heap.size, 0, none⟩) 1 [Value.int IntKind.i64 T, Value.int IntKind.i64 V] := by rw [← hy2]; exact mem.reads_new y1 61 #[Value.int IntKind.i64 T, Value.int IntKind.i64 V] rfl
      have HU2 : y2.ownsRow (gx + 1) 61 2 (Value.slice B2 added.length d2) added.length (mem.pc added) := by rw [← hy2]; exact mem.own_alloc HU1 _
      rw [hy2]
      refine gro.anyG_one 4 (by kernel_rfl) rfl ?_
      intro y3 hz3 K' hK'
      have hR3 := mem.Reads.below hRA (hz3.mono hBy)
      have HU3 := mem.own_keep HU2 hz3
      have BB3 := ((BB.out.drew.trans (hz1.mono BB.out.drew.size)).trans (hzA.mono (BB.out.drew.trans (hz1.mono BB.out.drew.size)).size)).trans (hz3.mono ((BB.out.drew.trans (hz1.mono BB.out.drew.size)).trans (hzA.mono (BB.out.drew.trans (hz1.mono BB.out.drew.size)).size)).size)
      have KK3 := ((KK.out.drew.below hz1).below hzA).below hz3
      have HA43 := (((((mem.Reads.drew HA4.out).below hz1).more hz1.size).below hzA).more hzA.size).below hz3 |>.more hz3.size
      have HI3 := (((((mem.Reads.drew HI.out).below hz1).more hz1.size).below hzA).more hzA.size).below hz3 |>.more hz3.size
      have sz3 : gx + 1 ≤ y3.heap.size := Nat.le_trans (Nat.le_trans hgb.out sz.out) (Nat.le_trans hz1.size (Nat.le_trans hzA.size hz3.size))
      have hl2 : added.length ≤ 1000 := by have := hal.out; have := hmes2.out; omega
      refine mem.step_append_any _ (by rfl) (.tmp 79) (.tmp 81) 48 rfl (gx + 1) 61 i0 (.agg #[.int .i64 0, .int .i64 0]) 2 16 Try.underlying48 HIn.out HZ0.out HZ1.out HZ2.out rfl (by omega) (.slice B2 added.length d2) added.length (mem.pc added) (by rfl) HU3 (y1.heap.size + 1) _ 1 1 _ (by rfl) hR3 (by simp [Value.oneCell']) (by unfold maxLen; omega) (by omega) sz3 ?_
      intro v4 y4 hown4 hg4 hat4
      have hdis : ∀ zz ∈ ([(gy, 32, #[Value.int IntKind.i64 v, Value.int IntKind.i64 k, Value.int IntKind.i64 p, Value.int IntKind.i64 q, Value.int IntKind.i64 T, Value.slice A4 n4 c4]), (gi, 61, #[Value.int IntKind.i64 T, Value.int IntKind.i64 V]), (gx, 32, #[Value.int IntKind.i64 v, Value.int IntKind.i64 k, Value.int IntKind.i64 p, Value.int IntKind.i64 q, Value.int IntKind.i64 T, Value.slice A3 n3 c3])] : List (Nat × TypeId × Array Value)), some (Prod.fst zz) ≠ (Value.slice B2 added.length d2).ownBlock := fun zz hp e => by
        have hk := mem.own_block_ge HU3 _ e.symm
        have h1 := k_HU_gi _ e.symm
        have h2 := k_HU_gy _ e.symm
        simp only [List.mem_cons, List.not_mem_nil, or_false] at hp
        rcases hp with rfl | rfl | rfl
        · exact Nat.lt_irrefl _ h2
        · exact Nat.lt_irrefl _ h1
        · have h5 : gx + 1 ≤ gx := hk
          omega
      have KK4 := cst.Bx.app KK3 hg4 (fun zz hp => hdis zz (by simp only [List.mem_cons, List.not_mem_nil, or_false] at hp ⊢; rcases hp with h | h | h <;> simp [h]))
      have BB4 := cst.grown_below BB3 BB3.size hg4 (fun k hk => by have := mem.own_block_ge HU3 _ hk; omega)
      have HA44 := cst.PRead.app HA43 hg4 d_HA4_HU
      have d4 := cst.dist_app HA43 d_HA4_HU hat4
      have HI4 := cst.PRead.app HI3 hg4 d_HI_HU
      have di4 := cst.dist_app HI3 d_HI_HU hat4
      have sz4 := Nat.le_trans sz3 hg4.size
      refine hK' _ _ ⟨KK4.perm (by simp), ?_⟩
      clear hK' K' HU1 HU2 HU3 hR3 hRA KL1 KL BB3 KK3 HA43 HI3 hg4 hat4 hz1 hzA hz3 hBy hdis sz3
      refine gro.anyG_one 5 (by kernel_rfl) rfl ?_
      intro y5 hz5 K' hK'
      have KK5 := KK4.below hz5
      have BB5 := BB4.trans (hz5.mono BB4.size)
      have HA45 := (HA44.below hz5).more hz5.size
      have HI5 := (HI4.below hz5).more hz5.size
      have HU5 := mem.own_keep hown4 hz5
      have RY := KK5.rules
      simp only [gro.Rules] at RY
      go_simp
      refine hK' _ _ ?_
      clear hK' K' RY
      obtain ⟨y6, hy6, K6, B6, z6, P6⟩ := cst.putS (Value.int IntKind.i64 v) (Value.int IntKind.i64 k) (Value.int IntKind.i64 p) (Value.int IntKind.i64 q) (Value.int IntKind.i64 T) (Value.slice A4 n4 c4) (KK5.perm (L' := [(gx, 32, #[Value.int IntKind.i64 v, Value.int IntKind.i64 k, Value.int IntKind.i64 p, Value.int IntKind.i64 q, Value.int IntKind.i64 T, Value.slice A3 n3 c3]), (gy, 32, #[Value.int IntKind.i64 v, Value.int IntKind.i64 k, Value.int IntKind.i64 p, Value.int IntKind.i64 q, Value.int IntKind.i64 T, Value.slice A4 n4 c4]), (gi, 61, #[Value.int IntKind.i64 T, Value.int IntKind.i64 V])]) (by simp)) (by simp <;> omega) BB5 wg_gx
      have HU6 := cst.own6 HU5 (show gx < gx + 1 by omega) (Value.int IntKind.i64 v) (Value.int IntKind.i64 k) (Value.int IntKind.i64 p) (Value.int IntKind.i64 q) (Value.int IntKind.i64 T) (Value.slice A4 n4 c4)
      rw [hy6] at HU6 ⊢
      have HA46 := P6 _ _ _ HA45 f_HA4_gx
      have HI6 := P6 _ _ _ HI5 f_HI_gx
      refine ⟨K6.perm (by simp), ?_⟩
      clear KK4 BB4 HA44 HI4 hown4 KK5 BB5 HA45 HI5 HU5 P6
      refine gro.anyG_one 6 (by kernel_rfl) rfl ?_
      intro y7 hz7 K' hK'
      go_simp
      refine hK' _ _ ⟨(K6.perm (by simp)).below hz7, ?_⟩
      clear hK' K'
      refine gro.anyG_done (by kernel_rfl) ?_
      intro y8 hz8
      have hz := hz7.trans (hz8.mono hz7.size)
      have KF := K6.below hz
      have BF := B6.trans (hz.mono B6.size)
      have HAF := (HA46.below hz).more hz.size
      have HIF := (HI6.below hz).more hz.size
      have HUF := mem.own_keep HU6 hz
      have sF : gx + 1 ≤ y8.heap.size := Nat.le_trans (Nat.le_trans sz4 hz5.size) (by rw [← z6]; exact hz.size)
      clear K6 B6 HA46 HI6 HU6 hz hz7 hz8 KK HA4 HI BB sz4 hz5 z6
      go_wp2
      go_roundg (m - (i + 1))
      case measure => exact Nat.lt_of_lt_of_le hmes.out hkx.out
      case rel => exact ⟨v4, i + 1, A4, n4, c4, yq3, added ++ [(T, (V : Int))], T, by go_num, rfl, hmes2.out, Nat.le_refl _, q4, p4, ha1.out, ha2.out, HN2.out, by rw [List.length_append]; exact Nat.succ_le_succ hal.out, hto3.out, by rw [Hid, hun.out]; exact HR3.out, HQ3, HAF, HIF, Lib.hid fx4, Lib.hid d4, Lib.hid di4, by rw [Hid, hpc.out, List.length_append]; exact HUF, KF.perm (by simp), BF, sF⟩
end Go.Proofs.Ytofgjcfiinmimaa.sumTruth
