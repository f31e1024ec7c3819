/- The walk of the law CountSplit: it returns true and leaves what was there. -/
import Derived.Test.YtofgjcfiinmimaaRows
import Derived.Test.YtofgjcfiinmimaaMgClk
import Derived.Test.YtofgjcfiinmimaaRun
import Derived.Test.YtofgjcfiinmimaaMgWin
import Derived.Test.YtofgjcfiinmimaaMgRunO
import Derived.Test.YtofgjcfiinmimaaMgOpenC
import Derived.Test.YtofgjcfiinmimaaSteady3
import Derived.Test.YtofgjcfiinmimaaMgCanon
import Derived.Test.YtofgjcfiinmimaaCst8
import Derived.Test.YtofgjcfiinmimaaMgMeetR
import Derived.WalkKit
import Derived.ProofKit
import Derived.OpenShut
import Derived.ShutString
namespace Go.Proofs.Ytofgjcfiinmimaa.countSplit
open Go.ChangeShapes Go.WideShapes Go.ChangeAt Go.RowKit
open Go.ChangeMaps (open_string shut_string)
set_option linter.unusedVariables false

set_option maxHeartbeats 4000000 in
set_option maxRecDepth 100000 in
theorem walk (A0 : Option Addr) (n0 c0 : Nat) (z0 : List (Int × Int)) (a1 : Int) (a2 : Int) (a3 : Int) (w : World) (iw0 : mem.PRead w w.heap.size A0 n0 z0) (e0 : n0 ≤ c0) (m0 : c0 ≤ maxLen) (r0 : ∀ p ∈ z0, opn.Rng p.1 ∧ opn.Rng p.2) (iw1 : opn.Rng a1) (iw2 : opn.Rng a2) (iw3 : opn.Rng a3) :
    Calls Try.prog 6 #[.slice A0 n0 c0, .int .i64 a1, .int .i64 a2, .int .i64 a3] w fun e w' => e = .returned (.bool true) ∧ Below w.heap.size w w' := by
  have HZ := Lib.hid iw0
  have M1 := Lib.hid (fun W => made.Mod_any a1 20 W iw1 (by omega) (by omega))
  have M2 := Lib.hid (fun W => made.Mod_any a2 30 W iw2 (by omega) (by omega))
  have M3 := Lib.hid (fun W => made.Mod_any a3 30 W iw3 (by omega) (by omega))
  have b10 : 0 ≤ a1 % 20 := Int.emod_nonneg _ (by omega)
  have b11 : a1 % 20 < 20 := Int.emod_lt_of_pos _ (by omega)
  have b20 : 0 ≤ a2 % 30 := Int.emod_nonneg _ (by omega)
  have b21 : a2 % 30 < 30 := Int.emod_lt_of_pos _ (by omega)
  have b30 : 0 ≤ a3 % 30 := Int.emod_nonneg _ (by omega)
  have b31 : a3 % 30 < 30 := Int.emod_lt_of_pos _ (by omega)
  clear iw1 iw2 iw3 iw0
  generalize a1 % 20 = x1 at *
  generalize a2 % 30 = x2 at *
  generalize a3 % 30 = x3 at *
  obtain ⟨v, hv⟩ : ∃ v : Int, 1 + x1 = v := ⟨_, rfl⟩
  have hv1 : 1 ≤ v := by omega
  have hv2 : v ≤ 20 := by omega
  have hsv : IntKind.i64.wrap (1 + x1) = v := by rw [hv]; exact IntWalk.i64_in _ (by omega)
  clear hv b10 b11
  have H1 := Lib.hid (fun W => cst.NewC_ok (v := v) (k := 2) (p := 1000) (o := 0) (cst.goodC_iff.2 (by omega)) W)
  have H2 := Lib.hid (fun W (hb : Below w.heap.size w W) => made.Items_any A0 n0 c0 z0 v 60 W ((HZ.out.below hb).more hb.size) r0 e0 m0 (by omega) (by omega))
  have H3 : Hid (∀ A m c its W, mem.PRead W W.heap.size A m its → m ≤ c → c ≤ maxLen → made.Asc its (-4096) 4096 → m ≤ 1000 → Calls Try.prog 32 #[.agg #[.int .i64 v, .int .i64 2, .int .i64 1000, .int .i64 0, .slice none 0 0], .slice A m c, .int .i64 v, .int .i64 2, .int .i64 1000] W (cst.RunOut 2 v 1000 m W)) := fun A m c its W h1 h2 h3 h4 h5 => cst.run_any A m c its 2 1000 v W h1 h2 h3 h4 h5 (by omega) (by omega) (by omega)
  have H9 := Lib.hid (fun W => cst.awake11_any W)
  clear r0 e0 m0
  have BB := Lib.hid (Below.refl w.heap.size w)
  have sz : w.heap.size ≤ w.heap.size := Nat.le_refl _
  go_enter Try.func6, Try.ntmps6
  go_wp2_with fail
  (with_reducible refine (M1.out _).mono ?_)
  rintro e w1 ⟨rfl, rfl⟩
  go_wp2_with fail
  clear M1
  (with_reducible refine (H1.out _).mono ?_)
  rintro e v1 ⟨rfl, hb⟩
  replace BB := Lib.hid (BB.out.trans (hb.mono BB.out.size))
  replace sz := Nat.le_trans sz hb.size
  clear hb
  obtain ⟨gx, hs_gx⟩ : ∃ s, (v1).heap.size = s := ⟨_, rfl⟩
  have wg_gx : w.heap.size ≤ gx := by have := BB.out.size; omega
  go_wp2_with fail
  obtain ⟨v2, hv2, K5, B5, z5, P5⟩ := cst.newbox (24) #[Value.int IntKind.i64 v, Value.int IntKind.i64 2, Value.int IntKind.i64 1000, Value.int IntKind.i64 0, Value.slice none 0 0] (gro.Bx.nil_ (W := v1)) hs_gx BB.out BB.out.size
  rw [hv2]
  have KK := Lib.hid K5
  replace BB := Lib.hid B5
  replace sz : gx + 1 ≤ (v2).heap.size := by rw [z5]; exact Nat.le_refl _
  clear K5 B5 P5 z5 hv2 hs_gx
  have R2 := KK.out.rules
  simp only [gro.Rules] at R2
  (refine gro.wp_region_heldA [0, 1, 2, 4] 9 10 _ (gro.lasts_bx _) (by kernel_rfl) (by kernel_rfl) (by intro _ _ _ _ _ h; exact h) (by kernel_rfl) (by kernel_rfl) (by kernel_rfl) (by kernel_rfl) (by kernel_rfl) (by decide) (KK.out).drew ?_; apply Exists.intro; refine ⟨fun w0 hb0 => ?_, ?_⟩; focus (have RZ := gro.Bx.rules hb0; simp only [gro.Rules] at RZ; simp only [gro.pickA, List.filterMap_cons, List.filterMap_nil, List.getElem?_toArray, List.getElem?_cons_succ, List.getElem?_cons_zero]; change wpQuiet _ _ _ _ (_ :: _ :: _ :: _ ::  []) _; (repeat (go_big_quiet_step ((fail)))); exact wpQuiet_nil rfl))
  replace BB := Lib.hid BB.out.drew
  replace KK := Lib.hid KK.out.drew
  replace sz := (show _ ≤ (v2.drew).heap.size from sz)
  generalize v2.drew = v3 at *
  refine gro.anyM_one 3 (by kernel_rfl) rfl ?_
  intro v4 hz K' hK'
  replace BB := Lib.hid (BB.out.trans (hz.mono BB.out.size))
  replace KK := Lib.hid (KK.out.below hz)
  replace sz := Nat.le_trans sz hz.size
  clear hz
  go_simp
  (refine (H2.out _ BB.out).mono ?_)
  rintro e v5 ⟨u, its, rfl, hown, hlm, hok, hb⟩
  replace BB := Lib.hid (BB.out.trans (hb.mono BB.out.size))
  replace KK := Lib.hid (KK.out.below hb)
  replace sz := Nat.le_trans sz hb.size
  clear hb
  have HA := Lib.hid (made.ItOk.asc hok (by omega) ⟨hv1, by omega⟩)
  obtain ⟨A1, c1, rfl, i1, i2, i3⟩ := mem.own_form hown
  obtain ⟨m, hm⟩ : ∃ m, its.length = m := ⟨_, rfl⟩
  rw [hm] at hlm i1 i3
  simp only [hm]
  have HI := Lib.hid i3
  have i2' : c1 ≤ 9223372036854775807 := i2
  clear hown hok i3 hm H1 H2 HZ
  refine hK' _ _ ⟨fun _ => KK.out.perm (by simp), ?_⟩
  clear hK' K'
  refine gro.anyM_one 5 (by kernel_rfl) rfl ?_
  intro v6 hz K' hK'
  replace BB := Lib.hid (BB.out.trans (hz.mono BB.out.size))
  replace KK := Lib.hid (KK.out.below hz)
  replace HI := Lib.hid ((HI.out.below hz).more hz.size)
  replace sz := Nat.le_trans sz hz.size
  clear hz
  go_simp
  (refine (H3.out _ _ _ _ _ HI.out i1 i2 HA.out (by omega)).mono ?_)
  rintro e v7 ⟨A2, n2, c2, B2, m2, d2, ys, added, now, rfl, q2, ⟨p2, fr⟩, hr, hmd, ⟨hd, frB⟩, hrB, HR, hto, hal, hn0, hn1, hb⟩
  rw [show ((2 : Nat) : Int) = 2 from rfl]
  clear HI HA hmd hd frB hrB
  replace BB := Lib.hid (BB.out.trans (hb.mono BB.out.size))
  replace KK := Lib.hid (KK.out.below hb)
  have HA2 := Lib.hid hr
  have f_HA2_gx : 0 < n2 → ∀ ad, A2 = some ad → ad.block ≠ gx := fun _ ad h => by have := fr ad h; omega
  replace sz := Nat.le_trans sz hb.size
  clear hb hr fr
  refine hK' _ _ ⟨fun _ => KK.out.perm (by simp), ?_⟩
  clear hK' K'
  refine gro.anyM_one 6 (by kernel_rfl) rfl ?_
  intro v8 hz K' hK'
  replace BB := Lib.hid (BB.out.trans (hz.mono BB.out.size))
  replace KK := Lib.hid (KK.out.below hz)
  replace HA2 := Lib.hid ((HA2.out.below hz).more hz.size)
  replace sz := Nat.le_trans sz hz.size
  clear hz
  go_simp
  refine hK' _ _ ⟨fun _ => KK.out.perm (by simp), ?_⟩
  clear hK' K'
  (refine gro.anyM_first_all [7, 8, 9] 3 (gro.lasts_bx _) (by kernel_rfl) (by intro _ _ _ _ _ h; exact h) (by kernel_rfl) (by kernel_rfl) (by kernel_rfl) (by kernel_rfl) (by kernel_rfl) (KK.out.perm (by simp)) ?_; apply Exists.intro; refine ⟨fun w0 => ?_, ?_⟩; focus (simp only [gro.pickA, List.filterMap_cons, List.filterMap_nil, List.getElem?_toArray, List.getElem?_cons_succ, List.getElem?_cons_zero]; change wpQuiet _ _ _ _ (_ :: _ :: _ ::  []) _; (repeat (go_big_quiet_step ((fail)))); exact wpQuiet_nil rfl))
  refine gro.anyM_one 10 (by kernel_rfl) rfl ?_
  intro v9 hz K' hK'
  replace BB := Lib.hid (BB.out.trans (hz.mono BB.out.size))
  replace KK := Lib.hid (KK.out.below hz)
  replace HA2 := Lib.hid ((HA2.out.below hz).more hz.size)
  replace sz := Nat.le_trans sz hz.size
  clear hz
  have R9 := KK.out.rules
  simp only [gro.Rules] at R9
  go_simp
  refine hK' _ _ ?_
  clear hK' K'
  clear R9
  have KP := KK.out.perm (L' := [(gx, 24, #[Value.int IntKind.i64 v, Value.int IntKind.i64 2, Value.int IntKind.i64 1000, Value.int IntKind.i64 0, Value.slice none 0 0])]) (by simp)
  obtain ⟨v10, hv10, K5, B5, z5, P5⟩ := cst.putC (Value.int IntKind.i64 v) (Value.int IntKind.i64 2) (Value.int IntKind.i64 1000) (Value.int IntKind.i64 now) (Value.slice A2 n2 c2) KP (by simp <;> omega) BB.out wg_gx
  replace HA2 := Lib.hid (P5 _ _ _ HA2.out f_HA2_gx)
  replace KK := Lib.hid K5
  replace BB := Lib.hid B5
  rw [← z5] at sz
  clear K5 B5 P5 KP z5
  rw [hv10]
  clear hv10
  refine ⟨fun h => absurd (show true = false from h) (by decide), ?_⟩
  refine gro.anyM_one 11 (by kernel_rfl) rfl ?_
  intro v11 hz K' hK'
  replace BB := Lib.hid (BB.out.trans (hz.mono BB.out.size))
  replace KK := Lib.hid (KK.out.below hz)
  replace HA2 := Lib.hid ((HA2.out.below hz).more hz.size)
  replace sz := Nat.le_trans sz hz.size
  clear hz
  go_simp
  refine hK' _ _ ⟨fun h => absurd (show true = false from h) (by decide), ?_⟩
  clear hK' K'
  refine gro.anyM_one 12 (by kernel_rfl) rfl ?_
  intro v12 hz K' hK'
  replace BB := Lib.hid (BB.out.trans (hz.mono BB.out.size))
  replace KK := Lib.hid (KK.out.below hz)
  replace HA2 := Lib.hid ((HA2.out.below hz).more hz.size)
  replace sz := Nat.le_trans sz hz.size
  clear hz
  go_simp
  refine hK' _ _ ⟨fun h => absurd (show true = false from h) (by decide), ?_⟩
  clear hK' K'
  refine gro.anyM_done (by kernel_rfl) ?_
  intro v13 hz
  replace BB := Lib.hid (BB.out.trans (hz.mono BB.out.size))
  replace KK := Lib.hid (KK.out.below hz)
  replace HA2 := Lib.hid ((HA2.out.below hz).more hz.size)
  replace sz := Nat.le_trans sz hz.size
  clear hz
  have R13 := KK.out.rules
  simp only [gro.Rules] at R13
  go_wp2_with fail
  clear R2
  (with_reducible refine (M2.out _).mono ?_)
  rintro e v ⟨rfl, rfl⟩
  go_wp2_with fail
  (with_reducible refine (M3.out _).mono ?_)
  rintro e v ⟨rfl, rfl⟩
  clear M2 M3
  have HR := Lib.hid HR
  have HR0 := HR.out
  have hrk := HR.out.ask (p := 1000) (by simp; omega) (by omega)
  obtain ⟨_, hyl, hyt, _, _, _, _, _⟩ := hrk
  have hlx := mem.PRead.len HA2.out
  have hn2 : n2 ≤ 2000 := by omega
  clear hyl hyt hlx
  obtain ⟨HR2, ht2⟩ := HR.out.adv (now2 := now + x2) hn0 (by omega) (by omega) ⟨hv1, by omega⟩
  obtain ⟨HR3, ht3⟩ := HR2.adv (now2 := now + x2 + x3) (by omega) (by omega) (by omega) ⟨hv1, by omega⟩
  obtain ⟨HR4, ht4⟩ := HR.out.adv (now2 := now + x2 + x3) hn0 (by omega) (by omega) ⟨hv1, by omega⟩
  have hf1 := HR.out.fitB (p := 1000) hn0 (by omega) ⟨hv1, by omega⟩ (by omega) (by omega) (by omega)
  have hf2 := HR2.fitB (p := 1000) (by omega) (by omega) ⟨hv1, by omega⟩ (by omega) (by omega) (by omega)
  have hrk2 := HR2.ask (p := 1000) (by simp; omega) (by omega)
  have hrk3 := HR3.ask (p := 1000) (by simp; omega) (by omega)
  have hee : lst.expireL (clk.firstI (now + x2 + x3) v) (lst.expireL (clk.firstI (now + x2) v) ys) = lst.expireL (clk.firstI (now + x2 + x3) v) ys := cst.expire_twice (by rw [clk.first_t (by omega) (by omega) hv1 (by omega), clk.first_t (by omega) (by omega) hv1 (by omega)]; omega) ys
  rw [hee] at hrk3
  have C1 := Lib.hid (fun W (h : mem.PRead W W.heap.size A2 n2 ys) => cst.AdvC_ok (v := v) (k := 2) (p := 1000) (o := now) (tt := now + x2) h q2 p2 hn2 hf1 ⟨by omega, by omega⟩)
  have C2 := Lib.hid (fun A n c W (h : mem.PRead W W.heap.size A n (lst.expireL (clk.firstI (now + x2) v) ys)) h1 h2 => cst.AdvC_ok (v := v) (k := 2) (p := 1000) (o := now + x2) (tt := now + x2 + x3) (c := c) h h1 h2 (by have := mem.PRead.len h; omega) hf2 ⟨by omega, by omega⟩)
  have C3 := Lib.hid (fun W (h : mem.PRead W W.heap.size A2 n2 ys) => cst.AdvC_ok (v := v) (k := 2) (p := 1000) (o := now) (tt := now + x2 + x3) h q2 p2 hn2 hf1 ⟨by omega, by omega⟩)
  have C4 := Lib.hid (fun A1 A2 n1 c1 n2 c2 W (h : mem.PRead W W.heap.size A1 n1 (lst.expireL (clk.firstI (now + x2 + x3) v) ys)) h2 => cst.SameC_any v 2 1000 (now + x2 + x3) A1 A2 n1 c1 n2 c2 _ W h h2 (by have := mem.PRead.len h; omega))
  rw [hee] at C2
  have w2 : IntKind.i64.wrap (now + x2) = now + x2 := IntWalk.i64_in _ (by omega)
  have w3 : IntKind.i64.wrap (now + x2 + x3) = now + x2 + x3 := IntWalk.i64_in _ (by omega)
  clear HR HR0 HR2 HR3 HR4 ht2 ht3 ht4 hf1 hf2 hrk2 hrk3 hee
  generalize lst.expireL (clk.firstI (now + x2) v) ys = ya at *
  generalize lst.expireL (clk.firstI (now + x2 + x3) v) ys = yb at *
  go_wp2_with fail
  (refine (C1.out _ HA2.out).mono ?_)
  rintro e v14 ⟨A3, n3, c3, rfl, q3, ⟨p3, fr⟩, hr, hb⟩
  replace BB := Lib.hid (BB.out.trans (hb.mono BB.out.size))
  replace KK := Lib.hid (KK.out.below hb)
  replace HA2 := Lib.hid ((HA2.out.below hb).more hb.size)
  have HA3 := Lib.hid hr
  have f_HA3_gx : 0 < n3 → ∀ ad, A3 = some ad → ad.block ≠ gx := fun _ ad h => by have := fr ad h; omega
  replace sz := Nat.le_trans sz hb.size
  clear hb hr fr
  have R14 := KK.out.rules
  simp only [gro.Rules] at R14
  obtain ⟨gy, hs_gy⟩ : ∃ s, (v14).heap.size = s := ⟨_, rfl⟩
  have wg_gy : w.heap.size ≤ gy := by have := BB.out.size; omega
  go_wp2_with fail
  clear R13
  obtain ⟨v15, hv15, K5, B5, z5, P5⟩ := cst.newbox (24) #[Value.int IntKind.i64 v, Value.int IntKind.i64 2, Value.int IntKind.i64 1000, Value.int IntKind.i64 (now + x2), Value.slice A3 n3 c3] KK.out hs_gy BB.out BB.out.size
  rw [hv15]
  have o_gx_gy : gx < gy := by omega
  have f_HA2_gy := (P5 _ _ _ HA2.out).2
  replace HA2 := Lib.hid (P5 _ _ _ HA2.out).1
  have f_HA3_gy := (P5 _ _ _ HA3.out).2
  replace HA3 := Lib.hid (P5 _ _ _ HA3.out).1
  replace KK := Lib.hid K5
  replace BB := Lib.hid B5
  replace sz : gy + 1 ≤ (v15).heap.size := by rw [z5]; exact Nat.le_refl _
  clear K5 B5 P5 z5 hv15 hs_gy
  have R15 := KK.out.rules
  simp only [gro.Rules] at R15
  go_wp2_with fail
  clear R14
  (refine (C2.out _ _ _ _ HA3.out q3 p3).mono ?_)
  rintro e v16 ⟨A4, n4, c4, rfl, q4, ⟨p4, fr⟩, hr, hb⟩
  replace BB := Lib.hid (BB.out.trans (hb.mono BB.out.size))
  replace KK := Lib.hid (KK.out.below hb)
  replace HA2 := Lib.hid ((HA2.out.below hb).more hb.size)
  replace HA3 := Lib.hid ((HA3.out.below hb).more hb.size)
  have HA4 := Lib.hid hr
  have f_HA4_gy : 0 < n4 → ∀ ad, A4 = some ad → ad.block ≠ gy := fun _ ad h => by have := fr ad h; omega
  have f_HA4_gx : 0 < n4 → ∀ ad, A4 = some ad → ad.block ≠ gx := fun _ ad h => by have := fr ad h; omega
  replace sz := Nat.le_trans sz hb.size
  clear hb hr fr
  have R16 := KK.out.rules
  simp only [gro.Rules] at R16
  clear HA3
  have KP := KK.out.perm (L' := [(gy, 24, #[Value.int IntKind.i64 v, Value.int IntKind.i64 2, Value.int IntKind.i64 1000, Value.int IntKind.i64 (now + x2), Value.slice A3 n3 c3]), (gx, 24, #[Value.int IntKind.i64 v, Value.int IntKind.i64 2, Value.int IntKind.i64 1000, Value.int IntKind.i64 now, Value.slice A2 n2 c2])]) (by simp)
  obtain ⟨v17, hv17, K5, B5, z5, P5⟩ := cst.putC (Value.int IntKind.i64 v) (Value.int IntKind.i64 2) (Value.int IntKind.i64 1000) (Value.int IntKind.i64 (now + x2 + x3)) (Value.slice A4 n4 c4) KP (by simp <;> omega) BB.out wg_gy
  replace HA2 := Lib.hid (P5 _ _ _ HA2.out f_HA2_gy)
  replace HA4 := Lib.hid (P5 _ _ _ HA4.out f_HA4_gy)
  replace KK := Lib.hid K5
  replace BB := Lib.hid B5
  rw [← z5] at sz
  clear K5 B5 P5 KP z5
  have R17 := KK.out.rules
  simp only [gro.Rules] at R17
  go_wp2_with fail
  clear R15 R16 hv17
  (refine (C3.out _ HA2.out).mono ?_)
  rintro e v18 ⟨A5, n5, c5, rfl, q5, ⟨p5, fr⟩, hr, hb⟩
  replace BB := Lib.hid (BB.out.trans (hb.mono BB.out.size))
  replace KK := Lib.hid (KK.out.below hb)
  replace HA2 := Lib.hid ((HA2.out.below hb).more hb.size)
  replace HA4 := Lib.hid ((HA4.out.below hb).more hb.size)
  have HA5 := Lib.hid hr
  have f_HA5_gy : 0 < n5 → ∀ ad, A5 = some ad → ad.block ≠ gy := fun _ ad h => by have := fr ad h; omega
  have f_HA5_gx : 0 < n5 → ∀ ad, A5 = some ad → ad.block ≠ gx := fun _ ad h => by have := fr ad h; omega
  replace sz := Nat.le_trans sz hb.size
  clear hb hr fr
  have R18 := KK.out.rules
  simp only [gro.Rules] at R18
  clear HA2
  obtain ⟨gz, hs_gz⟩ : ∃ s, (v18).heap.size = s := ⟨_, rfl⟩
  have wg_gz : w.heap.size ≤ gz := by have := BB.out.size; omega
  go_wp2_with fail
  clear R17
  obtain ⟨v19, hv19, K5, B5, z5, P5⟩ := cst.newbox (24) #[Value.int IntKind.i64 v, Value.int IntKind.i64 2, Value.int IntKind.i64 1000, Value.int IntKind.i64 (now + x2 + x3), Value.slice A5 n5 c5] KK.out hs_gz BB.out BB.out.size
  rw [hv19]
  have o_gy_gz : gy < gz := by omega
  have o_gx_gz : gx < gz := by omega
  have f_HA4_gz := (P5 _ _ _ HA4.out).2
  replace HA4 := Lib.hid (P5 _ _ _ HA4.out).1
  have f_HA5_gz := (P5 _ _ _ HA5.out).2
  replace HA5 := Lib.hid (P5 _ _ _ HA5.out).1
  replace KK := Lib.hid K5
  replace BB := Lib.hid B5
  replace sz : gz + 1 ≤ (v19).heap.size := by rw [z5]; exact Nat.le_refl _
  clear K5 B5 P5 z5 hv19 hs_gz
  have R19 := KK.out.rules
  simp only [gro.Rules] at R19
  go_wp2_with fail
  clear R18
  (refine (C4.out _ _ _ _ _ _ _ HA4.out HA5.out).mono ?_)
  rintro e v20 ⟨rfl, hb⟩
  replace BB := Lib.hid (BB.out.trans (hb.mono BB.out.size))
  replace KK := Lib.hid (KK.out.below hb)
  replace HA4 := Lib.hid ((HA4.out.below hb).more hb.size)
  replace HA5 := Lib.hid ((HA5.out.below hb).more hb.size)
  replace sz := Nat.le_trans sz hb.size
  clear hb
  have R20 := KK.out.rules
  simp only [gro.Rules] at R20
  go_wp2_with fail
  clear R19
  (refine (H9.out _).mono ?_)
  rintro e v21 ⟨rfl, hb⟩
  replace BB := Lib.hid (BB.out.trans (hb.mono BB.out.size))
  replace KK := Lib.hid (KK.out.below hb)
  replace HA4 := Lib.hid ((HA4.out.below hb).more hb.size)
  replace HA5 := Lib.hid ((HA5.out.below hb).more hb.size)
  replace sz := Nat.le_trans sz hb.size
  clear hb
  have R21 := KK.out.rules
  simp only [gro.Rules] at R21
  go_wp2
  clear R20
  go_ret
  exact ⟨rfl, BB.out⟩
end Go.Proofs.Ytofgjcfiinmimaa.countSplit
