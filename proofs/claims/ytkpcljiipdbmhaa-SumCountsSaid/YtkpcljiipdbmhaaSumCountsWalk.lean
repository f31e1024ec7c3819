/- The walk of the law SumCounts: it returns true and leaves what was there. -/
import Derived.Test.YtkpcljiipdbmhaaRows
import Derived.Test.YtkpcljiipdbmhaaMgClk
import Derived.Test.YtkpcljiipdbmhaaMgMade
import Derived.Test.YtkpcljiipdbmhaaMgAwake12
import Derived.Test.YtkpcljiipdbmhaaMgOpenC
import Derived.Test.YtkpcljiipdbmhaaMgCanon
import Derived.WalkKit
import Derived.ProofKit
import Derived.OpenShut
import Derived.ShutString
namespace Go.Proofs.Ytkpcljiipdbmhaa.sumCounts
open Go.ChangeShapes Go.WideShapes Go.ChangeAt Go.RowKit
open Go.ChangeMaps (open_string shut_string)
set_option linter.unusedVariables false

set_option maxHeartbeats 4000000 in
set_option maxRecDepth 100000 in
theorem walk (A0 : Option Addr) (n0 c0 : Nat) (z0 : List (Int × Int)) (a1 : Int) (a2 : Int) (w : World) (iw0 : mem.PRead w w.heap.size A0 n0 z0) (e0 : n0 ≤ c0) (m0 : c0 ≤ maxLen) (r0 : ∀ p ∈ z0, opn.Rng p.1 ∧ opn.Rng p.2) (iw1 : opn.Rng a1) (iw2 : opn.Rng a2) :
    Calls Try.prog 12 #[.slice A0 n0 c0, .int .i64 a1, .int .i64 a2] w fun e w' => e = .returned (.bool true) ∧ Below w.heap.size w w' := by
  have HZ := Lib.hid iw0
  have M1 := Lib.hid (fun W => made.Mod_any a1 20 W iw1 (by omega) (by omega))
  have M2 := Lib.hid (fun W => made.Int_any a2 4 W iw2 (by omega) (by omega))
  have b10 : 0 ≤ a1 % 20 := Int.emod_nonneg _ (by omega)
  have b11 : a1 % 20 < 20 := Int.emod_lt_of_pos _ (by omega)
  have b20 : 0 ≤ a2 % 4 := Int.emod_nonneg _ (by omega)
  have b21 : a2 % 4 < 4 := Int.emod_lt_of_pos _ (by omega)
  clear iw1 iw2 iw0
  generalize a1 % 20 = x1 at *
  generalize a2 % 4 = x2 at *
  obtain ⟨v, hv⟩ : ∃ v : Int, 1 + x1 = v := ⟨_, rfl⟩
  obtain ⟨k, hk⟩ : ∃ k : Nat, 1 + x2 = k := ⟨(1 + x2).toNat, by omega⟩
  have hv1 : 1 ≤ v := by omega
  have hv2 : v ≤ 20 := by omega
  have hk1 : 1 ≤ k := by omega
  have hk2 : k ≤ 4 := by omega
  have hsv : IntKind.i64.wrap (1 + x1) = v := by rw [hv]; exact IntWalk.i64_in _ (by omega)
  have hsk : IntKind.i64.wrap (1 + x2) = (k : Int) := by rw [hk]; exact IntWalk.i64_in _ (by omega)
  clear hv hk b10 b11 b20 b21
  have H1 := Lib.hid (fun W => cst.NewS_ok (v := v) (k := k) (p := 1000) (m := 5) (o := 0) (cst.goodS_iff.2 (by omega)) W)
  have H2 := Lib.hid (fun W => cst.NewC_ok (v := v) (k := k) (p := 1000) (o := 0) (cst.goodC_iff.2 (by omega)) W)
  have H3 := Lib.hid (fun W (hb : Below w.heap.size w W) => made.Items_any A0 n0 c0 z0 v 60 W ((HZ.out.below hb).more hb.size) r0 e0 m0 (by omega) (by omega))
  have H9 := Lib.hid (fun W => cst.awake12_any W)
  clear r0 e0 m0
  have BB := Lib.hid (Below.refl w.heap.size w)
  have sz : w.heap.size ≤ w.heap.size := Nat.le_refl _
  go_enter Try.func12, Try.ntmps12
  go_wp2_with fail
  (with_reducible refine (M1.out _).mono ?_)
  rintro e w1 ⟨rfl, rfl⟩
  go_wp2_with fail
  (with_reducible refine (M2.out _).mono ?_)
  rintro e w1 ⟨rfl, rfl⟩
  go_wp2_with fail
  clear M1 M2
  (with_reducible refine (H1.out _).mono ?_)
  rintro e v1 ⟨rfl, hb⟩
  replace BB := Lib.hid (BB.out.trans (hb.mono BB.out.size))
  replace sz := Nat.le_trans sz hb.size
  clear hb
  obtain ⟨gx, hs_gx⟩ : ∃ s, (v1).heap.size = s := ⟨_, rfl⟩
  have wg_gx : w.heap.size ≤ gx := by have := BB.out.size; omega
  go_wp2_with fail
  obtain ⟨v2, hv2, K5, B5, z5, P5⟩ := cst.newbox (60) #[Value.int IntKind.i64 v, Value.int IntKind.i64 k, Value.int IntKind.i64 1000, Value.int IntKind.i64 5, Value.int IntKind.i64 0, Value.slice none 0 0] (gro.Bx.nil_ (W := v1)) hs_gx BB.out BB.out.size
  rw [hv2]
  have KK := Lib.hid K5
  replace BB := Lib.hid B5
  replace sz : gx + 1 ≤ (v2).heap.size := by rw [z5]; exact Nat.le_refl _
  clear K5 B5 P5 z5 hv2 hs_gx
  have R2 := KK.out.rules
  simp only [gro.Rules] at R2
  (with_reducible refine (H2.out _).mono ?_)
  rintro e v3 ⟨rfl, hb⟩
  replace BB := Lib.hid (BB.out.trans (hb.mono BB.out.size))
  replace KK := Lib.hid (KK.out.below hb)
  replace sz := Nat.le_trans sz hb.size
  clear hb
  have R3 := KK.out.rules
  simp only [gro.Rules] at R3
  obtain ⟨gy, hs_gy⟩ : ∃ s, (v3).heap.size = s := ⟨_, rfl⟩
  have wg_gy : w.heap.size ≤ gy := by have := BB.out.size; omega
  go_wp2_with fail
  clear R2
  obtain ⟨v4, hv4, K5, B5, z5, P5⟩ := cst.newbox (24) #[Value.int IntKind.i64 v, Value.int IntKind.i64 k, Value.int IntKind.i64 1000, Value.int IntKind.i64 0, Value.slice none 0 0] KK.out hs_gy BB.out BB.out.size
  rw [hv4]
  have o_gx_gy : gx < gy := by omega
  replace KK := Lib.hid K5
  replace BB := Lib.hid B5
  replace sz : gy + 1 ≤ (v4).heap.size := by rw [z5]; exact Nat.le_refl _
  clear K5 B5 P5 z5 hv4 hs_gy
  have R4 := KK.out.rules
  simp only [gro.Rules] at R4
  (refine (H3.out _ BB.out).mono ?_)
  rintro e w2 ⟨u, its, rfl, hown, hlm, hok, hb⟩
  have HA := Lib.hid (made.ItOk.asc hok (by omega) ⟨hv1, by omega⟩)
  obtain ⟨A1, c1, rfl, i1, i2, i3⟩ := mem.own_form hown
  have f_HI_gx : 0 < its.length → ∀ ad, A1 = some ad → ad.block ≠ gx := fun _ ad h => by have := lst.own_new hown ad h; omega
  have f_HI_gy : 0 < its.length → ∀ ad, A1 = some ad → ad.block ≠ gy := fun _ ad h => by have := lst.own_new hown ad h; omega
  obtain ⟨m, hm⟩ : ∃ m, its.length = m := ⟨_, rfl⟩
  rw [hm] at hlm i1 i3 f_HI_gx f_HI_gy
  have HI := Lib.hid i3
  have HL : Hid (its.length = m) := hm
  replace BB := Lib.hid (BB.out.trans (hb.mono BB.out.size))
  replace KK := Lib.hid (KK.out.below hb)
  have hsz : gy + 1 ≤ w2.heap.size := Nat.le_trans sz hb.size
  clear hown hok hb i3 H1 H2 H3 HZ sz
  simp only [hm]
  have i2' : c1 ≤ 9223372036854775807 := i2
  clear hm
  have R5 := KK.out.rules
  simp only [gro.Rules] at R5
  go_wp2_with fail
  clear R3 R4
  clear R5
  go_loopg [8, 10, 42] m (fun kx s8 s10 s42 wr => ∃ (i : Nat) (Ax : Option Addr) (nx cx : Nat) (Ay : Option Addr) (ny cy : Nat) (ys : List (Int × Int)) (now : Int) (ts : List Int), s42 = .int .i64 i ∧ s8 = .int .i64 0 ∧ s10 = .int .i64 0 ∧ i ≤ m ∧ m - i ≤ kx ∧ nx ≤ cx ∧ cx ≤ 9223372036854775807 ∧ ny ≤ cy ∧ cy ≤ 9223372036854775807 ∧ 0 ≤ now ∧ now ≤ 100000 ∧ Hid (i < m → now ≤ (buk.at_ its i).1) ∧ ts.length ≤ i ∧ lst.totalN ys ≤ i ∧ Hid (cst.Run ys k v now ts) ∧ Hid (mem.PRead wr wr.heap.size Ax nx ys) ∧ Hid (0 < nx → ∀ ad, Ax = some ad → ad.block ≠ gx) ∧ Hid (0 < nx → ∀ ad, Ax = some ad → ad.block ≠ gy) ∧ Hid (mem.PRead wr wr.heap.size Ay ny ys) ∧ Hid (0 < ny → ∀ ad, Ay = some ad → ad.block ≠ gx) ∧ Hid (0 < ny → ∀ ad, Ay = some ad → ad.block ≠ gy) ∧ Hid (gro.Bx wr [(gy, 24, #[Value.int IntKind.i64 v, Value.int IntKind.i64 k, Value.int IntKind.i64 1000, Value.int IntKind.i64 now, Value.slice Ay ny cy]), (gx, 60, #[Value.int IntKind.i64 v, Value.int IntKind.i64 k, Value.int IntKind.i64 1000, Value.int IntKind.i64 5, Value.int IntKind.i64 now, Value.slice Ax nx cx])]) ∧ Hid (mem.PRead wr wr.heap.size A1 m its) ∧ Hid (Below w.heap.size w wr) ∧ gy + 1 ≤ wr.heap.size)
  case atStart => exact ⟨0, none, 0, 0, none, 0, 0, [], 0, [], rfl, rfl, rfl, by omega, by omega, by omega, by omega, by omega, by omega, by omega, by omega, fun h => (HA.out 0 (by rw [HL.out]; exact h)).1.1, by simp, by simp [lst.totalN], cst.Run.nil v (by omega) (by omega), mem.PRead.nil_, fun _ ad h => by (cases h), fun _ ad h => by (cases h), mem.PRead.nil_, fun _ ad h => by (cases h), fun _ ad h => by (cases h), KK.out, HI.out, BB.out, hsz⟩
  case round =>
    clear KK BB HI hsz
    obtain ⟨i, Ax, nx, cx, Ay, ny, cy, ys, now, ts, rfl, rfl, rfl, hi, hkx, hnc, hcm, hnc2, hcm2, hn0, hn1, HT, htl, hto, HR, HX, f_HX_gx, f_HX_gy, HY, f_HY_gx, f_HY_gy, KK, HI, BB, sz⟩ := hrel
    have f_HX_gx := f_HX_gx.out
    have f_HX_gy := f_HX_gy.out
    have f_HY_gx := f_HY_gx.out
    have f_HY_gy := f_HY_gy.out
    by_cases hlt : i < m
    case neg =>
      go_wp2_with fail
      (refine (H9.out _).mono ?_)
      rintro e w9 ⟨rfl, hb9⟩
      go_wp2
      go_ret
      exact ⟨rfl, BB.out.trans (hb9.mono BB.out.size)⟩
    have hmes : m - (i + 1) < m - i := by omega
    have hmes2 : i + 1 ≤ m := by omega
    have hrk := HR.out.ask (p := 1000) (by omega) (by omega)
    obtain ⟨_, hyl, hyt, _, _, _, _, _⟩ := hrk
    have hlx := mem.PRead.len HX.out
    have hly := mem.PRead.len HY.out
    have hnx : nx ≤ 2000 := by omega
    have hny : ny ≤ 2000 := by omega
    clear hyl hyt
    obtain ⟨ad, rfl, hbl, hc1, hc2⟩ := mem.PRead.at_ HI.out hlt
    change wr.cell? (ad.add (i * 2)) = some (.int .i64 (buk.at_ its i).1) at hc1
    change wr.cell? ⟨(ad.add (i * 2)).block, (ad.add (i * 2)).off + 1, none⟩ = some (.int .i64 (buk.at_ its i).2) at hc2
    obtain ⟨⟨ha1, ha2⟩, _, HN⟩ := HA.out i (by rw [HL.out]; exact hlt)
    have HT1 := HT.out hlt
    have HN2 : Hid (i + 1 < m → (buk.at_ its i).1 ≤ (buk.at_ its (i + 1)).1) := fun h => HN (by rw [HL.out]; exact h)
    clear HN HT
    generalize (buk.at_ its i).1 = T at *
    generalize (buk.at_ its i).2 = V at *
    obtain ⟨HR2, ht2⟩ := HR.out.adv (now2 := T) hn0 HT1 (by omega) ⟨hv1, by omega⟩
    obtain ⟨hm0, HR0, ht0⟩ := HR2.many (by omega) (by omega) hv1 0 (by omega) (by omega)
    obtain ⟨hm1, HR3, ht3⟩ := HR2.many (by omega) (by omega) hv1 1 (by omega) (by omega)
    obtain ⟨hmi, _, _⟩ := HR2.one (by omega) (by omega) hv1 (by omega)
    have hf1 := HR.out.fitS (p := 1000) (m := 5) hn0 (by omega) ⟨hv1, by omega⟩ (by omega) (by omega) (by omega) (by omega)
    have hf2 := HR2.fitS (p := 1000) (m := 5) (by omega) (by omega) ⟨hv1, by omega⟩ (by omega) (by omega) (by omega) (by omega)
    have hg1 := HR.out.fitB (p := 1000) hn0 (by omega) ⟨hv1, by omega⟩ (by omega) (by omega) (by omega)
    have hg2 := HR2.fitB (p := 1000) (by omega) (by omega) ⟨hv1, by omega⟩ (by omega) (by omega) (by omega)
    have hrk2 := HR2.ask (p := 1000) (by omega) (by omega)
    have hrk3 := HR3.ask (p := 1000) (by simp; omega) (by omega)
    have C1 := Lib.hid (fun W (h : mem.PRead W W.heap.size Ax nx ys) => cst.AdvS_ok (tt := T) h hnc hcm hnx hf1 ⟨HT1, by omega⟩)
    have C2 := Lib.hid (fun W (h : mem.PRead W W.heap.size Ay ny ys) => cst.AdvC_ok (tt := T) h hnc2 hcm2 hny hg1 ⟨HT1, by omega⟩)
    have C3 := Lib.hid (fun A n c W (h : mem.PRead W W.heap.size A n (lst.expireL (clk.firstI T v) ys)) h1 h2 => cst.AddS_ok (x := 0) (c := c) h h1 h2 (by have := mem.PRead.len h; omega) hf2 ⟨by omega, by omega⟩ (by omega) (by omega))
    have C4 := Lib.hid (fun A1 A2 n1 c1 n2 c2 W (h : mem.PRead W W.heap.size A1 n1 (lst.expireL (clk.firstI T v) ys)) h2 => cst.SameS_any v k 1000 5 T A1 A2 n1 c1 n2 c2 _ W h h2 (by have := mem.PRead.len h; omega))
    have C5 := Lib.hid (fun A n c W (h : mem.PRead W W.heap.size A n (lst.expireL (clk.firstI T v) ys)) h1 h2 => cst.AddS_ok (x := 1) (c := c) h h1 h2 (by have := mem.PRead.len h; omega) hf2 ⟨by omega, by omega⟩ (by omega) (by omega))
    have C6 := Lib.hid (fun A n c W (h : mem.PRead W W.heap.size A n (lst.expireL (clk.firstI T v) ys)) h1 h2 => cst.AddC_ok (c := c) h h1 h2 (by have := mem.PRead.len h; omega) hg2 (by omega))
    have C7 := Lib.hid (fun A1 A2 n1 c1 n2 c2 W (h : mem.PRead W W.heap.size A1 n1 (buk.iterIns k T 1 (lst.expireL (clk.firstI T v) ys))) (h2 : mem.PRead W W.heap.size A2 n2 (buk.iterIns k T 1 (lst.expireL (clk.firstI T v) ys))) => (lst.Same_any A1 A2 n1 c1 n2 c2 _ _ W _ h h2 (by have := mem.PRead.len h; omega)).mono (R' := fun e w' => e = .returned (.bool true) ∧ Below W.heap.size W w') (fun e w' q => ⟨by rw [q.1, decide_eq_true rfl], by obtain ⟨_, r, rfl⟩ := q; exact mem.below_quiet _ _ r⟩))
    rw [show lst.insM (lst.expireL (clk.firstI T v) ys) k T 0 = lst.expireL (clk.firstI T v) ys from hm0] at C3
    rw [show lst.insM (lst.expireL (clk.firstI T v) ys) k T 1 = _ from hm1] at C5
    rw [hmi] at C6
    replace HR3 := Lib.hid HR3
    rw [show ((ts ++ List.replicate 1 T)) = ts ++ [T] from rfl] at HR3
    have hts : (ts ++ [T]).length ≤ i + 1 := by simp; omega
    have hto3 : lst.totalN (buk.iterIns k T 1 (lst.expireL (clk.firstI T v) ys)) ≤ i + 1 := by omega
    clear hm0 HR0 ht0 hm1 hmi hf1 hf2 hg1 hg2 hrk2 hrk3 HR2 HR ht2 ht3
    generalize buk.iterIns k T 1 (lst.expireL (clk.firstI T v) ys) = y3 at *
    generalize lst.expireL (clk.firstI T v) ys = y2 at *
    have R20 := KK.out.rules
    simp only [gro.Rules] at R20
    obtain ⟨gi, hs_gi⟩ : ∃ s, (wr).heap.size = s := ⟨_, rfl⟩
    have wg_gi : w.heap.size ≤ gi := by have := BB.out.size; omega
    obtain ⟨v21, hv21, K5, B5, z5, P5⟩ := cst.newbox (72) #[Value.int IntKind.i64 T, Value.int IntKind.i64 V] KK.out hs_gi BB.out BB.out.size
    have o_gy_gi : gy < gi := by omega
    have o_gx_gi : gx < gi := by omega
    have f_HX_gi := (P5 _ _ _ HX.out).2
    replace HX := Lib.hid (P5 _ _ _ HX.out).1
    have f_HY_gi := (P5 _ _ _ HY.out).2
    replace HY := Lib.hid (P5 _ _ _ HY.out).1
    have f_HI_gi := (P5 _ _ _ HI.out).2
    replace HI := Lib.hid (P5 _ _ _ HI.out).1
    replace KK := Lib.hid K5
    replace BB := Lib.hid B5
    replace sz : gi + 1 ≤ (v21).heap.size := by rw [z5]; exact Nat.le_refl _
    clear K5 B5 P5 z5
    have R21 := KK.out.rules
    simp only [gro.Rules] at R21
    go_wp2_with fail
    clear R20 hv21 hs_gi
    (refine (C1.out _ HX.out).mono ?_)
    rintro e v22 ⟨A3, n3, c3, rfl, q3, ⟨p3, fr⟩, hr, hb⟩
    replace BB := Lib.hid (BB.out.trans (hb.mono BB.out.size))
    replace KK := Lib.hid (KK.out.below hb)
    replace HX := Lib.hid ((HX.out.below hb).more hb.size)
    replace HY := Lib.hid ((HY.out.below hb).more hb.size)
    replace HI := Lib.hid ((HI.out.below hb).more hb.size)
    have HA3 := Lib.hid hr
    have f_HA3_gi : 0 < n3 → ∀ ad, A3 = some ad → ad.block ≠ gi := fun _ ad h => by have := fr ad h; omega
    have f_HA3_gy : 0 < n3 → ∀ ad, A3 = some ad → ad.block ≠ gy := fun _ ad h => by have := fr ad h; omega
    have f_HA3_gx : 0 < n3 → ∀ ad, A3 = some ad → ad.block ≠ gx := fun _ ad h => by have := fr ad h; omega
    replace sz := Nat.le_trans sz hb.size
    clear hb hr fr
    have R22 := KK.out.rules
    simp only [gro.Rules] at R22
    clear HX
    have KP := KK.out.perm (L' := [(gx, 60, #[Value.int IntKind.i64 v, Value.int IntKind.i64 k, Value.int IntKind.i64 1000, Value.int IntKind.i64 5, Value.int IntKind.i64 now, Value.slice Ax nx cx]), (gi, 72, #[Value.int IntKind.i64 T, Value.int IntKind.i64 V]), (gy, 24, #[Value.int IntKind.i64 v, Value.int IntKind.i64 k, Value.int IntKind.i64 1000, Value.int IntKind.i64 now, Value.slice Ay ny cy])]) (by simp)
    obtain ⟨v23, hv23, K5, B5, z5, P5⟩ := cst.putS (Value.int IntKind.i64 v) (Value.int IntKind.i64 k) (Value.int IntKind.i64 1000) (Value.int IntKind.i64 5) (Value.int IntKind.i64 T) (Value.slice A3 n3 c3) KP (by simp <;> omega) BB.out wg_gx
    replace HY := Lib.hid (P5 _ _ _ HY.out f_HY_gx)
    replace HI := Lib.hid (P5 _ _ _ HI.out f_HI_gx)
    replace HA3 := Lib.hid (P5 _ _ _ HA3.out f_HA3_gx)
    replace KK := Lib.hid K5
    replace BB := Lib.hid B5
    rw [← z5] at sz
    clear K5 B5 P5 KP z5
    have R23 := KK.out.rules
    simp only [gro.Rules] at R23
    go_wp2_with fail
    clear R21 R22 hv23
    (refine (C2.out _ HY.out).mono ?_)
    rintro e v24 ⟨A4, n4, c4, rfl, q4, ⟨p4, fr⟩, hr, hb⟩
    replace BB := Lib.hid (BB.out.trans (hb.mono BB.out.size))
    replace KK := Lib.hid (KK.out.below hb)
    replace HY := Lib.hid ((HY.out.below hb).more hb.size)
    replace HI := Lib.hid ((HI.out.below hb).more hb.size)
    replace HA3 := Lib.hid ((HA3.out.below hb).more hb.size)
    have HA4 := Lib.hid hr
    have f_HA4_gx : 0 < n4 → ∀ ad, A4 = some ad → ad.block ≠ gx := fun _ ad h => by have := fr ad h; omega
    have f_HA4_gi : 0 < n4 → ∀ ad, A4 = some ad → ad.block ≠ gi := fun _ ad h => by have := fr ad h; omega
    have f_HA4_gy : 0 < n4 → ∀ ad, A4 = some ad → ad.block ≠ gy := fun _ ad h => by have := fr ad h; omega
    replace sz := Nat.le_trans sz hb.size
    clear hb hr fr
    have R24 := KK.out.rules
    simp only [gro.Rules] at R24
    clear HY
    have KP := KK.out.perm (L' := [(gy, 24, #[Value.int IntKind.i64 v, Value.int IntKind.i64 k, Value.int IntKind.i64 1000, Value.int IntKind.i64 now, Value.slice Ay ny cy]), (gx, 60, #[Value.int IntKind.i64 v, Value.int IntKind.i64 k, Value.int IntKind.i64 1000, Value.int IntKind.i64 5, Value.int IntKind.i64 T, Value.slice A3 n3 c3]), (gi, 72, #[Value.int IntKind.i64 T, Value.int IntKind.i64 V])]) (by simp)
    obtain ⟨v25, hv25, K5, B5, z5, P5⟩ := cst.putC (Value.int IntKind.i64 v) (Value.int IntKind.i64 k) (Value.int IntKind.i64 1000) (Value.int IntKind.i64 T) (Value.slice A4 n4 c4) KP (by simp <;> omega) BB.out wg_gy
    replace HI := Lib.hid (P5 _ _ _ HI.out f_HI_gy)
    replace HA3 := Lib.hid (P5 _ _ _ HA3.out f_HA3_gy)
    replace HA4 := Lib.hid (P5 _ _ _ HA4.out f_HA4_gy)
    replace KK := Lib.hid K5
    replace BB := Lib.hid B5
    rw [← z5] at sz
    clear K5 B5 P5 KP z5
    have R25 := KK.out.rules
    simp only [gro.Rules] at R25
    obtain ⟨gb, hs_gb⟩ : ∃ s, (v25).heap.size = s := ⟨_, rfl⟩
    have wg_gb : w.heap.size ≤ gb := by have := BB.out.size; omega
    obtain ⟨v26, hv26, K5, B5, z5, P5⟩ := cst.newbox (60) #[Value.int IntKind.i64 v, Value.int IntKind.i64 k, Value.int IntKind.i64 1000, Value.int IntKind.i64 5, Value.int IntKind.i64 T, Value.slice A3 n3 c3] KK.out hs_gb BB.out BB.out.size
    have o_gy_gb : gy < gb := by omega
    have o_gx_gb : gx < gb := by omega
    have o_gi_gb : gi < gb := by omega
    have f_HI_gb := (P5 _ _ _ HI.out).2
    replace HI := Lib.hid (P5 _ _ _ HI.out).1
    have f_HA3_gb := (P5 _ _ _ HA3.out).2
    replace HA3 := Lib.hid (P5 _ _ _ HA3.out).1
    have f_HA4_gb := (P5 _ _ _ HA4.out).2
    replace HA4 := Lib.hid (P5 _ _ _ HA4.out).1
    replace KK := Lib.hid K5
    replace BB := Lib.hid B5
    replace sz : gb + 1 ≤ (v26).heap.size := by rw [z5]; exact Nat.le_refl _
    clear K5 B5 P5 z5
    have R26 := KK.out.rules
    simp only [gro.Rules] at R26
    go_wp2_with fail
    clear R23 R24 R25 hv25 hv26 hs_gb
    (refine (C3.out _ _ _ _ HA3.out q3 p3).mono ?_)
    rintro e v27 ⟨A5, n5, c5, rfl, q5, ⟨p5, fr⟩, hr, hb⟩
    replace BB := Lib.hid (BB.out.trans (hb.mono BB.out.size))
    replace KK := Lib.hid (KK.out.below hb)
    replace HI := Lib.hid ((HI.out.below hb).more hb.size)
    replace HA3 := Lib.hid ((HA3.out.below hb).more hb.size)
    replace HA4 := Lib.hid ((HA4.out.below hb).more hb.size)
    have HA5 := Lib.hid hr
    have f_HA5_gb : 0 < n5 → ∀ ad, A5 = some ad → ad.block ≠ gb := fun _ ad h => by have := fr ad h; omega
    have f_HA5_gy : 0 < n5 → ∀ ad, A5 = some ad → ad.block ≠ gy := fun _ ad h => by have := fr ad h; omega
    have f_HA5_gx : 0 < n5 → ∀ ad, A5 = some ad → ad.block ≠ gx := fun _ ad h => by have := fr ad h; omega
    have f_HA5_gi : 0 < n5 → ∀ ad, A5 = some ad → ad.block ≠ gi := fun _ ad h => by have := fr ad h; omega
    replace sz := Nat.le_trans sz hb.size
    clear hb hr fr
    have R27 := KK.out.rules
    simp only [gro.Rules] at R27
    have KP := KK.out.perm (L' := [(gx, 60, #[Value.int IntKind.i64 v, Value.int IntKind.i64 k, Value.int IntKind.i64 1000, Value.int IntKind.i64 5, Value.int IntKind.i64 T, Value.slice A3 n3 c3]), (gb, 60, #[Value.int IntKind.i64 v, Value.int IntKind.i64 k, Value.int IntKind.i64 1000, Value.int IntKind.i64 5, Value.int IntKind.i64 T, Value.slice A3 n3 c3]), (gy, 24, #[Value.int IntKind.i64 v, Value.int IntKind.i64 k, Value.int IntKind.i64 1000, Value.int IntKind.i64 T, Value.slice A4 n4 c4]), (gi, 72, #[Value.int IntKind.i64 T, Value.int IntKind.i64 V])]) (by simp)
    obtain ⟨v28, hv28, K5, B5, z5, P5⟩ := cst.putS (Value.int IntKind.i64 v) (Value.int IntKind.i64 k) (Value.int IntKind.i64 1000) (Value.int IntKind.i64 5) (Value.int IntKind.i64 T) (Value.slice A5 n5 c5) KP (by simp <;> omega) BB.out wg_gx
    replace HI := Lib.hid (P5 _ _ _ HI.out f_HI_gx)
    replace HA3 := Lib.hid (P5 _ _ _ HA3.out f_HA3_gx)
    replace HA4 := Lib.hid (P5 _ _ _ HA4.out f_HA4_gx)
    replace HA5 := Lib.hid (P5 _ _ _ HA5.out f_HA5_gx)
    replace KK := Lib.hid K5
    replace BB := Lib.hid B5
    rw [← z5] at sz
    clear K5 B5 P5 KP z5
    have R28 := KK.out.rules
    simp only [gro.Rules] at R28
    go_wp2_with fail
    clear R26 R27 hv28
    have hgb : gy + 1 ≤ gb + 1 := by omega
    (refine (C4.out _ _ _ _ _ _ _ HA5.out HA3.out).mono ?_)
    rintro e v29 ⟨rfl, hb⟩
    replace BB := Lib.hid (BB.out.trans (hb.mono BB.out.size))
    replace KK := Lib.hid (KK.out.below hb)
    replace HI := Lib.hid ((HI.out.below hb).more hb.size)
    replace HA3 := Lib.hid ((HA3.out.below hb).more hb.size)
    replace HA4 := Lib.hid ((HA4.out.below hb).more hb.size)
    replace HA5 := Lib.hid ((HA5.out.below hb).more hb.size)
    replace sz := Nat.le_trans sz hb.size
    clear hb
    have R29 := KK.out.rules
    simp only [gro.Rules] at R29
    go_wp2_with fail
    clear R28
    clear HA3
    (refine (C5.out _ _ _ _ HA5.out q5 p5).mono ?_)
    rintro e v30 ⟨A6, n6, c6, rfl, q6, ⟨p6, fr⟩, hr, hb⟩
    replace BB := Lib.hid (BB.out.trans (hb.mono BB.out.size))
    replace KK := Lib.hid (KK.out.below hb)
    replace HI := Lib.hid ((HI.out.below hb).more hb.size)
    replace HA4 := Lib.hid ((HA4.out.below hb).more hb.size)
    replace HA5 := Lib.hid ((HA5.out.below hb).more hb.size)
    have HA6 := Lib.hid hr
    have f_HA6_gx : 0 < n6 → ∀ ad, A6 = some ad → ad.block ≠ gx := fun _ ad h => by have := fr ad h; omega
    have f_HA6_gb : 0 < n6 → ∀ ad, A6 = some ad → ad.block ≠ gb := fun _ ad h => by have := fr ad h; omega
    have f_HA6_gy : 0 < n6 → ∀ ad, A6 = some ad → ad.block ≠ gy := fun _ ad h => by have := fr ad h; omega
    have f_HA6_gi : 0 < n6 → ∀ ad, A6 = some ad → ad.block ≠ gi := fun _ ad h => by have := fr ad h; omega
    replace sz := Nat.le_trans sz hb.size
    clear hb hr fr
    have R30 := KK.out.rules
    simp only [gro.Rules] at R30
    clear HA5
    have KP := KK.out.perm (L' := [(gx, 60, #[Value.int IntKind.i64 v, Value.int IntKind.i64 k, Value.int IntKind.i64 1000, Value.int IntKind.i64 5, Value.int IntKind.i64 T, Value.slice A5 n5 c5]), (gb, 60, #[Value.int IntKind.i64 v, Value.int IntKind.i64 k, Value.int IntKind.i64 1000, Value.int IntKind.i64 5, Value.int IntKind.i64 T, Value.slice A3 n3 c3]), (gy, 24, #[Value.int IntKind.i64 v, Value.int IntKind.i64 k, Value.int IntKind.i64 1000, Value.int IntKind.i64 T, Value.slice A4 n4 c4]), (gi, 72, #[Value.int IntKind.i64 T, Value.int IntKind.i64 V])]) (by simp)
    obtain ⟨v31, hv31, K5, B5, z5, P5⟩ := cst.putS (Value.int IntKind.i64 v) (Value.int IntKind.i64 k) (Value.int IntKind.i64 1000) (Value.int IntKind.i64 5) (Value.int IntKind.i64 T) (Value.slice A6 n6 c6) KP (by simp <;> omega) BB.out wg_gx
    replace HI := Lib.hid (P5 _ _ _ HI.out f_HI_gx)
    replace HA4 := Lib.hid (P5 _ _ _ HA4.out f_HA4_gx)
    replace HA6 := Lib.hid (P5 _ _ _ HA6.out f_HA6_gx)
    replace KK := Lib.hid K5
    replace BB := Lib.hid B5
    rw [← z5] at sz
    clear K5 B5 P5 KP z5
    have R31 := KK.out.rules
    simp only [gro.Rules] at R31
    go_wp2_with fail
    clear R29 R30 hv31
    (refine (C6.out _ _ _ _ HA4.out q4 p4).mono ?_)
    rintro e v32 ⟨A7, n7, c7, rfl, q7, ⟨p7, fr⟩, hr, hb⟩
    replace BB := Lib.hid (BB.out.trans (hb.mono BB.out.size))
    replace KK := Lib.hid (KK.out.below hb)
    replace HI := Lib.hid ((HI.out.below hb).more hb.size)
    replace HA4 := Lib.hid ((HA4.out.below hb).more hb.size)
    replace HA6 := Lib.hid ((HA6.out.below hb).more hb.size)
    have HA7 := Lib.hid hr
    have f_HA7_gx : 0 < n7 → ∀ ad, A7 = some ad → ad.block ≠ gx := fun _ ad h => by have := fr ad h; omega
    have f_HA7_gb : 0 < n7 → ∀ ad, A7 = some ad → ad.block ≠ gb := fun _ ad h => by have := fr ad h; omega
    have f_HA7_gy : 0 < n7 → ∀ ad, A7 = some ad → ad.block ≠ gy := fun _ ad h => by have := fr ad h; omega
    have f_HA7_gi : 0 < n7 → ∀ ad, A7 = some ad → ad.block ≠ gi := fun _ ad h => by have := fr ad h; omega
    replace sz := Nat.le_trans sz hb.size
    clear hb hr fr
    have R32 := KK.out.rules
    simp only [gro.Rules] at R32
    clear HA4
    have KP := KK.out.perm (L' := [(gy, 24, #[Value.int IntKind.i64 v, Value.int IntKind.i64 k, Value.int IntKind.i64 1000, Value.int IntKind.i64 T, Value.slice A4 n4 c4]), (gx, 60, #[Value.int IntKind.i64 v, Value.int IntKind.i64 k, Value.int IntKind.i64 1000, Value.int IntKind.i64 5, Value.int IntKind.i64 T, Value.slice A6 n6 c6]), (gb, 60, #[Value.int IntKind.i64 v, Value.int IntKind.i64 k, Value.int IntKind.i64 1000, Value.int IntKind.i64 5, Value.int IntKind.i64 T, Value.slice A3 n3 c3]), (gi, 72, #[Value.int IntKind.i64 T, Value.int IntKind.i64 V])]) (by simp)
    obtain ⟨v33, hv33, K5, B5, z5, P5⟩ := cst.putC (Value.int IntKind.i64 v) (Value.int IntKind.i64 k) (Value.int IntKind.i64 1000) (Value.int IntKind.i64 T) (Value.slice A7 n7 c7) KP (by simp <;> omega) BB.out wg_gy
    replace HI := Lib.hid (P5 _ _ _ HI.out f_HI_gy)
    replace HA6 := Lib.hid (P5 _ _ _ HA6.out f_HA6_gy)
    replace HA7 := Lib.hid (P5 _ _ _ HA7.out f_HA7_gy)
    replace KK := Lib.hid K5
    replace BB := Lib.hid B5
    rw [← z5] at sz
    clear K5 B5 P5 KP z5
    have R33 := KK.out.rules
    simp only [gro.Rules] at R33
    go_wp2_with fail
    clear R31 R32 hv33
    (refine (C7.out _ _ _ _ _ _ _ HA6.out HA7.out).mono ?_)
    rintro e v34 ⟨rfl, hb⟩
    replace BB := Lib.hid (BB.out.trans (hb.mono BB.out.size))
    replace KK := Lib.hid (KK.out.below hb)
    replace HI := Lib.hid ((HI.out.below hb).more hb.size)
    replace HA6 := Lib.hid ((HA6.out.below hb).more hb.size)
    replace HA7 := Lib.hid ((HA7.out.below hb).more hb.size)
    replace sz := Nat.le_trans sz hb.size
    clear hb
    have R34 := KK.out.rules
    simp only [gro.Rules] at R34
    go_wp2_with fail
    clear R33
    go_roundg (m - (i + 1))
    case measure => exact Nat.lt_of_lt_of_le hmes hkx
    case rel => exact ⟨i + 1, A6, n6, c6, A7, n7, c7, y3, T, _, by go_num, rfl, rfl, hmes2, Nat.le_refl _, q6, p6, q7, p7, ha1, ha2, HN2.out, hts, hto3, HR3.out, HA6.out, f_HA6_gx, f_HA6_gy, HA7.out, f_HA7_gx, f_HA7_gy, KK.out.perm (by simp), HI.out, BB.out, Nat.le_trans hgb sz⟩
end Go.Proofs.Ytkpcljiipdbmhaa.sumCounts
