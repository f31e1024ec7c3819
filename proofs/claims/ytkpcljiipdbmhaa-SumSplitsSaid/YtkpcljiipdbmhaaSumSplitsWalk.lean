/- The walk of the law SumSplits: it returns true and leaves what was there. -/
import Derived.Test.YtkpcljiipdbmhaaRows
import Derived.Test.YtkpcljiipdbmhaaMgClk
import Derived.Test.YtkpcljiipdbmhaaMgMade
import Derived.Test.YtkpcljiipdbmhaaMgAwake12
import Derived.Test.YtkpcljiipdbmhaaMgOpenC
import Derived.Test.YtkpcljiipdbmhaaMgCanon
import Derived.WalkKit
import Derived.ProofKit
import Derived.OpenShut
import Derived.ShutString
namespace Go.Proofs.Ytkpcljiipdbmhaa.sumSplits
open Go.ChangeShapes Go.WideShapes Go.ChangeAt Go.RowKit
open Go.ChangeMaps (open_string shut_string)
set_option linter.unusedVariables false

set_option maxHeartbeats 4000000 in
set_option maxRecDepth 100000 in
theorem walk (A0 : Option Addr) (n0 c0 : Nat) (z0 : List (Int × Int)) (a1 : Int) (a2 : Int) (a3 : Int) (w : World) (iw0 : mem.PRead w w.heap.size A0 n0 z0) (e0 : n0 ≤ c0) (m0 : c0 ≤ maxLen) (r0 : ∀ p ∈ z0, opn.Rng p.1 ∧ opn.Rng p.2) (iw1 : opn.Rng a1) (iw2 : opn.Rng a2) (iw3 : opn.Rng a3) :
    Calls Try.prog 11 #[.slice A0 n0 c0, .int .i64 a1, .int .i64 a2, .int .i64 a3] w fun e w' => e = .returned (.bool true) ∧ Below w.heap.size w w' := by
  have HZ := Lib.hid iw0
  have M1 := Lib.hid (fun W => made.Mod_any a1 20 W iw1 (by omega) (by omega))
  have M2 := Lib.hid (fun W => made.Mod_any a2 200 W iw2 (by omega) (by omega))
  have M3 := Lib.hid (fun W => made.Mod_any a3 200 W iw3 (by omega) (by omega))
  have b10 : 0 ≤ a1 % 20 := Int.emod_nonneg _ (by omega)
  have b11 : a1 % 20 < 20 := Int.emod_lt_of_pos _ (by omega)
  have b20 : 0 ≤ a2 % 200 := Int.emod_nonneg _ (by omega)
  have b21 : a2 % 200 < 200 := Int.emod_lt_of_pos _ (by omega)
  have b30 : 0 ≤ a3 % 200 := Int.emod_nonneg _ (by omega)
  have b31 : a3 % 200 < 200 := Int.emod_lt_of_pos _ (by omega)
  clear iw1 iw2 iw3 iw0
  generalize a1 % 20 = x1 at *
  generalize a2 % 200 = y2 at *
  generalize a3 % 200 = y3 at *
  obtain ⟨v, hv⟩ : ∃ v : Int, 1 + x1 = v := ⟨_, rfl⟩
  obtain ⟨p, hp⟩ : ∃ p : Nat, y2 = p := ⟨y2.toNat, by omega⟩
  obtain ⟨q, hq⟩ : ∃ q : Nat, y3 = q := ⟨y3.toNat, by omega⟩
  subst hp hq
  have hv1 : 1 ≤ v := by omega
  have hv2 : v ≤ 20 := by omega
  have hsv : IntKind.i64.wrap (1 + x1) = v := by rw [hv]; exact IntWalk.i64_in _ (by omega)
  have hspq : IntKind.i64.wrap ((p : Int) + q) = ((p + q : Nat) : Int) := by rw [IntWalk.i64_in _ (by omega)]; omega
  clear hv b10 b11
  have H1 := Lib.hid (fun W => cst.NewS_ok (v := v) (k := 2) (p := 65536) (m := 400) (o := 0) (cst.goodS_iff.2 (by omega)) W)
  have H2 := Lib.hid (fun W (hb : Below w.heap.size w W) => made.PositiveItems_any A0 n0 c0 z0 v 30 400 W ((HZ.out.below hb).more hb.size) r0 e0 m0 (by omega) (by omega) (by omega))
  have H9 := Lib.hid (fun W => cst.awake12_any W)
  clear r0 e0 m0
  go_enter Try.func11, Try.ntmps11
  go_wp2_with fail
  (with_reducible refine (M1.out _).mono ?_)
  rintro e w1 ⟨rfl, rfl⟩
  go_wp2_with fail
  (with_reducible refine (M2.out _).mono ?_)
  rintro e w1 ⟨rfl, rfl⟩
  go_wp2_with fail
  (with_reducible refine (M3.out _).mono ?_)
  rintro e w1 ⟨rfl, rfl⟩
  go_wp2_with fail
  clear M1 M2 M3
  (with_reducible refine (H1.out _).mono ?_)
  rintro e w1 ⟨rfl, hb1⟩
  obtain ⟨g, hg⟩ : ∃ s, w1.heap.size = s := ⟨_, rfl⟩
  have hwg : w.heap.size ≤ g := by have := hb1.size; omega
  go_wp2_with fail
  obtain ⟨W1, hW, K1, B1, z1⟩ := gro.name_world (gro.Bx.nil_.new (W := w1) (t := 60) (c := #[Value.int IntKind.i64 v, Value.int IntKind.i64 2, Value.int IntKind.i64 65536, Value.int IntKind.i64 400, Value.int IntKind.i64 0, Value.slice none 0 0]) hg) (hb1.alloc hb1.size _) (s := g + 1) (by simp; omega)
  rw [hW]
  clear hW hb1 hg
  have KK := Lib.hid K1
  have BB := Lib.hid B1
  have R := K1.rules
  simp only [gro.Rules] at R
  clear K1 B1
  (refine (H2.out _ BB.out).mono ?_)
  rintro e w2 ⟨u, its, rfl, hown, hlm, hok, hb2⟩
  have HA := Lib.hid (made.MidOk.asc hok (by omega) ⟨hv1, by omega⟩)
  obtain ⟨A1, c1, rfl, i1, i2, i3⟩ := mem.own_form hown
  have hfr1 : ∀ ad, A1 = some ad → ad.block ≠ g := fun ad h => by have := lst.own_new hown ad h; omega
  obtain ⟨m, hm⟩ : ∃ m, its.length = m := ⟨_, rfl⟩
  rw [hm] at hlm i1 i3
  have HI := Lib.hid i3
  have HL : Hid (its.length = m) := hm
  replace BB := Lib.hid (BB.out.trans (hb2.mono BB.out.size))
  replace KK := Lib.hid (KK.out.below hb2)
  replace R := KK.out.rules
  simp only [gro.Rules] at R
  clear hown hok hb2 i3 H1 H2 HZ
  simp only [hm]
  have i2' : c1 ≤ 9223372036854775807 := i2
  go_wp2_with fail
  clear R
  go_loopg [10, 34] m (fun kx s10 s34 wr => ∃ (i : Nat) (A : Option Addr) (n c : Nat) (ys : List (Int × Int)) (now : Int) (ts : List Int), s34 = .int .i64 i ∧ s10 = .int .i64 0 ∧ i ≤ m ∧ m - i ≤ kx ∧ n ≤ c ∧ c ≤ 9223372036854775807 ∧ 0 ≤ now ∧ now ≤ 100000 ∧ Hid (i < m → now ≤ (buk.at_ its i).1) ∧ ts.length ≤ 400 * i ∧ lst.totalN ys ≤ 400 * i ∧ Hid (cst.Run ys 2 v now ts) ∧ Hid (mem.PRead wr wr.heap.size A n ys) ∧ Hid (∀ ad, A = some ad → ad.block ≠ g) ∧ Hid (gro.Bx wr [(g, 60, #[Value.int IntKind.i64 v, Value.int IntKind.i64 2, Value.int IntKind.i64 65536, Value.int IntKind.i64 400, Value.int IntKind.i64 now, Value.slice A n c])]) ∧ Hid (mem.PRead wr wr.heap.size A1 m its) ∧ Hid (Below w.heap.size w wr))
  case atStart => exact ⟨0, none, 0, 0, [], 0, [], rfl, rfl, by omega, by omega, by omega, by omega, by omega, by omega, fun h => (HA.out 0 (by rw [HL.out]; exact h)).1.1, by simp, by simp [lst.totalN], cst.Run.nil v (by omega) (by omega), mem.PRead.nil_, fun ad h => by (cases h), KK.out, HI.out, BB.out⟩
  case round =>
    clear KK BB HI
    obtain ⟨i, A, n, c, ys, now, ts, rfl, rfl, hi, hkx, hnc, hcm, hn0, hn1, HT, htl, hto, HR, HP, HF, KK, HI, BB⟩ := hrel
    by_cases hlt : i < m
    case neg =>
      obtain rfl : i = m := by omega
      have hrk := HR.out.ask (p := 65536) (by omega) (by omega)
      obtain ⟨_, hyl, hyt, _, _, _, _, _⟩ := hrk
      have hlen := mem.PRead.len HP.out
      have hn2 : n ≤ 2000 := by omega
      clear hyl hyt HT
      obtain ⟨mp, HRp, htp⟩ := HR.out.many hn0 (by omega) hv1 p (by omega) (by omega)
      obtain ⟨mq, HRq, htq⟩ := HRp.many hn0 (by omega) hv1 q (by omega) (by simp; omega)
      obtain ⟨mr, HRr, htr⟩ := HR.out.many hn0 (by omega) hv1 (p + q) (by omega) (by omega)
      rw [buk.iter_add] at mq HRq htq
      have hrp := HRp.ask (p := 65536) (by simp; omega) (by omega)
      have hrr := HRr.ask (p := 65536) (by simp; omega) (by omega)
      have hf1 := HR.out.fitS (p := 65536) (m := 400) hn0 (by omega) ⟨hv1, by omega⟩ (by omega) (by omega) (by omega) (by omega)
      have hfp := HRp.fitS (p := 65536) (m := 400) hn0 (by omega) ⟨hv1, by omega⟩ (by omega) (by omega) (by omega) (by omega)
      have C1 := Lib.hid (fun W (hb : Below wr.heap.size wr W) => cst.AddS_ok (x := p) ((HP.out.below hb).more hb.size) hnc hcm hn2 hf1 ⟨by omega, by omega⟩ (by omega) (by omega))
      have C3 := Lib.hid (fun W (hb : Below wr.heap.size wr W) => cst.AddS_ok (x := ((p + q : Nat) : Int)) ((HP.out.below hb).more hb.size) hnc hcm hn2 hf1 ⟨by omega, by omega⟩ (by omega) (by omega))
      have C2 := Lib.hid (fun A n c W (h : mem.PRead W W.heap.size A n (buk.iterIns 2 now p ys)) h1 h2 => cst.AddS_ok (x := q) (c := c) h h1 h2 (by have := mem.PRead.len h; omega) hfp ⟨by omega, by omega⟩ (by omega) (by omega))
      have C4 := Lib.hid (fun A1 A2 n1 c1 n2 c2 W (h : mem.PRead W W.heap.size A1 n1 (buk.iterIns 2 now (p + q) ys)) h2 => cst.SameS_any v 2 65536 400 now A1 A2 n1 c1 n2 c2 _ W h h2 (by have := mem.PRead.len h; omega))
      rw [mp] at C1
      rw [mq] at C2
      rw [mr] at C3
      clear mp mq mr HRp HRq HRr htp htq htr hrp hrr hf1 hfp HR HP HI
      generalize buk.iterIns 2 now p ys = yp at *
      generalize buk.iterIns 2 now (p + q) ys = yr at *
      have R0 := KK.out.rules
      simp only [gro.Rules] at R0
      go_wp2_with fail
      (refine (C1.out wr (Below.refl _ _)).mono ?_)
      rintro e w2 ⟨A2, l2, c2, rfl, r1, ⟨r2, fr⟩, hr2, hb2⟩
      obtain ⟨s, hs⟩ : ∃ s, w2.heap.size = s := ⟨_, rfl⟩
      have hgs : g < s := by have := KK.out.head.lt; have := hb2.size; omega
      have hws : wr.heap.size ≤ s := by have := hb2.size; omega
      have RA := ((KK.out.below hb2).new (t := 60) (c := #[Value.int IntKind.i64 v, Value.int IntKind.i64 2, Value.int IntKind.i64 65536, Value.int IntKind.i64 400, Value.int IntKind.i64 now, Value.slice A2 l2 c2]) hs).rules
      simp only [gro.Rules] at RA
      clear C1
      go_wp2_with fail
      obtain ⟨W3, hW, K3, B3, z3⟩ := gro.name_world ((KK.out.below hb2).new (t := 60) (c := #[Value.int IntKind.i64 v, Value.int IntKind.i64 2, Value.int IntKind.i64 65536, Value.int IntKind.i64 400, Value.int IntKind.i64 now, Value.slice A2 l2 c2]) hs) (hb2.alloc hb2.size (.cells #[Value.int IntKind.i64 v, Value.int IntKind.i64 2, Value.int IntKind.i64 65536, Value.int IntKind.i64 400, Value.int IntKind.i64 now, Value.slice A2 l2 c2] 60)) (s := s + 1) (by simp; omega)
      have hr3 : mem.PRead W3 W3.heap.size A2 l2 yp := by
        have hba : Below w2.heap.size w2 W3 := by rw [← hW]; exact (Below.refl _ _).alloc (Nat.le_refl _) _
        exact (hr2.below hba).more hba.size
      rw [hW]
      clear hW RA hr2 hb2 hs
      (refine (C2.out A2 l2 c2 W3 hr3 r1 r2).mono ?_)
      rintro e w4 ⟨A4, l4, c4, rfl, q1, ⟨q2, fr4⟩, hr4, hb4⟩
      have f4 : ∀ ad, A4 = some ad → ad.block ≠ s := fun ad h => by have := fr4 ad h; omega
      obtain ⟨W5, hW5, K5, B5, z5, P5⟩ := cst.putS (Value.int IntKind.i64 v) (Value.int IntKind.i64 2) (Value.int IntKind.i64 65536) (Value.int IntKind.i64 400) (Value.int IntKind.i64 now) (Value.slice A4 l4 c4) (K3.below hb4) (by simp; omega) (B3.trans (hb4.mono B3.size)) hws
      have hr5 := P5 _ _ _ hr4 (fun _ => f4)
      have R4 := (K3.below hb4).rules
      have R5 := K5.rules
      simp only [gro.Rules] at R4 R5
      clear C2 P5 hr3 hr4 hb4 B3 K3 fr fr4
      go_wp2_with fail
      clear R4 hW5
      (refine (C3.out W5 B5).mono ?_)
      rintro e w6 ⟨A6, l6, c6, rfl, t1, ⟨t2, fr6⟩, hr6, hb6⟩
      obtain ⟨s6, hs6⟩ : ∃ s, w6.heap.size = s := ⟨_, rfl⟩
      have RA := ((K5.below hb6).new (t := 60) (c := #[Value.int IntKind.i64 v, Value.int IntKind.i64 2, Value.int IntKind.i64 65536, Value.int IntKind.i64 400, Value.int IntKind.i64 now, Value.slice A6 l6 c6]) hs6).rules
      simp only [gro.Rules] at RA
      have B6 := B5.trans (hb6.mono B5.size)
      have hba : Below w6.heap.size w6 (w6.alloc (.cells #[Value.int IntKind.i64 v, Value.int IntKind.i64 2, Value.int IntKind.i64 65536, Value.int IntKind.i64 400, Value.int IntKind.i64 now, Value.slice A6 l6 c6] 60)) := (Below.refl _ _).alloc (Nat.le_refl _) _
      have hrA := (hr6.below hba).more hba.size
      have hrB := (((hr5.below hb6).more hb6.size).below hba).more hba.size
      have B7 := B6.trans (hba.mono B6.size)
      clear C3 R5 R0 fr6
      go_wp2_with fail
      (refine (C4.out _ _ _ _ _ _ _ hrB hrA).mono ?_)
      rintro e w8 ⟨rfl, hb8⟩
      go_wp2_with fail
      (refine (H9.out _).mono ?_)
      rintro e w9 ⟨rfl, hb9⟩
      go_wp2
      go_ret
      have B8 := B7.trans (hb8.mono B7.size)
      have B9 := B8.trans (hb9.mono B8.size)
      exact ⟨rfl, BB.out.trans (B9.mono BB.out.size)⟩
    have hrk := HR.out.ask (p := 65536) (by omega) (by omega)
    obtain ⟨_, hyl, hyt, _, _, _, _, _⟩ := hrk
    have hlen := mem.PRead.len HP.out
    have hn2 : n ≤ 2000 := by omega
    clear hyl hyt
    obtain ⟨ad, rfl, hbl, hc1, hc2⟩ := mem.PRead.at_ HI.out hlt
    change wr.cell? (ad.add (i * 2)) = some (.int .i64 (buk.at_ its i).1) at hc1
    change wr.cell? ⟨(ad.add (i * 2)).block, (ad.add (i * 2)).off + 1, none⟩ = some (.int .i64 (buk.at_ its i).2) at hc2
    obtain ⟨⟨ha1, ha2⟩, ⟨ha3, ha4⟩, HN⟩ := HA.out i (by rw [HL.out]; exact hlt)
    have HT1 := HT.out hlt
    have HN2 : Hid (i + 1 < m → (buk.at_ its i).1 ≤ (buk.at_ its (i + 1)).1) := fun h => HN (by rw [HL.out]; exact h)
    clear HN HT
    generalize (buk.at_ its i).1 = T at *
    generalize hV : (buk.at_ its i).2 = V at *
    obtain ⟨V, rfl⟩ := Int.eq_ofNat_of_zero_le ha3
    clear hV
    obtain ⟨HR2, ht2⟩ := HR.out.adv (now2 := T) hn0 HT1 (by omega) ⟨hv1, by omega⟩
    obtain ⟨hm1, HR3, ht3⟩ := HR2.many (by omega) (by omega) hv1 V (by omega) (by omega)
    have hf1 := HR.out.fitS (p := 65536) (m := 400) hn0 (by omega) ⟨hv1, by omega⟩ (by omega) (by omega) (by omega) (by omega)
    have hf2 := HR2.fitS (p := 65536) (m := 400) (by omega) (by omega) ⟨hv1, by omega⟩ (by omega) (by omega) (by omega) (by omega)
    have hly : (lst.expireL (clk.firstI T v) ys).length ≤ 2000 := by have := lst.expireL_le (clk.firstI T v) ys; omega
    have C1 := Lib.hid (fun W (hb : Below wr.heap.size wr W) => cst.AdvS_ok (tt := T) ((HP.out.below hb).more hb.size) hnc hcm hn2 hf1 ⟨HT1, by omega⟩)
    have C2 := Lib.hid (fun A n c W (h : mem.PRead W W.heap.size A n (lst.expireL (clk.firstI T v) ys)) h1 h2 => cst.AddS_ok (x := V) (c := c) h h1 h2 (by have := mem.PRead.len h; omega) hf2 ⟨by omega, by omega⟩ (by omega) (by omega))
    rw [hm1] at C2
    have HR3 := Lib.hid HR3
    clear hm1 HR2 HR hf1 hf2 hly HP
    obtain ⟨s, hs⟩ : ∃ s, wr.heap.size = s := ⟨_, rfl⟩
    have RA := (KK.out.new (t := 72) (c := #[Value.int IntKind.i64 T, Value.int IntKind.i64 V]) hs).rules
    simp only [gro.Rules] at RA
    go_wp2_with fail
    have hgs : g < s := by have := KK.out.head.lt; omega
    obtain ⟨W3, hW, K3, B3, z3⟩ := gro.name_world (KK.out.new (t := 72) (c := #[Value.int IntKind.i64 T, Value.int IntKind.i64 V]) hs) ((Below.refl wr.heap.size wr).alloc (Nat.le_refl _) _) (s := s + 1) (by simp; omega)
    rw [hW]
    clear hW RA
    (refine (C1.out _ B3).mono ?_)
    rintro e w4 ⟨A2, l2, c2, rfl, r1, ⟨r2, fr⟩, hr2, hb2⟩
    have f2 : ∀ ad, A2 = some ad → ad.block ≠ g := fun ad h => by have := fr ad h; omega
    have B4 := B3.trans (hb2.mono B3.size)
    have K4 := K3.swap.below hb2
    have I4 := (HI.out.below B4).more B4.size
    replace BB := Lib.hid (BB.out.trans (B4.mono BB.out.size))
    obtain ⟨W5, hW5, K5, B5, z5, P5⟩ := cst.putS (Value.int IntKind.i64 v) (Value.int IntKind.i64 2) (Value.int IntKind.i64 65536) (Value.int IntKind.i64 400) (Value.int IntKind.i64 T) (Value.slice A2 l2 c2) K4 (by simp; omega) BB.out hwg
    have R4 := K4.rules
    have R5 := K5.rules
    simp only [gro.Rules] at R4 R5
    have HR5 := Lib.hid (P5 _ _ _ hr2 (fun _ => f2))
    have I5 := P5 _ _ _ I4 (fun _ => hfr1)
    replace KK := Lib.hid K5
    replace BB := Lib.hid B5
    replace HI := Lib.hid I5
    clear B3 K3 B4 K4 I4 K5 B5 I5 hr2 fr hb2 P5 C1 z5
    go_wp2_with fail
    (refine (C2.out A2 l2 c2 W5 HR5.out r1 r2).mono ?_)
    rintro e w6 ⟨A3, l3, c3, rfl, q1, ⟨q2, fr⟩, hr3, hb3⟩
    have f3 : ∀ ad, A3 = some ad → ad.block ≠ g := fun ad h => by have := fr ad h; have := KK.out.head.lt; omega
    have K4 := KK.out.below hb3
    have I4 := (HI.out.below hb3).more hb3.size
    replace BB := Lib.hid (BB.out.trans (hb3.mono BB.out.size))
    obtain ⟨W7, hW7, K5, B5, z5, P5⟩ := cst.putS (Value.int IntKind.i64 v) (Value.int IntKind.i64 2) (Value.int IntKind.i64 65536) (Value.int IntKind.i64 400) (Value.int IntKind.i64 T) (Value.slice A3 l3 c3) K4 (by simp; omega) BB.out hwg
    replace R4 := K4.rules
    replace R5 := K5.rules
    simp only [gro.Rules] at R4 R5
    replace HR5 := Lib.hid (P5 _ _ _ hr3 (fun _ => f3))
    have I5 := P5 _ _ _ I4 (fun _ => hfr1)
    replace KK := Lib.hid K5
    replace BB := Lib.hid B5
    replace HI := Lib.hid I5
    clear K4 I4 K5 B5 I5 hr3 fr hb3 P5 C2 z5
    go_wp2_with fail
    go_roundg (m - (i + 1))
    case measure => omega
    case rel => exact ⟨i + 1, A3, l3, c3, _, T, _, by go_num, rfl, by omega, by omega, q1, q2, by omega, by omega, HN2.out, by rw [List.length_append, List.length_replicate]; omega, by rw [ht3]; omega, HR3.out, HR5.out, f3, KK.out.perm (by simp), HI.out, BB.out⟩
end Go.Proofs.Ytkpcljiipdbmhaa.sumSplits
