/- The walk of the law BlocksTruth: it returns true and leaves what was there. -/
import Derived.Test.YtjapjfcennemeaaRows
import Derived.Test.YtjapjfcennemeaaMgTri
import Derived.Test.YtjapjfcennemeaaMgTruP
import Derived.Test.YtjapjfcennemeaaMgBLaw
import Derived.Test.YtjapjfcennemeaaMgLive
import Derived.Test.YtjapjfcennemeaaMgSteady3
import Derived.Test.YtjapjfcennemeaaMgOpenK
import Derived.WalkKit
import Derived.ProofKit
import Derived.OpenShut
import Derived.ShutString
namespace Go.Proofs.Ytjapjfcennemeaa.blocksTruth
open Go.ChangeShapes Go.WideShapes Go.ChangeAt Go.RowKit
open Go.ChangeMaps (open_string shut_string)
set_option linter.unusedVariables false

set_option maxHeartbeats 4000000 in
set_option maxRecDepth 100000 in
theorem walk (A0 : Option Addr) (n0 c0 : Nat) (z0 : List (Int × Int)) (a1 : Int) (a2 : Int) (a3 : Int) (a4 : Int) (a5 : Int) (a6 : Int) (w : World) (iw0 : mem.PRead w w.heap.size A0 n0 z0) (e0 : n0 ≤ c0) (m0 : c0 ≤ maxLen) (r0 : ∀ p ∈ z0, opn.Rng p.1 ∧ opn.Rng p.2) (iw1 : opn.Rng a1) (iw2 : opn.Rng a2) (iw3 : opn.Rng a3) (iw4 : opn.Rng a4) (iw5 : opn.Rng a5) (iw6 : opn.Rng a6) :
    Calls Try.prog 8 #[.slice A0 n0 c0, .int .i64 a1, .int .i64 a2, .int .i64 a3, .int .i64 a4, .int .i64 a5, .int .i64 a6] w fun e w' => e = .returned (.bool true) ∧ Below w.heap.size w w' := by
  have HZ := Lib.hid iw0
  have M1 := Lib.hid (fun W => made.Mod_any a1 20 W iw1 (by omega) (by omega))
  have M2 := Lib.hid (fun W => made.Int_any a2 4 W iw2 (by omega) (by omega))
  have M3 := Lib.hid (fun W => made.Int_any a3 30 W iw3 (by omega) (by omega))
  have M6 := Lib.hid (fun W => made.Mod_any a6 30 W iw6 (by omega) (by omega))
  have b10 : 0 ≤ a1 % 20 := Int.emod_nonneg _ (by omega)
  have b11 : a1 % 20 < 20 := Int.emod_lt_of_pos _ (by omega)
  have b20 : 0 ≤ a2 % 4 := Int.emod_nonneg _ (by omega)
  have b21 : a2 % 4 < 4 := Int.emod_lt_of_pos _ (by omega)
  have b30 : 0 ≤ a3 % 30 := Int.emod_nonneg _ (by omega)
  have b31 : a3 % 30 < 30 := Int.emod_lt_of_pos _ (by omega)
  have b60 : 0 ≤ a6 % 30 := Int.emod_nonneg _ (by omega)
  have b61 : a6 % 30 < 30 := Int.emod_lt_of_pos _ (by omega)
  clear iw1 iw2 iw3 iw4 iw6 iw0
  generalize a1 % 20 = x1 at *
  generalize a2 % 4 = x2 at *
  generalize a3 % 30 = x3 at *
  generalize a6 % 30 = x6 at *
  obtain ⟨wd, hwd⟩ : ∃ k : Int, 1 + x1 = k := ⟨_, rfl⟩
  obtain ⟨k, hk⟩ : ∃ k : Int, 1 + x2 = k := ⟨_, rfl⟩
  obtain ⟨b, hb⟩ : ∃ b : Int, 1 + x3 = b := ⟨_, rfl⟩
  obtain ⟨q, hq⟩ : ∃ b : Int, 1 + x6 = b := ⟨_, rfl⟩
  have hw1 : 1 ≤ wd := by omega
  have hw2 : wd ≤ 20 := by omega
  have hk1 : 1 ≤ k := by omega
  have hk2 : k ≤ 4 := by omega
  have hb1 : 1 ≤ b := by omega
  have hb2 : b ≤ 30 := by omega
  have hq1 : 1 ≤ q := by omega
  have hq2 : q ≤ 30 := by omega
  have hsw : IntKind.i64.wrap (1 + x1) = wd := by rw [hwd]; exact IntWalk.i64_in _ (by omega)
  have hsk : IntKind.i64.wrap (1 + x2) = k := by rw [hk]; exact IntWalk.i64_in _ (by omega)
  have hsb : IntKind.i64.wrap (1 + x3) = b := by rw [hb]; exact IntWalk.i64_in _ (by omega)
  have hsq : IntKind.i64.wrap (1 + x6) = q := by rw [hq]; exact IntWalk.i64_in _ (by omega)
  have hsq1 : IntKind.i64.wrap (q + 1) = q + 1 := IntWalk.i64_in _ (by omega)
  have M5 := Lib.hid (fun W => made.Mod_any a5 (q + 1) W iw5 (by omega) (by omega))
  have b50 : 0 ≤ a5 % (q + 1) := Int.emod_nonneg _ (by omega)
  have b51 : a5 % (q + 1) < q + 1 := Int.emod_lt_of_pos _ (by omega)
  clear iw5
  generalize a5 % (q + 1) = p at *
  have hA : Hid (rnk.asksQ p q) := ⟨hq1, b50, by omega⟩
  clear hk hb hq hwd b10 b11 b20 b21 b30 b31 b60 b61
  have H3 := Lib.hid (fun W (hb : Below w.heap.size w W) => made.Items_any A0 n0 c0 z0 wd 80 W ((HZ.out.below hb).more hb.size) r0 e0 m0 (by omega) (by omega))
  have H9 := Lib.hid (fun W => blk.awake22_any W)
  clear r0 e0 m0
  go_enter Try.func8, Try.ntmps8
  go_wp2_with fail
  (with_reducible refine (M1.out _).mono ?_)
  rintro e w1 ⟨rfl, rfl⟩
  go_wp2_with fail
  (with_reducible refine (M2.out _).mono ?_)
  rintro e w1 ⟨rfl, rfl⟩
  go_wp2_with fail
  (with_reducible refine (M3.out _).mono ?_)
  rintro e w1 ⟨rfl, rfl⟩
  go_wp2_with fail
  (with_reducible refine (M6.out _).mono ?_)
  rintro e w1 ⟨rfl, rfl⟩
  go_wp2_with fail
  (with_reducible refine (M5.out _).mono ?_)
  rintro e w1 ⟨rfl, rfl⟩
  go_wp2_with fail
  clear M1 M2 M3 M5 M6 hsw hsk hsb hsq hsq1
  (refine (H3.out _ (Below.refl _ _)).mono ?_)
  rintro e w2 ⟨u, its, rfl, hown, hlm, hok, hbl⟩
  have HA := Lib.hid (made.ItOk.asc hok (by omega) (by omega))
  obtain ⟨A1, c1, rfl, i1, i2, i3⟩ := mem.own_form hown
  obtain ⟨m, hm⟩ : ∃ m, its.length = m := ⟨_, rfl⟩
  rw [hm] at hlm i1 i3
  have HI := Lib.hid i3
  have HL : Hid (its.length = m) := hm
  have BB := Lib.hid hbl
  clear hown hok hbl i3 H3 HZ
  simp only [hm]
  have i2' : c1 ≤ 9223372036854775807 := i2
  clear hm
  go_upto_region 8 with fail
  go_loopg [16, 17, 54] m (fun kx s16 s17 s54 wr => ∃ (i : Nat) (now : Int) (A5 : Option Addr) (m5 c5 : Nat) (ys : List mem.BlkM), s54 = .int .i64 i ∧ s17 = .int .i64 now ∧ s16 = .slice A5 m5 c5 ∧ i ≤ m ∧ m - i ≤ kx ∧ m5 ≤ c5 ∧ c5 ≤ 9223372036854775807 ∧ Hid (mem.BRead wr wr.heap.size A5 m5 ys) ∧ Hid (rnk.RunB (ys.map blk.bkey) k b wd now (its.take i)) ∧ Hid (i < m → now ≤ (buk.at_ its i).1) ∧ now ≤ 100000 ∧ Hid (mem.PRead wr wr.heap.size A1 m its) ∧ Hid (Below w.heap.size w wr))
  case atStart => exact ⟨0, 0, none, 0, 0, [], by first | rfl | go_num, rfl, rfl, Nat.zero_le _, by omega, Nat.le_refl _, by omega, ⟨mem.Reads.none_, fun b hb => by cases hb⟩, by rw [Hid, List.take_zero]; exact rnk.RunB.nil ⟨hk1, by omega⟩ ⟨hb1, by omega⟩ wd (Int.le_refl 0), fun h => (HA.out 0 (by rw [HL.out]; exact h)).1.1, by omega, HI, BB⟩
  case round =>
    clear HI BB
    obtain ⟨i, now, A5, m5, c5, ys, rfl, rfl, rfl, hi, hkx, hc5, hm5, HY, HR, HN, hnow, HI, BB⟩ := hrel
    by_cases hlt : i < m
    case pos =>
      have hly := HY.out.len
      obtain ⟨ad, rfl, hbl, hc1, hc2⟩ := mem.PRead.at_ HI.out hlt
      change wr.cell? (ad.add (i * 2)) = some (.int .i64 (buk.at_ its i).1) at hc1
      change wr.cell? ⟨(ad.add (i * 2)).block, (ad.add (i * 2)).off + 1, none⟩ = some (.int .i64 (buk.at_ its i).2) at hc2
      have hil : i < its.length := by rw [HL.out]; exact hlt
      obtain ⟨⟨ha1, ha2⟩, ⟨hv1, hv2⟩, HX⟩ := HA.out i hil
      have HT1 := HN.out hlt
      have HN2 : Hid (i + 1 < m → (buk.at_ its i).1 ≤ (buk.at_ its (i + 1)).1) := fun h => HX (by rw [HL.out]; exact h)
      have htk : its.take (i + 1) = its.take i ++ [((buk.at_ its i).1, (buk.at_ its i).2)] := by
        have e : buk.at_ its i = its[i] := by simp [buk.at_, List.getElem?_eq_getElem hil]
        rw [List.take_succ_eq_append_getElem hil, e]
      have HTk := Lib.hid htk
      have hil2 : (its.take i).length ≤ 1000 := by rw [List.length_take]; omega
      clear HX HN htk
      generalize (buk.at_ its i).1 = T at *
      generalize (buk.at_ its i).2 = V at *
      obtain ⟨hmay, hins⟩ := HR.out.step HT1 hw1 (show T ≤ 16777216 by omega) ⟨hv1, hv2⟩ hil2
      have hents := (HR.out.adv HT1).ents hil2 (show b ≤ 65536 by omega)
      have hleny := (HR.out.ents hil2 (show b ≤ 65536 by omega)).1
      rw [List.length_map] at hleny
      have HR2 := Lib.hid hins
      rw [← HTk.out] at HR2
      have hs1 : IntKind.i64.wrap (T - wd) = T - wd := IntWalk.i64_in _ (by omega)
      have hs2 : IntKind.i64.wrap (T - wd + 1) = T - wd + 1 := IntWalk.i64_in _ (by omega)
      have C1 := Lib.hid (fun W (h : mem.BRead W W.heap.size A5 m5 ys) => blk.Expire_b A5 m5 c5 ys (T - wd + 1) W h hc5 hm5 (by omega))
      have hek := rnk.exp_key (T - wd + 1) ys
      rw [← hek] at hmay hents HR2
      have hbn : (rnk.expK (T - wd + 1) (ys.map blk.bkey)).length ≤ 1000 := by rw [← hek]; exact hents.1
      generalize hzs : blk.expireB (T - wd + 1) ys = zs at *
      have hzl : zs.length ≤ 1000 := by have := hents.1; rwa [List.length_map] at this
      have hze : rnk.entsK (zs.map blk.bkey) ≤ 4000000 := by
        have h2 : (zs.map blk.bkey).length * (b + 1).toNat ≤ 1000 * 31 := Nat.mul_le_mul hents.1 (by omega)
        have := hents.2
        omega
      have C2 := Lib.hid (fun W A m c (h : mem.BRead W W.heap.size A m zs) => blk.InsertB_any A m c zs k b T V W h (by have := h.len; omega) (fun _ => hze))
      rw [rnk.insK_t hmay] at C2
      clear hmay hins hents hek hbn hzs hze hzl HTk HR
      generalize rnk.insKC (zs.map blk.bkey) k.toNat b T V = ks at *
      have hmes : m - (i + 1) < m - i := by omega
      obtain ⟨g9, hg9⟩ : ∃ s, wr.heap.size = s := ⟨_, rfl⟩
      have BZ := Lib.hid (BB.out.alloc BB.out.size (.cells #[Value.int IntKind.i64 T, Value.int IntKind.i64 V] 37))
      have KZ := Lib.hid ((gro.Bx.nil_ (W := wr)).new (t := 37) (c := #[Value.int IntKind.i64 T, Value.int IntKind.i64 V]) hg9)
      have hba : Below wr.heap.size wr (wr.alloc (.cells #[Value.int IntKind.i64 T, Value.int IntKind.i64 V] 37)) := (Below.refl _ _).alloc (Nat.le_refl _) _
      replace HY := Lib.hid ((HY.out.below hba).more hba.size)
      replace HI := Lib.hid ((mem.Reads.below HI.out hba).more hba.size)
      clear hba
      go_upto_region 11 with fail
      obtain ⟨xg9, hW, K3, B3, z3⟩ := gro.name_world KZ.out BZ.out (s := 0) (Nat.zero_le _)
      rw [hW] at HY
      rw [hW] at HI
      rw [hW]
      clear hW BZ KZ z3 BB hg9 hc1 hc2
      have KK := Lib.hid K3
      have BB := Lib.hid B3
      have R := KK.out.rules
      simp only [gro.Rules] at R
      clear K3 B3
      (refine gro.wp_region_heldA [0, 1, 2, 3, 4, 6, 7, 8, 9, 10, 11] 3 13 _ (gro.lasts_bx _) (by kernel_rfl) (by kernel_rfl) (by intro _ _ _ _ _ h; exact h) (by kernel_rfl) (by kernel_rfl) (by kernel_rfl) (by kernel_rfl) (by kernel_rfl) (by decide) (KK.out).drew ?_; apply Exists.intro; refine ⟨fun w0 hb0 => ?_, ?_⟩; focus (have RZ := gro.Bx.rules hb0; simp only [gro.Rules] at RZ; simp only [gro.pickA, List.filterMap_cons, List.filterMap_nil, List.getElem?_toArray, List.getElem?_cons_succ, List.getElem?_cons_zero]; change wpQuiet _ _ _ _ (_ :: _ :: _ :: _ :: _ :: _ :: _ :: _ :: _ :: _ :: _ ::  []) _; (repeat (go_big_quiet_step ((fail)))); exact wpQuiet_nil rfl))
      replace BB := Lib.hid BB.out.drew
      replace KK := Lib.hid KK.out.drew
      replace HY := Lib.hid (show mem.BRead (xg9.drew) (xg9.drew).heap.size _ _ _ from ⟨mem.Reads.drew HY.out.1, fun b hb => ⟨mem.Reads.drew (HY.out.2 b hb).1, (HY.out.2 b hb).2⟩⟩)
      replace HI := Lib.hid (show mem.PRead (xg9.drew) (xg9.drew).heap.size _ _ _ from mem.Reads.drew HI.out)
      generalize xg9.drew = v1 at *
      refine gro.anyM_one 5 (by kernel_rfl) rfl ?_
      intro v2 hz K' hK'
      clear R
      replace BB := Lib.hid (BB.out.trans (hz.mono BB.out.size))
      replace KK := Lib.hid (KK.out.below hz)
      replace HY := Lib.hid ((HY.out.below hz).more hz.size)
      replace HI := Lib.hid ((mem.Reads.below HI.out hz).more hz.size)
      clear hz
      go_simp
      refine (C1.out _ HY.out).mono ?_
      rintro e v3 ⟨A6, m6, c6, rfl, p1, ⟨p2, _⟩, p3, hb⟩
      replace BB := Lib.hid (BB.out.trans (hb.mono BB.out.size))
      replace KK := Lib.hid (KK.out.below hb)
      replace HI := Lib.hid ((mem.Reads.below HI.out hb).more hb.size)
      have HY6 := Lib.hid p3
      clear hb p3 C1 HY
      refine hK' _ _ ⟨fun _ => KK.out, ?_⟩
      clear hK' K'
      refine gro.anyM_one 12 (by kernel_rfl) rfl ?_
      intro v4 hz K' hK'
      replace BB := Lib.hid (BB.out.trans (hz.mono BB.out.size))
      replace KK := Lib.hid (KK.out.below hz)
      replace HY6 := Lib.hid ((HY6.out.below hz).more hz.size)
      replace HI := Lib.hid ((mem.Reads.below HI.out hz).more hz.size)
      clear hz
      go_simp
      refine (C2.out _ _ _ _ HY6.out).mono ?_
      rintro e v5 ⟨A7, m7, c7, y7, rfl, p4, p5, p6, k1, hb, _⟩
      replace BB := Lib.hid (BB.out.trans (hb.mono BB.out.size))
      replace KK := Lib.hid (KK.out.below hb)
      replace HI := Lib.hid ((mem.Reads.below HI.out hb).more hb.size)
      have HY7 := Lib.hid p6
      clear hb p6 C2 HY6
      refine hK' _ _ ⟨fun _ => KK.out, ?_⟩
      clear hK' K'
      refine gro.anyM_one 13 (by kernel_rfl) rfl ?_
      intro v6 hz K' hK'
      replace BB := Lib.hid (BB.out.trans (hz.mono BB.out.size))
      replace KK := Lib.hid (KK.out.below hz)
      replace HY7 := Lib.hid ((HY7.out.below hz).more hz.size)
      replace HI := Lib.hid ((mem.Reads.below HI.out hz).more hz.size)
      clear hz
      go_simp
      refine hK' _ _ ⟨fun h => absurd (show true = false from h) (by decide), ?_⟩
      clear hK' K'
      refine gro.anyM_done (by kernel_rfl) ?_
      intro v7 hz
      replace BB := Lib.hid (BB.out.trans (hz.mono BB.out.size))
      replace HY7 := Lib.hid ((HY7.out.below hz).more hz.size)
      replace HI := Lib.hid ((mem.Reads.below HI.out hz).more hz.size)
      clear hz KK
      go_wp2_with fail
      go_roundg (m - (i + 1))
      case measure => exact Nat.lt_of_lt_of_le hmes hkx
      case rel => exact ⟨i + 1, T, A7, m7, c7, y7, by go_num, rfl, rfl, hlt, Nat.le_refl _, p4, p5, HY7, by rw [Hid, k1]; exact HR2.out, HN2, by omega, HI, BB⟩
    obtain rfl : i = m := by omega
    have htk : its.take i = its := List.take_of_length_le (by rw [HL.out]; exact Nat.le_refl _)
    rw [htk] at HR
    clear htk HN hi hkx
    have hL1 : its.length ≤ 1000 := by rw [HL.out]; omega
    have hleny := (HR.out.ents hL1 (show b ≤ 65536 by omega))
    rw [List.length_map] at hleny
    have hyl := HY.out.len
    have hen : rnk.entsK (ys.map blk.bkey) ≤ 4000000 := by
      have h2 : ys.length * (b + 1).toNat ≤ 1000 * 31 := Nat.mul_le_mul hleny.1 (by omega)
      have := hleny.2
      omega
    have hm16 : m5 ≤ 65000 := by omega
    have hnow0 : 0 ≤ now := HR.out.pos
    have hcm5 : c5 ≤ maxLen := hm5
    have D1 := Lib.hid (made.Live_any A1 i c1 its now wd)
    have D2 := Lib.hid (fun W (h : mem.BRead W W.heap.size A5 m5 ys) => rnk.RkB_any A5 m5 c5 ys a4 W h hm16 hc5 hcm5 (fun _ => hen))
    have D3 := Lib.hid (fun W (h : mem.BRead W W.heap.size A5 m5 ys) => rnk.QuaB_any A5 m5 c5 ys p q (by omega) (by omega) W h hm16 hc5 hcm5 (fun _ => hen))
    have D4 := Lib.hid (fun W (h : mem.BRead W W.heap.size A5 m5 ys) => rnk.SureB_any A5 m5 c5 ys W h hm16 hc5 hcm5 (fun _ => hen))
    have hlv : (rnk.liveV now wd its).length ≤ 80 := by
      rw [rnk.liveV_eq, List.length_map]
      exact Nat.le_trans (List.length_filter_le _ _) (by rw [HL.out]; exact hlm)
    have hll : (made.liveI now wd its).length = (rnk.liveV now wd its).length := by rw [rnk.liveV_eq, List.length_map]; rfl
    have hlm2 : (made.liveI now wd its).map Prod.snd = rnk.liveV now wd its := rfl
    have hsu := rnk.sureK_len (ys.map blk.bkey)
    clear hleny
    cases hys : ys with
    | nil =>
      subst hys
      have hLe := HR.out.empty
      rw [hLe] at hll hlm2
      have e1 : rnk.rkK (List.map blk.bkey []) a4 = #[Value.int IntKind.i64 0, Value.int IntKind.i64 1, Value.int IntKind.i64 0, Value.int IntKind.i64 1, Value.int IntKind.i64 0, Value.int IntKind.i64 1] := rnk.rkK_nil a4
      have e2 : rnk.quK (List.map blk.bkey []) p q = (0, 7) := rnk.quK_nil hA.out
      have e3 : (rnk.sureK (List.map blk.bkey [])).2 = 0 := rfl
      rw [e1, e3] at D2
      rw [e2] at D3
      obtain rfl : m5 = 0 := hyl.symm
      have e4 : rnk.rk [] a4 = 0 := rfl
      clear D4 e1 e2 e3 hen hsu HR
      go_wp2_with fail
      refine (D1.out _ HI.out i1 i2 (by omega) (by omega) (by omega)).mono ?_
      rintro e v1 ⟨A9, m9, c9, rfl, p1, ⟨p2, _⟩, p3, hb⟩
      replace BB := Lib.hid (BB.out.trans (hb.mono BB.out.size))
      replace HY := Lib.hid ((HY.out.below hb).more hb.size)
      replace HI := Lib.hid ((mem.Reads.below HI.out hb).more hb.size)
      clear hb
      have HV := Lib.hid p3
      clear p3
      clear D1
      have hvl := mem.PRead.len HV.out
      rw [hll] at hvl
      have E1 := Lib.hid (fun W (h : mem.PRead W W.heap.size A9 m9 (made.liveI now wd its)) => rnk.Rank8_any A9 m9 c9 (made.liveI now wd its) a4 W h (by omega))
      rw [hlm2] at E1
      go_wp2_with fail
      refine (D2.out _ HY.out).mono ?_
      rintro e v2 ⟨rfl, hb⟩
      replace BB := Lib.hid (BB.out.trans (hb.mono BB.out.size))
      replace HY := Lib.hid ((HY.out.below hb).more hb.size)
      replace HI := Lib.hid ((mem.Reads.below HI.out hb).more hb.size)
      replace HV := Lib.hid ((mem.Reads.below HV.out hb).more hb.size)
      clear hb
      clear D2
      obtain ⟨g22, hg22⟩ : ∃ s, v2.heap.size = s := ⟨_, rfl⟩
      have BZ := Lib.hid (BB.out.alloc BB.out.size (.cells #[Value.int IntKind.i64 0, Value.int IntKind.i64 1, Value.int IntKind.i64 0, Value.int IntKind.i64 1, Value.int IntKind.i64 0, Value.int IntKind.i64 1] 55))
      have KZ := Lib.hid ((gro.Bx.nil_ (W := v2)).new (t := 55) (c := #[Value.int IntKind.i64 0, Value.int IntKind.i64 1, Value.int IntKind.i64 0, Value.int IntKind.i64 1, Value.int IntKind.i64 0, Value.int IntKind.i64 1]) hg22)
      have hba : Below v2.heap.size v2 (v2.alloc (.cells #[Value.int IntKind.i64 0, Value.int IntKind.i64 1, Value.int IntKind.i64 0, Value.int IntKind.i64 1, Value.int IntKind.i64 0, Value.int IntKind.i64 1] 55)) := (Below.refl _ _).alloc (Nat.le_refl _) _
      replace HY := Lib.hid ((HY.out.below hba).more hba.size)
      replace HI := Lib.hid ((mem.Reads.below HI.out hba).more hba.size)
      replace HV := Lib.hid ((mem.Reads.below HV.out hba).more hba.size)
      clear hba
      go_upto_region 16 with fail
      obtain ⟨xg22, hW, K3, B3, z3⟩ := gro.name_world KZ.out BZ.out (s := 0) (Nat.zero_le _)
      rw [hW] at HY
      rw [hW] at HI
      rw [hW] at HV
      rw [hW]
      clear hW BZ KZ z3 BB hg22
      have KK := Lib.hid K3
      have BB := Lib.hid B3
      have R := KK.out.rules
      simp only [gro.Rules] at R
      clear K3 B3
      go_wp2_with fail
      refine (E1.out _ HV.out).mono ?_
      rintro e v3 ⟨rfl, hb⟩
      replace BB := Lib.hid (BB.out.trans (hb.mono BB.out.size))
      replace KK := Lib.hid (KK.out.below hb)
      replace HY := Lib.hid ((HY.out.below hb).more hb.size)
      replace HI := Lib.hid ((mem.Reads.below HI.out hb).more hb.size)
      replace HV := Lib.hid ((mem.Reads.below HV.out hb).more hb.size)
      clear hb
      replace R := KK.out.rules
      simp only [gro.Rules] at R
      clear E1
      obtain rfl : m9 = 0 := hvl.symm
      go_wp2_with fail
      refine (D3.out _ HY.out).mono ?_
      rintro e v4 ⟨rfl, hb⟩
      replace BB := Lib.hid (BB.out.trans (hb.mono BB.out.size))
      replace KK := Lib.hid (KK.out.below hb)
      replace HY := Lib.hid ((HY.out.below hb).more hb.size)
      replace HI := Lib.hid ((mem.Reads.below HI.out hb).more hb.size)
      replace HV := Lib.hid ((mem.Reads.below HV.out hb).more hb.size)
      clear hb
      replace R := KK.out.rules
      simp only [gro.Rules] at R
      go_wp2_with fail
      refine (H9.out _).mono ?_
      rintro e v5 ⟨rfl, hb⟩
      replace BB := Lib.hid (BB.out.trans (hb.mono BB.out.size))
      clear hb
      go_wp2
      go_ret
      exact ⟨rfl, BB.out⟩
    | cons y yr =>
      subst hys
      obtain ⟨N, es, u, f1, f2, f3, f4, f5, f6, f7, f8, f9, f10⟩ := rnk.truth_near (x := blk.bkey y) (r := yr.map blk.bkey) HR.out (by omega) hA.out
      have f7 := f7 a4
      rw [List.map_cons] at D2 D3 D4 hsu
      have e1 := rnk.rkK_cons f1 a4
      have e2 := (rnk.quK_cons f1 p q).trans f6
      rw [e1, f1] at D2
      rw [e2] at D3
      rw [f1] at D4 hsu
      have hes : es.length ≤ 4000001 := by
        have h : es.length ≤ 1 + rnk.entsK (blk.bkey y :: yr.map blk.bkey) := hsu
        have h2 : rnk.entsK (blk.bkey y :: yr.map blk.bkey) ≤ 4000000 := hen
        omega
      simp only [rnk.bnd6] at D2
      simp only [] at D2 D3 D4
      change 0 ≤ y.level ∧ y.level ≤ 30 at f4
      change rnk.lw es (rnk.cutV es a4) ≤ rnk.rk (rnk.liveV now wd its) a4 ∧ rnk.rk (rnk.liveV now wd its) a4 ≤ rnk.up es N (rnk.cutV es a4) + 2 ^ y.level.toNat - 1 at f7
      change rnk.bl (rnk.liveV now wd its) u + 1 ≤ rnk.wantT p q (rnk.liveV now wd its).length + (rnk.gapR N es / 2 + 2 ^ y.level.toNat) at f9
      change rnk.wantT p q (rnk.liveV now wd its).length - (rnk.gapR N es / 2 + 2 ^ y.level.toNat) ≤ rnk.rk (rnk.liveV now wd its) u at f10
      change Hid (∀ W, mem.BRead W W.heap.size A5 m5 (y :: yr) → Calls Try.prog 35 #[.slice A5 m5 c5, .int .i64 a4] W fun e w' => e = .returned (.tuple #[.agg #[.int .i64 (rnk.lw es (rnk.cutV es a4)), .int .i64 1, .int .i64 ((rnk.lw es (rnk.cutV es a4) + (rnk.up es N (rnk.cutV es a4) + 2 ^ y.level.toNat - 1)) / 2), .int .i64 1, .int .i64 (rnk.up es N (rnk.cutV es a4) + 2 ^ y.level.toNat - 1), .int .i64 1], .int .i64 0]) ∧ Below W.heap.size W w') at D2
      obtain ⟨ad, y', e9, hbl, hx, hz0, hz1, hz2, hz3⟩ := rnk.BRead.zero HY.out (by rw [← hyl]; simp)
      subst e9
      have HC := Lib.hid (fun W (h : mem.BRead W W.heap.size (some ad) m5 (y :: yr)) => rnk.lev_zero h (by rw [← hyl]; simp))
      have hgap := blk.gapR_bd f2
      have D5 := Lib.hid (fun W A m c (h : mem.ERead W W.heap.size A m es) => rnk.Gap_any N A m c es W h (by have := mem.ERead.len h; omega))
      have h5pos : 0 < m5 := by rw [← hyl]; simp
      clear hx hz0 hz1 hz2 hz3 e1 e2 f1 f2 f6 hen hsu hyl HR
      generalize y.level = lv at *
      obtain ⟨l, rfl⟩ := Int.eq_ofNat_of_zero_le f4.1
      rw [Int.toNat_natCast] at D2 f7 f9 f10
      have hl30 : l ≤ 30 := by omega
      obtain ⟨P, hPe⟩ : ∃ P : Int, (2 : Int) ^ l = P := ⟨_, rfl⟩
      have hP := rnk.pow30 hl30
      have hsh2 := Lib.hid (show wrap64 (2 ^ l) = P from (rnk.wrap_shl hl30).trans hPe)
      rw [hPe] at hP D2 f7 f9 f10
      clear hPe
      obtain ⟨n, hn⟩ : ∃ n, (rnk.liveV now wd its).length = n := ⟨_, rfl⟩
      have hTg := Lib.hid (fun W => rnk.Target_any p q n W hA.out (by omega) (by omega))
      have hWt := Lib.hid (show rnk.wantT p q n = if 0 < p then rnk.tgtQ p q n else 0 from rfl)
      have hTb := Lib.hid (rnk.tgtQ_bd hA.out (show 1 ≤ (n : Int) by omega))
      have g1 := rnk.rk_le (rnk.liveV now wd its) a4
      have g2 := rnk.rk_le (rnk.liveV now wd its) u
      have g3 := rnk.bl_nn (rnk.liveV now wd its) u
      rw [hn] at hlv hll f5 f9 f10 g1 g2
      clear hn
      obtain ⟨lo, hlo⟩ : ∃ lo, rnk.lw es (rnk.cutV es a4) = lo := ⟨_, rfl⟩
      obtain ⟨hi, hhi⟩ : ∃ hi, rnk.up es N (rnk.cutV es a4) + P - 1 = hi := ⟨_, rfl⟩
      rw [hlo, hhi] at D2 f7
      clear hlo hhi
      go_wp2_with fail
      refine (D1.out _ HI.out i1 i2 (by omega) (by omega) (by omega)).mono ?_
      rintro e v1 ⟨A9, m9, c9, rfl, p1, ⟨p2, _⟩, p3, hb⟩
      replace BB := Lib.hid (BB.out.trans (hb.mono BB.out.size))
      replace HY := Lib.hid ((HY.out.below hb).more hb.size)
      replace HI := Lib.hid ((mem.Reads.below HI.out hb).more hb.size)
      clear hb
      have HV := Lib.hid p3
      clear p3
      clear D1
      have hvl := mem.PRead.len HV.out
      rw [hll] at hvl
      have E1 := Lib.hid (fun W (h : mem.PRead W W.heap.size A9 m9 (made.liveI now wd its)) => rnk.Rank8_any A9 m9 c9 (made.liveI now wd its) a4 W h (by omega))
      rw [hlm2] at E1
      go_wp2_with fail
      refine (D2.out _ HY.out).mono ?_
      rintro e v2 ⟨rfl, hb⟩
      replace BB := Lib.hid (BB.out.trans (hb.mono BB.out.size))
      replace HY := Lib.hid ((HY.out.below hb).more hb.size)
      replace HI := Lib.hid ((mem.Reads.below HI.out hb).more hb.size)
      replace HV := Lib.hid ((mem.Reads.below HV.out hb).more hb.size)
      clear hb
      clear D2
      obtain ⟨g22, hg22⟩ : ∃ s, v2.heap.size = s := ⟨_, rfl⟩
      have BZ := Lib.hid (BB.out.alloc BB.out.size (.cells #[Value.int IntKind.i64 lo, Value.int IntKind.i64 1, Value.int IntKind.i64 ((lo + hi) / 2), Value.int IntKind.i64 1, Value.int IntKind.i64 hi, Value.int IntKind.i64 1] 55))
      have KZ := Lib.hid ((gro.Bx.nil_ (W := v2)).new (t := 55) (c := #[Value.int IntKind.i64 lo, Value.int IntKind.i64 1, Value.int IntKind.i64 ((lo + hi) / 2), Value.int IntKind.i64 1, Value.int IntKind.i64 hi, Value.int IntKind.i64 1]) hg22)
      have hba : Below v2.heap.size v2 (v2.alloc (.cells #[Value.int IntKind.i64 lo, Value.int IntKind.i64 1, Value.int IntKind.i64 ((lo + hi) / 2), Value.int IntKind.i64 1, Value.int IntKind.i64 hi, Value.int IntKind.i64 1] 55)) := (Below.refl _ _).alloc (Nat.le_refl _) _
      replace HY := Lib.hid ((HY.out.below hba).more hba.size)
      replace HI := Lib.hid ((mem.Reads.below HI.out hba).more hba.size)
      replace HV := Lib.hid ((mem.Reads.below HV.out hba).more hba.size)
      clear hba
      go_upto_region 16 with fail
      obtain ⟨xg22, hW, K3, B3, z3⟩ := gro.name_world KZ.out BZ.out (s := 0) (Nat.zero_le _)
      rw [hW] at HY
      rw [hW] at HI
      rw [hW] at HV
      rw [hW]
      clear hW BZ KZ z3 BB hg22
      have KK := Lib.hid K3
      have BB := Lib.hid B3
      have R := KK.out.rules
      simp only [gro.Rules] at R
      clear K3 B3
      go_wp2_with fail
      refine (E1.out _ HV.out).mono ?_
      rintro e v3 ⟨rfl, hb⟩
      replace BB := Lib.hid (BB.out.trans (hb.mono BB.out.size))
      replace KK := Lib.hid (KK.out.below hb)
      replace HY := Lib.hid ((HY.out.below hb).more hb.size)
      replace HI := Lib.hid ((mem.Reads.below HI.out hb).more hb.size)
      replace HV := Lib.hid ((mem.Reads.below HV.out hb).more hb.size)
      clear hb
      replace R := KK.out.rules
      simp only [gro.Rules] at R
      clear E1
      obtain rfl : m9 = n := hvl.symm
      have E2 := Lib.hid (fun W (h : mem.PRead W W.heap.size A9 m9 (made.liveI now wd its)) => rnk.Rank8_any A9 m9 c9 (made.liveI now wd its) u W h (by omega))
      have E3 := Lib.hid (fun W (h : mem.PRead W W.heap.size A9 m9 (made.liveI now wd its)) => rnk.Below8_any A9 m9 c9 (made.liveI now wd its) u W h (by omega))
      rw [hlm2] at E2 E3
      generalize rnk.rk (rnk.liveV now wd its) a4 = r4 at *
      generalize rnk.rk (rnk.liveV now wd its) u = ru at *
      generalize rnk.bl (rnk.liveV now wd its) u = bu at *
      generalize rnk.gapR N es = G at *
      generalize rnk.wantT p q m9 = T at *
      have h17a : ¬ r4 < lo := by omega
      have h17b : ¬ hi < r4 := by omega
      have h20 : ¬ (m9 : Int) = 0 := by omega
      clear hlm2 hll f7
      go_wp2_with fail
      refine (D3.out _ HY.out).mono ?_
      rintro e v4 ⟨rfl, hb⟩
      replace BB := Lib.hid (BB.out.trans (hb.mono BB.out.size))
      replace KK := Lib.hid (KK.out.below hb)
      replace HY := Lib.hid ((HY.out.below hb).more hb.size)
      replace HI := Lib.hid ((mem.Reads.below HI.out hb).more hb.size)
      replace HV := Lib.hid ((mem.Reads.below HV.out hb).more hb.size)
      clear hb
      replace R := KK.out.rules
      simp only [gro.Rules] at R
      clear D3 h17a h17b
      go_wp2_with fail
      refine (D4.out _ HY.out).mono ?_
      rintro e v5 ⟨A3, m3, c3, rfl, p4, p5, p6, hb⟩
      replace BB := Lib.hid (BB.out.trans (hb.mono BB.out.size))
      replace KK := Lib.hid (KK.out.below hb)
      replace HY := Lib.hid ((HY.out.below hb).more hb.size)
      replace HI := Lib.hid ((mem.Reads.below HI.out hb).more hb.size)
      replace HV := Lib.hid ((mem.Reads.below HV.out hb).more hb.size)
      clear hb
      replace R := KK.out.rules
      simp only [gro.Rules] at R
      have HS := Lib.hid p6
      clear p6
      clear D4
      obtain ⟨g27, hg27⟩ : ∃ s, v5.heap.size = s := ⟨_, rfl⟩
      have BZ := Lib.hid (BB.out.alloc BB.out.size (.cells #[Value.int IntKind.i64 N, Value.slice A3 m3 c3] 46))
      have KZ := Lib.hid (KK.out.new (t := 46) (c := #[Value.int IntKind.i64 N, Value.slice A3 m3 c3]) hg27)
      have hba : Below v5.heap.size v5 (v5.alloc (.cells #[Value.int IntKind.i64 N, Value.slice A3 m3 c3] 46)) := (Below.refl _ _).alloc (Nat.le_refl _) _
      replace HY := Lib.hid ((HY.out.below hba).more hba.size)
      replace HI := Lib.hid ((mem.Reads.below HI.out hba).more hba.size)
      replace HV := Lib.hid ((mem.Reads.below HV.out hba).more hba.size)
      replace HS := Lib.hid ((mem.Reads.below HS.out hba).more hba.size)
      clear hba
      go_upto_region 23 with fail
      obtain ⟨xg27, hW, K3, B3, z3⟩ := gro.name_world KZ.out BZ.out (s := 0) (Nat.zero_le _)
      rw [hW] at HY
      rw [hW] at HI
      rw [hW] at HV
      rw [hW] at HS
      rw [hW]
      clear hW BZ KZ z3 BB hg27 KK R
      have KK := Lib.hid K3
      have BB := Lib.hid B3
      have R := KK.out.rules
      simp only [gro.Rules] at R
      clear K3 B3
      have hcx := HC.out _ HY.out
      have h23 : ¬ (m5 : Int) = 0 := by omega
      have h23c : ¬ (30 : Int) < (l : Int) := by omega
      have h23d : ¬ (l : Int) < 0 := by omega
      have h23e : ((m5 : Int) == 0) = false := by simp; omega
      have h23f : decide ((l : Int) < 0) = false := by simp
      have h23g : decide ((30 : Int) < (l : Int)) = false := by simp; omega
      have hs2 : Int.tdiv G 2 = G / 2 := Int.tdiv_eq_ediv_of_nonneg (by omega)
      have hs3 : IntKind.i64.wrap (G / 2) = G / 2 := IntWalk.i64_in _ (by omega)
      go_upto_region 25 with fail
      (refine gro.wp_region_grown (by kernel_rfl) (by kernel_rfl) ?_; (repeat (go_big_quiet_step (((go_at_call 41; exact gro.call_grown (D5.out _ A3 m3 c3 (mem.Reads.more (mem.Reads.below HS.out (gro.below_grown _ _)) (gro.below_grown _ _).size))))))); refine wpQuiet_nil ?_; intro _ hw'; obtain ⟨nx, hw''⟩ := hw'; subst hw'')
      replace BB := Lib.hid (BB.out.trans ((gro.below_grown _ nx).mono BB.out.size))
      replace HI := Lib.hid ((mem.Reads.below HI.out (gro.below_grown _ nx)).more (gro.below_grown _ nx).size)
      replace HV := Lib.hid ((mem.Reads.below HV.out (gro.below_grown _ nx)).more (gro.below_grown _ nx).size)
      clear KK R hcx HS HY
      generalize gro.grown _ nx = v6 at *
      have hE : wrap64 (G / 2 + wrap64 (2 ^ l)) = G / 2 + P := by rw [hsh2.out]; exact (rnk.wrapE _).trans (IntWalk.i64_in _ (by omega))
      rw [hE]
      clear hE hsh2
      obtain ⟨E, hEe⟩ : ∃ E, G / 2 + P = E := ⟨_, rfl⟩
      have hE1 : 0 ≤ E := by omega
      have hE2 : E ≤ 2199023255552 := by omega
      rw [hEe] at f9 f10 ⊢
      clear hEe hs2 hs3 hgap hP D5 h23 h23c h23d h23e h23f h23g
      have hT0 : 0 ≤ T ∧ T ≤ 80 := by have h := hWt.out; have h2 := hTb.out; split at h <;> omega
      have s31 : IntKind.i64.wrap (bu + 1) = bu + 1 := IntWalk.i64_in _ (by omega)
      have s32 : IntKind.i64.wrap (T + E) = T + E := IntWalk.i64_in _ (by omega)
      have s33 : IntKind.i64.wrap (T - E) = T - E := IntWalk.i64_in _ (by omega)
      by_cases hp : 0 < p
      case pos =>
        have hTT := hWt.out
        rw [if_pos hp] at hTT
        rw [← hTT] at hTg
        clear hTT hWt hTb
        go_wp2_with fail
        refine (hTg.out _).mono ?_
        rintro e v7 ⟨rfl, hb⟩
        replace BB := Lib.hid (BB.out.trans (hb.mono BB.out.size))
        replace HV := Lib.hid ((mem.Reads.below HV.out hb).more hb.size)
        clear hb hTg
        go_wp2_with fail
        refine (E3.out _ HV.out).mono ?_
        rintro e v8 ⟨rfl, hb⟩
        replace BB := Lib.hid (BB.out.trans (hb.mono BB.out.size))
        replace HV := Lib.hid ((mem.Reads.below HV.out hb).more hb.size)
        clear hb
        go_wp2_with fail
        refine (E2.out _ HV.out).mono ?_
        rintro e v9 ⟨rfl, hb⟩
        replace BB := Lib.hid (BB.out.trans (hb.mono BB.out.size))
        clear hb HV
        go_wp2_with fail
        refine (H9.out _).mono ?_
        rintro e v10 ⟨rfl, hb⟩
        replace BB := Lib.hid (BB.out.trans (hb.mono BB.out.size))
        clear hb
        go_wp2
        go_ret
        exact ⟨rfl, BB.out⟩
      have hTT := hWt.out
      rw [if_neg hp] at hTT
      subst hTT
      clear hWt hTb hTg
      go_wp2_with fail
      refine (E3.out _ HV.out).mono ?_
      rintro e v8 ⟨rfl, hb⟩
      replace BB := Lib.hid (BB.out.trans (hb.mono BB.out.size))
      replace HV := Lib.hid ((mem.Reads.below HV.out hb).more hb.size)
      clear hb
      go_wp2_with fail
      refine (E2.out _ HV.out).mono ?_
      rintro e v9 ⟨rfl, hb⟩
      replace BB := Lib.hid (BB.out.trans (hb.mono BB.out.size))
      clear hb HV
      go_wp2_with fail
      refine (H9.out _).mono ?_
      rintro e v10 ⟨rfl, hb⟩
      replace BB := Lib.hid (BB.out.trans (hb.mono BB.out.size))
      clear hb
      go_wp2
      go_ret
      exact ⟨rfl, BB.out⟩
end Go.Proofs.Ytjapjfcennemeaa.blocksTruth
