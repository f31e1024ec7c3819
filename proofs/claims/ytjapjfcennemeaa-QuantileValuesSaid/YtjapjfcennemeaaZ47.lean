/- QRunA: proved here in one text, no conditions beyond those that each theorem states. -/
import Derived.Test.YtjapjfcennemeaaZ46
set_option linter.unusedVariables false
set_option linter.unusedSimpArgs false
namespace Go.Proofs.Ytjapjfcennemeaa.qtl
open Go.RowKit Go.Proofs.Ytjapjfcennemeaa.mem Go.Proofs.Ytjapjfcennemeaa.gro Go.Proofs.Ytjapjfcennemeaa.rnk Go.Proofs.Ytjapjfcennemeaa.buk Go.Proofs.Ytjapjfcennemeaa.blk
set_option linter.unusedVariables false
set_option linter.unusedSimpArgs false
set_option pp.maxSteps 200000
def RunQOut (v k p : Int) (m : Nat) (w : World) (e : Ending) (w' : World) : Prop :=
  ∃ (A : Option Addr) (n c : Nat) (ys : List BlkM) (B : Option Addr) (d : Nat) (added : List (Int × Int)) (now : Int), e = .returned (.tuple #[.agg #[Value.int IntKind.i64 v, Value.int IntKind.i64 k, Value.int IntKind.i64 p, Value.int IntKind.i64 now, Value.slice A n c], .slice B added.length d, .bool true]) ∧ n ≤ c ∧ c ≤ 9223372036854775807 ∧ BRead w' w'.heap.size A n ys ∧
    added.length ≤ d ∧ d ≤ maxLen ∧ PRead w' w'.heap.size B added.length added ∧ RunQ (ys.map bkey) k p v now added ∧ added.length ≤ m ∧ now ≤ 100000 ∧ Below w.heap.size w w'
set_option maxHeartbeats 8000000 in
set_option maxRecDepth 100000 in
theorem runQ_any (A1 : Option Addr) (m c1 : Nat) (its : List (Int × Int)) (k p v : Int) (w : World) (h1 : PRead w w.heap.size A1 m its) (hmc : m ≤ c1) (hcm1 : c1 ≤ maxLen) (hA : made.Asc its (-4096) 4096) (hm : m ≤ 400) (hk : 1 ≤ k ∧ k ≤ 64) (hp : 1 ≤ p ∧ p ≤ 65536) (hv : 1 ≤ v ∧ v ≤ 1048576) :
    Calls Try.prog 60 #[.int .i64 v, .int .i64 k, .int .i64 p, .slice A1 m c1] w (RunQOut v k p m w) := by
  have HI0 := Lib.hid h1
  have HL : Hid (its.length = m) := PRead.len h1
  have HA := Lib.hid hA
  have HNw := Lib.hid (fun W => newq_run (W := W) hk hp hv)
  have HMo := Lib.hid (fun W => MostQR_any k p (by omega) W)
  have HR0 := Lib.hid (RunQ.nil hk hp hv)
  have hcm9 : c1 ≤ 9223372036854775807 := hcm1
  clear h1 hA hk hp hv hcm1
  obtain ⟨i0, hi0, hz0, hz1, hz2⟩ := info_parts made.item_info
  have HIn := Lib.hid hi0
  have HZ0 := Lib.hid hz0
  have HZ1 := Lib.hid hz1
  have HZ2 := Lib.hid hz2
  clear hi0 hz0 hz1 hz2
  go_enter Try.func60, Try.ntmps60
  go_wp2_with fail
  obtain ⟨W0, hW, hs0, K0, B0⟩ := start1 w 70 #[Value.int IntKind.i64 0, Value.int IntKind.i64 0, Value.int IntKind.i64 0, Value.int IntKind.i64 0, Value.slice none 0 0]
  rw [hW]
  clear hW
  obtain ⟨gr, hgr⟩ : ∃ s, w.heap.size = s := ⟨_, rfl⟩
  have wg_gr : w.heap.size ≤ gr := by omega
  rw [hgr] at K0
  have KK := Lib.hid K0
  have BB := Lib.hid B0
  clear K0 B0
  have sz : gr + 1 ≤ W0.heap.size := by omega
  clear hs0
  rw [hgr]
  refine (HNw.out _).mono ?_
  rintro e w1 ⟨rfl, hb⟩
  replace BB := Lib.hid (BB.out.trans (hb.mono BB.out.size))
  replace KK := Lib.hid (KK.out.below hb)
  replace sz := Nat.le_trans sz hb.size
  clear hb HNw
  obtain ⟨gx, hgx⟩ : ∃ s, w1.heap.size = s := ⟨_, rfl⟩
  have o_gr_gx : gr < gx := by omega
  have wg_gx : w.heap.size ≤ gx := by omega
  have R := KK.out.rules
  simp only [gro.Rules] at R
  go_upto_region 3 with fail
  obtain ⟨w2, hW, K2, B2, z2, _⟩ := newboxQ 70 #[Value.int IntKind.i64 v, Value.int IntKind.i64 k, Value.int IntKind.i64 p, Value.int IntKind.i64 0, Value.slice none 0 0] KK.out hgx BB.out BB.out.size
  rw [hW]
  clear hW R
  replace KK := Lib.hid K2
  replace BB := Lib.hid B2
  replace sz : gx + 1 ≤ w2.heap.size := by omega
  clear K2 B2 z2
  go_wp2_with fail
  go_loopg [12, 13, 30] m (fun kx s12 s13 s30 wr => ∃ (i : Nat) (A : Option Addr) (n c : Nat) (ys : List BlkM) (added : List (Int × Int)) (now : Int), s30 = .int .i64 i ∧ s12 = .int .i64 0 ∧ i ≤ m ∧ m - i ≤ kx ∧ n ≤ c ∧ c ≤ 9223372036854775807 ∧ now ≤ 100000 ∧ Hid (i < m → now ≤ (buk.at_ its i).1) ∧ added.length ≤ i ∧ Hid (RunQ (ys.map bkey) k p v now added) ∧ Hid (BRead wr wr.heap.size A n ys) ∧ Hid (Clr gx s13.ownBlock n A ys) ∧ Hid (wr.ownsRow (gx + 1) 37 2 s13 added.length (pc added)) ∧ Hid (Bx wr [(gx, 70, #[Value.int IntKind.i64 v, Value.int IntKind.i64 k, Value.int IntKind.i64 p, Value.int IntKind.i64 now, Value.slice A n c]), (gr, 70, #[Value.int IntKind.i64 0, Value.int IntKind.i64 0, Value.int IntKind.i64 0, Value.int IntKind.i64 0, Value.slice none 0 0])]) ∧ Hid (Below w.heap.size w wr) ∧ gx + 1 ≤ wr.heap.size)
  case atStart => exact ⟨0, none, 0, 0, [], [], 0, rfl, rfl, by omega, by omega, by omega, by omega, by omega, fun h => (HA.out 0 (by rw [HL.out]; exact h)).1.1, by simp, HR0.out, BRead.nil_, Clr.nil_, own_nil _ _ _ _, KK.out.perm (by simp), BB.out, sz⟩
  case round =>
    clear KK BB sz HR0
    obtain ⟨i, A, n, c, ys, added, now, rfl, rfl, hi, hkx, hnc, hcm, hn1, HT, hal, HR, HX, HC, HU, KK, BB, sz⟩ := hrel
    have HI := Lib.hid (HI0.out.below BB.out)
    by_cases hlt : i < m
    case neg =>
      obtain rfl : i = m := by omega
      clear HT hkx
      obtain ⟨B, d, hu, j1, j2, j3⟩ := own_form HU.out
      subst hu
      clear j3
      have R := KK.out.rules
      simp only [gro.Rules] at R
      have KP := KK.out.perm (L' := [(gr, 70, #[Value.int IntKind.i64 0, Value.int IntKind.i64 0, Value.int IntKind.i64 0, Value.int IntKind.i64 0, Value.slice none 0 0]), (gx, 70, #[Value.int IntKind.i64 v, Value.int IntKind.i64 k, Value.int IntKind.i64 p, Value.int IntKind.i64 now, Value.slice A n c])]) (by simp)
      obtain ⟨y1, hy1, K5, B5, z5, P5, O5⟩ := putQ (Value.int IntKind.i64 v) (Value.int IntKind.i64 k) (Value.int IntKind.i64 p) (Value.int IntKind.i64 now) (Value.slice A n c) KP (by simp <;> omega) BB.out wg_gr
      have HX5 := Lib.hid (P5 _ _ _ _ _ (Nat.le_of_lt o_gr_gx) HX.out HC.out)
      have HU5 := O5 _ _ _ _ _ _ HU.out (show gr < gx + 1 by omega)
      have HB := Lib.hid (show PRead y1 y1.heap.size B added.length added from Reads.of_own (c := d) HU5)
      clear P5 O5 HU5 KP HI
      have R2 := K5.rules
      simp only [gro.Rules] at R2
      go_wp2
      refine bodyPost_ret (v := Value.tuple #[.agg #[Value.int IntKind.i64 v, Value.int IntKind.i64 k, Value.int IntKind.i64 p, Value.int IntKind.i64 now, Value.slice A n c], .slice B added.length d, .bool true]) (by simp [results, Try.results60, go_sem, R2]) rfl ⟨A, n, c, ys, B, d, added, now, rfl, hnc, hcm, HX5.out, j1, j2, HB.out, HR.out, hal, hn1, B5⟩
    have hmes : m - (i + 1) < m - i := by omega
    have hlen := run_len HR.out (by omega) HX.out
    obtain ⟨ad, rfl, hbl, hc1, hc2⟩ := PRead.at_ HI.out hlt
    have hblt : ad.block < wr.heap.size := by have := BB.out.size; omega
    change wr.cell? (ad.add (i * 2)) = some (.int .i64 (buk.at_ its i).1) at hc1
    change wr.cell? ⟨(ad.add (i * 2)).block, (ad.add (i * 2)).off + 1, none⟩ = some (.int .i64 (buk.at_ its i).2) at hc2
    obtain ⟨⟨ha1, ha2⟩, ⟨hv1, hv2⟩, HN⟩ := HA.out i (by rw [HL.out]; exact hlt)
    have HT1 := HT.out hlt
    have HN2 : Hid (i + 1 < m → (buk.at_ its i).1 ≤ (buk.at_ its (i + 1)).1) := fun h => HN (by rw [HL.out]; exact h)
    clear HN HT HI
    generalize (buk.at_ its i).1 = T at *
    generalize (buk.at_ its i).2 = V at *
    have C1 := Lib.hid (fun W (h : BRead W W.heap.size A n ys) (hg : gx < W.heap.size) (hr : ∀ b, u13.ownBlock = some b → b < W.heap.size) => adv_run T HR.out (by omega) h hnc hcm HC.out hg hr ⟨HT1, by omega⟩)
    obtain ⟨gi, hgi⟩ : ∃ s, wr.heap.size = s := ⟨_, rfl⟩
    have wg_gi : w.heap.size ≤ gi := by have := BB.out.size; omega
    have o_gx_gi : gx < gi := by omega
    have R := KK.out.rules
    simp only [gro.Rules] at R
    go_upto_region 6 with fail
    obtain ⟨w3, hW, K2, B2, z2, hb⟩ := newboxQ 37 #[Value.int IntKind.i64 T, Value.int IntKind.i64 V] KK.out hgi BB.out BB.out.size
    rw [hW]
    clear hW R hc1 hc2
    replace KK := Lib.hid K2
    replace BB := Lib.hid B2
    replace HX := Lib.hid ((HX.out.below hb).more hb.size)
    have k_HU_gi : ∀ b, u13.ownBlock = some b → b < gi := fun b h => by have := (World.ownsRow.lt HU.out b h).2; omega
    replace HU := Lib.hid (own_keep HU.out hb)
    replace sz : gi + 1 ≤ w3.heap.size := by omega
    clear K2 B2 z2 hb
    have R := KK.out.rules
    simp only [gro.Rules] at R
    go_wp2_with fail
    refine (C1.out _ HX.out (by omega) (fun b h => by have := k_HU_gi b h; omega)).mono ?_
    rintro e w4 ⟨A3, n3, c3, zs, rfl, q1, q2, q3, q4, q5, hb⟩
    clear R HX HC HR C1
    replace BB := Lib.hid (BB.out.trans (hb.mono BB.out.size))
    replace KK := Lib.hid (KK.out.below hb)
    replace HU := Lib.hid (own_keep HU.out hb)
    replace sz := Nat.le_trans sz hb.size
    have HX := Lib.hid q3
    have HR := Lib.hid q4
    have HC := Lib.hid q5
    clear hb q3 q4 q5
    have R := KK.out.rules
    simp only [gro.Rules] at R
    have KP := KK.out.perm (L' := [(gx, 70, #[Value.int IntKind.i64 v, Value.int IntKind.i64 k, Value.int IntKind.i64 p, Value.int IntKind.i64 now, Value.slice A n c]), (gi, 37, #[Value.int IntKind.i64 T, Value.int IntKind.i64 V]), (gr, 70, #[Value.int IntKind.i64 0, Value.int IntKind.i64 0, Value.int IntKind.i64 0, Value.int IntKind.i64 0, Value.slice none 0 0])]) (by simp)
    obtain ⟨w5, hw5, K5, B5, z5, P5, O5⟩ := putQ (Value.int IntKind.i64 v) (Value.int IntKind.i64 k) (Value.int IntKind.i64 p) (Value.int IntKind.i64 T) (Value.slice A3 n3 c3) KP (by simp <;> omega) BB.out wg_gx
    replace HX := Lib.hid (P5 _ _ _ _ _ (Nat.le_refl gx) HX.out HC.out)
    replace HU := Lib.hid (O5 _ _ _ _ _ _ HU.out (show gx < gx + 1 by omega))
    replace KK := Lib.hid K5
    replace BB := Lib.hid B5
    rw [← z5] at sz
    clear P5 O5 K5 B5 z5 KP
    have R5 := KK.out.rules
    simp only [gro.Rules] at R5
    by_cases hfull : (totalK (zs.map bkey) : Int) = p
    case pos =>
      have C2 := Lib.hid (fun W (h : BRead W W.heap.size A3 n3 zs) => addq_full (c := c3) V HR.out (by omega) h ⟨hv1, hv2⟩ hfull)
      go_wp2_with fail
      refine (C2.out _ HX.out).mono ?_
      rintro e w6 ⟨A4, n4, c4, rfl, hb⟩
      replace BB := Lib.hid (BB.out.trans (hb.mono BB.out.size))
      replace KK := Lib.hid (KK.out.below hb)
      replace HX := Lib.hid ((HX.out.below hb).more hb.size)
      replace HU := Lib.hid (own_keep HU.out hb)
      replace sz := Nat.le_trans sz hb.size
      clear hb R R5 C2
      obtain ⟨gy, hgy⟩ : ∃ s, w6.heap.size = s := ⟨_, rfl⟩
      have wg_gy : w.heap.size ≤ gy := by have := BB.out.size; omega
      have o_gx_gy : gx < gy := by omega
      have o_gi_gy : gi < gy := by omega
      have R := KK.out.rules
      simp only [gro.Rules] at R
      go_upto_region 11 with fail
      obtain ⟨w7, hW, K2, B2, z2, hb⟩ := newboxQ 70 #[Value.int IntKind.i64 0, Value.int IntKind.i64 0, Value.int IntKind.i64 0, Value.int IntKind.i64 0, Value.slice A4 n4 c4] KK.out hgy BB.out BB.out.size
      rw [hW]
      clear hW R
      replace KK := Lib.hid K2
      replace BB := Lib.hid B2
      replace HX := Lib.hid ((HX.out.below hb).more hb.size)
      have k_HU_gy : ∀ b, u13.ownBlock = some b → b < gy := fun b h => by have := (World.ownsRow.lt HU.out b h).2; omega
      replace HU := Lib.hid (own_keep HU.out hb)
      replace sz : gy + 1 ≤ w7.heap.size := by omega
      clear K2 B2 z2 hb
      have R := KK.out.rules
      simp only [gro.Rules] at R
      have q1x := q1
      have q2x := q2
      go_wp2_with fail
      clear R
      have HMs := Lib.hid (most_run HR.out HX.out)
      have hln := (run_len HR.out (by omega) HX.out).1
      go_loopg [18, 70] n3 (fun kx s18 s70 wr => ∃ (j : Nat) (z : Int), s70 = .int .i64 j ∧ s18 = .int .i64 z ∧ j ≤ n3 ∧ n3 - j ≤ kx ∧ Hid (z = (sumN zs j : Nat)) ∧ Hid (BRead wr wr.heap.size A3 n3 zs) ∧ Hid (wr.ownsRow (gx + 1) 37 2 u13 added.length (pc (added))) ∧ Hid (Bx wr [(gx, 70, #[Value.int IntKind.i64 v, Value.int IntKind.i64 k, Value.int IntKind.i64 p, Value.int IntKind.i64 T, Value.slice A3 n3 c3]), (gr, 70, #[Value.int IntKind.i64 0, Value.int IntKind.i64 0, Value.int IntKind.i64 0, Value.int IntKind.i64 0, Value.slice none 0 0])]) ∧ Hid (Below w.heap.size w wr) ∧ gx + 1 ≤ wr.heap.size)
      case atStart => exact ⟨0, 0, rfl, rfl, by omega, by omega, by rw [sumN_zero]; rfl, HX.out, HU.out, KK.out.perm (by simp), BB.out, by omega⟩
      case round =>
        clear HX HU KK BB sz
        obtain ⟨j, z, rfl, rfl, hj, hjx, HZ, HX, HU, KK, BB, sz⟩ := hrel
        have hsb : Hid (sumN zs n3 ≤ 4000000) := most_le HR.out (by omega) HX.out
        by_cases hl2 : j < n3
        case neg =>
          obtain rfl : j = n3 := by omega
          have hz : ¬ mostQ k p < z := by have h1 := HMs.out; have h2 := HZ.out; omega
          have R := KK.out.rules
          simp only [gro.Rules] at R
          go_wp2_with fail
          refine (HMo.out _).mono ?_
          rintro e wq ⟨rfl, rfl⟩
          go_wp2
          go_roundg (m - (i + 1))
          case measure => exact Nat.lt_of_lt_of_le hmes hkx
          case rel => exact ⟨i + 1, A3, j, c3, zs, added, T, by go_num, rfl, hlt, Nat.le_refl _, q1x, q2x, by omega, HN2.out, by (try rw [List.length_append]); (try simp); omega, HR.out, HX.out, HC.out, (by first | exact HU.out | (rw [Hid, List.length_append]; exact HU.out)), KK.out.perm (by simp), BB.out, sz⟩
        obtain ⟨ad2, b, rfl, hbl2, hb, hd1, hd2, hd3, hd4, hd5, _⟩ := BRead.at_ HX.out hl2
        have HN := Lib.hid (sumN_succ hb)
        have hmo : sumN zs (j + 1) ≤ 4000000 := Nat.le_trans (sumN_mono' (show j + 1 ≤ n3 by omega) HX.out.len) hsb.out
        have hz1 : z + (b.en : Int) = (sumN zs (j + 1) : Nat) := by have h1 := HN.out; have h2 := HZ.out; omega
        have hz0 : 0 ≤ z := by have h2 := HZ.out; omega
        clear hb
        generalize b.t = bt at *
        generalize b.last = bl at *
        generalize b.level = bv at *
        generalize b.num = bn at *
        generalize b.adr = ba at *
        generalize b.en = be at *
        generalize b.ec = bq at *
        obtain ⟨zz, hzz⟩ : ∃ zz, z + (be : Int) = zz := ⟨_, rfl⟩
        have HZ2 : Hid (zz = (sumN zs (j + 1) : Nat)) := by rw [Hid, ← hzz]; exact hz1
        have s1 : IntKind.i64.wrap (z + (be : Int)) = zz := by rw [hzz]; exact IntWalk.i64_in _ (by omega)
        have s2 : IntKind.i64.wrap ((j : Int) + 1) = (j : Int) + 1 := IntWalk.i64_in _ (by omega)
        have hjm : n3 - (j + 1) < n3 - j := by omega
        have hbz : ad2.block < wr.heap.size := hbl2
        have hal2 := Lib.hid (fun o => (Below.refl wr.heap.size wr).alloc (Nat.le_refl _) o)
        clear HN HZ hz1 hzz hmo hsb
        go_wp2
        go_roundg (n3 - (j + 1))
        case measure => exact Nat.lt_of_lt_of_le hjm hjx
        case rel => exact ⟨j + 1, zz, by go_num, rfl, hl2, Nat.le_refl _, HZ2, (HX.out.below (hal2.out _)).more (hal2.out _).size, own_keep HU.out (hal2.out _), KK.out.below (hal2.out _), BB.out.alloc BB.out.size _, Nat.le_trans sz (hal2.out _).size⟩
    have C2 := Lib.hid (fun W (h : BRead W W.heap.size A3 n3 zs) hg hr => addq_ok (c := c3) V HR.out (by omega) h ⟨hv1, hv2⟩ hfull HC.out hg hr)
    go_wp2_with fail
    refine (C2.out _ HX.out (by omega) (fun b h => by have := k_HU_gi b h; omega)).mono ?_
    rintro e w6 ⟨A4, n4, c4, zt, rfl, q3, q4, q5, q6, q7, hb⟩
    clear R R5 HX HC HR C2
    replace BB := Lib.hid (BB.out.trans (hb.mono BB.out.size))
    replace KK := Lib.hid (KK.out.below hb)
    replace HU := Lib.hid (own_keep HU.out hb)
    replace sz := Nat.le_trans sz hb.size
    have HX := Lib.hid q5
    have HR := Lib.hid q6
    have HC := Lib.hid q7
    clear hb q5 q6 q7
    obtain ⟨gy, hgy⟩ : ∃ s, w6.heap.size = s := ⟨_, rfl⟩
    have wg_gy : w.heap.size ≤ gy := by have := BB.out.size; omega
    have o_gx_gy : gx < gy := by omega
    have o_gi_gy : gi < gy := by omega
    have R := KK.out.rules
    simp only [gro.Rules] at R
    go_upto_region 11 with fail
    obtain ⟨w7, hW, K2, B2, z2, hb⟩ := newboxQ 70 #[Value.int IntKind.i64 v, Value.int IntKind.i64 k, Value.int IntKind.i64 p, Value.int IntKind.i64 T, Value.slice A4 n4 c4] KK.out hgy BB.out BB.out.size
    rw [hW]
    clear hW R
    replace KK := Lib.hid K2
    replace BB := Lib.hid B2
    replace HX := Lib.hid ((HX.out.below hb).more hb.size)
    have k_HU_gy : ∀ b, u13.ownBlock = some b → b < gy := fun b h => by have := (World.ownsRow.lt HU.out b h).2; omega
    replace HU := Lib.hid (own_keep HU.out hb)
    replace sz : gy + 1 ≤ w7.heap.size := by omega
    clear K2 B2 z2 hb
    have R := KK.out.rules
    simp only [gro.Rules] at R
    have q1x := q3
    have q2x := q4
    obtain ⟨B2, d2, hu, j1, j2, j3⟩ := own_form HU.out
    subst hu
    clear j3
    have j2' : d2 ≤ 9223372036854775807 := j2
    have hpc : Hid (pc (added ++ [(T, V)]) = pc added ++ [.int .i64 T, .int .i64 V]) := made.pc_snoc added T V
    go_wp2_with fail
    have KL := KK.out.perm (L' := [(gy, 70, #[Value.int IntKind.i64 v, Value.int IntKind.i64 k, Value.int IntKind.i64 p, Value.int IntKind.i64 T, Value.slice A4 n4 c4]), (gi, 37, #[Value.int IntKind.i64 T, Value.int IntKind.i64 V])]) (by simp)
    (refine gro.wp_region_steady_s 3 4 _ (gro.lasts_bx _) (by kernel_rfl) (by kernel_rfl) (by intro _ _ _ _ _ h; exact h) (by kernel_rfl) (by kernel_rfl) (by kernel_rfl) (KL).drew ?_; apply Exists.intro; refine ⟨fun w0 hb0 => ?_, ?_⟩; focus (have RZ := gro.Bx.rules hb0; simp only [gro.Rules] at RZ; simp only [List.take_succ_cons, List.take_zero]; (repeat (go_big_quiet_step ((fail)))); exact wpQuiet_nil rfl))
    refine gro.anyG_one 3 (by kernel_rfl) rfl ?_
    intro y1 hz1 K' hK'
    have KL1 := KL.drew.below hz1
    have HU1 := own_keep (World.ownsRow.drew HU.out) hz1
    go_simp
    refine hK' _ _ ⟨KL1.alloc _, ?_⟩
    clear hK' K'
    obtain ⟨y2, hy2⟩ : ∃ y, y1.alloc (.cells #[Value.int IntKind.i64 T, Value.int IntKind.i64 V] 37) = y := ⟨_, rfl⟩
    have hzA : Below y1.heap.size y1 y2 := by rw [← hy2]; exact (Below.refl _ _).alloc (Nat.le_refl _) _
    have hBy : y1.heap.size + 1 ≤ y2.heap.size := by rw [← hy2]; simp
    have hRA : Reads y2 (y1.heap.size + 1) 2 (some ⟨y1.heap.size, 0, none⟩) 1 [Value.int IntKind.i64 T, Value.int IntKind.i64 V] := by rw [← hy2]; exact reads_new y1 37 #[Value.int IntKind.i64 T, Value.int IntKind.i64 V] rfl
    have HU2 : y2.ownsRow (gx + 1) 37 2 (Value.slice B2 added.length d2) added.length (pc added) := by rw [← hy2]; exact own_alloc HU1 _
    rw [hy2]
    refine gro.anyG_one 4 (by kernel_rfl) rfl ?_
    intro y3 hz3 K' hK'
    have hR3 := Reads.below hRA (hz3.mono hBy)
    have HU3 := own_keep HU2 hz3
    have BB3 := ((BB.out.drew.trans (hz1.mono BB.out.drew.size)).trans (hzA.mono (BB.out.drew.trans (hz1.mono BB.out.drew.size)).size)).trans (hz3.mono ((BB.out.drew.trans (hz1.mono BB.out.drew.size)).trans (hzA.mono (BB.out.drew.trans (hz1.mono BB.out.drew.size)).size)).size)
    have KK3 := ((KK.out.drew.below hz1).below hzA).below hz3
    have HX0 : BRead w7.drew w7.drew.heap.size A4 n4 zt := ⟨mem.Reads.drew HX.out.1, fun b hb => ⟨mem.Reads.drew (HX.out.2 b hb).1, (HX.out.2 b hb).2⟩⟩
    have HX43 := ((((HX0.below hz1).more hz1.size).below hzA).more hzA.size).below hz3 |>.more hz3.size
    have sz3 : gx + 1 ≤ y3.heap.size := Nat.le_trans (show gx + 1 ≤ w7.drew.heap.size from Nat.le_trans (show gx + 1 ≤ gy + 1 by omega) sz) (Nat.le_trans hz1.size (Nat.le_trans hzA.size hz3.size))
    have hl2 : added.length ≤ 1000 := by omega
    refine step_append_any _ (by rfl) (.tmp 63) (.tmp 65) 32 rfl (gx + 1) 37 i0 (.agg #[.int .i64 0, .int .i64 0]) 2 16 Try.underlying32 HIn.out HZ0.out HZ1.out HZ2.out rfl (by omega) (.slice B2 added.length d2) added.length (pc added) (by rfl) HU3 (y1.heap.size + 1) _ 1 1 _ (by rfl) hR3 (by simp [Value.oneCell']) (by unfold maxLen; omega) (by omega) sz3 ?_
    intro v4 y4 hown4 hg4 hat4
    have hdis : ∀ q ∈ ([(gy, 70, #[Value.int IntKind.i64 v, Value.int IntKind.i64 k, Value.int IntKind.i64 p, Value.int IntKind.i64 T, Value.slice A4 n4 c4]), (gi, 37, #[Value.int IntKind.i64 T, Value.int IntKind.i64 V]), (gx, 70, #[Value.int IntKind.i64 v, Value.int IntKind.i64 k, Value.int IntKind.i64 p, Value.int IntKind.i64 T, Value.slice A3 n3 c3]), (gr, 70, #[Value.int IntKind.i64 0, Value.int IntKind.i64 0, Value.int IntKind.i64 0, Value.int IntKind.i64 0, Value.slice none 0 0])] : List (Nat × TypeId × Array Value)), some q.1 ≠ (Value.slice B2 added.length d2).ownBlock := fun q hp e => by
      have hk := own_block_ge HU3 _ e.symm
      have h1 := k_HU_gi _ e.symm
      have h2 := k_HU_gy _ e.symm
      simp only [List.mem_cons, List.not_mem_nil, or_false] at hp
      rcases hp with rfl | rfl | rfl | rfl
      · exact Nat.lt_irrefl _ h2
      · exact Nat.lt_irrefl _ h1
      · have h5 : gx + 1 ≤ gx := hk
        omega
      · have h5 : gx + 1 ≤ gr := hk
        omega
    have KK4 := rnk.Bx.app3 KK3 hg4 (fun q hp => hdis q (by simp only [List.mem_cons, List.not_mem_nil, or_false] at hp ⊢; rcases hp with h | h | h | h <;> simp [h]))
    have BB4 := BB3.grown hg4 BB3.size (fun k hk => by have := own_block_ge HU3 _ hk; omega)
    have HX44 := BRead.appG HX43 hg4 HC.out
    have d4 := clr_app HX43 HC.out hat4
    have sz4 := Nat.le_trans sz3 hg4.size
    refine hK' _ _ ⟨KK4.perm (by simp), ?_⟩
    clear hK' K' HU1 HU2 HU3 hR3 hRA KL1 KL BB3 KK3 HX0 HX43 hg4 hat4 hz1 hzA hz3 hBy hdis sz3
    refine gro.anyG_one 5 (by kernel_rfl) rfl ?_
    intro y5 hz5 K' hK'
    have KK5 := KK4.below hz5
    have BB5 := BB4.trans (hz5.mono BB4.size)
    have HX45 := (HX44.below hz5).more hz5.size
    have HU5 := own_keep hown4 hz5
    have RY := KK5.rules
    simp only [gro.Rules] at RY
    go_simp
    refine hK' _ _ ?_
    clear hK' K' RY
    obtain ⟨y6, hy6, K6, B6, z6, P6, O6⟩ := putQ (Value.int IntKind.i64 v) (Value.int IntKind.i64 k) (Value.int IntKind.i64 p) (Value.int IntKind.i64 T) (Value.slice A4 n4 c4) (KK5.perm (L' := [(gx, 70, #[Value.int IntKind.i64 v, Value.int IntKind.i64 k, Value.int IntKind.i64 p, Value.int IntKind.i64 T, Value.slice A3 n3 c3]), (gy, 70, #[Value.int IntKind.i64 v, Value.int IntKind.i64 k, Value.int IntKind.i64 p, Value.int IntKind.i64 T, Value.slice A4 n4 c4]), (gi, 37, #[Value.int IntKind.i64 T, Value.int IntKind.i64 V]), (gr, 70, #[Value.int IntKind.i64 0, Value.int IntKind.i64 0, Value.int IntKind.i64 0, Value.int IntKind.i64 0, Value.slice none 0 0])]) (by simp)) (by simp <;> omega) BB5 wg_gx
    have HU6 := O6 _ _ _ _ _ _ HU5 (show gx < gx + 1 by omega)
    have HX46 := P6 _ _ _ _ _ (Nat.le_refl gx) HX45 d4
    rw [hy6]
    refine ⟨K6.perm (by simp), ?_⟩
    clear KK4 BB4 HX44 hown4 KK5 BB5 HX45 HU5 P6 O6
    refine gro.anyG_one 6 (by kernel_rfl) rfl ?_
    intro y7 hz7 K' hK'
    go_simp
    refine hK' _ _ ⟨(K6.perm (by simp)).below hz7, ?_⟩
    clear hK' K'
    refine gro.anyG_done (by kernel_rfl) ?_
    intro y8 hz8
    have hz := hz7.trans (hz8.mono hz7.size)
    clear HU HC HX KK BB sz R
    have KK := Lib.hid (K6.below hz)
    have BB := Lib.hid (B6.trans (hz.mono B6.size))
    have HX := Lib.hid ((HX46.below hz).more hz.size)
    have HC := Lib.hid d4
    have HU : Hid (y8.ownsRow (gx + 1) 37 2 v4 (added.length + 1) (pc (added ++ [(T, V)]))) := by rw [Hid, hpc.out]; exact own_keep HU6 hz
    have sz : gx + 1 ≤ y8.heap.size := Nat.le_trans (Nat.le_trans sz4 hz5.size) (by rw [← z6]; exact hz.size)
    clear K6 B6 HX46 HU6 hz hz7 hz8 sz4 hz5 z6 d4 hy6 hy2
    have R := KK.out.rules
    simp only [gro.Rules] at R
    go_wp2_with fail
    clear R
    have HMs := Lib.hid (most_run HR.out HX.out)
    have hln := (run_len HR.out (by rw [List.length_append]; simp; omega) HX.out).1
    go_loopg [18, 70] n4 (fun kx s18 s70 wr => ∃ (j : Nat) (z : Int), s70 = .int .i64 j ∧ s18 = .int .i64 z ∧ j ≤ n4 ∧ n4 - j ≤ kx ∧ Hid (z = (sumN zt j : Nat)) ∧ Hid (BRead wr wr.heap.size A4 n4 zt) ∧ Hid (wr.ownsRow (gx + 1) 37 2 v4 (added.length + 1) (pc (added ++ [(T, V)]))) ∧ Hid (Bx wr [(gx, 70, #[Value.int IntKind.i64 v, Value.int IntKind.i64 k, Value.int IntKind.i64 p, Value.int IntKind.i64 T, Value.slice A4 n4 c4]), (gr, 70, #[Value.int IntKind.i64 0, Value.int IntKind.i64 0, Value.int IntKind.i64 0, Value.int IntKind.i64 0, Value.slice none 0 0])]) ∧ Hid (Below w.heap.size w wr) ∧ gx + 1 ≤ wr.heap.size)
    case atStart => exact ⟨0, 0, rfl, rfl, by omega, by omega, by rw [sumN_zero]; rfl, HX.out, HU.out, KK.out.perm (by simp), BB.out, by omega⟩
    case round =>
      clear HX HU KK BB sz
      obtain ⟨j, z, rfl, rfl, hj, hjx, HZ, HX, HU, KK, BB, sz⟩ := hrel
      have hsb : Hid (sumN zt n4 ≤ 4000000) := most_le HR.out (by rw [List.length_append]; simp; omega) HX.out
      by_cases hl2 : j < n4
      case neg =>
        obtain rfl : j = n4 := by omega
        have hz : ¬ mostQ k p < z := by have h1 := HMs.out; have h2 := HZ.out; omega
        have R := KK.out.rules
        simp only [gro.Rules] at R
        go_wp2_with fail
        refine (HMo.out _).mono ?_
        rintro e wq ⟨rfl, rfl⟩
        go_wp2
        go_roundg (m - (i + 1))
        case measure => exact Nat.lt_of_lt_of_le hmes hkx
        case rel => exact ⟨i + 1, A4, j, c4, zt, added ++ [(T, V)], T, by go_num, rfl, hlt, Nat.le_refl _, q1x, q2x, by omega, HN2.out, by (try rw [List.length_append]); (try simp); omega, HR.out, HX.out, HC.out, (by first | exact HU.out | (rw [Hid, List.length_append]; exact HU.out)), KK.out.perm (by simp), BB.out, sz⟩
      obtain ⟨ad2, b, rfl, hbl2, hb, hd1, hd2, hd3, hd4, hd5, _⟩ := BRead.at_ HX.out hl2
      have HN := Lib.hid (sumN_succ hb)
      have hmo : sumN zt (j + 1) ≤ 4000000 := Nat.le_trans (sumN_mono' (show j + 1 ≤ n4 by omega) HX.out.len) hsb.out
      have hz1 : z + (b.en : Int) = (sumN zt (j + 1) : Nat) := by have h1 := HN.out; have h2 := HZ.out; omega
      have hz0 : 0 ≤ z := by have h2 := HZ.out; omega
      clear hb
      generalize b.t = bt at *
      generalize b.last = bl at *
      generalize b.level = bv at *
      generalize b.num = bn at *
      generalize b.adr = ba at *
      generalize b.en = be at *
      generalize b.ec = bq at *
      obtain ⟨zz, hzz⟩ : ∃ zz, z + (be : Int) = zz := ⟨_, rfl⟩
      have HZ2 : Hid (zz = (sumN zt (j + 1) : Nat)) := by rw [Hid, ← hzz]; exact hz1
      have s1 : IntKind.i64.wrap (z + (be : Int)) = zz := by rw [hzz]; exact IntWalk.i64_in _ (by omega)
      have s2 : IntKind.i64.wrap ((j : Int) + 1) = (j : Int) + 1 := IntWalk.i64_in _ (by omega)
      have hjm : n4 - (j + 1) < n4 - j := by omega
      have hbz : ad2.block < wr.heap.size := hbl2
      have hal2 := Lib.hid (fun o => (Below.refl wr.heap.size wr).alloc (Nat.le_refl _) o)
      clear HN HZ hz1 hzz hmo hsb
      go_wp2
      go_roundg (n4 - (j + 1))
      case measure => exact Nat.lt_of_lt_of_le hjm hjx
      case rel => exact ⟨j + 1, zz, by go_num, rfl, hl2, Nat.le_refl _, HZ2, (HX.out.below (hal2.out _)).more (hal2.out _).size, own_keep HU.out (hal2.out _), KK.out.below (hal2.out _), BB.out.alloc BB.out.size _, Nat.le_trans sz (hal2.out _).size⟩
end Go.Proofs.Ytjapjfcennemeaa.qtl
