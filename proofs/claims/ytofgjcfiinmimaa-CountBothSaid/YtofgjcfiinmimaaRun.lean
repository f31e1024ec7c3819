/- Contract of the counting law's run. -/
import Derived.Test.YtofgjcfiinmimaaMgRunO
import Derived.Test.YtofgjcfiinmimaaMgAwake12
namespace Go.Proofs.Ytofgjcfiinmimaa.cst
open Go.RowKit Go.Proofs.Ytofgjcfiinmimaa.mem Go.Proofs.Ytofgjcfiinmimaa.lst Go.Proofs.Ytofgjcfiinmimaa.gro
set_option linter.unusedVariables false
set_option linter.unusedSimpArgs false
/-- What comes back: the state, the items that found room. -/
def RunOut (k : Nat) (v p : Int) (most : Nat) (w : World) (e : Ending) (w' : World) : Prop :=
  ∃ (A : Option Addr) (n c : Nat) (B : Option Addr) (m d : Nat) (ys added : List (Int × Int)) (now : Int), e = .returned (.tuple #[Value.agg #[Value.int IntKind.i64 v, Value.int IntKind.i64 k, Value.int IntKind.i64 p, Value.int IntKind.i64 now, Value.slice A n c], .slice B m d, .bool true]) ∧ n ≤ c ∧ (c ≤ maxLen ∧ ∀ ad, A = some ad → w.heap.size ≤ ad.block) ∧ PRead w' w'.heap.size A n ys ∧
    m ≤ d ∧ (d ≤ maxLen ∧ ∀ ad, B = some ad → w.heap.size ≤ ad.block) ∧ PRead w' w'.heap.size B m added ∧ Run ys k v now (added.map (·.1)) ∧ (totalN ys : Int) ≤ p ∧ added.length ≤ most ∧ 0 ≤ now ∧ now ≤ 100000 ∧ Below w.heap.size w w'
set_option maxHeartbeats 8000000 in
set_option maxRecDepth 100000 in
theorem run_any (A1 : Option Addr) (m c1 : Nat) (its : List (Int × Int)) (k p : Nat) (v : Int) (w : World) (h1 : PRead w w.heap.size A1 m its) (hmc : m ≤ c1) (hcm1 : c1 ≤ maxLen) (hA : made.Asc its (-4096) 4096) (hm : m ≤ 1000) (hk : 1 ≤ k ∧ k ≤ 50) (hv : 1 ≤ v ∧ v ≤ 40) (hp : 1 ≤ p ∧ p ≤ 65536) :
    Calls Try.prog 32 #[Value.agg #[Value.int IntKind.i64 v, Value.int IntKind.i64 k, Value.int IntKind.i64 p, Value.int IntKind.i64 0, Value.slice none 0 0], .slice A1 m c1, .int .i64 v, .int .i64 k, .int .i64 p] w (RunOut k v p m w) := by
  have HI0 := Lib.hid h1
  have HL : Hid (its.length = m) := PRead.len h1
  have HA := Lib.hid hA
  obtain ⟨hk1, hk2⟩ := hk
  obtain ⟨hv1, hv2⟩ := hv
  obtain ⟨hp1, hp2⟩ := hp
  have hcm9 : c1 ≤ 9223372036854775807 := hcm1
  clear h1 hA
  obtain ⟨i0, hi0, hz0, hz1, hz2⟩ := info_parts made.item_info
  have HIn := Lib.hid hi0
  have HZ0 := Lib.hid hz0
  have HZ1 := Lib.hid hz1
  have HZ2 := Lib.hid hz2
  clear hi0 hz0 hz1 hz2
  go_enter Try.func32, Try.ntmps32
  go_wp2_with fail
  obtain ⟨W0, hW, hs0, K0, B0⟩ := start2 w 24 24 #[Value.int IntKind.i64 v, Value.int IntKind.i64 k, Value.int IntKind.i64 p, Value.int IntKind.i64 0, Value.slice none 0 0] #[Value.int IntKind.i64 0, Value.int IntKind.i64 0, Value.int IntKind.i64 0, Value.int IntKind.i64 0, Value.slice none 0 0]
  rw [hW]
  clear hW
  obtain ⟨gx, hgx⟩ : ∃ s, w.heap.size = s := ⟨_, rfl⟩
  obtain ⟨gr, hgr⟩ : ∃ s, w.heap.size + 1 = s := ⟨_, rfl⟩
  have wg_gx : w.heap.size ≤ gx := by omega
  have wg_gr : w.heap.size ≤ gr := by omega
  have o_gx_gr : gx < gr := by omega
  rw [hgr, hgx] at K0
  rw [hgr, hgx]
  have sz0 : gr + 1 ≤ W0.heap.size := by omega
  go_loopg [13, 21] m (fun kx s13 s21 wr => ∃ (u : Value) (i : Nat) (A : Option Addr) (n c : Nat) (ys added : List (Int × Int)) (now : Int), s21 = .int .i64 i ∧ u = s13 ∧ i ≤ m ∧ m - i ≤ kx ∧ n ≤ c ∧ c ≤ 9223372036854775807 ∧ 0 ≤ now ∧ now ≤ 100000 ∧ Hid (i < m → now ≤ (buk.at_ its i).1) ∧ added.length ≤ i ∧ Hid ((totalN ys : Int) ≤ p) ∧ Hid (Run ys k v now (added.map (·.1))) ∧ Hid (PRead wr wr.heap.size A n ys) ∧ Hid (∀ ad, A = some ad → gr < ad.block) ∧ Hid (0 < n → ∀ ad, A = some ad → some ad.block ≠ u.ownBlock) ∧ Hid (wr.ownsRow (gr + 1) 61 2 u added.length (pc added)) ∧ Hid (Bx wr [(gr, 24, #[Value.int IntKind.i64 0, Value.int IntKind.i64 0, Value.int IntKind.i64 0, Value.int IntKind.i64 0, Value.slice none 0 0]), (gx, 24, #[Value.int IntKind.i64 v, Value.int IntKind.i64 k, Value.int IntKind.i64 p, Value.int IntKind.i64 now, Value.slice A n c])]) ∧ Hid (Below w.heap.size w wr) ∧ gr + 1 ≤ wr.heap.size)
  case atStart => exact ⟨_, 0, none, 0, 0, [], [], 0, rfl, rfl, by omega, by omega, by omega, by omega, by omega, by omega, fun h => (HA.out 0 (by rw [HL.out]; exact h)).1.1, by simp, (by simp [totalN] : ((totalN [] : Nat) : Int) ≤ p), Run.nil v (by omega) (by omega), PRead.nil_, fun ad h => by (cases h), fun _ ad h => by (cases h), own_nil _ _ _ _, K0, B0, sz0⟩
  case round =>
    clear K0 B0 sz0 hs0
    obtain ⟨u, i, A, n, c, ys, added, now, rfl, rfl, hi, hkx, hnc, hcm, hn0, hn1, HT, hal, hto, HR, HX, fx, dx, HU, KK, BB, sz⟩ := hrel
    have f_HX_gx : 0 < n → ∀ ad, A = some ad → ad.block ≠ gx := fun _ ad h => by have := fx.out ad h; omega
    have f_HX_gr : 0 < n → ∀ ad, A = some ad → ad.block ≠ gr := fun _ ad h => by have := fx.out ad h; omega
    have d_HX_HU := dx.out
    have hto := hto.out
    have HI := Lib.hid (HI0.out.below BB.out)
    by_cases hlt : i < m
    case neg =>
      obtain rfl : i = m := by omega
      clear HT hkx
      have hU := own_form HU.out
      obtain ⟨B, d, hu, j1, j2, j3⟩ := hU
      subst hu
      have HB := Lib.hid j3
      have f_HB_gr : 0 < added.length → ∀ ad, B = some ad → ad.block ≠ gr := fun _ ad h => by have := lst.own_new HU.out ad h; omega
      have fB : ∀ ad, B = some ad → w.heap.size ≤ ad.block := fun ad h => by have := lst.own_new HU.out ad h; omega
      have R90 := KK.out.rules
      simp only [gro.Rules] at R90
      have KP := KK.out.perm (L' := [(gr, 24, #[Value.int IntKind.i64 0, Value.int IntKind.i64 0, Value.int IntKind.i64 0, Value.int IntKind.i64 0, Value.slice none 0 0]), (gx, 24, #[Value.int IntKind.i64 v, Value.int IntKind.i64 k, Value.int IntKind.i64 p, Value.int IntKind.i64 now, Value.slice A n c])]) (by simp)
      obtain ⟨v91, hv91, K5, B5, z5, P5⟩ := cst.putC (Value.int IntKind.i64 v) (Value.int IntKind.i64 k) (Value.int IntKind.i64 p) (Value.int IntKind.i64 now) (Value.slice A n c) KP (by simp <;> omega) BB.out wg_gr
      replace HX := Lib.hid (P5 _ _ _ HX.out f_HX_gr)
      replace HB := Lib.hid (P5 _ _ _ HB.out f_HB_gr)
      replace KK := Lib.hid K5
      replace BB := Lib.hid B5
      rw [← z5] at sz
      clear K5 B5 P5 KP z5
      have R91 := KK.out.rules
      simp only [gro.Rules] at R91
      go_wp2
      clear R90 hv91
      refine bodyPost_ret (v := Value.tuple #[Value.agg #[Value.int IntKind.i64 v, Value.int IntKind.i64 k, Value.int IntKind.i64 p, Value.int IntKind.i64 now, Value.slice A n c], .slice B added.length d, .bool true]) (by simp [results, Try.results32, go_sem, R91]) rfl ⟨A, n, c, B, added.length, d, ys, added, now, rfl, hnc, ⟨hcm, fun ad h => by have := fx.out ad h; omega⟩, HX.out, j1, ⟨j2, fB⟩, HB.out, HR.out, hto, hal, hn0, hn1, BB.out⟩
    have hmes : m - (i + 1) < m - i := by omega
    have hmes2 : i + 1 ≤ m := by omega
    have hrk := HR.out.ask (p := p) (by simp; omega) hto
    obtain ⟨_, hyl, hyt, _, _, _, _, _⟩ := hrk
    have hlx := PRead.len HX.out
    have hnx : n ≤ 2000 := by omega
    clear hyl hyt
    have hml : (added.map (·.1)).length = added.length := by simp
    obtain ⟨ad, rfl, hbl, hc1, hc2⟩ := PRead.at_ HI.out hlt
    have hblt : ad.block < wr.heap.size := by have := BB.out.size; omega
    change wr.cell? (ad.add (i * 2)) = some (.int .i64 (buk.at_ its i).1) at hc1
    change wr.cell? ⟨(ad.add (i * 2)).block, (ad.add (i * 2)).off + 1, none⟩ = some (.int .i64 (buk.at_ its i).2) at hc2
    obtain ⟨⟨ha1, ha2⟩, _, HN⟩ := HA.out i (by rw [HL.out]; exact hlt)
    have HT1 := HT.out hlt
    have HN2 : Hid (i + 1 < m → (buk.at_ its i).1 ≤ (buk.at_ its (i + 1)).1) := fun h => HN (by rw [HL.out]; exact h)
    clear HN HT HI
    generalize (buk.at_ its i).1 = T at *
    generalize (buk.at_ its i).2 = V at *
    obtain ⟨HR2, ht2⟩ := HR.out.adv (now2 := T) hn0 HT1 (by omega) ⟨hv1, by omega⟩
    obtain ⟨_, HR3, ht3⟩ := HR2.one (by omega) (by omega) hv1 (by omega)
    have hg1 := HR.out.fitB (p := p) hn0 (by omega) ⟨hv1, by omega⟩ (by omega) (by omega) hto
    have hg2 := HR2.fitB (p := p) (by omega) (by omega) ⟨hv1, by omega⟩ (by omega) (by omega) (by omega)
    obtain ⟨_, r1, r2, r3, r4, r5, r6, r7⟩ := HR2.ask (p := p) (by omega) (by omega)
    have hLv : Hid ((made.liveI T v added).length = buk.liveN (T - v) (added.map (·.1))) := liveN_map (fun q hq => by have := (HR.out.bd q.1 (List.mem_map_of_mem hq)).2; omega)
    have hll := made.live_len T v added added.length
    rw [List.take_length] at hll
    have C1 := Lib.hid (fun W (h : PRead W W.heap.size A n ys) => AdvC_ok (p := p) (tt := T) h hnc hcm hnx hg1 ⟨HT1, by omega⟩)
    have hpc : Hid (pc (added ++ [(T, V)]) = pc added ++ [.int .i64 T, .int .i64 V]) := made.pc_snoc added T V
    have hmp : Hid ((added ++ [(T, V)]).map (·.1) = added.map (·.1) ++ [T]) := by simp [Hid]
    replace HR3 := Lib.hid HR3
    replace HR2 := Lib.hid HR2
    have w1 : IntKind.i64.wrap ((k : Int) + 1) = k + 1 := IntWalk.i64_in _ (by omega)
    by_cases hfull : (totalN (expireL (clk.firstI T v) ys) : Int) = p
    case pos =>
      have C2 := Lib.hid (fun A n c W (h : PRead W W.heap.size A n (expireL (clk.firstI T v) ys)) h1 h2 => AddC_full (c := c) h h1 h2 (by have := PRead.len h; omega) hg2 hfull)
      have hto2 : (totalN (expireL (clk.firstI T v) ys) : Int) ≤ p := by omega
      have hcmp := full_law (k := k) (by omega) r4 r7 hfull
      clear hg1 hg2 r1 r2 r3 r4 r5 r6 r7 ht2 ht3 hfull
      generalize hyq2 : expireL (clk.firstI T v) ys = yq2 at *
      have R20 := KK.out.rules
      simp only [gro.Rules] at R20
      obtain ⟨gi, hs_gi⟩ : ∃ s, (wr).heap.size = s := ⟨_, rfl⟩
      have wg_gi : w.heap.size ≤ gi := by have := BB.out.size; omega
      obtain ⟨v21, hv21, K5, B5, z5, P5⟩ := cst.newbox (61) #[Value.int IntKind.i64 T, Value.int IntKind.i64 V] KK.out hs_gi BB.out BB.out.size
      have o_gr_gi : gr < gi := by omega
      have o_gx_gi : gx < gi := by omega
      have f_HX_gi := (P5 _ _ _ HX.out).2
      replace HX := Lib.hid (P5 _ _ _ HX.out).1
      have HO5 := mem.own_alloc HU.out (.cells #[Value.int IntKind.i64 T, Value.int IntKind.i64 V] 61)
      rw [hv21] at HO5
      have k_HU_gi : ∀ k, (u).ownBlock = some k → k < gi := fun k h => by have := (World.ownsRow.lt HU.out k h).2; omega
      replace HU := Lib.hid HO5
      clear HO5
      replace KK := Lib.hid K5
      replace BB := Lib.hid B5
      replace sz : gi + 1 ≤ (v21).heap.size := by rw [z5]; exact Nat.le_refl _
      clear K5 B5 P5 z5
      have R21 := KK.out.rules
      simp only [gro.Rules] at R21
      go_wp2_with fail
      clear R20 hv21 hs_gi
      (refine (C1.out _ HX.out).mono ?_)
      rintro e v22 ⟨A3, n3, c3, rfl, q3, ⟨p3, fr⟩, hr, hb⟩
      replace BB := Lib.hid (BB.out.trans (hb.mono BB.out.size))
      replace KK := Lib.hid (KK.out.below hb)
      replace HX := Lib.hid ((HX.out.below hb).more hb.size)
      have d_HA3_HU : 0 < n3 → ∀ ad, A3 = some ad → some ad.block ≠ (u).ownBlock := fun _ ad h e => by have h1 := fr ad h; have h2 := (World.ownsRow.lt HU.out _ e.symm).2; omega
      replace HU := Lib.hid (mem.own_keep HU.out hb)
      have HA3 := Lib.hid hr
      have f_HA3_gi : 0 < n3 → ∀ ad, A3 = some ad → ad.block ≠ gi := fun _ ad h => by have := fr ad h; omega
      have f_HA3_gr : 0 < n3 → ∀ ad, A3 = some ad → ad.block ≠ gr := fun _ ad h => by have := fr ad h; omega
      have f_HA3_gx : 0 < n3 → ∀ ad, A3 = some ad → ad.block ≠ gx := fun _ ad h => by have := fr ad h; omega
      have fx3 : ∀ ad, A3 = some ad → gr < ad.block := fun ad h => by have := fr ad h; omega
      replace sz := Nat.le_trans sz hb.size
      clear hb hr fr
      have R22 := KK.out.rules
      simp only [gro.Rules] at R22
      clear HX
      have KP := KK.out.perm (L' := [(gx, 24, #[Value.int IntKind.i64 v, Value.int IntKind.i64 k, Value.int IntKind.i64 p, Value.int IntKind.i64 now, Value.slice A n c]), (gi, 61, #[Value.int IntKind.i64 T, Value.int IntKind.i64 V]), (gr, 24, #[Value.int IntKind.i64 0, Value.int IntKind.i64 0, Value.int IntKind.i64 0, Value.int IntKind.i64 0, Value.slice none 0 0])]) (by simp)
      obtain ⟨v23, hv23, K5, B5, z5, P5⟩ := cst.putC (Value.int IntKind.i64 v) (Value.int IntKind.i64 k) (Value.int IntKind.i64 p) (Value.int IntKind.i64 T) (Value.slice A3 n3 c3) KP (by simp <;> omega) BB.out wg_gx
      replace HA3 := Lib.hid (P5 _ _ _ HA3.out f_HA3_gx)
      have HO5 := cst.own5 HU.out (show gx < gr + 1 by omega) (Value.int IntKind.i64 v) (Value.int IntKind.i64 k) (Value.int IntKind.i64 p) (Value.int IntKind.i64 T) (Value.slice A3 n3 c3)
      rw [hv23] at HO5
      replace HU := Lib.hid HO5
      clear HO5
      replace KK := Lib.hid K5
      replace BB := Lib.hid B5
      rw [← z5] at sz
      clear K5 B5 P5 KP z5
      have R23 := KK.out.rules
      simp only [gro.Rules] at R23
      go_wp2_with fail
      clear R21 R22 hv23
      (refine (C2.out _ _ _ _ HA3.out q3 p3).mono ?_)
      rintro e v24 ⟨A4, n4, c4, rfl, q4, ⟨p4, fr⟩, hr, hb⟩
      replace BB := Lib.hid (BB.out.trans (hb.mono BB.out.size))
      replace KK := Lib.hid (KK.out.below hb)
      replace HA3 := Lib.hid ((HA3.out.below hb).more hb.size)
      have HA4 := Lib.hid hr
      have d_HA4_HU : 0 < n4 → ∀ ad, A4 = some ad → some ad.block ≠ u.ownBlock := fun _ ad h e => by have h1 := fr ad h; have h2 := (World.ownsRow.lt HU.out _ e.symm).2; omega
      replace HU := Lib.hid (own_keep HU.out hb)
      have fx4 : ∀ ad, A4 = some ad → gr < ad.block := fun ad h => by have := fr ad h; omega
      have f_HA4_gx : 0 < n4 → ∀ ad, A4 = some ad → ad.block ≠ gx := fun _ ad h => by have := fr ad h; omega
      have f_HA4_gi : 0 < n4 → ∀ ad, A4 = some ad → ad.block ≠ gi := fun _ ad h => by have := fr ad h; omega
      have f_HA4_gr : 0 < n4 → ∀ ad, A4 = some ad → ad.block ≠ gr := fun _ ad h => by have := fr ad h; omega
      replace sz := Nat.le_trans sz hb.size
      clear hb hr fr
      have R24 := KK.out.rules
      simp only [gro.Rules] at R24
      obtain ⟨gy, hs_gy⟩ : ∃ s, (v24).heap.size = s := ⟨_, rfl⟩
      have wg_gy : w.heap.size ≤ gy := by have := BB.out.size; omega
      obtain ⟨v25, hv25, K5, B5, z5, P5⟩ := cst.newbox (24) #[Value.int IntKind.i64 0, Value.int IntKind.i64 0, Value.int IntKind.i64 0, Value.int IntKind.i64 0, Value.slice A4 n4 c4] KK.out hs_gy BB.out BB.out.size
      have o_gx_gy : gx < gy := by omega
      have o_gi_gy : gi < gy := by omega
      have o_gr_gy : gr < gy := by omega
      have f_HA3_gy := (P5 _ _ _ HA3.out).2
      replace HA3 := Lib.hid (P5 _ _ _ HA3.out).1
      have f_HA4_gy := (P5 _ _ _ HA4.out).2
      replace HA4 := Lib.hid (P5 _ _ _ HA4.out).1
      have HO5 := mem.own_alloc HU.out (.cells #[Value.int IntKind.i64 0, Value.int IntKind.i64 0, Value.int IntKind.i64 0, Value.int IntKind.i64 0, Value.slice A4 n4 c4] 24)
      rw [hv25] at HO5
      have k_HU_gy : ∀ k, (u).ownBlock = some k → k < gy := fun k h => by have := (World.ownsRow.lt HU.out k h).2; omega
      replace HU := Lib.hid HO5
      clear HO5
      replace KK := Lib.hid K5
      replace BB := Lib.hid B5
      replace sz : gy + 1 ≤ (v25).heap.size := by rw [z5]; exact Nat.le_refl _
      clear K5 B5 P5 z5
      have R25 := KK.out.rules
      simp only [gro.Rules] at R25
      go_wp2_with fail
      clear R23 R24 hv25 hs_gy
      have hgb : gr + 1 ≤ gy + 1 := by omega
      obtain ⟨B2, d2, hu, j1, j2, j3⟩ := own_form HU.out
      subst hu
      have hbd : added.length ≤ 1000 := by omega
      (refine (made.Live_any B2 added.length d2 added T v _ j3 j1 j2 ⟨ha1, by omega⟩ ⟨hv1, by omega⟩ hbd).mono ?_)
      rintro e v26 ⟨A5, n5, c5, rfl, q5, ⟨p5, fr⟩, hr, hb⟩
      replace BB := Lib.hid (BB.out.trans (hb.mono BB.out.size))
      replace KK := Lib.hid (KK.out.below hb)
      replace HA3 := Lib.hid ((HA3.out.below hb).more hb.size)
      replace HA4 := Lib.hid ((HA4.out.below hb).more hb.size)
      replace HU := Lib.hid (own_keep HU.out hb)
      have hlr := PRead.len hr
      rw [← hLv.out, hlr] at hcmp
      rw [hlr] at hll
      have p5' : c5 ≤ 9223372036854775807 := p5
      have hlb : (n5 : Int) * (k + 1) ≤ 1000 * 65 := Int.mul_le_mul (by omega) (by omega) (by omega) (by omega)
      have hlb0 : (0 : Int) ≤ n5 * (k + 1) := Int.mul_nonneg (by omega) (by omega)
      have hpb : (p : Int) * k ≤ 65536 * 64 := Int.mul_le_mul (by omega) (by omega) (by omega) (by omega)
      have hpb0 : (0 : Int) ≤ p * k := Int.mul_nonneg (by omega) (by omega)
      have w2 : IntKind.i64.wrap ((n5 : Int) * (k + 1)) = n5 * (k + 1) := IntWalk.i64_in _ (by omega)
      have w3 : IntKind.i64.wrap ((p : Int) * k) = p * k := IntWalk.i64_in _ (by omega)
      have qc : decide ((n5 : Int) * (k + 1) < p * k) = false := decide_eq_false (by first | exact hcmp | exact Int.not_lt.2 hcmp)
      replace sz := Nat.le_trans sz hb.size
      clear hb hr fr hLv j3 hlb hlb0 hpb hpb0
      have R26 := KK.out.rules
      simp only [gro.Rules] at R26
      replace hmes := Lib.hid hmes
      replace hmes2 := Lib.hid hmes2
      replace ha1 := Lib.hid ha1
      replace ha2 := Lib.hid ha2
      replace hal := Lib.hid hal
      replace hkx := Lib.hid hkx
      replace hgb := Lib.hid hgb
      replace sz := Lib.hid sz
      replace hto2 := Lib.hid hto2
      clear hn0 hn1 hll hbd HT1 hnc hcm hml hnx hlx hp1 hp2 hk1 hk2 hi hc1 hc2 hbl hblt hlr hto hv1 hv2 hcm1 hcm9 hmc
      go_wp2_with fail
      clear R25
      go_roundg (m - (i + 1))
      case measure => exact Nat.lt_of_lt_of_le hmes.out hkx.out
      case rel => exact ⟨_, i + 1, A3, n3, c3, yq2, added, T, by go_num, rfl, hmes2.out, Nat.le_refl _, q3, p3, ha1.out, ha2.out, HN2.out, Nat.le_succ_of_le hal.out, hto2.out, HR2.out, HA3.out, fx3, d_HA3_HU, HU.out, KK.out.perm (by simp), BB.out, Nat.le_trans hgb.out sz.out⟩
    case neg =>
      have C2 := Lib.hid (fun A n c W (h : PRead W W.heap.size A n (expireL (clk.firstI T v) ys)) h1 h2 => AddC_ok (c := c) h h1 h2 (by have := PRead.len h; omega) hg2 hfull)
      have hto3 : (totalN (insI (expireL (clk.firstI T v) ys) k T) : Int) ≤ p := by omega
      have hcmp : ((made.liveI T v added).length : Int) < p := by rw [hLv.out]; omega
      clear hg1 hg2 r1 r2 r3 r4 r5 r6 r7 ht2 ht3 hfull
      generalize hyq2 : expireL (clk.firstI T v) ys = yq2 at *
      generalize hyq3 : insI yq2 k T = yq3 at *
      have R20 := KK.out.rules
      simp only [gro.Rules] at R20
      obtain ⟨gi, hs_gi⟩ : ∃ s, (wr).heap.size = s := ⟨_, rfl⟩
      have wg_gi : w.heap.size ≤ gi := by have := BB.out.size; omega
      obtain ⟨v21, hv21, K5, B5, z5, P5⟩ := cst.newbox (61) #[Value.int IntKind.i64 T, Value.int IntKind.i64 V] KK.out hs_gi BB.out BB.out.size
      have o_gr_gi : gr < gi := by omega
      have o_gx_gi : gx < gi := by omega
      have f_HX_gi := (P5 _ _ _ HX.out).2
      replace HX := Lib.hid (P5 _ _ _ HX.out).1
      have HO5 := mem.own_alloc HU.out (.cells #[Value.int IntKind.i64 T, Value.int IntKind.i64 V] 61)
      rw [hv21] at HO5
      have k_HU_gi : ∀ k, (u).ownBlock = some k → k < gi := fun k h => by have := (World.ownsRow.lt HU.out k h).2; omega
      replace HU := Lib.hid HO5
      clear HO5
      replace KK := Lib.hid K5
      replace BB := Lib.hid B5
      replace sz : gi + 1 ≤ (v21).heap.size := by rw [z5]; exact Nat.le_refl _
      clear K5 B5 P5 z5
      have R21 := KK.out.rules
      simp only [gro.Rules] at R21
      go_wp2_with fail
      clear R20 hv21 hs_gi
      (refine (C1.out _ HX.out).mono ?_)
      rintro e v22 ⟨A3, n3, c3, rfl, q3, ⟨p3, fr⟩, hr, hb⟩
      replace BB := Lib.hid (BB.out.trans (hb.mono BB.out.size))
      replace KK := Lib.hid (KK.out.below hb)
      replace HX := Lib.hid ((HX.out.below hb).more hb.size)
      have d_HA3_HU : 0 < n3 → ∀ ad, A3 = some ad → some ad.block ≠ (u).ownBlock := fun _ ad h e => by have h1 := fr ad h; have h2 := (World.ownsRow.lt HU.out _ e.symm).2; omega
      replace HU := Lib.hid (mem.own_keep HU.out hb)
      have HA3 := Lib.hid hr
      have f_HA3_gi : 0 < n3 → ∀ ad, A3 = some ad → ad.block ≠ gi := fun _ ad h => by have := fr ad h; omega
      have f_HA3_gr : 0 < n3 → ∀ ad, A3 = some ad → ad.block ≠ gr := fun _ ad h => by have := fr ad h; omega
      have f_HA3_gx : 0 < n3 → ∀ ad, A3 = some ad → ad.block ≠ gx := fun _ ad h => by have := fr ad h; omega
      have fx3 : ∀ ad, A3 = some ad → gr < ad.block := fun ad h => by have := fr ad h; omega
      replace sz := Nat.le_trans sz hb.size
      clear hb hr fr
      have R22 := KK.out.rules
      simp only [gro.Rules] at R22
      clear HX
      have KP := KK.out.perm (L' := [(gx, 24, #[Value.int IntKind.i64 v, Value.int IntKind.i64 k, Value.int IntKind.i64 p, Value.int IntKind.i64 now, Value.slice A n c]), (gi, 61, #[Value.int IntKind.i64 T, Value.int IntKind.i64 V]), (gr, 24, #[Value.int IntKind.i64 0, Value.int IntKind.i64 0, Value.int IntKind.i64 0, Value.int IntKind.i64 0, Value.slice none 0 0])]) (by simp)
      obtain ⟨v23, hv23, K5, B5, z5, P5⟩ := cst.putC (Value.int IntKind.i64 v) (Value.int IntKind.i64 k) (Value.int IntKind.i64 p) (Value.int IntKind.i64 T) (Value.slice A3 n3 c3) KP (by simp <;> omega) BB.out wg_gx
      replace HA3 := Lib.hid (P5 _ _ _ HA3.out f_HA3_gx)
      have HO5 := cst.own5 HU.out (show gx < gr + 1 by omega) (Value.int IntKind.i64 v) (Value.int IntKind.i64 k) (Value.int IntKind.i64 p) (Value.int IntKind.i64 T) (Value.slice A3 n3 c3)
      rw [hv23] at HO5
      replace HU := Lib.hid HO5
      clear HO5
      replace KK := Lib.hid K5
      replace BB := Lib.hid B5
      rw [← z5] at sz
      clear K5 B5 P5 KP z5
      have R23 := KK.out.rules
      simp only [gro.Rules] at R23
      go_wp2_with fail
      clear R21 R22 hv23
      (refine (C2.out _ _ _ _ HA3.out q3 p3).mono ?_)
      rintro e v24 ⟨A4, n4, c4, rfl, q4, ⟨p4, fr⟩, hr, hb⟩
      replace BB := Lib.hid (BB.out.trans (hb.mono BB.out.size))
      replace KK := Lib.hid (KK.out.below hb)
      replace HA3 := Lib.hid ((HA3.out.below hb).more hb.size)
      have HA4 := Lib.hid hr
      have d_HA4_HU : 0 < n4 → ∀ ad, A4 = some ad → some ad.block ≠ u.ownBlock := fun _ ad h e => by have h1 := fr ad h; have h2 := (World.ownsRow.lt HU.out _ e.symm).2; omega
      replace HU := Lib.hid (own_keep HU.out hb)
      have fx4 : ∀ ad, A4 = some ad → gr < ad.block := fun ad h => by have := fr ad h; omega
      have f_HA4_gx : 0 < n4 → ∀ ad, A4 = some ad → ad.block ≠ gx := fun _ ad h => by have := fr ad h; omega
      have f_HA4_gi : 0 < n4 → ∀ ad, A4 = some ad → ad.block ≠ gi := fun _ ad h => by have := fr ad h; omega
      have f_HA4_gr : 0 < n4 → ∀ ad, A4 = some ad → ad.block ≠ gr := fun _ ad h => by have := fr ad h; omega
      replace sz := Nat.le_trans sz hb.size
      clear hb hr fr
      have R24 := KK.out.rules
      simp only [gro.Rules] at R24
      obtain ⟨gy, hs_gy⟩ : ∃ s, (v24).heap.size = s := ⟨_, rfl⟩
      have wg_gy : w.heap.size ≤ gy := by have := BB.out.size; omega
      obtain ⟨v25, hv25, K5, B5, z5, P5⟩ := cst.newbox (24) #[Value.int IntKind.i64 v, Value.int IntKind.i64 k, Value.int IntKind.i64 p, Value.int IntKind.i64 T, Value.slice A4 n4 c4] KK.out hs_gy BB.out BB.out.size
      have o_gx_gy : gx < gy := by omega
      have o_gi_gy : gi < gy := by omega
      have o_gr_gy : gr < gy := by omega
      have f_HA3_gy := (P5 _ _ _ HA3.out).2
      replace HA3 := Lib.hid (P5 _ _ _ HA3.out).1
      have f_HA4_gy := (P5 _ _ _ HA4.out).2
      replace HA4 := Lib.hid (P5 _ _ _ HA4.out).1
      have HO5 := mem.own_alloc HU.out (.cells #[Value.int IntKind.i64 v, Value.int IntKind.i64 k, Value.int IntKind.i64 p, Value.int IntKind.i64 T, Value.slice A4 n4 c4] 24)
      rw [hv25] at HO5
      have k_HU_gy : ∀ k, (u).ownBlock = some k → k < gy := fun k h => by have := (World.ownsRow.lt HU.out k h).2; omega
      replace HU := Lib.hid HO5
      clear HO5
      replace KK := Lib.hid K5
      replace BB := Lib.hid B5
      replace sz : gy + 1 ≤ (v25).heap.size := by rw [z5]; exact Nat.le_refl _
      clear K5 B5 P5 z5
      have R25 := KK.out.rules
      simp only [gro.Rules] at R25
      go_wp2_with fail
      clear R23 R24 hv25 hs_gy
      have hgb : gr + 1 ≤ gy + 1 := by omega
      obtain ⟨B2, d2, hu, j1, j2, j3⟩ := own_form HU.out
      subst hu
      have hbd : added.length ≤ 1000 := by omega
      (refine (made.Live_any B2 added.length d2 added T v _ j3 j1 j2 ⟨ha1, by omega⟩ ⟨hv1, by omega⟩ hbd).mono ?_)
      rintro e v26 ⟨A5, n5, c5, rfl, q5, ⟨p5, fr⟩, hr, hb⟩
      replace BB := Lib.hid (BB.out.trans (hb.mono BB.out.size))
      replace KK := Lib.hid (KK.out.below hb)
      replace HA3 := Lib.hid ((HA3.out.below hb).more hb.size)
      replace HA4 := Lib.hid ((HA4.out.below hb).more hb.size)
      replace HU := Lib.hid (own_keep HU.out hb)
      have hlr := PRead.len hr
      rw [hlr] at hcmp hll
      have p5' : c5 ≤ 9223372036854775807 := p5
      replace sz := Nat.le_trans sz hb.size
      clear hb hr fr hLv j3
      have R26 := KK.out.rules
      simp only [gro.Rules] at R26
      replace hmes := Lib.hid hmes
      replace hmes2 := Lib.hid hmes2
      replace ha1 := Lib.hid ha1
      replace ha2 := Lib.hid ha2
      replace hal := Lib.hid hal
      replace hkx := Lib.hid hkx
      replace hgb := Lib.hid hgb
      replace sz := Lib.hid sz
      replace hto3 := Lib.hid hto3
      clear hn0 hn1 hll hbd HT1 hnc hcm hml hnx hlx hp1 hp2 hk1 hk2 hi hc1 hc2 hbl hblt hlr hto hv1 hv2 hcm1 hcm9 hmc
      clear HA3
      go_wp2_with fail
      clear R25
      have KL := KK.out.perm (L' := [(gy, 24, #[Value.int IntKind.i64 v, Value.int IntKind.i64 k, Value.int IntKind.i64 p, Value.int IntKind.i64 T, Value.slice A4 n4 c4]), (gi, 61, #[Value.int IntKind.i64 T, Value.int IntKind.i64 V])]) (by simp)
      (refine gro.wp_region_steady_s 3 4 _ (gro.lasts_bx _) (by kernel_rfl) (by kernel_rfl) (by intro _ _ _ _ _ h; exact h) (by kernel_rfl) (by kernel_rfl) (by kernel_rfl) (KL).drew ?_; apply Exists.intro; refine ⟨fun w0 hb0 => ?_, ?_⟩; focus (have RZ := gro.Bx.rules hb0; simp only [gro.Rules] at RZ; simp only [List.take_succ_cons, List.take_zero]; (repeat (go_big_quiet_step ((fail)))); exact wpQuiet_nil rfl))
      refine gro.anyG_one 3 (by kernel_rfl) rfl ?_
      intro y1 hz1 K' hK'
      have KL1 := KL.drew.below hz1
      have HU1 := own_keep (World.ownsRow.drew HU.out) hz1
      go_simp
      refine hK' _ _ ⟨KL1.alloc _, ?_⟩
      clear hK' K'
      obtain ⟨y2, hy2⟩ : ∃ y, y1.alloc (.cells #[Value.int IntKind.i64 T, Value.int IntKind.i64 V] 61) = y := ⟨_, rfl⟩
      have hzA : Below y1.heap.size y1 y2 := by rw [← hy2]; exact (Below.refl _ _).alloc (Nat.le_refl _) _
      have hBy : y1.heap.size + 1 ≤ y2.heap.size := by rw [← hy2]; simp
      have hRA : Reads y2 (y1.heap.size + 1) 2 (some ⟨y1.heap.size, 0, none⟩) 1 [Value.int IntKind.i64 T, Value.int IntKind.i64 V] := by rw [← hy2]; exact reads_new y1 61 #[Value.int IntKind.i64 T, Value.int IntKind.i64 V] rfl
      have HU2 : y2.ownsRow (gr + 1) 61 2 (Value.slice B2 added.length d2) added.length (pc added) := by rw [← hy2]; exact own_alloc HU1 _
      rw [hy2]
      refine gro.anyG_one 4 (by kernel_rfl) rfl ?_
      intro y3 hz3 K' hK'
      have hR3 := Reads.below hRA (hz3.mono hBy)
      have HU3 := own_keep HU2 hz3
      have BB3 := ((BB.out.drew.trans (hz1.mono BB.out.drew.size)).trans (hzA.mono (BB.out.drew.trans (hz1.mono BB.out.drew.size)).size)).trans (hz3.mono ((BB.out.drew.trans (hz1.mono BB.out.drew.size)).trans (hzA.mono (BB.out.drew.trans (hz1.mono BB.out.drew.size)).size)).size)
      have KK3 := ((KK.out.drew.below hz1).below hzA).below hz3
      have HA43 := (((((Reads.drew HA4.out).below hz1).more hz1.size).below hzA).more hzA.size).below hz3 |>.more hz3.size
      have sz3 : gr + 1 ≤ y3.heap.size := Nat.le_trans (Nat.le_trans hgb.out sz.out) (Nat.le_trans hz1.size (Nat.le_trans hzA.size hz3.size))
      have hl2 : added.length ≤ 1000 := by have := hal.out; omega
      refine step_append_any _ (by rfl) (.tmp 79) (.tmp 81) 48 rfl (gr + 1) 61 i0 (.agg #[.int .i64 0, .int .i64 0]) 2 16 Try.underlying48 HIn.out HZ0.out HZ1.out HZ2.out rfl (by omega) (.slice B2 added.length d2) added.length (pc added) (by rfl) HU3 (y1.heap.size + 1) _ 1 1 _ (by rfl) hR3 (by simp [Value.oneCell']) (by unfold maxLen; omega) (by omega) sz3 ?_
      intro v4 y4 hown4 hg4 hat4
      have hdis : ∀ q ∈ ([(gy, 24, #[Value.int IntKind.i64 v, Value.int IntKind.i64 k, Value.int IntKind.i64 p, Value.int IntKind.i64 T, Value.slice A4 n4 c4]), (gi, 61, #[Value.int IntKind.i64 T, Value.int IntKind.i64 V]), (gx, 24, #[Value.int IntKind.i64 v, Value.int IntKind.i64 k, Value.int IntKind.i64 p, Value.int IntKind.i64 T, Value.slice A3 n3 c3]), (gr, 24, #[Value.int IntKind.i64 0, Value.int IntKind.i64 0, Value.int IntKind.i64 0, Value.int IntKind.i64 0, Value.slice none 0 0])] : List (Nat × TypeId × Array Value)), some q.1 ≠ (Value.slice B2 added.length d2).ownBlock := fun q hp e => by
        have hk := own_block_ge HU3 _ e.symm
        have h1 := k_HU_gi _ e.symm
        have h2 := k_HU_gy _ e.symm
        simp only [List.mem_cons, List.not_mem_nil, or_false] at hp
        rcases hp with rfl | rfl | rfl | rfl
        · exact Nat.lt_irrefl _ h2
        · exact Nat.lt_irrefl _ h1
        · have h5 : gr + 1 ≤ gx := hk
          omega
        · have h5 : gr + 1 ≤ gr := hk
          omega
      have KK4 := Bx.app KK3 hg4 (fun q hp => hdis q (by simp only [List.mem_cons, List.not_mem_nil, or_false] at hp ⊢; rcases hp with h | h | h | h <;> simp [h]))
      have BB4 := grown_below BB3 BB3.size hg4 (fun k hk => by have := own_block_ge HU3 _ hk; omega)
      have HA44 := PRead.app HA43 hg4 d_HA4_HU
      have d4 := dist_app HA43 d_HA4_HU hat4
      have sz4 := Nat.le_trans sz3 hg4.size
      refine hK' _ _ ⟨KK4.perm (by simp), ?_⟩
      clear hK' K' HU1 HU2 HU3 hR3 hRA KL1 KL BB3 KK3 HA43 hg4 hat4 hz1 hzA hz3 hBy hdis sz3
      refine gro.anyG_one 5 (by kernel_rfl) rfl ?_
      intro y5 hz5 K' hK'
      have KK5 := KK4.below hz5
      have BB5 := BB4.trans (hz5.mono BB4.size)
      have HA45 := (HA44.below hz5).more hz5.size
      have HU5 := own_keep hown4 hz5
      have RY := KK5.rules
      simp only [gro.Rules] at RY
      go_simp
      refine hK' _ _ ?_
      clear hK' K' RY
      obtain ⟨y6, hy6, K6, B6, z6, P6⟩ := cst.putC (Value.int IntKind.i64 v) (Value.int IntKind.i64 k) (Value.int IntKind.i64 p) (Value.int IntKind.i64 T) (Value.slice A4 n4 c4) (KK5.perm (L' := [(gx, 24, #[Value.int IntKind.i64 v, Value.int IntKind.i64 k, Value.int IntKind.i64 p, Value.int IntKind.i64 T, Value.slice A3 n3 c3]), (gy, 24, #[Value.int IntKind.i64 v, Value.int IntKind.i64 k, Value.int IntKind.i64 p, Value.int IntKind.i64 T, Value.slice A4 n4 c4]), (gi, 61, #[Value.int IntKind.i64 T, Value.int IntKind.i64 V]), (gr, 24, #[Value.int IntKind.i64 0, Value.int IntKind.i64 0, Value.int IntKind.i64 0, Value.int IntKind.i64 0, Value.slice none 0 0])]) (by simp)) (by simp <;> omega) BB5 wg_gx
      have HU6 := own5 HU5 (show gx < gr + 1 by omega) (Value.int IntKind.i64 v) (Value.int IntKind.i64 k) (Value.int IntKind.i64 p) (Value.int IntKind.i64 T) (Value.slice A4 n4 c4)
      rw [hy6] at HU6 ⊢
      have HA46 := P6 _ _ _ HA45 f_HA4_gx
      refine ⟨K6.perm (by simp), ?_⟩
      clear KK4 BB4 HA44 hown4 KK5 BB5 HA45 HU5 P6
      refine gro.anyG_one 6 (by kernel_rfl) rfl ?_
      intro y7 hz7 K' hK'
      go_simp
      refine hK' _ _ ⟨(K6.perm (by simp)).below hz7, ?_⟩
      clear hK' K'
      refine gro.anyG_done (by kernel_rfl) ?_
      intro y8 hz8
      have hz := hz7.trans (hz8.mono hz7.size)
      have KF := K6.below hz
      have BF := B6.trans (hz.mono B6.size)
      have HAF := (HA46.below hz).more hz.size
      have HUF := own_keep HU6 hz
      have sF : gr + 1 ≤ y8.heap.size := Nat.le_trans (Nat.le_trans sz4 hz5.size) (by rw [← z6]; exact hz.size)
      clear K6 B6 HA46 HU6 hz hz7 hz8 KK HA4 BB sz4 hz5 z6
      go_wp2
      go_roundg (m - (i + 1))
      case measure => exact Nat.lt_of_lt_of_le hmes.out hkx.out
      case rel => exact ⟨v4, i + 1, A4, n4, c4, yq3, added ++ [(T, V)], T, by go_num, rfl, hmes2.out, Nat.le_refl _, q4, p4, ha1.out, ha2.out, HN2.out, by rw [List.length_append]; exact Nat.succ_le_succ hal.out, hto3.out, by rw [Hid, hmp.out]; exact HR3.out, HAF, fx4, d4, by rw [Hid, hpc.out, List.length_append]; exact HUF, KF.perm (by simp), BF, sF⟩
end Go.Proofs.Ytofgjcfiinmimaa.cst
