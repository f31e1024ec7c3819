/- The walk of the law ExtremeFull: it returns true and leaves what was there. -/
import Derived.Test.YteajgmihhnghfaaRows
import Derived.Test.YteajgmihhnghfaaOpen
import Derived.Test.YteajgmihhnghfaaExtH
import Derived.Test.YteajgmihhnghfaaExtR
import Derived.Test.YteajgmihhnghfaaExtG
import Derived.Test.YteajgmihhnghfaaPutB
import Derived.Test.YteajgmihhnghfaaLive
import Derived.Test.YteajgmihhnghfaaItems
import Derived.Test.YteajgmihhnghfaaItemsP
import Derived.Test.YteajgmihhnghfaaAwake17
import Derived.Test.YteajgmihhnghfaaSteady3
import Derived.Test.YteajgmihhnghfaaSteady4
import Derived.Test.YteajgmihhnghfaaOpenC
import Derived.WalkKit
import Derived.ProofKit
import Derived.OpenShut
import Derived.ShutString
namespace Go.Proofs.Yteajgmihhnghfaa.extremeFull
open Go.ChangeShapes Go.WideShapes Go.ChangeAt Go.RowKit
open Go.ChangeMaps (open_string shut_string)
set_option linter.unusedVariables false

set_option maxHeartbeats 4000000 in
set_option maxRecDepth 100000 in
theorem walk (A0 : Option Addr) (n0 c0 : Nat) (z0 : List (Int × Int)) (a1 : Bool) (a2 : Int) (a3 : Int) (w : World) (iw0 : mem.PRead w w.heap.size A0 n0 z0) (e0 : n0 ≤ c0) (m0 : c0 ≤ maxLen) (r0 : ∀ p ∈ z0, opn.Rng p.1 ∧ opn.Rng p.2) (iw2 : opn.Rng a2) (iw3 : opn.Rng a3) :
    Calls Try.prog 6 #[.slice A0 n0 c0, .bool a1, .int .i64 a2, .int .i64 a3] w fun e w' => e = .returned (.bool true) ∧ Below w.heap.size w w' := by
  have HZ := Lib.hid iw0
  have M1 := Lib.hid (fun W => made.Mod_any a2 20 W iw2 (by omega) (by omega))
  have M2 := Lib.hid (fun W => made.Int_any a3 4 W iw3 (by omega) (by omega))
  have b10 : 0 ≤ a2 % 20 := Int.emod_nonneg _ (by omega)
  have b11 : a2 % 20 < 20 := Int.emod_lt_of_pos _ (by omega)
  have b20 : 0 ≤ a3 % 4 := Int.emod_nonneg _ (by omega)
  have b21 : a3 % 4 < 4 := Int.emod_lt_of_pos _ (by omega)
  clear iw2 iw0 iw3
  generalize a2 % 20 = x1 at *
  generalize a3 % 4 = x2 at *
  obtain ⟨v, hv⟩ : ∃ v : Int, 5 + x1 = v := ⟨_, rfl⟩
  obtain ⟨p, hp⟩ : ∃ p : Int, 1 + x2 = p := ⟨_, rfl⟩
  have hv1 : 5 ≤ v := by omega
  have hv2 : v ≤ 24 := by omega
  have hp1 : 1 ≤ p := by omega
  have hp2 : p ≤ 4 := by omega
  have hsv : IntKind.i64.wrap (5 + x1) = v := by rw [hv]; exact IntWalk.i64_in _ (by omega)
  have hsp : IntKind.i64.wrap (1 + x2) = p := by rw [hp]; exact IntWalk.i64_in _ (by omega)
  clear hv hp b10 b11 b20 b21
  have H1 := Lib.hid (fun W => ext.NewE_ok (m := a1) (v := v) (p := p) (o := 0) (ext.mayB_iff.2 (by omega)) W)
  have H2 := Lib.hid (fun W (hb : Below w.heap.size w W) => made.Items_any A0 n0 c0 z0 v 60 W ((HZ.out.below hb).more hb.size) r0 e0 m0 (by omega) (by omega))
  have H9 := Lib.hid (fun W => ext.awake17_any W)
  have HK := Lib.hid (fun A n c xs W h1 hs => ext.Kept_f a1 A n c xs W h1 hs)
  have C7 := Lib.hid (fun A n c A' n' c' xs W (h : mem.PRead W W.heap.size A n xs) (h' : mem.PRead W W.heap.size A' n' xs) (hs : n ≤ 1000) => ext.SameItems_ok A A' n c n' c' xs W h h' (by omega))
  obtain ⟨i0, hi0, hz0, hz1, hz2⟩ := Go.info_parts made.item_info
  have HIn := Lib.hid hi0
  have HZ0 := Lib.hid hz0
  have HZ1 := Lib.hid hz1
  have HZ2 := Lib.hid hz2
  clear r0 e0 m0 hi0 hz0 hz1 hz2
  have BB := Lib.hid (Below.refl w.heap.size w)
  have sz : w.heap.size ≤ w.heap.size := Nat.le_refl _
  go_enter Try.func6, Try.ntmps6
  go_wp2_with fail
  (with_reducible refine (M1.out _).mono ?_)
  rintro e w1 ⟨rfl, rfl⟩
  go_wp2_with fail
  (with_reducible refine (M2.out _).mono ?_)
  rintro e w1 ⟨rfl, rfl⟩
  clear M1 M2
  go_wp2_with fail
  (with_reducible refine (H1.out _).mono ?_)
  rintro e v1 ⟨rfl, hb⟩
  replace BB := Lib.hid (BB.out.trans (hb.mono BB.out.size))
  replace sz := Nat.le_trans sz hb.size
  clear hb
  obtain ⟨gx, hs_gx⟩ : ∃ s, (v1).heap.size = s := ⟨_, rfl⟩
  have wg_gx : w.heap.size ≤ gx := by have := BB.out.size; omega
  go_wp2_with fail
  obtain ⟨v2, hv2, K5, B5, z5, P5⟩ := cst.newbox (24) #[Value.bool a1, Value.int IntKind.i64 v, Value.int IntKind.i64 p, Value.int IntKind.i64 0, Value.slice none 0 0] (gro.Bx.nil_ (W := v1)) hs_gx BB.out BB.out.size
  rw [hv2]
  have KK := Lib.hid K5
  replace BB := Lib.hid B5
  replace sz : gx + 1 ≤ (v2).heap.size := by rw [z5]; exact Nat.le_refl _
  clear K5 B5 P5 z5 hv2 hs_gx
  have R2 := KK.out.rules
  simp only [gro.Rules] at R2
  go_wp2_with fail
  have szB := sz
  (refine (H2.out _ BB.out).mono ?_)
  rintro e v3 ⟨u, its, rfl, hown, hlm, hok, hb⟩
  replace BB := Lib.hid (BB.out.trans (hb.mono BB.out.size))
  replace KK := Lib.hid (KK.out.below hb)
  replace sz := Nat.le_trans sz hb.size
  clear hb
  have R3 := KK.out.rules
  simp only [gro.Rules] at R3
  have HA := Lib.hid (made.ItOk.asc hok (by omega) ⟨by omega, by omega⟩)
  have fI : ∀ ad, (∃ n c, u = .slice (some ad) n c) → ad.block ≠ gx := fun ad h => by obtain ⟨n, c, rfl⟩ := h; have := mem.own_block_ge hown ad.block rfl; omega
  obtain ⟨A1, c1, rfl, i1, i2, i3⟩ := mem.own_form hown
  obtain ⟨m, hm⟩ : ∃ m, its.length = m := ⟨_, rfl⟩
  have HL : Hid (its.length = m) := hm
  rw [hm] at hlm i1 i3
  simp only [hm]
  have HI := Lib.hid i3
  have i2' : c1 ≤ 9223372036854775807 := i2
  have f_HI_gx : 0 < m → ∀ ad, A1 = some ad → ad.block ≠ gx := fun _ ad h => fI ad ⟨_, _, by rw [h]⟩
  clear hown hok i3 hm H1 H2 HZ fI szB
  go_wp2_with fail
  clear R2
  clear R3
  go_loopg [10, 33] m (fun kx s10 s33 wr => ∃ (i : Nat) (A : Option Addr) (n c : Nat) (ys added : List (Int × Int)) (now : Int), s33 = .int .i64 i ∧ s10 = .int .i64 0 ∧ i ≤ m ∧ m - i ≤ kx ∧ n ≤ c ∧ c ≤ 9223372036854775807 ∧ 0 ≤ now ∧ now ≤ 100000 ∧ Hid (i < m → now ≤ (buk.at_ its i).1) ∧ (n : Int) ≤ p ∧ Hid (ext.ERun a1 ys now v added) ∧ Hid (mem.PRead wr wr.heap.size A n ys) ∧ Hid (mem.PRead wr wr.heap.size A1 m its) ∧ Hid (∀ ad, A = some ad → gx < ad.block) ∧ Hid (gro.Bx wr [(gx, 24, #[Value.bool a1, Value.int IntKind.i64 v, Value.int IntKind.i64 p, Value.int IntKind.i64 now, Value.slice A n c])]) ∧ Hid (Below w.heap.size w wr) ∧ gx + 1 ≤ wr.heap.size)
  case atStart => exact ⟨0, none, 0, 0, [], [], 0, rfl, rfl, by omega, by omega, by omega, by omega, by omega, by omega, fun h => (HA.out 0 (by rw [HL.out]; exact h)).1.1, by omega, ext.ERun.nil a1 v, mem.PRead.nil_, HI, Lib.hid (fun ad h => by (cases h)), KK, BB, sz⟩
  case round =>
    clear KK BB sz HI
    obtain ⟨i, A, n, c, ys, added, now, rfl, rfl, hi, hkx, hnc, hcm, hn0, hn1, HT, hni, HR, HX, HI, fx, KK, BB, sz⟩ := hrel
    have f_HX_gx : 0 < n → ∀ ad, A = some ad → ad.block ≠ gx := fun _ ad h => by have := fx.out ad h; omega
    have hlx := mem.PRead.len HX.out
    by_cases hlt : i < m
    case neg =>
      obtain rfl : m = i := by omega
      clear HT hkx HK C7
      have R := KK.out.rules
      simp only [gro.Rules] at R
      go_wp2_with fail
      (refine (H9.out _).mono ?_)
      rintro e wz ⟨rfl, hb⟩
      go_wp2
      go_ret
      exact ⟨rfl, BB.out.trans (hb.mono BB.out.size)⟩
    have hmes : m - (i + 1) < m - i := by omega
    have hmes2 : i + 1 ≤ m := by omega
    obtain ⟨ad, rfl, hblt, hc1, hc2⟩ := mem.PRead.at_ HI.out hlt
    change wr.cell? (ad.add (i * 2)) = some (.int .i64 (buk.at_ its i).1) at hc1
    change wr.cell? ⟨(ad.add (i * 2)).block, (ad.add (i * 2)).off + 1, none⟩ = some (.int .i64 (buk.at_ its i).2) at hc2
    obtain ⟨⟨ha1, ha2⟩, ⟨ha3, ha4⟩, HN⟩ := HA.out i (by rw [HL.out]; exact hlt)
    have HT1 := HT.out hlt
    have HN2 : Hid (i + 1 < m → (buk.at_ its i).1 ≤ (buk.at_ its (i + 1)).1) := fun h => HN (by rw [HL.out]; exact h)
    clear HN HT
    generalize (buk.at_ its i).1 = T at *
    generalize (buk.at_ its i).2 = V at *
    have HR2 := HR.out.adv (t := T) HT1
    have HR3 := Lib.hid (HR2.add (x := V) (by omega) (by omega) ⟨ha3, ha4⟩)
    have hle2 := lst.expireL_le (T - v + 1) ys
    have hle3 := ext.addL_len a1 V T (lst.expireL (T - v + 1) ys)
    have hg1 := HR.out.val (p := p) (by omega) ⟨by omega, by omega⟩ (by omega) (by omega)
    have hg2 := HR2.val (p := p) (by omega) ⟨by omega, by omega⟩ (by omega) (by omega)
    have C1 := Lib.hid (fun W (h : mem.PRead W W.heap.size A n ys) => ext.AdvE_ok (m := a1) (v := v) (p := p) (o := now) (tt := T) h hnc hcm (by omega) hg1 ⟨HT1, by omega⟩)
    have C2 := Lib.hid (fun (hp : ((ext.addL a1 V T (lst.expireL (T - v + 1) ys)).length : Int) ≤ p) A n c W (h : mem.PRead W W.heap.size A n (lst.expireL (T - v + 1) ys)) h1 h2 => ext.AddE_ok (m := a1) (v := v) (p := p) (o := T) (x := V) (c := c) h h1 h2 (by have := mem.PRead.len h; omega) hg2 ⟨ha3, ha4⟩ hp)
    have C3 := Lib.hid (fun (hp : p < ((ext.addL a1 V T (lst.expireL (T - v + 1) ys)).length : Int)) A n c W (h : mem.PRead W W.heap.size A n (lst.expireL (T - v + 1) ys)) h1 h2 => ext.AddE_full (m := a1) (v := v) (p := p) (o := T) (x := V) (c := c) h h1 h2 (by have := mem.PRead.len h; omega) hg2 ⟨ha3, ha4⟩ hp)
    have HE1 := Lib.hid (fun n h => (ext.add_law (n := n) (x := V) hg2 h).1)
    replace HR2 := Lib.hid HR2
    have hly2 : Hid ((lst.expireL (T - v + 1) ys).length ≤ n) := by rw [Hid]; omega
    clear hg1 hg2 HR hle2
    generalize ext.addL a1 V T (lst.expireL (T - v + 1) ys) = la at *
    generalize lst.expireL (T - v + 1) ys = yq2 at *
    have R20 := KK.out.rules
    simp only [gro.Rules] at R20
    obtain ⟨gi, hs_gi⟩ : ∃ s, (wr).heap.size = s := ⟨_, rfl⟩
    have wg_gi : w.heap.size ≤ gi := by have := BB.out.size; omega
    obtain ⟨v21, hv21, K5, B5, z5, P5⟩ := cst.newbox (40) #[Value.int IntKind.i64 T, Value.int IntKind.i64 V] KK.out hs_gi BB.out BB.out.size
    have o_gx_gi : gx < gi := by omega
    have f_HX_gi := (P5 _ _ _ HX.out).2
    replace HX := Lib.hid (P5 _ _ _ HX.out).1
    have f_HI_gi := (P5 _ _ _ HI.out).2
    replace HI := Lib.hid (P5 _ _ _ HI.out).1
    replace KK := Lib.hid K5
    replace BB := Lib.hid B5
    replace sz : gi + 1 ≤ (v21).heap.size := by rw [z5]; exact Nat.le_refl _
    clear K5 B5 P5 z5
    have R21 := KK.out.rules
    simp only [gro.Rules] at R21
    go_wp2_with fail
    clear R20 hv21 hs_gi
    (refine (C1.out _ HX.out).mono ?_)
    rintro e v22 ⟨A3, n3, c3, rfl, q3, ⟨p3, fr⟩, hr, hb⟩
    replace BB := Lib.hid (BB.out.trans (hb.mono BB.out.size))
    replace KK := Lib.hid (KK.out.below hb)
    replace HX := Lib.hid ((HX.out.below hb).more hb.size)
    replace HI := Lib.hid ((HI.out.below hb).more hb.size)
    have HA3 := Lib.hid hr
    have f_HA3_gi : 0 < n3 → ∀ ad, A3 = some ad → ad.block ≠ gi := fun _ ad h => by have := fr ad h; omega
    have f_HA3_gx : 0 < n3 → ∀ ad, A3 = some ad → ad.block ≠ gx := fun _ ad h => by have := fr ad h; omega
    have fx3 : ∀ ad, A3 = some ad → gx < ad.block := fun ad h => by have := fr ad h; omega
    replace sz := Nat.le_trans sz hb.size
    clear hb hr fr
    have R22 := KK.out.rules
    simp only [gro.Rules] at R22
    clear HX
    have KP := KK.out.perm (L' := [(gx, 24, #[Value.bool a1, Value.int IntKind.i64 v, Value.int IntKind.i64 p, Value.int IntKind.i64 now, Value.slice A n c]), (gi, 40, #[Value.int IntKind.i64 T, Value.int IntKind.i64 V])]) (by simp)
    obtain ⟨v23, hv23, K5, B5, z5, P5⟩ := cst.putC (Value.bool a1) (Value.int IntKind.i64 v) (Value.int IntKind.i64 p) (Value.int IntKind.i64 T) (Value.slice A3 n3 c3) KP (by simp <;> omega) BB.out wg_gx
    replace HI := Lib.hid (P5 _ _ _ HI.out f_HI_gx)
    replace HA3 := Lib.hid (P5 _ _ _ HA3.out f_HA3_gx)
    replace KK := Lib.hid K5
    replace BB := Lib.hid B5
    rw [← z5] at sz
    clear K5 B5 P5 KP z5
    have R23 := KK.out.rules
    simp only [gro.Rules] at R23
    have hl3 := mem.PRead.len HA3.out
    have p3' : c3 ≤ 9223372036854775807 := p3
    replace HE1 := Lib.hid (HE1.out n3 hl3)
    have hn3 : (n3 : Int) ≤ p := by have := hly2.out; omega
    have hla : la.length ≤ 5 := by omega
    clear hle3 hly2
    go_wp2_with fail
    clear R21 R22 hv23
    clear R23
    by_cases hfu : p < (la.length : Int)
    case pos =>
      have HF := Lib.hid hfu
      clear hfu
      have C4 := Lib.hid (C3.out HF.out)
      clear C2 C3
      (refine gro.wp_region_heldA [1, 2, 4, 7] 6 9 _ (gro.lasts_bx _) (by kernel_rfl) (by kernel_rfl) (by intro _ _ _ _ _ h; exact h) (by kernel_rfl) (by kernel_rfl) (by kernel_rfl) (by kernel_rfl) (by kernel_rfl) (by decide) (KK.out).drew ?_; apply Exists.intro; refine ⟨fun w0 hb0 => ?_, ?_⟩; focus (have RZ := gro.Bx.rules hb0; simp only [gro.Rules] at RZ; simp only [gro.pickA, List.filterMap_cons, List.filterMap_nil, List.getElem?_toArray, List.getElem?_cons_succ, List.getElem?_cons_zero]; change wpQuiet _ _ _ _ (_ :: _ :: _ :: _ ::  []) _; (repeat (go_big_quiet_step ((fail)))); exact wpQuiet_nil rfl))
      have KX0 := KK.out.drew
      have BZ0 : Below v23.heap.size v23 v23.drew := (Below.refl _ _).drew
      refine gro.anyM_two 0 5 (by kernel_rfl) rfl rfl ?_ ?_
      · intro y1 hz1 K' hK'
        have BZ1 := BZ0.trans (hz1.mono BZ0.size)
        go_simp
        refine hK' _ _ ⟨fun _ => (KK.out.below BZ1).alloc _, ?_⟩
        clear hK' K'
        obtain ⟨z1, hy1⟩ : ∃ z, y1.alloc (.cells #[] 40) = z := ⟨_, rfl⟩
        have hA1 : Below y1.heap.size y1 z1 := by rw [← hy1]; exact (Below.refl _ _).alloc (Nat.le_refl _) _
        have BA1 := BZ1.trans (hA1.mono BZ1.size)
        have HV1 : z1.ownsRow v23.heap.size 40 2 (.slice (some ⟨y1.heap.size, 0, none⟩) 0 0) 0 [] := by rw [← hy1]; exact mem.own_empty2 rfl BZ1.size
        rw [hy1]
        clear hz1 hA1 hy1
        refine gro.anyM_two 3 5 (by kernel_rfl) rfl rfl ?_ ?_
        · intro y2 hz2 K' hK'
          have BZ2 := BA1.trans (hz2.mono BA1.size)
          have HU2 := mem.own_keep HV1 hz2
          refine mem.step_append_any _ (by rfl) (.tmp 46) (.tmp 48) 22 rfl v23.heap.size 40 i0 (.agg #[.int .i64 0, .int .i64 0]) 2 16 Try.underlying22 HIn.out HZ0.out HZ1.out HZ2.out rfl (by omega) (.slice (some ⟨y1.heap.size, 0, none⟩) 0 0) (0) ([]) (by rfl) HU2 _ A3 (n3) (c3) (mem.pc yq2) (by rfl) (mem.Reads.below (HA3.out) BZ2) (mem.pc_oneCell _) (by unfold maxLen; omega) (by omega) BZ2.size ?_
          intro v2 w2 hown2 hg2 hat2
          have BG2 := mem.below_own hg2 HU2 BZ2 (Nat.le_refl _) BZ2.size
          refine hK' _ _ ⟨fun _ => KK.out.below BG2, ?_⟩
          clear hK' K' hg2 hat2
          refine gro.anyM_one 5 (by kernel_rfl) rfl ?_
          intro y3 hz3 K' hK'
          have BZ3 := BG2.trans (hz3.mono BG2.size)
          have HU3 := mem.own_keep hown2 hz3
          go_simp
          refine hK' _ _ ⟨fun _ => (KK.out.below BZ3).alloc _, ?_⟩
          clear hK' K'
          obtain ⟨z3, hy3⟩ : ∃ z, y3.alloc (.cells #[Value.int IntKind.i64 T, Value.int IntKind.i64 V] 40) = z := ⟨_, rfl⟩
          have hA3 : Below y3.heap.size y3 z3 := by rw [← hy3]; exact (Below.refl _ _).alloc (Nat.le_refl _) _
          have BA3 := BZ3.trans (hA3.mono BZ3.size)
          have HV3 := mem.own_keep HU3 hA3
          have HF3 : mem.Reads z3 z3.heap.size 2 (some ⟨y3.heap.size, 0, none⟩) 1 [Value.int IntKind.i64 T, Value.int IntKind.i64 V] := by rw [← hy3]; exact mem.Reads.more (mem.reads_new y3 40 #[Value.int IntKind.i64 T, Value.int IntKind.i64 V] rfl) (by simp)
          have le3 : y3.heap.size + 1 ≤ z3.heap.size := by rw [← hy3]; simp
          have hd3 : some y3.heap.size ≠ (Value.ownBlock v2) := fun e => by have h1 := (World.ownsRow.lt HU3 _ e.symm).2; omega
          rw [hy3]
          clear hz3 hA3 hy3
          refine gro.anyM_one 6 (by kernel_rfl) rfl ?_
          intro y4 hz4 K' hK'
          have BZ4 := BA3.trans (hz4.mono BA3.size)
          have HU4 := mem.own_keep HV3 hz4
          have HE4 := (mem.Reads.below HF3 hz4).more hz4.size
          refine mem.step_append_any _ (by rfl) (.tmp 49) (.tmp 51) 22 rfl v23.heap.size 40 i0 (.agg #[.int .i64 0, .int .i64 0]) 2 16 Try.underlying22 HIn.out HZ0.out HZ1.out HZ2.out rfl (by omega) v2 (0 + (n3)) ([] ++ (mem.pc yq2)) (by rfl) HU4 _ _ (1) (1) _ (by rfl) HE4 (by simp [Value.oneCell']) (by unfold maxLen; omega) (by omega) BZ4.size ?_
          intro v4 w4 hown4 hg4 hat4
          have BG4 := mem.below_own hg4 HU4 BZ4 (Nat.le_refl _) BZ4.size
          refine hK' _ _ ⟨fun _ => KK.out.below BG4, ?_⟩
          clear hK' K' hg4 hat4
          refine gro.anyM_one 8 (by kernel_rfl) rfl ?_
          intro y5 hz5 K' hK'
          have BZ5 := BG4.trans (hz5.mono BG4.size)
          have HU5 := mem.own_keep hown4 hz5
          go_simp
          obtain ⟨A5, c5, rfl, e1, e2, e3⟩ := mem.own_form HU5
          have hpl : Hid (mem.PRead y5 y5.heap.size A5 (0 + (n3) + (1)) (yq2 ++ [(T, V)])) := by
            have h : mem.Reads y5 y5.heap.size 2 A5 (0 + (n3) + (1)) ([] ++ (mem.pc yq2) ++ [Value.int IntKind.i64 T, Value.int IntKind.i64 V]) := e3
            have e : [] ++ (mem.pc yq2) ++ [Value.int IntKind.i64 T, Value.int IntKind.i64 V] = mem.pc (yq2 ++ [(T, V)]) := by rw [mem.pc_append]; simp [mem.pc]
            rw [Hid, mem.PRead, ← e]
            exact h
          (refine (HK.out A5 (0 + (n3) + (1)) c5 (yq2 ++ [(T, V)]) _ hpl.out (by omega)).mono ?_)
          rintro e w5 ⟨A6, l6, c6, rfl, r1, ⟨r2, fr⟩, hr, hb⟩
          rw [show 0 + (n3) + (1) = n3 + 1 from by omega, HE1.out] at hr
          have BC5 := BZ5.trans (hb.mono BZ5.size)
          have fr6 : ∀ ad, A6 = some ad → v23.heap.size ≤ ad.block := fun ad h => Nat.le_trans BZ5.size (fr ad h)
          refine hK' _ _ ⟨fun _ => KK.out.below BC5, ?_⟩
          clear hK' K' hz5 e1 e2 e3 hpl
          refine gro.anyM_one 9 (by kernel_rfl) rfl ?_
          intro y6 hz6 K' hK'
          have BZ6 := BC5.trans (hz6.mono BC5.size)
          go_simp
          refine hK' _ _ ⟨fun h => absurd (show true = false from h) (by decide), ?_⟩
          clear hK' K'
          refine gro.anyM_done (by kernel_rfl) ?_
          intro y7 hz7
          have BF := BZ6.trans (hz7.mono BZ6.size)
          have HA6 := Lib.hid ((hr.below (hz6.trans (hz7.mono hz6.size))).more (hz6.trans (hz7.mono hz6.size)).size)
          replace KK := Lib.hid (KK.out.below BF)
          replace BB := Lib.hid (BB.out.trans (BF.mono BB.out.size))
          replace HA3 := Lib.hid ((HA3.out.below BF).more BF.size)
          replace HI := Lib.hid ((HI.out.below BF).more BF.size)
          have szW := sz
          replace sz := Nat.le_trans sz BF.size
          have f_HA6_gx : 0 < l6 → ∀ ad, A6 = some ad → ad.block ≠ gx := fun _ ad h => by have := fr6 ad h; omega
          have f_HA6_gi : 0 < l6 → ∀ ad, A6 = some ad → ad.block ≠ gi := fun _ ad h => by have := fr6 ad h; omega
          clear KX0 BF hr szW
          have hl6 := mem.PRead.len (xs := la) HA6.out
          have R80 := KK.out.rules
          simp only [gro.Rules] at R80
          go_wp2_with fail
          (refine (C4.out _ _ _ _ HA3.out q3 p3).mono ?_)
          rintro e v81 ⟨A7, n7, c7, rfl, q7, ⟨p7, fr⟩, hr, hb⟩
          replace BB := Lib.hid (BB.out.trans (hb.mono BB.out.size))
          replace KK := Lib.hid (KK.out.below hb)
          replace HA3 := Lib.hid ((HA3.out.below hb).more hb.size)
          replace HI := Lib.hid ((HI.out.below hb).more hb.size)
          replace HA6 := Lib.hid ((HA6.out.below hb).more hb.size)
          have HA7 := Lib.hid hr
          have f_HA7_gx : 0 < n7 → ∀ ad, A7 = some ad → ad.block ≠ gx := fun _ ad h => by have := fr ad h; omega
          have f_HA7_gi : 0 < n7 → ∀ ad, A7 = some ad → ad.block ≠ gi := fun _ ad h => by have := fr ad h; omega
          have fx7 : ∀ ad, A7 = some ad → gx < ad.block := fun ad h => by have := fr ad h; omega
          replace sz := Nat.le_trans sz hb.size
          clear hb hr fr
          have R81 := KK.out.rules
          simp only [gro.Rules] at R81
          have hfu := HF.out
          have g1 : p < (l6 : Int) := by omega
          have g2 : ¬ (l6 : Int) ≤ p := by omega
          clear hfu
          obtain ⟨gy, hs_gy⟩ : ∃ s, (v81).heap.size = s := ⟨_, rfl⟩
          have wg_gy : w.heap.size ≤ gy := by have := BB.out.size; omega
          go_wp2_with fail
          clear R80
          obtain ⟨v82, hv82, K5, B5, z5, P5⟩ := cst.newbox (24) #[Value.bool false, Value.int IntKind.i64 0, Value.int IntKind.i64 0, Value.int IntKind.i64 0, Value.slice A7 n7 c7] KK.out hs_gy BB.out BB.out.size
          rw [hv82]
          have o_gx_gy : gx < gy := by omega
          have o_gi_gy : gi < gy := by omega
          have f_HA3_gy := (P5 _ _ _ HA3.out).2
          replace HA3 := Lib.hid (P5 _ _ _ HA3.out).1
          have f_HI_gy := (P5 _ _ _ HI.out).2
          replace HI := Lib.hid (P5 _ _ _ HI.out).1
          have f_HA6_gy := (P5 _ _ _ HA6.out).2
          replace HA6 := Lib.hid (P5 _ _ _ HA6.out).1
          have f_HA7_gy := (P5 _ _ _ HA7.out).2
          replace HA7 := Lib.hid (P5 _ _ _ HA7.out).1
          replace KK := Lib.hid K5
          replace BB := Lib.hid B5
          replace sz : gy + 1 ≤ (v82).heap.size := by rw [z5]; exact Nat.le_refl _
          clear K5 B5 P5 z5 hv82 hs_gy
          have R82 := KK.out.rules
          simp only [gro.Rules] at R82
          go_wp2_with fail
          clear R81
          go_roundg (m - (i + 1))
          case measure => omega
          case rel => exact ⟨i + 1, A3, n3, c3, yq2, added, T, by go_num, rfl, hmes2, Nat.le_refl _, q3, p3, ha1, ha2, HN2.out, hn3, HR2.out, HA3.out, HI.out, Lib.hid fx3, KK.out.perm (by simp), BB.out, by omega⟩
        · intro y8 hz8 K' hK'
          have BZ8 := BA1.trans (hz8.mono BA1.size)
          have HU8 := mem.own_keep HV1 hz8
          go_simp
          refine hK' _ _ ⟨fun _ => (KK.out.below BZ8).alloc _, ?_⟩
          clear hK' K'
          obtain ⟨z8, hy8⟩ : ∃ z, y8.alloc (.cells #[Value.int IntKind.i64 T, Value.int IntKind.i64 V] 40) = z := ⟨_, rfl⟩
          have hA8 : Below y8.heap.size y8 z8 := by rw [← hy8]; exact (Below.refl _ _).alloc (Nat.le_refl _) _
          have BA8 := BZ8.trans (hA8.mono BZ8.size)
          have HV8 := mem.own_keep HU8 hA8
          have HF8 : mem.Reads z8 z8.heap.size 2 (some ⟨y8.heap.size, 0, none⟩) 1 [Value.int IntKind.i64 T, Value.int IntKind.i64 V] := by rw [← hy8]; exact mem.Reads.more (mem.reads_new y8 40 #[Value.int IntKind.i64 T, Value.int IntKind.i64 V] rfl) (by simp)
          have le8 : y8.heap.size + 1 ≤ z8.heap.size := by rw [← hy8]; simp
          have hd8 : some y8.heap.size ≠ (Value.ownBlock (.slice (some ⟨y1.heap.size, 0, none⟩) 0 0)) := fun e => by have h1 := (World.ownsRow.lt HU8 _ e.symm).2; omega
          rw [hy8]
          clear hz8 hA8 hy8
          refine gro.anyM_one 3 (by kernel_rfl) rfl ?_
          intro y9 hz9 K' hK'
          have BZ9 := BA8.trans (hz9.mono BA8.size)
          have HU9 := mem.own_keep HV8 hz9
          have HE9 := (mem.Reads.below HF8 hz9).more hz9.size
          refine mem.step_append_any _ (by rfl) (.tmp 46) (.tmp 48) 22 rfl v23.heap.size 40 i0 (.agg #[.int .i64 0, .int .i64 0]) 2 16 Try.underlying22 HIn.out HZ0.out HZ1.out HZ2.out rfl (by omega) (.slice (some ⟨y1.heap.size, 0, none⟩) 0 0) (0) ([]) (by rfl) HU9 _ A3 (n3) (c3) (mem.pc yq2) (by rfl) (mem.Reads.below (HA3.out) BZ9) (mem.pc_oneCell _) (by unfold maxLen; omega) (by omega) BZ9.size ?_
          intro v9 w9 hown9 hg9 hat9
          have BG9 := mem.below_own hg9 HU9 BZ9 (Nat.le_refl _) BZ9.size
          have HG9 := ext.Reads.app HE9 hg9 (fun _ ad e => by injection e with e; subst e; exact hd8)
          refine hK' _ _ ⟨fun _ => KK.out.below BG9, ?_⟩
          clear hK' K' hg9 hat9
          refine gro.anyM_one 6 (by kernel_rfl) rfl ?_
          intro y10 hz10 K' hK'
          have BZ10 := BG9.trans (hz10.mono BG9.size)
          have HU10 := mem.own_keep hown9 hz10
          have HE10 := (mem.Reads.below HG9 hz10).more hz10.size
          refine mem.step_append_any _ (by rfl) (.tmp 49) (.tmp 51) 22 rfl v23.heap.size 40 i0 (.agg #[.int .i64 0, .int .i64 0]) 2 16 Try.underlying22 HIn.out HZ0.out HZ1.out HZ2.out rfl (by omega) v9 (0 + (n3)) ([] ++ (mem.pc yq2)) (by rfl) HU10 _ _ (1) (1) _ (by rfl) HE10 (by simp [Value.oneCell']) (by unfold maxLen; omega) (by omega) BZ10.size ?_
          intro v10 w10 hown10 hg10 hat10
          have BG10 := mem.below_own hg10 HU10 BZ10 (Nat.le_refl _) BZ10.size
          refine hK' _ _ ⟨fun _ => KK.out.below BG10, ?_⟩
          clear hK' K' hg10 hat10
          refine gro.anyM_one 8 (by kernel_rfl) rfl ?_
          intro y11 hz11 K' hK'
          have BZ11 := BG10.trans (hz11.mono BG10.size)
          have HU11 := mem.own_keep hown10 hz11
          go_simp
          obtain ⟨A5, c5, rfl, e1, e2, e3⟩ := mem.own_form HU11
          have hpl : Hid (mem.PRead y11 y11.heap.size A5 (0 + (n3) + (1)) (yq2 ++ [(T, V)])) := by
            have h : mem.Reads y11 y11.heap.size 2 A5 (0 + (n3) + (1)) ([] ++ (mem.pc yq2) ++ [Value.int IntKind.i64 T, Value.int IntKind.i64 V]) := e3
            have e : [] ++ (mem.pc yq2) ++ [Value.int IntKind.i64 T, Value.int IntKind.i64 V] = mem.pc (yq2 ++ [(T, V)]) := by rw [mem.pc_append]; simp [mem.pc]
            rw [Hid, mem.PRead, ← e]
            exact h
          (refine (HK.out A5 (0 + (n3) + (1)) c5 (yq2 ++ [(T, V)]) _ hpl.out (by omega)).mono ?_)
          rintro e w11 ⟨A6, l6, c6, rfl, r1, ⟨r2, fr⟩, hr, hb⟩
          rw [show 0 + (n3) + (1) = n3 + 1 from by omega, HE1.out] at hr
          have BC11 := BZ11.trans (hb.mono BZ11.size)
          have fr6 : ∀ ad, A6 = some ad → v23.heap.size ≤ ad.block := fun ad h => Nat.le_trans BZ11.size (fr ad h)
          refine hK' _ _ ⟨fun _ => KK.out.below BC11, ?_⟩
          clear hK' K' hz11 e1 e2 e3 hpl
          refine gro.anyM_one 9 (by kernel_rfl) rfl ?_
          intro y12 hz12 K' hK'
          have BZ12 := BC11.trans (hz12.mono BC11.size)
          go_simp
          refine hK' _ _ ⟨fun h => absurd (show true = false from h) (by decide), ?_⟩
          clear hK' K'
          refine gro.anyM_done (by kernel_rfl) ?_
          intro y13 hz13
          have BF := BZ12.trans (hz13.mono BZ12.size)
          have HA6 := Lib.hid ((hr.below (hz12.trans (hz13.mono hz12.size))).more (hz12.trans (hz13.mono hz12.size)).size)
          replace KK := Lib.hid (KK.out.below BF)
          replace BB := Lib.hid (BB.out.trans (BF.mono BB.out.size))
          replace HA3 := Lib.hid ((HA3.out.below BF).more BF.size)
          replace HI := Lib.hid ((HI.out.below BF).more BF.size)
          have szW := sz
          replace sz := Nat.le_trans sz BF.size
          have f_HA6_gx : 0 < l6 → ∀ ad, A6 = some ad → ad.block ≠ gx := fun _ ad h => by have := fr6 ad h; omega
          have f_HA6_gi : 0 < l6 → ∀ ad, A6 = some ad → ad.block ≠ gi := fun _ ad h => by have := fr6 ad h; omega
          clear KX0 BF hr szW
          have hl6 := mem.PRead.len (xs := la) HA6.out
          have R80 := KK.out.rules
          simp only [gro.Rules] at R80
          go_wp2_with fail
          (refine (C4.out _ _ _ _ HA3.out q3 p3).mono ?_)
          rintro e v81 ⟨A7, n7, c7, rfl, q7, ⟨p7, fr⟩, hr, hb⟩
          replace BB := Lib.hid (BB.out.trans (hb.mono BB.out.size))
          replace KK := Lib.hid (KK.out.below hb)
          replace HA3 := Lib.hid ((HA3.out.below hb).more hb.size)
          replace HI := Lib.hid ((HI.out.below hb).more hb.size)
          replace HA6 := Lib.hid ((HA6.out.below hb).more hb.size)
          have HA7 := Lib.hid hr
          have f_HA7_gx : 0 < n7 → ∀ ad, A7 = some ad → ad.block ≠ gx := fun _ ad h => by have := fr ad h; omega
          have f_HA7_gi : 0 < n7 → ∀ ad, A7 = some ad → ad.block ≠ gi := fun _ ad h => by have := fr ad h; omega
          have fx7 : ∀ ad, A7 = some ad → gx < ad.block := fun ad h => by have := fr ad h; omega
          replace sz := Nat.le_trans sz hb.size
          clear hb hr fr
          have R81 := KK.out.rules
          simp only [gro.Rules] at R81
          have hfu := HF.out
          have g1 : p < (l6 : Int) := by omega
          have g2 : ¬ (l6 : Int) ≤ p := by omega
          clear hfu
          obtain ⟨gy, hs_gy⟩ : ∃ s, (v81).heap.size = s := ⟨_, rfl⟩
          have wg_gy : w.heap.size ≤ gy := by have := BB.out.size; omega
          go_wp2_with fail
          clear R80
          obtain ⟨v82, hv82, K5, B5, z5, P5⟩ := cst.newbox (24) #[Value.bool false, Value.int IntKind.i64 0, Value.int IntKind.i64 0, Value.int IntKind.i64 0, Value.slice A7 n7 c7] KK.out hs_gy BB.out BB.out.size
          rw [hv82]
          have o_gx_gy : gx < gy := by omega
          have o_gi_gy : gi < gy := by omega
          have f_HA3_gy := (P5 _ _ _ HA3.out).2
          replace HA3 := Lib.hid (P5 _ _ _ HA3.out).1
          have f_HI_gy := (P5 _ _ _ HI.out).2
          replace HI := Lib.hid (P5 _ _ _ HI.out).1
          have f_HA6_gy := (P5 _ _ _ HA6.out).2
          replace HA6 := Lib.hid (P5 _ _ _ HA6.out).1
          have f_HA7_gy := (P5 _ _ _ HA7.out).2
          replace HA7 := Lib.hid (P5 _ _ _ HA7.out).1
          replace KK := Lib.hid K5
          replace BB := Lib.hid B5
          replace sz : gy + 1 ≤ (v82).heap.size := by rw [z5]; exact Nat.le_refl _
          clear K5 B5 P5 z5 hv82 hs_gy
          have R82 := KK.out.rules
          simp only [gro.Rules] at R82
          go_wp2_with fail
          clear R81
          go_roundg (m - (i + 1))
          case measure => omega
          case rel => exact ⟨i + 1, A3, n3, c3, yq2, added, T, by go_num, rfl, hmes2, Nat.le_refl _, q3, p3, ha1, ha2, HN2.out, hn3, HR2.out, HA3.out, HI.out, Lib.hid fx3, KK.out.perm (by simp), BB.out, by omega⟩
      · intro y14 hz14 K' hK'
        have BZ14 := BZ0.trans (hz14.mono BZ0.size)
        go_simp
        refine hK' _ _ ⟨fun _ => (KK.out.below BZ14).alloc _, ?_⟩
        clear hK' K'
        obtain ⟨z14, hy14⟩ : ∃ z, y14.alloc (.cells #[Value.int IntKind.i64 T, Value.int IntKind.i64 V] 40) = z := ⟨_, rfl⟩
        have hA14 : Below y14.heap.size y14 z14 := by rw [← hy14]; exact (Below.refl _ _).alloc (Nat.le_refl _) _
        have BA14 := BZ14.trans (hA14.mono BZ14.size)
        have HF14 : mem.Reads z14 z14.heap.size 2 (some ⟨y14.heap.size, 0, none⟩) 1 [Value.int IntKind.i64 T, Value.int IntKind.i64 V] := by rw [← hy14]; exact mem.Reads.more (mem.reads_new y14 40 #[Value.int IntKind.i64 T, Value.int IntKind.i64 V] rfl) (by simp)
        have le14 : y14.heap.size + 1 ≤ z14.heap.size := by rw [← hy14]; simp
        rw [hy14]
        clear hz14 hA14 hy14
        refine gro.anyM_one 0 (by kernel_rfl) rfl ?_
        intro y15 hz15 K' hK'
        have BZ15 := BA14.trans (hz15.mono BA14.size)
        have HE15 := (mem.Reads.below HF14 hz15).more hz15.size
        go_simp
        refine hK' _ _ ⟨fun _ => (KK.out.below BZ15).alloc _, ?_⟩
        clear hK' K'
        obtain ⟨z15, hy15⟩ : ∃ z, y15.alloc (.cells #[] 40) = z := ⟨_, rfl⟩
        have hA15 : Below y15.heap.size y15 z15 := by rw [← hy15]; exact (Below.refl _ _).alloc (Nat.le_refl _) _
        have BA15 := BZ15.trans (hA15.mono BZ15.size)
        have HF15 := (mem.Reads.below HE15 hA15).more hA15.size
        have HV15 : z15.ownsRow v23.heap.size 40 2 (.slice (some ⟨y15.heap.size, 0, none⟩) 0 0) 0 [] := by rw [← hy15]; exact mem.own_empty2 rfl BZ15.size
        have hd15 : some y14.heap.size ≠ (Value.slice (some ⟨y15.heap.size, 0, none⟩) 0 0).ownBlock := fun e => by have h1 : y14.heap.size = y15.heap.size := Option.some.inj e; have h2 := le14; have h3 := hz15.size; omega
        rw [hy15]
        clear hA15 hy15
        refine gro.anyM_one 3 (by kernel_rfl) rfl ?_
        intro y16 hz16 K' hK'
        have BZ16 := BA15.trans (hz16.mono BA15.size)
        have HU16 := mem.own_keep HV15 hz16
        have HE16 := (mem.Reads.below HF15 hz16).more hz16.size
        refine mem.step_append_any _ (by rfl) (.tmp 46) (.tmp 48) 22 rfl v23.heap.size 40 i0 (.agg #[.int .i64 0, .int .i64 0]) 2 16 Try.underlying22 HIn.out HZ0.out HZ1.out HZ2.out rfl (by omega) (.slice (some ⟨y15.heap.size, 0, none⟩) 0 0) (0) ([]) (by rfl) HU16 _ A3 (n3) (c3) (mem.pc yq2) (by rfl) (mem.Reads.below (HA3.out) BZ16) (mem.pc_oneCell _) (by unfold maxLen; omega) (by omega) BZ16.size ?_
        intro v16 w16 hown16 hg16 hat16
        have BG16 := mem.below_own hg16 HU16 BZ16 (Nat.le_refl _) BZ16.size
        have HG16 := ext.Reads.app HE16 hg16 (fun _ ad e => by injection e with e; subst e; exact hd15)
        refine hK' _ _ ⟨fun _ => KK.out.below BG16, ?_⟩
        clear hK' K' hg16 hat16
        refine gro.anyM_one 6 (by kernel_rfl) rfl ?_
        intro y17 hz17 K' hK'
        have BZ17 := BG16.trans (hz17.mono BG16.size)
        have HU17 := mem.own_keep hown16 hz17
        have HE17 := (mem.Reads.below HG16 hz17).more hz17.size
        refine mem.step_append_any _ (by rfl) (.tmp 49) (.tmp 51) 22 rfl v23.heap.size 40 i0 (.agg #[.int .i64 0, .int .i64 0]) 2 16 Try.underlying22 HIn.out HZ0.out HZ1.out HZ2.out rfl (by omega) v16 (0 + (n3)) ([] ++ (mem.pc yq2)) (by rfl) HU17 _ _ (1) (1) _ (by rfl) HE17 (by simp [Value.oneCell']) (by unfold maxLen; omega) (by omega) BZ17.size ?_
        intro v17 w17 hown17 hg17 hat17
        have BG17 := mem.below_own hg17 HU17 BZ17 (Nat.le_refl _) BZ17.size
        refine hK' _ _ ⟨fun _ => KK.out.below BG17, ?_⟩
        clear hK' K' hg17 hat17
        refine gro.anyM_one 8 (by kernel_rfl) rfl ?_
        intro y18 hz18 K' hK'
        have BZ18 := BG17.trans (hz18.mono BG17.size)
        have HU18 := mem.own_keep hown17 hz18
        go_simp
        obtain ⟨A5, c5, rfl, e1, e2, e3⟩ := mem.own_form HU18
        have hpl : Hid (mem.PRead y18 y18.heap.size A5 (0 + (n3) + (1)) (yq2 ++ [(T, V)])) := by
          have h : mem.Reads y18 y18.heap.size 2 A5 (0 + (n3) + (1)) ([] ++ (mem.pc yq2) ++ [Value.int IntKind.i64 T, Value.int IntKind.i64 V]) := e3
          have e : [] ++ (mem.pc yq2) ++ [Value.int IntKind.i64 T, Value.int IntKind.i64 V] = mem.pc (yq2 ++ [(T, V)]) := by rw [mem.pc_append]; simp [mem.pc]
          rw [Hid, mem.PRead, ← e]
          exact h
        (refine (HK.out A5 (0 + (n3) + (1)) c5 (yq2 ++ [(T, V)]) _ hpl.out (by omega)).mono ?_)
        rintro e w18 ⟨A6, l6, c6, rfl, r1, ⟨r2, fr⟩, hr, hb⟩
        rw [show 0 + (n3) + (1) = n3 + 1 from by omega, HE1.out] at hr
        have BC18 := BZ18.trans (hb.mono BZ18.size)
        have fr6 : ∀ ad, A6 = some ad → v23.heap.size ≤ ad.block := fun ad h => Nat.le_trans BZ18.size (fr ad h)
        refine hK' _ _ ⟨fun _ => KK.out.below BC18, ?_⟩
        clear hK' K' hz18 e1 e2 e3 hpl
        refine gro.anyM_one 9 (by kernel_rfl) rfl ?_
        intro y19 hz19 K' hK'
        have BZ19 := BC18.trans (hz19.mono BC18.size)
        go_simp
        refine hK' _ _ ⟨fun h => absurd (show true = false from h) (by decide), ?_⟩
        clear hK' K'
        refine gro.anyM_done (by kernel_rfl) ?_
        intro y20 hz20
        have BF := BZ19.trans (hz20.mono BZ19.size)
        have HA6 := Lib.hid ((hr.below (hz19.trans (hz20.mono hz19.size))).more (hz19.trans (hz20.mono hz19.size)).size)
        replace KK := Lib.hid (KK.out.below BF)
        replace BB := Lib.hid (BB.out.trans (BF.mono BB.out.size))
        replace HA3 := Lib.hid ((HA3.out.below BF).more BF.size)
        replace HI := Lib.hid ((HI.out.below BF).more BF.size)
        have szW := sz
        replace sz := Nat.le_trans sz BF.size
        have f_HA6_gx : 0 < l6 → ∀ ad, A6 = some ad → ad.block ≠ gx := fun _ ad h => by have := fr6 ad h; omega
        have f_HA6_gi : 0 < l6 → ∀ ad, A6 = some ad → ad.block ≠ gi := fun _ ad h => by have := fr6 ad h; omega
        clear KX0 BF hr szW
        have hl6 := mem.PRead.len (xs := la) HA6.out
        have R80 := KK.out.rules
        simp only [gro.Rules] at R80
        go_wp2_with fail
        (refine (C4.out _ _ _ _ HA3.out q3 p3).mono ?_)
        rintro e v81 ⟨A7, n7, c7, rfl, q7, ⟨p7, fr⟩, hr, hb⟩
        replace BB := Lib.hid (BB.out.trans (hb.mono BB.out.size))
        replace KK := Lib.hid (KK.out.below hb)
        replace HA3 := Lib.hid ((HA3.out.below hb).more hb.size)
        replace HI := Lib.hid ((HI.out.below hb).more hb.size)
        replace HA6 := Lib.hid ((HA6.out.below hb).more hb.size)
        have HA7 := Lib.hid hr
        have f_HA7_gx : 0 < n7 → ∀ ad, A7 = some ad → ad.block ≠ gx := fun _ ad h => by have := fr ad h; omega
        have f_HA7_gi : 0 < n7 → ∀ ad, A7 = some ad → ad.block ≠ gi := fun _ ad h => by have := fr ad h; omega
        have fx7 : ∀ ad, A7 = some ad → gx < ad.block := fun ad h => by have := fr ad h; omega
        replace sz := Nat.le_trans sz hb.size
        clear hb hr fr
        have R81 := KK.out.rules
        simp only [gro.Rules] at R81
        have hfu := HF.out
        have g1 : p < (l6 : Int) := by omega
        have g2 : ¬ (l6 : Int) ≤ p := by omega
        clear hfu
        obtain ⟨gy, hs_gy⟩ : ∃ s, (v81).heap.size = s := ⟨_, rfl⟩
        have wg_gy : w.heap.size ≤ gy := by have := BB.out.size; omega
        go_wp2_with fail
        clear R80
        obtain ⟨v82, hv82, K5, B5, z5, P5⟩ := cst.newbox (24) #[Value.bool false, Value.int IntKind.i64 0, Value.int IntKind.i64 0, Value.int IntKind.i64 0, Value.slice A7 n7 c7] KK.out hs_gy BB.out BB.out.size
        rw [hv82]
        have o_gx_gy : gx < gy := by omega
        have o_gi_gy : gi < gy := by omega
        have f_HA3_gy := (P5 _ _ _ HA3.out).2
        replace HA3 := Lib.hid (P5 _ _ _ HA3.out).1
        have f_HI_gy := (P5 _ _ _ HI.out).2
        replace HI := Lib.hid (P5 _ _ _ HI.out).1
        have f_HA6_gy := (P5 _ _ _ HA6.out).2
        replace HA6 := Lib.hid (P5 _ _ _ HA6.out).1
        have f_HA7_gy := (P5 _ _ _ HA7.out).2
        replace HA7 := Lib.hid (P5 _ _ _ HA7.out).1
        replace KK := Lib.hid K5
        replace BB := Lib.hid B5
        replace sz : gy + 1 ≤ (v82).heap.size := by rw [z5]; exact Nat.le_refl _
        clear K5 B5 P5 z5 hv82 hs_gy
        have R82 := KK.out.rules
        simp only [gro.Rules] at R82
        go_wp2_with fail
        clear R81
        go_roundg (m - (i + 1))
        case measure => omega
        case rel => exact ⟨i + 1, A3, n3, c3, yq2, added, T, by go_num, rfl, hmes2, Nat.le_refl _, q3, p3, ha1, ha2, HN2.out, hn3, HR2.out, HA3.out, HI.out, Lib.hid fx3, KK.out.perm (by simp), BB.out, by omega⟩
    case neg =>
      have HF := Lib.hid hfu
      clear hfu
      have C4 := Lib.hid (C2.out (by have := HF.out; omega))
      clear C2 C3
      (refine gro.wp_region_heldA [1, 2, 4, 7] 6 9 _ (gro.lasts_bx _) (by kernel_rfl) (by kernel_rfl) (by intro _ _ _ _ _ h; exact h) (by kernel_rfl) (by kernel_rfl) (by kernel_rfl) (by kernel_rfl) (by kernel_rfl) (by decide) (KK.out).drew ?_; apply Exists.intro; refine ⟨fun w0 hb0 => ?_, ?_⟩; focus (have RZ := gro.Bx.rules hb0; simp only [gro.Rules] at RZ; simp only [gro.pickA, List.filterMap_cons, List.filterMap_nil, List.getElem?_toArray, List.getElem?_cons_succ, List.getElem?_cons_zero]; change wpQuiet _ _ _ _ (_ :: _ :: _ :: _ ::  []) _; (repeat (go_big_quiet_step ((fail)))); exact wpQuiet_nil rfl))
      have KX0 := KK.out.drew
      have BZ0 : Below v23.heap.size v23 v23.drew := (Below.refl _ _).drew
      refine gro.anyM_two 0 5 (by kernel_rfl) rfl rfl ?_ ?_
      · intro y1 hz1 K' hK'
        have BZ1 := BZ0.trans (hz1.mono BZ0.size)
        go_simp
        refine hK' _ _ ⟨fun _ => (KK.out.below BZ1).alloc _, ?_⟩
        clear hK' K'
        obtain ⟨z1, hy1⟩ : ∃ z, y1.alloc (.cells #[] 40) = z := ⟨_, rfl⟩
        have hA1 : Below y1.heap.size y1 z1 := by rw [← hy1]; exact (Below.refl _ _).alloc (Nat.le_refl _) _
        have BA1 := BZ1.trans (hA1.mono BZ1.size)
        have HV1 : z1.ownsRow v23.heap.size 40 2 (.slice (some ⟨y1.heap.size, 0, none⟩) 0 0) 0 [] := by rw [← hy1]; exact mem.own_empty2 rfl BZ1.size
        rw [hy1]
        clear hz1 hA1 hy1
        refine gro.anyM_two 3 5 (by kernel_rfl) rfl rfl ?_ ?_
        · intro y2 hz2 K' hK'
          have BZ2 := BA1.trans (hz2.mono BA1.size)
          have HU2 := mem.own_keep HV1 hz2
          refine mem.step_append_any _ (by rfl) (.tmp 46) (.tmp 48) 22 rfl v23.heap.size 40 i0 (.agg #[.int .i64 0, .int .i64 0]) 2 16 Try.underlying22 HIn.out HZ0.out HZ1.out HZ2.out rfl (by omega) (.slice (some ⟨y1.heap.size, 0, none⟩) 0 0) (0) ([]) (by rfl) HU2 _ A3 (n3) (c3) (mem.pc yq2) (by rfl) (mem.Reads.below (HA3.out) BZ2) (mem.pc_oneCell _) (by unfold maxLen; omega) (by omega) BZ2.size ?_
          intro v2 w2 hown2 hg2 hat2
          have BG2 := mem.below_own hg2 HU2 BZ2 (Nat.le_refl _) BZ2.size
          refine hK' _ _ ⟨fun _ => KK.out.below BG2, ?_⟩
          clear hK' K' hg2 hat2
          refine gro.anyM_one 5 (by kernel_rfl) rfl ?_
          intro y3 hz3 K' hK'
          have BZ3 := BG2.trans (hz3.mono BG2.size)
          have HU3 := mem.own_keep hown2 hz3
          go_simp
          refine hK' _ _ ⟨fun _ => (KK.out.below BZ3).alloc _, ?_⟩
          clear hK' K'
          obtain ⟨z3, hy3⟩ : ∃ z, y3.alloc (.cells #[Value.int IntKind.i64 T, Value.int IntKind.i64 V] 40) = z := ⟨_, rfl⟩
          have hA3 : Below y3.heap.size y3 z3 := by rw [← hy3]; exact (Below.refl _ _).alloc (Nat.le_refl _) _
          have BA3 := BZ3.trans (hA3.mono BZ3.size)
          have HV3 := mem.own_keep HU3 hA3
          have HF3 : mem.Reads z3 z3.heap.size 2 (some ⟨y3.heap.size, 0, none⟩) 1 [Value.int IntKind.i64 T, Value.int IntKind.i64 V] := by rw [← hy3]; exact mem.Reads.more (mem.reads_new y3 40 #[Value.int IntKind.i64 T, Value.int IntKind.i64 V] rfl) (by simp)
          have le3 : y3.heap.size + 1 ≤ z3.heap.size := by rw [← hy3]; simp
          have hd3 : some y3.heap.size ≠ (Value.ownBlock v2) := fun e => by have h1 := (World.ownsRow.lt HU3 _ e.symm).2; omega
          rw [hy3]
          clear hz3 hA3 hy3
          refine gro.anyM_one 6 (by kernel_rfl) rfl ?_
          intro y4 hz4 K' hK'
          have BZ4 := BA3.trans (hz4.mono BA3.size)
          have HU4 := mem.own_keep HV3 hz4
          have HE4 := (mem.Reads.below HF3 hz4).more hz4.size
          refine mem.step_append_any _ (by rfl) (.tmp 49) (.tmp 51) 22 rfl v23.heap.size 40 i0 (.agg #[.int .i64 0, .int .i64 0]) 2 16 Try.underlying22 HIn.out HZ0.out HZ1.out HZ2.out rfl (by omega) v2 (0 + (n3)) ([] ++ (mem.pc yq2)) (by rfl) HU4 _ _ (1) (1) _ (by rfl) HE4 (by simp [Value.oneCell']) (by unfold maxLen; omega) (by omega) BZ4.size ?_
          intro v4 w4 hown4 hg4 hat4
          have BG4 := mem.below_own hg4 HU4 BZ4 (Nat.le_refl _) BZ4.size
          refine hK' _ _ ⟨fun _ => KK.out.below BG4, ?_⟩
          clear hK' K' hg4 hat4
          refine gro.anyM_one 8 (by kernel_rfl) rfl ?_
          intro y5 hz5 K' hK'
          have BZ5 := BG4.trans (hz5.mono BG4.size)
          have HU5 := mem.own_keep hown4 hz5
          go_simp
          obtain ⟨A5, c5, rfl, e1, e2, e3⟩ := mem.own_form HU5
          have hpl : Hid (mem.PRead y5 y5.heap.size A5 (0 + (n3) + (1)) (yq2 ++ [(T, V)])) := by
            have h : mem.Reads y5 y5.heap.size 2 A5 (0 + (n3) + (1)) ([] ++ (mem.pc yq2) ++ [Value.int IntKind.i64 T, Value.int IntKind.i64 V]) := e3
            have e : [] ++ (mem.pc yq2) ++ [Value.int IntKind.i64 T, Value.int IntKind.i64 V] = mem.pc (yq2 ++ [(T, V)]) := by rw [mem.pc_append]; simp [mem.pc]
            rw [Hid, mem.PRead, ← e]
            exact h
          (refine (HK.out A5 (0 + (n3) + (1)) c5 (yq2 ++ [(T, V)]) _ hpl.out (by omega)).mono ?_)
          rintro e w5 ⟨A6, l6, c6, rfl, r1, ⟨r2, fr⟩, hr, hb⟩
          rw [show 0 + (n3) + (1) = n3 + 1 from by omega, HE1.out] at hr
          have BC5 := BZ5.trans (hb.mono BZ5.size)
          have fr6 : ∀ ad, A6 = some ad → v23.heap.size ≤ ad.block := fun ad h => Nat.le_trans BZ5.size (fr ad h)
          refine hK' _ _ ⟨fun _ => KK.out.below BC5, ?_⟩
          clear hK' K' hz5 e1 e2 e3 hpl
          refine gro.anyM_one 9 (by kernel_rfl) rfl ?_
          intro y6 hz6 K' hK'
          have BZ6 := BC5.trans (hz6.mono BC5.size)
          go_simp
          refine hK' _ _ ⟨fun h => absurd (show true = false from h) (by decide), ?_⟩
          clear hK' K'
          refine gro.anyM_done (by kernel_rfl) ?_
          intro y7 hz7
          have BF := BZ6.trans (hz7.mono BZ6.size)
          have HA6 := Lib.hid ((hr.below (hz6.trans (hz7.mono hz6.size))).more (hz6.trans (hz7.mono hz6.size)).size)
          replace KK := Lib.hid (KK.out.below BF)
          replace BB := Lib.hid (BB.out.trans (BF.mono BB.out.size))
          replace HA3 := Lib.hid ((HA3.out.below BF).more BF.size)
          replace HI := Lib.hid ((HI.out.below BF).more BF.size)
          have szW := sz
          replace sz := Nat.le_trans sz BF.size
          have f_HA6_gx : 0 < l6 → ∀ ad, A6 = some ad → ad.block ≠ gx := fun _ ad h => by have := fr6 ad h; omega
          have f_HA6_gi : 0 < l6 → ∀ ad, A6 = some ad → ad.block ≠ gi := fun _ ad h => by have := fr6 ad h; omega
          clear KX0 BF hr szW
          have hl6 := mem.PRead.len (xs := la) HA6.out
          have R80 := KK.out.rules
          simp only [gro.Rules] at R80
          go_wp2_with fail
          (refine (C4.out _ _ _ _ HA3.out q3 p3).mono ?_)
          rintro e v81 ⟨A7, n7, c7, rfl, q7, ⟨p7, fr⟩, hr, hb⟩
          replace BB := Lib.hid (BB.out.trans (hb.mono BB.out.size))
          replace KK := Lib.hid (KK.out.below hb)
          replace HA3 := Lib.hid ((HA3.out.below hb).more hb.size)
          replace HI := Lib.hid ((HI.out.below hb).more hb.size)
          replace HA6 := Lib.hid ((HA6.out.below hb).more hb.size)
          have HA7 := Lib.hid hr
          have f_HA7_gx : 0 < n7 → ∀ ad, A7 = some ad → ad.block ≠ gx := fun _ ad h => by have := fr ad h; omega
          have f_HA7_gi : 0 < n7 → ∀ ad, A7 = some ad → ad.block ≠ gi := fun _ ad h => by have := fr ad h; omega
          have fx7 : ∀ ad, A7 = some ad → gx < ad.block := fun ad h => by have := fr ad h; omega
          replace sz := Nat.le_trans sz hb.size
          clear hb hr fr
          have R81 := KK.out.rules
          simp only [gro.Rules] at R81
          have hfu := HF.out
          have g1 : ¬ p < (l6 : Int) := by omega
          have g2 : (l6 : Int) ≤ p := by omega
          have hl7 := mem.PRead.len HA7.out
          have hn7 : (n7 : Int) ≤ p := by omega
          clear hfu
          obtain ⟨gy, hs_gy⟩ : ∃ s, (v81).heap.size = s := ⟨_, rfl⟩
          have wg_gy : w.heap.size ≤ gy := by have := BB.out.size; omega
          go_wp2_with fail
          clear R80
          obtain ⟨v82, hv82, K5, B5, z5, P5⟩ := cst.newbox (24) #[Value.bool a1, Value.int IntKind.i64 v, Value.int IntKind.i64 p, Value.int IntKind.i64 T, Value.slice A7 n7 c7] KK.out hs_gy BB.out BB.out.size
          rw [hv82]
          have o_gx_gy : gx < gy := by omega
          have o_gi_gy : gi < gy := by omega
          have f_HA3_gy := (P5 _ _ _ HA3.out).2
          replace HA3 := Lib.hid (P5 _ _ _ HA3.out).1
          have f_HI_gy := (P5 _ _ _ HI.out).2
          replace HI := Lib.hid (P5 _ _ _ HI.out).1
          have f_HA6_gy := (P5 _ _ _ HA6.out).2
          replace HA6 := Lib.hid (P5 _ _ _ HA6.out).1
          have f_HA7_gy := (P5 _ _ _ HA7.out).2
          replace HA7 := Lib.hid (P5 _ _ _ HA7.out).1
          replace KK := Lib.hid K5
          replace BB := Lib.hid B5
          replace sz : gy + 1 ≤ (v82).heap.size := by rw [z5]; exact Nat.le_refl _
          clear K5 B5 P5 z5 hv82 hs_gy
          have R82 := KK.out.rules
          simp only [gro.Rules] at R82
          go_wp2_with fail
          clear R81
          (refine (C7.out _ _ _ _ _ _ _ _ HA7.out HA6.out (by omega)).mono ?_)
          rintro e v83 ⟨rfl, hb⟩
          replace BB := Lib.hid (BB.out.trans (hb.mono BB.out.size))
          replace KK := Lib.hid (KK.out.below hb)
          replace HA3 := Lib.hid ((HA3.out.below hb).more hb.size)
          replace HI := Lib.hid ((HI.out.below hb).more hb.size)
          replace HA6 := Lib.hid ((HA6.out.below hb).more hb.size)
          replace HA7 := Lib.hid ((HA7.out.below hb).more hb.size)
          replace sz := Nat.le_trans sz hb.size
          clear hb
          have R83 := KK.out.rules
          simp only [gro.Rules] at R83
          have KP := KK.out.perm (L' := [(gx, 24, #[Value.bool a1, Value.int IntKind.i64 v, Value.int IntKind.i64 p, Value.int IntKind.i64 T, Value.slice A3 n3 c3]), (gy, 24, #[Value.bool a1, Value.int IntKind.i64 v, Value.int IntKind.i64 p, Value.int IntKind.i64 T, Value.slice A7 n7 c7]), (gi, 40, #[Value.int IntKind.i64 T, Value.int IntKind.i64 V])]) (by simp)
          obtain ⟨v84, hv84, K5, B5, z5, P5⟩ := cst.putC (Value.bool a1) (Value.int IntKind.i64 v) (Value.int IntKind.i64 p) (Value.int IntKind.i64 T) (Value.slice A7 n7 c7) KP (by simp <;> omega) BB.out wg_gx
          replace HA3 := Lib.hid (P5 _ _ _ HA3.out f_HA3_gx)
          replace HI := Lib.hid (P5 _ _ _ HI.out f_HI_gx)
          replace HA6 := Lib.hid (P5 _ _ _ HA6.out f_HA6_gx)
          replace HA7 := Lib.hid (P5 _ _ _ HA7.out f_HA7_gx)
          replace KK := Lib.hid K5
          replace BB := Lib.hid B5
          rw [← z5] at sz
          clear K5 B5 P5 KP z5
          have R84 := KK.out.rules
          simp only [gro.Rules] at R84
          have hsz9 : gx + 1 ≤ (v84).heap.size := by omega
          go_wp2_with fail
          clear R82 R83 hv84
          go_roundg (m - (i + 1))
          case measure => omega
          case rel => exact ⟨i + 1, A7, n7, c7, la, added ++ [(T, V)], T, by go_num, rfl, hmes2, Nat.le_refl _, q7, p7, ha1, ha2, HN2.out, hn7, HR3.out, HA7.out, HI.out, Lib.hid fx7, KK.out.perm (by simp), BB.out, hsz9⟩
        · intro y8 hz8 K' hK'
          have BZ8 := BA1.trans (hz8.mono BA1.size)
          have HU8 := mem.own_keep HV1 hz8
          go_simp
          refine hK' _ _ ⟨fun _ => (KK.out.below BZ8).alloc _, ?_⟩
          clear hK' K'
          obtain ⟨z8, hy8⟩ : ∃ z, y8.alloc (.cells #[Value.int IntKind.i64 T, Value.int IntKind.i64 V] 40) = z := ⟨_, rfl⟩
          have hA8 : Below y8.heap.size y8 z8 := by rw [← hy8]; exact (Below.refl _ _).alloc (Nat.le_refl _) _
          have BA8 := BZ8.trans (hA8.mono BZ8.size)
          have HV8 := mem.own_keep HU8 hA8
          have HF8 : mem.Reads z8 z8.heap.size 2 (some ⟨y8.heap.size, 0, none⟩) 1 [Value.int IntKind.i64 T, Value.int IntKind.i64 V] := by rw [← hy8]; exact mem.Reads.more (mem.reads_new y8 40 #[Value.int IntKind.i64 T, Value.int IntKind.i64 V] rfl) (by simp)
          have le8 : y8.heap.size + 1 ≤ z8.heap.size := by rw [← hy8]; simp
          have hd8 : some y8.heap.size ≠ (Value.ownBlock (.slice (some ⟨y1.heap.size, 0, none⟩) 0 0)) := fun e => by have h1 := (World.ownsRow.lt HU8 _ e.symm).2; omega
          rw [hy8]
          clear hz8 hA8 hy8
          refine gro.anyM_one 3 (by kernel_rfl) rfl ?_
          intro y9 hz9 K' hK'
          have BZ9 := BA8.trans (hz9.mono BA8.size)
          have HU9 := mem.own_keep HV8 hz9
          have HE9 := (mem.Reads.below HF8 hz9).more hz9.size
          refine mem.step_append_any _ (by rfl) (.tmp 46) (.tmp 48) 22 rfl v23.heap.size 40 i0 (.agg #[.int .i64 0, .int .i64 0]) 2 16 Try.underlying22 HIn.out HZ0.out HZ1.out HZ2.out rfl (by omega) (.slice (some ⟨y1.heap.size, 0, none⟩) 0 0) (0) ([]) (by rfl) HU9 _ A3 (n3) (c3) (mem.pc yq2) (by rfl) (mem.Reads.below (HA3.out) BZ9) (mem.pc_oneCell _) (by unfold maxLen; omega) (by omega) BZ9.size ?_
          intro v9 w9 hown9 hg9 hat9
          have BG9 := mem.below_own hg9 HU9 BZ9 (Nat.le_refl _) BZ9.size
          have HG9 := ext.Reads.app HE9 hg9 (fun _ ad e => by injection e with e; subst e; exact hd8)
          refine hK' _ _ ⟨fun _ => KK.out.below BG9, ?_⟩
          clear hK' K' hg9 hat9
          refine gro.anyM_one 6 (by kernel_rfl) rfl ?_
          intro y10 hz10 K' hK'
          have BZ10 := BG9.trans (hz10.mono BG9.size)
          have HU10 := mem.own_keep hown9 hz10
          have HE10 := (mem.Reads.below HG9 hz10).more hz10.size
          refine mem.step_append_any _ (by rfl) (.tmp 49) (.tmp 51) 22 rfl v23.heap.size 40 i0 (.agg #[.int .i64 0, .int .i64 0]) 2 16 Try.underlying22 HIn.out HZ0.out HZ1.out HZ2.out rfl (by omega) v9 (0 + (n3)) ([] ++ (mem.pc yq2)) (by rfl) HU10 _ _ (1) (1) _ (by rfl) HE10 (by simp [Value.oneCell']) (by unfold maxLen; omega) (by omega) BZ10.size ?_
          intro v10 w10 hown10 hg10 hat10
          have BG10 := mem.below_own hg10 HU10 BZ10 (Nat.le_refl _) BZ10.size
          refine hK' _ _ ⟨fun _ => KK.out.below BG10, ?_⟩
          clear hK' K' hg10 hat10
          refine gro.anyM_one 8 (by kernel_rfl) rfl ?_
          intro y11 hz11 K' hK'
          have BZ11 := BG10.trans (hz11.mono BG10.size)
          have HU11 := mem.own_keep hown10 hz11
          go_simp
          obtain ⟨A5, c5, rfl, e1, e2, e3⟩ := mem.own_form HU11
          have hpl : Hid (mem.PRead y11 y11.heap.size A5 (0 + (n3) + (1)) (yq2 ++ [(T, V)])) := by
            have h : mem.Reads y11 y11.heap.size 2 A5 (0 + (n3) + (1)) ([] ++ (mem.pc yq2) ++ [Value.int IntKind.i64 T, Value.int IntKind.i64 V]) := e3
            have e : [] ++ (mem.pc yq2) ++ [Value.int IntKind.i64 T, Value.int IntKind.i64 V] = mem.pc (yq2 ++ [(T, V)]) := by rw [mem.pc_append]; simp [mem.pc]
            rw [Hid, mem.PRead, ← e]
            exact h
          (refine (HK.out A5 (0 + (n3) + (1)) c5 (yq2 ++ [(T, V)]) _ hpl.out (by omega)).mono ?_)
          rintro e w11 ⟨A6, l6, c6, rfl, r1, ⟨r2, fr⟩, hr, hb⟩
          rw [show 0 + (n3) + (1) = n3 + 1 from by omega, HE1.out] at hr
          have BC11 := BZ11.trans (hb.mono BZ11.size)
          have fr6 : ∀ ad, A6 = some ad → v23.heap.size ≤ ad.block := fun ad h => Nat.le_trans BZ11.size (fr ad h)
          refine hK' _ _ ⟨fun _ => KK.out.below BC11, ?_⟩
          clear hK' K' hz11 e1 e2 e3 hpl
          refine gro.anyM_one 9 (by kernel_rfl) rfl ?_
          intro y12 hz12 K' hK'
          have BZ12 := BC11.trans (hz12.mono BC11.size)
          go_simp
          refine hK' _ _ ⟨fun h => absurd (show true = false from h) (by decide), ?_⟩
          clear hK' K'
          refine gro.anyM_done (by kernel_rfl) ?_
          intro y13 hz13
          have BF := BZ12.trans (hz13.mono BZ12.size)
          have HA6 := Lib.hid ((hr.below (hz12.trans (hz13.mono hz12.size))).more (hz12.trans (hz13.mono hz12.size)).size)
          replace KK := Lib.hid (KK.out.below BF)
          replace BB := Lib.hid (BB.out.trans (BF.mono BB.out.size))
          replace HA3 := Lib.hid ((HA3.out.below BF).more BF.size)
          replace HI := Lib.hid ((HI.out.below BF).more BF.size)
          have szW := sz
          replace sz := Nat.le_trans sz BF.size
          have f_HA6_gx : 0 < l6 → ∀ ad, A6 = some ad → ad.block ≠ gx := fun _ ad h => by have := fr6 ad h; omega
          have f_HA6_gi : 0 < l6 → ∀ ad, A6 = some ad → ad.block ≠ gi := fun _ ad h => by have := fr6 ad h; omega
          clear KX0 BF hr szW
          have hl6 := mem.PRead.len (xs := la) HA6.out
          have R80 := KK.out.rules
          simp only [gro.Rules] at R80
          go_wp2_with fail
          (refine (C4.out _ _ _ _ HA3.out q3 p3).mono ?_)
          rintro e v81 ⟨A7, n7, c7, rfl, q7, ⟨p7, fr⟩, hr, hb⟩
          replace BB := Lib.hid (BB.out.trans (hb.mono BB.out.size))
          replace KK := Lib.hid (KK.out.below hb)
          replace HA3 := Lib.hid ((HA3.out.below hb).more hb.size)
          replace HI := Lib.hid ((HI.out.below hb).more hb.size)
          replace HA6 := Lib.hid ((HA6.out.below hb).more hb.size)
          have HA7 := Lib.hid hr
          have f_HA7_gx : 0 < n7 → ∀ ad, A7 = some ad → ad.block ≠ gx := fun _ ad h => by have := fr ad h; omega
          have f_HA7_gi : 0 < n7 → ∀ ad, A7 = some ad → ad.block ≠ gi := fun _ ad h => by have := fr ad h; omega
          have fx7 : ∀ ad, A7 = some ad → gx < ad.block := fun ad h => by have := fr ad h; omega
          replace sz := Nat.le_trans sz hb.size
          clear hb hr fr
          have R81 := KK.out.rules
          simp only [gro.Rules] at R81
          have hfu := HF.out
          have g1 : ¬ p < (l6 : Int) := by omega
          have g2 : (l6 : Int) ≤ p := by omega
          have hl7 := mem.PRead.len HA7.out
          have hn7 : (n7 : Int) ≤ p := by omega
          clear hfu
          obtain ⟨gy, hs_gy⟩ : ∃ s, (v81).heap.size = s := ⟨_, rfl⟩
          have wg_gy : w.heap.size ≤ gy := by have := BB.out.size; omega
          go_wp2_with fail
          clear R80
          obtain ⟨v82, hv82, K5, B5, z5, P5⟩ := cst.newbox (24) #[Value.bool a1, Value.int IntKind.i64 v, Value.int IntKind.i64 p, Value.int IntKind.i64 T, Value.slice A7 n7 c7] KK.out hs_gy BB.out BB.out.size
          rw [hv82]
          have o_gx_gy : gx < gy := by omega
          have o_gi_gy : gi < gy := by omega
          have f_HA3_gy := (P5 _ _ _ HA3.out).2
          replace HA3 := Lib.hid (P5 _ _ _ HA3.out).1
          have f_HI_gy := (P5 _ _ _ HI.out).2
          replace HI := Lib.hid (P5 _ _ _ HI.out).1
          have f_HA6_gy := (P5 _ _ _ HA6.out).2
          replace HA6 := Lib.hid (P5 _ _ _ HA6.out).1
          have f_HA7_gy := (P5 _ _ _ HA7.out).2
          replace HA7 := Lib.hid (P5 _ _ _ HA7.out).1
          replace KK := Lib.hid K5
          replace BB := Lib.hid B5
          replace sz : gy + 1 ≤ (v82).heap.size := by rw [z5]; exact Nat.le_refl _
          clear K5 B5 P5 z5 hv82 hs_gy
          have R82 := KK.out.rules
          simp only [gro.Rules] at R82
          go_wp2_with fail
          clear R81
          (refine (C7.out _ _ _ _ _ _ _ _ HA7.out HA6.out (by omega)).mono ?_)
          rintro e v83 ⟨rfl, hb⟩
          replace BB := Lib.hid (BB.out.trans (hb.mono BB.out.size))
          replace KK := Lib.hid (KK.out.below hb)
          replace HA3 := Lib.hid ((HA3.out.below hb).more hb.size)
          replace HI := Lib.hid ((HI.out.below hb).more hb.size)
          replace HA6 := Lib.hid ((HA6.out.below hb).more hb.size)
          replace HA7 := Lib.hid ((HA7.out.below hb).more hb.size)
          replace sz := Nat.le_trans sz hb.size
          clear hb
          have R83 := KK.out.rules
          simp only [gro.Rules] at R83
          have KP := KK.out.perm (L' := [(gx, 24, #[Value.bool a1, Value.int IntKind.i64 v, Value.int IntKind.i64 p, Value.int IntKind.i64 T, Value.slice A3 n3 c3]), (gy, 24, #[Value.bool a1, Value.int IntKind.i64 v, Value.int IntKind.i64 p, Value.int IntKind.i64 T, Value.slice A7 n7 c7]), (gi, 40, #[Value.int IntKind.i64 T, Value.int IntKind.i64 V])]) (by simp)
          obtain ⟨v84, hv84, K5, B5, z5, P5⟩ := cst.putC (Value.bool a1) (Value.int IntKind.i64 v) (Value.int IntKind.i64 p) (Value.int IntKind.i64 T) (Value.slice A7 n7 c7) KP (by simp <;> omega) BB.out wg_gx
          replace HA3 := Lib.hid (P5 _ _ _ HA3.out f_HA3_gx)
          replace HI := Lib.hid (P5 _ _ _ HI.out f_HI_gx)
          replace HA6 := Lib.hid (P5 _ _ _ HA6.out f_HA6_gx)
          replace HA7 := Lib.hid (P5 _ _ _ HA7.out f_HA7_gx)
          replace KK := Lib.hid K5
          replace BB := Lib.hid B5
          rw [← z5] at sz
          clear K5 B5 P5 KP z5
          have R84 := KK.out.rules
          simp only [gro.Rules] at R84
          have hsz9 : gx + 1 ≤ (v84).heap.size := by omega
          go_wp2_with fail
          clear R82 R83 hv84
          go_roundg (m - (i + 1))
          case measure => omega
          case rel => exact ⟨i + 1, A7, n7, c7, la, added ++ [(T, V)], T, by go_num, rfl, hmes2, Nat.le_refl _, q7, p7, ha1, ha2, HN2.out, hn7, HR3.out, HA7.out, HI.out, Lib.hid fx7, KK.out.perm (by simp), BB.out, hsz9⟩
      · intro y14 hz14 K' hK'
        have BZ14 := BZ0.trans (hz14.mono BZ0.size)
        go_simp
        refine hK' _ _ ⟨fun _ => (KK.out.below BZ14).alloc _, ?_⟩
        clear hK' K'
        obtain ⟨z14, hy14⟩ : ∃ z, y14.alloc (.cells #[Value.int IntKind.i64 T, Value.int IntKind.i64 V] 40) = z := ⟨_, rfl⟩
        have hA14 : Below y14.heap.size y14 z14 := by rw [← hy14]; exact (Below.refl _ _).alloc (Nat.le_refl _) _
        have BA14 := BZ14.trans (hA14.mono BZ14.size)
        have HF14 : mem.Reads z14 z14.heap.size 2 (some ⟨y14.heap.size, 0, none⟩) 1 [Value.int IntKind.i64 T, Value.int IntKind.i64 V] := by rw [← hy14]; exact mem.Reads.more (mem.reads_new y14 40 #[Value.int IntKind.i64 T, Value.int IntKind.i64 V] rfl) (by simp)
        have le14 : y14.heap.size + 1 ≤ z14.heap.size := by rw [← hy14]; simp
        rw [hy14]
        clear hz14 hA14 hy14
        refine gro.anyM_one 0 (by kernel_rfl) rfl ?_
        intro y15 hz15 K' hK'
        have BZ15 := BA14.trans (hz15.mono BA14.size)
        have HE15 := (mem.Reads.below HF14 hz15).more hz15.size
        go_simp
        refine hK' _ _ ⟨fun _ => (KK.out.below BZ15).alloc _, ?_⟩
        clear hK' K'
        obtain ⟨z15, hy15⟩ : ∃ z, y15.alloc (.cells #[] 40) = z := ⟨_, rfl⟩
        have hA15 : Below y15.heap.size y15 z15 := by rw [← hy15]; exact (Below.refl _ _).alloc (Nat.le_refl _) _
        have BA15 := BZ15.trans (hA15.mono BZ15.size)
        have HF15 := (mem.Reads.below HE15 hA15).more hA15.size
        have HV15 : z15.ownsRow v23.heap.size 40 2 (.slice (some ⟨y15.heap.size, 0, none⟩) 0 0) 0 [] := by rw [← hy15]; exact mem.own_empty2 rfl BZ15.size
        have hd15 : some y14.heap.size ≠ (Value.slice (some ⟨y15.heap.size, 0, none⟩) 0 0).ownBlock := fun e => by have h1 : y14.heap.size = y15.heap.size := Option.some.inj e; have h2 := le14; have h3 := hz15.size; omega
        rw [hy15]
        clear hA15 hy15
        refine gro.anyM_one 3 (by kernel_rfl) rfl ?_
        intro y16 hz16 K' hK'
        have BZ16 := BA15.trans (hz16.mono BA15.size)
        have HU16 := mem.own_keep HV15 hz16
        have HE16 := (mem.Reads.below HF15 hz16).more hz16.size
        refine mem.step_append_any _ (by rfl) (.tmp 46) (.tmp 48) 22 rfl v23.heap.size 40 i0 (.agg #[.int .i64 0, .int .i64 0]) 2 16 Try.underlying22 HIn.out HZ0.out HZ1.out HZ2.out rfl (by omega) (.slice (some ⟨y15.heap.size, 0, none⟩) 0 0) (0) ([]) (by rfl) HU16 _ A3 (n3) (c3) (mem.pc yq2) (by rfl) (mem.Reads.below (HA3.out) BZ16) (mem.pc_oneCell _) (by unfold maxLen; omega) (by omega) BZ16.size ?_
        intro v16 w16 hown16 hg16 hat16
        have BG16 := mem.below_own hg16 HU16 BZ16 (Nat.le_refl _) BZ16.size
        have HG16 := ext.Reads.app HE16 hg16 (fun _ ad e => by injection e with e; subst e; exact hd15)
        refine hK' _ _ ⟨fun _ => KK.out.below BG16, ?_⟩
        clear hK' K' hg16 hat16
        refine gro.anyM_one 6 (by kernel_rfl) rfl ?_
        intro y17 hz17 K' hK'
        have BZ17 := BG16.trans (hz17.mono BG16.size)
        have HU17 := mem.own_keep hown16 hz17
        have HE17 := (mem.Reads.below HG16 hz17).more hz17.size
        refine mem.step_append_any _ (by rfl) (.tmp 49) (.tmp 51) 22 rfl v23.heap.size 40 i0 (.agg #[.int .i64 0, .int .i64 0]) 2 16 Try.underlying22 HIn.out HZ0.out HZ1.out HZ2.out rfl (by omega) v16 (0 + (n3)) ([] ++ (mem.pc yq2)) (by rfl) HU17 _ _ (1) (1) _ (by rfl) HE17 (by simp [Value.oneCell']) (by unfold maxLen; omega) (by omega) BZ17.size ?_
        intro v17 w17 hown17 hg17 hat17
        have BG17 := mem.below_own hg17 HU17 BZ17 (Nat.le_refl _) BZ17.size
        refine hK' _ _ ⟨fun _ => KK.out.below BG17, ?_⟩
        clear hK' K' hg17 hat17
        refine gro.anyM_one 8 (by kernel_rfl) rfl ?_
        intro y18 hz18 K' hK'
        have BZ18 := BG17.trans (hz18.mono BG17.size)
        have HU18 := mem.own_keep hown17 hz18
        go_simp
        obtain ⟨A5, c5, rfl, e1, e2, e3⟩ := mem.own_form HU18
        have hpl : Hid (mem.PRead y18 y18.heap.size A5 (0 + (n3) + (1)) (yq2 ++ [(T, V)])) := by
          have h : mem.Reads y18 y18.heap.size 2 A5 (0 + (n3) + (1)) ([] ++ (mem.pc yq2) ++ [Value.int IntKind.i64 T, Value.int IntKind.i64 V]) := e3
          have e : [] ++ (mem.pc yq2) ++ [Value.int IntKind.i64 T, Value.int IntKind.i64 V] = mem.pc (yq2 ++ [(T, V)]) := by rw [mem.pc_append]; simp [mem.pc]
          rw [Hid, mem.PRead, ← e]
          exact h
        (refine (HK.out A5 (0 + (n3) + (1)) c5 (yq2 ++ [(T, V)]) _ hpl.out (by omega)).mono ?_)
        rintro e w18 ⟨A6, l6, c6, rfl, r1, ⟨r2, fr⟩, hr, hb⟩
        rw [show 0 + (n3) + (1) = n3 + 1 from by omega, HE1.out] at hr
        have BC18 := BZ18.trans (hb.mono BZ18.size)
        have fr6 : ∀ ad, A6 = some ad → v23.heap.size ≤ ad.block := fun ad h => Nat.le_trans BZ18.size (fr ad h)
        refine hK' _ _ ⟨fun _ => KK.out.below BC18, ?_⟩
        clear hK' K' hz18 e1 e2 e3 hpl
        refine gro.anyM_one 9 (by kernel_rfl) rfl ?_
        intro y19 hz19 K' hK'
        have BZ19 := BC18.trans (hz19.mono BC18.size)
        go_simp
        refine hK' _ _ ⟨fun h => absurd (show true = false from h) (by decide), ?_⟩
        clear hK' K'
        refine gro.anyM_done (by kernel_rfl) ?_
        intro y20 hz20
        have BF := BZ19.trans (hz20.mono BZ19.size)
        have HA6 := Lib.hid ((hr.below (hz19.trans (hz20.mono hz19.size))).more (hz19.trans (hz20.mono hz19.size)).size)
        replace KK := Lib.hid (KK.out.below BF)
        replace BB := Lib.hid (BB.out.trans (BF.mono BB.out.size))
        replace HA3 := Lib.hid ((HA3.out.below BF).more BF.size)
        replace HI := Lib.hid ((HI.out.below BF).more BF.size)
        have szW := sz
        replace sz := Nat.le_trans sz BF.size
        have f_HA6_gx : 0 < l6 → ∀ ad, A6 = some ad → ad.block ≠ gx := fun _ ad h => by have := fr6 ad h; omega
        have f_HA6_gi : 0 < l6 → ∀ ad, A6 = some ad → ad.block ≠ gi := fun _ ad h => by have := fr6 ad h; omega
        clear KX0 BF hr szW
        have hl6 := mem.PRead.len (xs := la) HA6.out
        have R80 := KK.out.rules
        simp only [gro.Rules] at R80
        go_wp2_with fail
        (refine (C4.out _ _ _ _ HA3.out q3 p3).mono ?_)
        rintro e v81 ⟨A7, n7, c7, rfl, q7, ⟨p7, fr⟩, hr, hb⟩
        replace BB := Lib.hid (BB.out.trans (hb.mono BB.out.size))
        replace KK := Lib.hid (KK.out.below hb)
        replace HA3 := Lib.hid ((HA3.out.below hb).more hb.size)
        replace HI := Lib.hid ((HI.out.below hb).more hb.size)
        replace HA6 := Lib.hid ((HA6.out.below hb).more hb.size)
        have HA7 := Lib.hid hr
        have f_HA7_gx : 0 < n7 → ∀ ad, A7 = some ad → ad.block ≠ gx := fun _ ad h => by have := fr ad h; omega
        have f_HA7_gi : 0 < n7 → ∀ ad, A7 = some ad → ad.block ≠ gi := fun _ ad h => by have := fr ad h; omega
        have fx7 : ∀ ad, A7 = some ad → gx < ad.block := fun ad h => by have := fr ad h; omega
        replace sz := Nat.le_trans sz hb.size
        clear hb hr fr
        have R81 := KK.out.rules
        simp only [gro.Rules] at R81
        have hfu := HF.out
        have g1 : ¬ p < (l6 : Int) := by omega
        have g2 : (l6 : Int) ≤ p := by omega
        have hl7 := mem.PRead.len HA7.out
        have hn7 : (n7 : Int) ≤ p := by omega
        clear hfu
        obtain ⟨gy, hs_gy⟩ : ∃ s, (v81).heap.size = s := ⟨_, rfl⟩
        have wg_gy : w.heap.size ≤ gy := by have := BB.out.size; omega
        go_wp2_with fail
        clear R80
        obtain ⟨v82, hv82, K5, B5, z5, P5⟩ := cst.newbox (24) #[Value.bool a1, Value.int IntKind.i64 v, Value.int IntKind.i64 p, Value.int IntKind.i64 T, Value.slice A7 n7 c7] KK.out hs_gy BB.out BB.out.size
        rw [hv82]
        have o_gx_gy : gx < gy := by omega
        have o_gi_gy : gi < gy := by omega
        have f_HA3_gy := (P5 _ _ _ HA3.out).2
        replace HA3 := Lib.hid (P5 _ _ _ HA3.out).1
        have f_HI_gy := (P5 _ _ _ HI.out).2
        replace HI := Lib.hid (P5 _ _ _ HI.out).1
        have f_HA6_gy := (P5 _ _ _ HA6.out).2
        replace HA6 := Lib.hid (P5 _ _ _ HA6.out).1
        have f_HA7_gy := (P5 _ _ _ HA7.out).2
        replace HA7 := Lib.hid (P5 _ _ _ HA7.out).1
        replace KK := Lib.hid K5
        replace BB := Lib.hid B5
        replace sz : gy + 1 ≤ (v82).heap.size := by rw [z5]; exact Nat.le_refl _
        clear K5 B5 P5 z5 hv82 hs_gy
        have R82 := KK.out.rules
        simp only [gro.Rules] at R82
        go_wp2_with fail
        clear R81
        (refine (C7.out _ _ _ _ _ _ _ _ HA7.out HA6.out (by omega)).mono ?_)
        rintro e v83 ⟨rfl, hb⟩
        replace BB := Lib.hid (BB.out.trans (hb.mono BB.out.size))
        replace KK := Lib.hid (KK.out.below hb)
        replace HA3 := Lib.hid ((HA3.out.below hb).more hb.size)
        replace HI := Lib.hid ((HI.out.below hb).more hb.size)
        replace HA6 := Lib.hid ((HA6.out.below hb).more hb.size)
        replace HA7 := Lib.hid ((HA7.out.below hb).more hb.size)
        replace sz := Nat.le_trans sz hb.size
        clear hb
        have R83 := KK.out.rules
        simp only [gro.Rules] at R83
        have KP := KK.out.perm (L' := [(gx, 24, #[Value.bool a1, Value.int IntKind.i64 v, Value.int IntKind.i64 p, Value.int IntKind.i64 T, Value.slice A3 n3 c3]), (gy, 24, #[Value.bool a1, Value.int IntKind.i64 v, Value.int IntKind.i64 p, Value.int IntKind.i64 T, Value.slice A7 n7 c7]), (gi, 40, #[Value.int IntKind.i64 T, Value.int IntKind.i64 V])]) (by simp)
        obtain ⟨v84, hv84, K5, B5, z5, P5⟩ := cst.putC (Value.bool a1) (Value.int IntKind.i64 v) (Value.int IntKind.i64 p) (Value.int IntKind.i64 T) (Value.slice A7 n7 c7) KP (by simp <;> omega) BB.out wg_gx
        replace HA3 := Lib.hid (P5 _ _ _ HA3.out f_HA3_gx)
        replace HI := Lib.hid (P5 _ _ _ HI.out f_HI_gx)
        replace HA6 := Lib.hid (P5 _ _ _ HA6.out f_HA6_gx)
        replace HA7 := Lib.hid (P5 _ _ _ HA7.out f_HA7_gx)
        replace KK := Lib.hid K5
        replace BB := Lib.hid B5
        rw [← z5] at sz
        clear K5 B5 P5 KP z5
        have R84 := KK.out.rules
        simp only [gro.Rules] at R84
        have hsz9 : gx + 1 ≤ (v84).heap.size := by omega
        go_wp2_with fail
        clear R82 R83 hv84
        go_roundg (m - (i + 1))
        case measure => omega
        case rel => exact ⟨i + 1, A7, n7, c7, la, added ++ [(T, V)], T, by go_num, rfl, hmes2, Nat.le_refl _, q7, p7, ha1, ha2, HN2.out, hn7, HR3.out, HA7.out, HI.out, Lib.hid fx7, KK.out.perm (by simp), BB.out, hsz9⟩
end Go.Proofs.Yteajgmihhnghfaa.extremeFull
