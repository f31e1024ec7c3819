/- The walk of the law ExtremeBoth: it returns true and leaves what was there. -/
import Derived.Test.YteajgmihhnghfaaRows
import Derived.Test.YteajgmihhnghfaaOpen
import Derived.Test.YteajgmihhnghfaaExtS
import Derived.Test.YteajgmihhnghfaaExtH
import Derived.Test.YteajgmihhnghfaaExtR
import Derived.Test.YteajgmihhnghfaaPutB
import Derived.Test.YteajgmihhnghfaaLiveO
import Derived.Test.YteajgmihhnghfaaItems
import Derived.Test.YteajgmihhnghfaaItemsP
import Derived.Test.YteajgmihhnghfaaAwake17
import Derived.Test.YteajgmihhnghfaaSteady3
import Derived.Test.YteajgmihhnghfaaSteady4
import Derived.Test.YteajgmihhnghfaaOpenC
import Derived.WalkKit
import Derived.ProofKit
import Derived.OpenShut
import Derived.ShutString
namespace Go.Proofs.Yteajgmihhnghfaa.extremeBoth
open Go.ChangeShapes Go.WideShapes Go.ChangeAt Go.RowKit
open Go.ChangeMaps (open_string shut_string)
set_option linter.unusedVariables false

set_option maxHeartbeats 4000000 in
set_option maxRecDepth 100000 in
theorem walk (A0 : Option Addr) (n0 c0 : Nat) (z0 : List (Int × Int)) (A1 : Option Addr) (n1 c1 : Nat) (z1 : List (Int × Int)) (a2 : Bool) (a3 : Int) (w : World) (iw0 : mem.PRead w w.heap.size A0 n0 z0) (e0 : n0 ≤ c0) (m0 : c0 ≤ maxLen) (r0 : ∀ p ∈ z0, opn.Rng p.1 ∧ opn.Rng p.2) (iw1 : mem.PRead w w.heap.size A1 n1 z1) (e1 : n1 ≤ c1) (m1 : c1 ≤ maxLen) (r1 : ∀ p ∈ z1, opn.Rng p.1 ∧ opn.Rng p.2) (iw3 : opn.Rng a3) :
    Calls Try.prog 8 #[.slice A0 n0 c0, .slice A1 n1 c1, .bool a2, .int .i64 a3] w fun e w' => e = .returned (.bool true) ∧ Below w.heap.size w w' := by
  have HZ0 := Lib.hid iw0
  have HZ1 := Lib.hid iw1
  have M1 := Lib.hid (fun W => made.Mod_any a3 20 W iw3 (by omega) (by omega))
  have b10 : 0 ≤ a3 % 20 := Int.emod_nonneg _ (by omega)
  have b11 : a3 % 20 < 20 := Int.emod_lt_of_pos _ (by omega)
  clear iw3 iw0 iw1
  generalize a3 % 20 = x1 at *
  obtain ⟨v, hv⟩ : ∃ v : Int, 1 + x1 = v := ⟨_, rfl⟩
  have hv1 : 1 ≤ v := by omega
  have hv2 : v ≤ 20 := by omega
  have hsv : IntKind.i64.wrap (1 + x1) = v := by rw [hv]; exact IntWalk.i64_in _ (by omega)
  clear hv b10 b11
  have H1 := Lib.hid (fun W => ext.NewE_ok (m := a2) (v := v) (p := 200) (o := 0) (ext.mayB_iff.2 (by omega)) W)
  have H2 := Lib.hid (fun W (hb : Below w.heap.size w W) => made.Items_any A0 n0 c0 z0 v 60 W ((HZ0.out.below hb).more hb.size) r0 e0 m0 (by omega) (by omega))
  have H2b := Lib.hid (fun W (hb : Below w.heap.size w W) => made.Items_any A1 n1 c1 z1 v 60 W ((HZ1.out.below hb).more hb.size) r1 e1 m1 (by omega) (by omega))
  have H9 := Lib.hid (fun W => ext.awake17_any W)
  obtain ⟨i0, hi0, hz0, hz1, hz2⟩ := Go.info_parts made.item_info
  have HIn := Lib.hid hi0
  have HY0 := Lib.hid hz0
  have HY1 := Lib.hid hz1
  have HY2 := Lib.hid hz2
  clear r0 e0 m0 r1 e1 m1 hi0 hz0 hz1 hz2
  have BB := Lib.hid (Below.refl w.heap.size w)
  have sz : w.heap.size ≤ w.heap.size := Nat.le_refl _
  go_enter Try.func8, Try.ntmps8
  go_wp2_with fail
  (with_reducible refine (M1.out _).mono ?_)
  rintro e w1 ⟨rfl, rfl⟩
  clear M1
  go_wp2_with fail
  (with_reducible refine (H1.out _).mono ?_)
  rintro e v1 ⟨rfl, hb⟩
  replace BB := Lib.hid (BB.out.trans (hb.mono BB.out.size))
  replace sz := Nat.le_trans sz hb.size
  clear hb
  obtain ⟨gx, hs_gx⟩ : ∃ s, (v1).heap.size = s := ⟨_, rfl⟩
  have wg_gx : w.heap.size ≤ gx := by have := BB.out.size; omega
  go_wp2_with fail
  obtain ⟨v2, hv2, K5, B5, z5, P5⟩ := cst.newbox (24) #[Value.bool a2, Value.int IntKind.i64 v, Value.int IntKind.i64 200, Value.int IntKind.i64 0, Value.slice none 0 0] (gro.Bx.nil_ (W := v1)) hs_gx BB.out BB.out.size
  rw [hv2]
  have KK := Lib.hid K5
  replace BB := Lib.hid B5
  replace sz : gx + 1 ≤ (v2).heap.size := by rw [z5]; exact Nat.le_refl _
  clear K5 B5 P5 z5 hv2 hs_gx
  have R2 := KK.out.rules
  simp only [gro.Rules] at R2
  go_wp2_with fail
  (refine (H1.out _).mono ?_)
  rintro e v3 ⟨rfl, hb⟩
  replace BB := Lib.hid (BB.out.trans (hb.mono BB.out.size))
  replace KK := Lib.hid (KK.out.below hb)
  replace sz := Nat.le_trans sz hb.size
  clear hb
  have R3 := KK.out.rules
  simp only [gro.Rules] at R3
  obtain ⟨gy, hs_gy⟩ : ∃ s, (v3).heap.size = s := ⟨_, rfl⟩
  have wg_gy : w.heap.size ≤ gy := by have := BB.out.size; omega
  go_wp2_with fail
  clear R2
  obtain ⟨v4, hv4, K5, B5, z5, P5⟩ := cst.newbox (24) #[Value.bool a2, Value.int IntKind.i64 v, Value.int IntKind.i64 200, Value.int IntKind.i64 0, Value.slice none 0 0] KK.out hs_gy BB.out BB.out.size
  rw [hv4]
  have o_gx_gy : gx < gy := by omega
  replace KK := Lib.hid K5
  replace BB := Lib.hid B5
  replace sz : gy + 1 ≤ (v4).heap.size := by rw [z5]; exact Nat.le_refl _
  clear K5 B5 P5 z5 hv4 hs_gy
  have R4 := KK.out.rules
  simp only [gro.Rules] at R4
  go_wp2_with fail
  clear R3
  have szB := sz
  (refine (H2.out _ BB.out).mono ?_)
  rintro e v5 ⟨u, its, rfl, hown, hlmp5, hok, hb⟩
  replace BB := Lib.hid (BB.out.trans (hb.mono BB.out.size))
  replace KK := Lib.hid (KK.out.below hb)
  replace sz := Nat.le_trans sz hb.size
  clear hb
  have R5 := KK.out.rules
  simp only [gro.Rules] at R5
  have HA5 := Lib.hid (made.ItOk.asc hok (by omega) ⟨hv1, by omega⟩)
  have fI : ∀ ad, (∃ n c, u = .slice (some ad) n c) → gy < ad.block := fun ad h => by obtain ⟨n, c, rfl⟩ := h; have := mem.own_block_ge hown ad.block rfl; omega
  obtain ⟨A5, c5, rfl, i1p5, i2p5, i3⟩ := mem.own_form hown
  obtain ⟨p5, hm⟩ : ∃ m, its.length = m := ⟨_, rfl⟩
  have HL5 : Hid (its.length = p5) := hm
  rw [hm] at hlmp5 i1p5 i3
  simp only [hm]
  have HI5 := Lib.hid i3
  have i2p5' : c5 ≤ 9223372036854775807 := i2p5
  have f_HI5_gx : 0 < p5 → ∀ ad, A5 = some ad → ad.block ≠ gx := fun _ ad h => by have := fI ad ⟨_, _, by rw [h]⟩; omega
  have f_HI5_gy : 0 < p5 → ∀ ad, A5 = some ad → ad.block ≠ gy := fun _ ad h => by have := fI ad ⟨_, _, by rw [h]⟩; omega
  clear hown hok i3 hm fI szB
  go_wp2_with fail
  clear R4
  have szB := sz
  (refine (H2b.out _ BB.out).mono ?_)
  rintro e v6 ⟨u, jts, rfl, hown, hlmp6, hok, hb⟩
  replace BB := Lib.hid (BB.out.trans (hb.mono BB.out.size))
  replace KK := Lib.hid (KK.out.below hb)
  replace HI5 := Lib.hid ((HI5.out.below hb).more hb.size)
  replace sz := Nat.le_trans sz hb.size
  clear hb
  have R6 := KK.out.rules
  simp only [gro.Rules] at R6
  have HA6 := Lib.hid (made.ItOk.asc hok (by omega) ⟨hv1, by omega⟩)
  have fI : ∀ ad, (∃ n c, u = .slice (some ad) n c) → gy < ad.block := fun ad h => by obtain ⟨n, c, rfl⟩ := h; have := mem.own_block_ge hown ad.block rfl; omega
  obtain ⟨A6, c6, rfl, i1p6, i2p6, i3⟩ := mem.own_form hown
  obtain ⟨p6, hm⟩ : ∃ m, jts.length = m := ⟨_, rfl⟩
  have HL6 : Hid (jts.length = p6) := hm
  rw [hm] at hlmp6 i1p6 i3
  simp only [hm]
  have HI6 := Lib.hid i3
  have i2p6' : c6 ≤ 9223372036854775807 := i2p6
  have f_HI6_gx : 0 < p6 → ∀ ad, A6 = some ad → ad.block ≠ gx := fun _ ad h => by have := fI ad ⟨_, _, by rw [h]⟩; omega
  have f_HI6_gy : 0 < p6 → ∀ ad, A6 = some ad → ad.block ≠ gy := fun _ ad h => by have := fI ad ⟨_, _, by rw [h]⟩; omega
  clear hown hok i3 hm fI szB
  clear H1 H2 H2b HZ0 HZ1
  have HRa : Hid (∀ b, mem.Reads ((v6).alloc b) ((v6).alloc b).heap.size 2 A5 p5 (mem.pc its)) := fun b => (mem.Reads.alloc HI5.out (Nat.le_refl _) b).more (by simp)
  go_wp2_with (first | (at_builtin; refine mem.wpList_append_any _ rfl (.tmp 46) (.tmp 47) 22 rfl (v6).heap.size 40 i0 (.agg #[.int .i64 0, .int .i64 0]) 2 16 Try.underlying22 HIn.out HY0.out HY1.out HY2.out rfl (by omega) (.slice (some ⟨(v6).heap.size, 0, none⟩) 0 0) 0 [] rfl (mem.own_empty v6 40) _ A5 p5 c5 (mem.pc its) rfl (HRa.out _) (mem.pc_oneCell _) (by unfold maxLen; omega) (by omega) (by simp) ?_; intro va wa howna hga hata; rw [Nat.zero_add, List.nil_append] at howna; have HBa : Below (v6).heap.size v6 wa := ((Below.refl _ _).alloc (Nat.le_refl _) _).grown hga (by simp) (by simp [Value.ownBlock]); have hsa := HBa.size) | (at_builtin; refine mem.wpList_append_any _ rfl (.tmp 48) (.tmp 49) 22 rfl (v6).heap.size 40 i0 (.agg #[.int .i64 0, .int .i64 0]) 2 16 Try.underlying22 HIn.out HY0.out HY1.out HY2.out rfl (by omega) va p5 (mem.pc its) rfl howna (v6).heap.size A6 p6 c6 (mem.pc jts) rfl (HI6.out.below HBa) (mem.pc_oneCell _) (by unfold maxLen; omega) (by omega) hsa ?_; intro vb wb hownb hgb hatb; obtain ⟨AJ, cJ, rfl, jq1, jq2, jq3⟩ := mem.own_form hownb; have jq2' : cJ ≤ 9223372036854775807 := jq2; have HBb : Below (v6).heap.size v6 wb := HBa.grown hgb hsa (fun k hk => mem.own_block_ge howna k hk); have HJ : Hid (mem.PRead wb wb.heap.size AJ (p5 + p6) (its ++ jts)) := (by rw [Hid, mem.PRead, mem.pc_append]; exact jq3); clear jq3 hownb hgb hatb howna hga hata HBa hsa))
  clear HRa R5 R6
  replace BB := Lib.hid (BB.out.trans (HBb.mono BB.out.size))
  replace KK := Lib.hid (KK.out.below HBb)
  replace HI5 := Lib.hid ((HI5.out.below HBb).more HBb.size)
  replace HI6 := Lib.hid ((HI6.out.below HBb).more HBb.size)
  replace sz := Nat.le_trans sz HBb.size
  clear HBb
  have hTb : Hid (∀ i, i < p5 + p6 → 0 ≤ (buk.at_ (its ++ jts) i).1 ∧ (buk.at_ (its ++ jts) i).1 ≤ 100000) := fun i hi => by
    by_cases h : i < p5
    · have e : buk.at_ (its ++ jts) i = buk.at_ its i := by simp [buk.at_, List.getElem?_append_left (show i < its.length by rw [HL5.out]; exact h)]
      rw [e]; exact (HA5.out i (by rw [HL5.out]; exact h)).1
    · have e : buk.at_ (its ++ jts) i = buk.at_ jts (i - p5) := by simp [buk.at_, List.getElem?_append_right (show its.length ≤ i by rw [HL5.out]; omega), HL5.out]
      rw [e]; exact (HA6.out (i - p5) (by rw [HL6.out]; omega)).1
  have HBL : Hid (Below wb.heap.size wb wb) := Below.refl _ _
  go_loopg [15, 52] (p5 + p6) (fun kx s15 s52 wr => ∃ (i : Nat) (nw : Int), s52 = .int .i64 i ∧ s15 = .int .i64 nw ∧ i ≤ p5 + p6 ∧ p5 + p6 - i ≤ kx ∧ 0 ≤ nw ∧ nw ≤ 100000 ∧ Hid (∀ j, j < i → (buk.at_ (its ++ jts) j).1 ≤ nw) ∧ Hid (Below wb.heap.size wb wr))
  case atStart => exact ⟨0, 0, rfl, rfl, by omega, by omega, by omega, by omega, Lib.hid (fun j h => absurd h (by omega)), HBL⟩
  case round =>
    clear HBL
    obtain ⟨i, nw, rfl, rfl, hi, hkx, hw0, hw1, HM, HBL⟩ := hrel
    by_cases hlt : i < p5 + p6
    case neg =>
      obtain rfl : i = p5 + p6 := by omega
      have hm5 : Hid (∀ j, j < p5 → (buk.at_ its j).1 ≤ nw) := fun j h => by
        have e : buk.at_ (its ++ jts) j = buk.at_ its j := by simp [buk.at_, List.getElem?_append_left (show j < its.length by rw [HL5.out]; exact h)]
        rw [← e]; exact HM.out j (by omega)
      have hm6 : Hid (∀ j, j < p6 → (buk.at_ jts j).1 ≤ nw) := fun j h => by
        have e : buk.at_ (its ++ jts) (p5 + j) = buk.at_ jts j := by simp [buk.at_, List.getElem?_append_right (show its.length ≤ p5 + j by rw [HL5.out]; omega), HL5.out]
        rw [← e]; exact HM.out (p5 + j) (by omega)
      clear HM hTb HJ hkx hi
      replace BB := Lib.hid (BB.out.trans (HBL.out.mono BB.out.size))
      replace KK := Lib.hid (KK.out.below HBL.out)
      replace HI5 := Lib.hid ((HI5.out.below HBL.out).more HBL.out.size)
      replace HI6 := Lib.hid ((HI6.out.below HBL.out).more HBL.out.size)
      replace sz := Nat.le_trans sz HBL.out.size
      clear HBL
      have R15 := KK.out.rules
      simp only [gro.Rules] at R15
      go_wp2_with fail
      clear R15
      go_loopg [10, 65] p5 (fun kx s10 s65 wr => ∃ (i : Nat) (Ax : Option Addr) (nx cx : Nat) (ysx : List (Int × Int)) (nowx : Int), s65 = .int .i64 i ∧ s10 = .int .i64 0 ∧ i ≤ p5 ∧ p5 - i ≤ kx ∧ nx ≤ cx ∧ cx ≤ 9223372036854775807 ∧ 0 ≤ nowx ∧ nowx ≤ nw ∧ Hid (i < p5 → nowx ≤ (buk.at_ its i).1) ∧ nx ≤ i ∧ Hid (ext.ERun a2 ysx nowx v (its.take i)) ∧ Hid (mem.PRead wr wr.heap.size Ax nx ysx) ∧ Hid (mem.PRead wr wr.heap.size A5 p5 its) ∧ Hid (mem.PRead wr wr.heap.size A6 p6 jts) ∧ Hid (∀ ad, Ax = some ad → gy < ad.block) ∧ Hid (gro.Bx wr [(gx, 24, #[Value.bool a2, Value.int IntKind.i64 v, Value.int IntKind.i64 200, Value.int IntKind.i64 nowx, Value.slice Ax nx cx]), (gy, 24, #[Value.bool a2, Value.int IntKind.i64 v, Value.int IntKind.i64 200, Value.int IntKind.i64 0, Value.slice none 0 0])]) ∧ Hid (Below w.heap.size w wr) ∧ gy + 1 ≤ wr.heap.size)
      case atStart => exact ⟨0, none, 0, 0, [], 0, rfl, rfl, by omega, by omega, by omega, by omega, by omega, by omega, fun h => (HA5.out 0 (by rw [HL5.out]; exact h)).1.1, by omega, ext.ERun.nil a2 v, mem.PRead.nil_, HI5, HI6, Lib.hid (fun ad h => by (cases h)), KK.out.perm (by simp), BB, sz⟩
      case round =>
        clear KK BB sz HI5 HI6
        obtain ⟨i, Ax, nx, cx, ysx, nowx, rfl, rfl, hi, hkx, hncx, hcmx, hn0x, hn1x, HT, hnix, HRx, HXx, HI5, HI6, fxx, KK, BB, sz⟩ := hrel
        have f_HXx_gx : 0 < nx → ∀ ad, Ax = some ad → ad.block ≠ gx := fun _ ad h => by have := fxx.out ad h; omega
        have f_HXx_gy : 0 < nx → ∀ ad, Ax = some ad → ad.block ≠ gy := fun _ ad h => by have := fxx.out ad h; omega
        have hlxx := mem.PRead.len HXx.out
        by_cases hlt : i < p5
        case neg =>
          obtain rfl : p5 = i := by omega
          clear HT hkx hi hlt
          have HRx' : Hid (ext.ERun a2 ysx nowx v its) := by
            have := HRx.out
            rwa [List.take_of_length_le (by rw [HL5.out]; exact Nat.le_refl _)] at this
          clear HRx
          have R120 := KK.out.rules
          simp only [gro.Rules] at R120
          go_wp2_with fail
          clear R120
          go_loopg [12, 90] p6 (fun kx s12 s90 wr => ∃ (i : Nat) (Ay : Option Addr) (ny cy : Nat) (ysy : List (Int × Int)) (nowy : Int), s90 = .int .i64 i ∧ s12 = .int .i64 0 ∧ i ≤ p6 ∧ p6 - i ≤ kx ∧ ny ≤ cy ∧ cy ≤ 9223372036854775807 ∧ 0 ≤ nowy ∧ nowy ≤ nw ∧ Hid (i < p6 → nowy ≤ (buk.at_ jts i).1) ∧ ny ≤ i ∧ Hid (ext.ERun a2 ysy nowy v (jts.take i)) ∧ Hid (mem.PRead wr wr.heap.size Ay ny ysy) ∧ Hid (mem.PRead wr wr.heap.size A5 p5 its) ∧ Hid (mem.PRead wr wr.heap.size A6 p6 jts) ∧ Hid (mem.PRead wr wr.heap.size Ax nx ysx) ∧ Hid (∀ ad, Ay = some ad → gy < ad.block) ∧ Hid (gro.Bx wr [(gx, 24, #[Value.bool a2, Value.int IntKind.i64 v, Value.int IntKind.i64 200, Value.int IntKind.i64 nowx, Value.slice Ax nx cx]), (gy, 24, #[Value.bool a2, Value.int IntKind.i64 v, Value.int IntKind.i64 200, Value.int IntKind.i64 nowy, Value.slice Ay ny cy])]) ∧ Hid (Below w.heap.size w wr) ∧ gy + 1 ≤ wr.heap.size)
          case atStart => exact ⟨0, none, 0, 0, [], 0, rfl, rfl, by omega, by omega, by omega, by omega, by omega, by omega, fun h => (HA6.out 0 (by rw [HL6.out]; exact h)).1.1, by omega, ext.ERun.nil a2 v, mem.PRead.nil_, HI5, HI6, HXx, Lib.hid (fun ad h => by (cases h)), KK.out.perm (by simp), BB, sz⟩
          case round =>
            clear KK BB sz HI5 HI6 HXx
            obtain ⟨i, Ay, ny, cy, ysy, nowy, rfl, rfl, hi, hkx, hncy, hcmy, hn0y, hn1y, HT, hniy, HRy, HXy, HI5, HI6, HXx, fxy, KK, BB, sz⟩ := hrel
            have f_HXy_gx : 0 < ny → ∀ ad, Ay = some ad → ad.block ≠ gx := fun _ ad h => by have := fxy.out ad h; omega
            have f_HXy_gy : 0 < ny → ∀ ad, Ay = some ad → ad.block ≠ gy := fun _ ad h => by have := fxy.out ad h; omega
            have hlxy := mem.PRead.len HXy.out
            by_cases hlt : i < p6
            case neg =>
              obtain rfl : p6 = i := by omega
              clear HT hkx hi hlt
              have HRy' : Hid (ext.ERun a2 ysy nowy v jts) := by
                have := HRy.out
                rwa [List.take_of_length_le (by rw [HL6.out]; exact Nat.le_refl _)] at this
              clear HRy
              have HRa := HRx'.out.adv (t := nw) hn1x
              have HRb := HRy'.out.adv (t := nw) hn1y
              have hlea := lst.expireL_le (nw - v + 1) ysx
              have hleb := lst.expireL_le (nw - v + 1) ysy
              have hg1 := HRx'.out.val (p := 200) (by omega) ⟨hv1, by omega⟩ (by omega) (by omega)
              have hg2 := HRy'.out.val (p := 200) (by omega) ⟨hv1, by omega⟩ (by omega) (by omega)
              have hg3 := HRa.val (p := 200) (by omega) ⟨hv1, by omega⟩ (by omega) (by omega)
              have hg4 := HRb.val (p := 200) (by omega) ⟨hv1, by omega⟩ (by omega) (by omega)
              have hna := HRa.len (by omega)
              have hnb := HRb.len (by omega)
              have hl5 := ext.late_live (v := v) (now := nw) (fun q hq => (HRa.bd q hq).2.1)
              have hl6 := ext.late_live (v := v) (now := nw) (fun q hq => (HRb.bd q hq).2.1)
              have hka := HRa.kept
              have hkb := HRb.kept
              rw [← hl5] at hka
              rw [← hl6] at hkb
              have hll5 := made.live_len nw v its its.length
              have hll6 := made.live_len nw v jts jts.length
              rw [List.take_length] at hll5 hll6
              have hz5 := HL5.out
              have hz6 := HL6.out
              have C1 := Lib.hid (fun W (h : mem.PRead W W.heap.size Ax nx ysx) => ext.AdvE_ok (m := a2) (v := v) (p := 200) (o := nowx) (tt := nw) h hncx hcmx (by omega) hg1 ⟨hn1x, by omega⟩)
              have C2 := Lib.hid (fun W (h : mem.PRead W W.heap.size Ay ny ysy) => ext.AdvE_ok (m := a2) (v := v) (p := 200) (o := nowy) (tt := nw) h hncy hcmy (by omega) hg2 ⟨hn1y, by omega⟩)
              have C4 := Lib.hid (fun W (h : mem.PRead W W.heap.size A5 p5 its) => made.Live_own A5 p5 c5 its nw v W h i1p5 i2p5 ⟨by omega, by omega⟩ ⟨hv1, by omega⟩ (by omega))
              have C5 := Lib.hid (fun W (h : mem.PRead W W.heap.size A6 p6 jts) => made.Live_own A6 p6 c6 jts nw v W h i1p6 i2p6 ⟨by omega, by omega⟩ ⟨hv1, by omega⟩ (by omega))
              have hcov := ext.Cov.append (ext.IsKept.cov hka) (ext.IsKept.cov hkb)
              have C3 := Lib.hid (fun A1 n1 c1 A2 n2 c2 W (h1 : mem.PRead W W.heap.size A1 n1 (lst.expireL (nw - v + 1) ysx)) q1 p1 (h2 : mem.PRead W W.heap.size A2 n2 (lst.expireL (nw - v + 1) ysy)) q2 p2 => ext.MergeE_ok (m := a2) (v := v) (p := 200) (o := nw) (c1 := c1) (c2 := c2) h1 q1 p1 (by have := mem.PRead.len h1; omega) h2 q2 p2 (by have := mem.PRead.len h2; omega) hg3 hg4 (by have := mem.PRead.len h1; have := mem.PRead.len h2; omega))
              clear HRa HRb hg1 hg2 hg3 hg4 hl5 hl6 hka hkb HRx' HRy' HA5 HA6 HL5 HL6 hm5 hm6
              generalize made.liveI nw v its = lv5 at *
              generalize made.liveI nw v jts = lv6 at *
              generalize lst.expireL (nw - v + 1) ysx = yx at *
              generalize lst.expireL (nw - v + 1) ysy = yy at *
              have hkeq : Hid (ext.keptN a2 (lv5 ++ lv6) (lv5.length + lv6.length) = ext.keptN a2 (yx ++ yy) (yx.length + yy.length)) := by
                have h := ext.kept_eq (hcov.kept (ext.keptN_kept a2 (yx ++ yy)))
                rw [List.length_append, List.length_append] at h
                exact h
              have C6 := Lib.hid (fun A n c W (h : mem.PRead W W.heap.size A n (lv5 ++ lv6)) (hs : n ≤ 1000) => ext.Kept_f a2 A n c (lv5 ++ lv6) W h hs)
              have C7 := Lib.hid (fun A n c A' n' c' xs W (h : mem.PRead W W.heap.size A n xs) (h' : mem.PRead W W.heap.size A' n' xs) (hs : n ≤ 1000) => ext.SameItems_ok A A' n c n' c' xs W h h' (by omega))
              clear hcov
              have R320 := KK.out.rules
              simp only [gro.Rules] at R320
              go_wp2_with fail
              (refine (C1.out _ HXx.out).mono ?_)
              rintro e v321 ⟨A7, n7, c7, rfl, q7, ⟨p7, fr⟩, hr, hb⟩
              replace BB := Lib.hid (BB.out.trans (hb.mono BB.out.size))
              replace KK := Lib.hid (KK.out.below hb)
              replace HXy := Lib.hid ((HXy.out.below hb).more hb.size)
              replace HI5 := Lib.hid ((HI5.out.below hb).more hb.size)
              replace HI6 := Lib.hid ((HI6.out.below hb).more hb.size)
              replace HXx := Lib.hid ((HXx.out.below hb).more hb.size)
              have HA7 := Lib.hid hr
              have f_HA7_gx : 0 < n7 → ∀ ad, A7 = some ad → ad.block ≠ gx := fun _ ad h => by have := fr ad h; omega
              have f_HA7_gy : 0 < n7 → ∀ ad, A7 = some ad → ad.block ≠ gy := fun _ ad h => by have := fr ad h; omega
              replace sz := Nat.le_trans sz hb.size
              clear hb hr fr
              have R321 := KK.out.rules
              simp only [gro.Rules] at R321
              clear HXx
              have KP := KK.out.perm (L' := [(gx, 24, #[Value.bool a2, Value.int IntKind.i64 v, Value.int IntKind.i64 200, Value.int IntKind.i64 nowx, Value.slice Ax nx cx]), (gy, 24, #[Value.bool a2, Value.int IntKind.i64 v, Value.int IntKind.i64 200, Value.int IntKind.i64 nowy, Value.slice Ay ny cy])]) (by simp)
              obtain ⟨v322, hv322, K5, B5, z5, P5⟩ := cst.putC (Value.bool a2) (Value.int IntKind.i64 v) (Value.int IntKind.i64 200) (Value.int IntKind.i64 nw) (Value.slice A7 n7 c7) KP (by simp <;> omega) BB.out wg_gx
              replace HXy := Lib.hid (P5 _ _ _ HXy.out f_HXy_gx)
              replace HI5 := Lib.hid (P5 _ _ _ HI5.out f_HI5_gx)
              replace HI6 := Lib.hid (P5 _ _ _ HI6.out f_HI6_gx)
              replace HA7 := Lib.hid (P5 _ _ _ HA7.out f_HA7_gx)
              replace KK := Lib.hid K5
              replace BB := Lib.hid B5
              rw [← z5] at sz
              clear K5 B5 P5 KP z5
              have R322 := KK.out.rules
              simp only [gro.Rules] at R322
              go_wp2_with fail
              clear R320 R321 hv322
              (refine (C2.out _ HXy.out).mono ?_)
              rintro e v323 ⟨A8, n8, c8, rfl, q8, ⟨p8, fr⟩, hr, hb⟩
              replace BB := Lib.hid (BB.out.trans (hb.mono BB.out.size))
              replace KK := Lib.hid (KK.out.below hb)
              replace HXy := Lib.hid ((HXy.out.below hb).more hb.size)
              replace HI5 := Lib.hid ((HI5.out.below hb).more hb.size)
              replace HI6 := Lib.hid ((HI6.out.below hb).more hb.size)
              replace HA7 := Lib.hid ((HA7.out.below hb).more hb.size)
              have HA8 := Lib.hid hr
              have f_HA8_gx : 0 < n8 → ∀ ad, A8 = some ad → ad.block ≠ gx := fun _ ad h => by have := fr ad h; omega
              have f_HA8_gy : 0 < n8 → ∀ ad, A8 = some ad → ad.block ≠ gy := fun _ ad h => by have := fr ad h; omega
              replace sz := Nat.le_trans sz hb.size
              clear hb hr fr
              have R323 := KK.out.rules
              simp only [gro.Rules] at R323
              clear HXy
              have KP := KK.out.perm (L' := [(gy, 24, #[Value.bool a2, Value.int IntKind.i64 v, Value.int IntKind.i64 200, Value.int IntKind.i64 nowy, Value.slice Ay ny cy]), (gx, 24, #[Value.bool a2, Value.int IntKind.i64 v, Value.int IntKind.i64 200, Value.int IntKind.i64 nw, Value.slice A7 n7 c7])]) (by simp)
              obtain ⟨v324, hv324, K5, B5, z5, P5⟩ := cst.putC (Value.bool a2) (Value.int IntKind.i64 v) (Value.int IntKind.i64 200) (Value.int IntKind.i64 nw) (Value.slice A8 n8 c8) KP (by simp <;> omega) BB.out wg_gy
              replace HI5 := Lib.hid (P5 _ _ _ HI5.out f_HI5_gy)
              replace HI6 := Lib.hid (P5 _ _ _ HI6.out f_HI6_gy)
              replace HA7 := Lib.hid (P5 _ _ _ HA7.out f_HA7_gy)
              replace HA8 := Lib.hid (P5 _ _ _ HA8.out f_HA8_gy)
              replace KK := Lib.hid K5
              replace BB := Lib.hid B5
              rw [← z5] at sz
              clear K5 B5 P5 KP z5
              have R324 := KK.out.rules
              simp only [gro.Rules] at R324
              go_wp2_with fail
              clear R322 R323 hv324
              (refine (C3.out _ _ _ _ _ _ _ HA7.out q7 p7 HA8.out q8 p8).mono ?_)
              rintro e v325 ⟨A9, n9, c9, rfl, q9, ⟨p9, fr⟩, hr, hb⟩
              replace BB := Lib.hid (BB.out.trans (hb.mono BB.out.size))
              replace KK := Lib.hid (KK.out.below hb)
              replace HI5 := Lib.hid ((HI5.out.below hb).more hb.size)
              replace HI6 := Lib.hid ((HI6.out.below hb).more hb.size)
              replace HA7 := Lib.hid ((HA7.out.below hb).more hb.size)
              replace HA8 := Lib.hid ((HA8.out.below hb).more hb.size)
              have HA9 := Lib.hid hr
              have f_HA9_gy : 0 < n9 → ∀ ad, A9 = some ad → ad.block ≠ gy := fun _ ad h => by have := fr ad h; omega
              have f_HA9_gx : 0 < n9 → ∀ ad, A9 = some ad → ad.block ≠ gx := fun _ ad h => by have := fr ad h; omega
              replace sz := Nat.le_trans sz hb.size
              clear hb hr fr
              have R325 := KK.out.rules
              simp only [gro.Rules] at R325
              have hn7 := mem.PRead.len HA7.out
              have hn8 := mem.PRead.len HA8.out
              clear HA7
              clear HA8
              rw [← hn7, ← hn8, ← hkeq.out] at HA9
              obtain ⟨gm, hs_gm⟩ : ∃ s, (v325).heap.size = s := ⟨_, rfl⟩
              have wg_gm : w.heap.size ≤ gm := by have := BB.out.size; omega
              go_wp2_with fail
              clear R324
              obtain ⟨v326, hv326, K5, B5, z5, P5⟩ := cst.newbox (24) #[Value.bool a2, Value.int IntKind.i64 v, Value.int IntKind.i64 200, Value.int IntKind.i64 nw, Value.slice A9 n9 c9] KK.out hs_gm BB.out BB.out.size
              rw [hv326]
              have o_gy_gm : gy < gm := by omega
              have o_gx_gm : gx < gm := by omega
              have f_HI5_gm := (P5 _ _ _ HI5.out).2
              replace HI5 := Lib.hid (P5 _ _ _ HI5.out).1
              have f_HI6_gm := (P5 _ _ _ HI6.out).2
              replace HI6 := Lib.hid (P5 _ _ _ HI6.out).1
              have f_HA9_gm := (P5 _ _ _ HA9.out).2
              replace HA9 := Lib.hid (P5 _ _ _ HA9.out).1
              replace KK := Lib.hid K5
              replace BB := Lib.hid B5
              replace sz : gm + 1 ≤ (v326).heap.size := by rw [z5]; exact Nat.le_refl _
              clear K5 B5 P5 z5 hv326 hs_gm
              have R326 := KK.out.rules
              simp only [gro.Rules] at R326
              have bk9 := Lib.hid (ext.PRead.blk HA9.out)
              obtain ⟨bs, hbs⟩ : ∃ b, (v326).heap.size = b := ⟨_, rfl⟩
              have hbw : w.heap.size ≤ bs := by rw [← hbs]; exact BB.out.size
              rw [hbs] at bk9
              have szb : gm + 1 ≤ bs := by rw [← hbs]; exact sz
              (refine (C4.out _ HI5.out).mono ?_)
              rintro e v327 ⟨u5, rfl, ho5, hb⟩
              replace BB := Lib.hid (BB.out.trans (hb.mono BB.out.size))
              replace KK := Lib.hid (KK.out.below hb)
              replace HI5 := Lib.hid ((HI5.out.below hb).more hb.size)
              replace HI6 := Lib.hid ((HI6.out.below hb).more hb.size)
              replace HA9 := Lib.hid ((HA9.out.below hb).more hb.size)
              have szB5 := hb.size
              replace sz := Nat.le_trans sz hb.size
              clear hb
              have R327 := KK.out.rules
              simp only [gro.Rules] at R327
              clear HI5
              rw [hbs] at ho5 szB5
              have HO5 := Lib.hid ho5
              clear ho5 hbs
              go_wp2_with fail
              clear R325 R326
              (refine (C5.out _ HI6.out).mono ?_)
              rintro e v328 ⟨u6, rfl, ho6, hb⟩
              replace BB := Lib.hid (BB.out.trans (hb.mono BB.out.size))
              replace KK := Lib.hid (KK.out.below hb)
              replace HI6 := Lib.hid ((HI6.out.below hb).more hb.size)
              replace HA9 := Lib.hid ((HA9.out.below hb).more hb.size)
              replace HO5 := Lib.hid (mem.own_keep HO5.out hb)
              have szB6 := hb.size
              replace sz := Nat.le_trans sz hb.size
              clear hb
              have R328 := KK.out.rules
              simp only [gro.Rules] at R328
              clear HI6
              obtain ⟨B6, d6, rfl, s1, s2, s3⟩ := mem.own_form ho6
              have s2' : d6 ≤ 9223372036854775807 := s2
              have HS6 := Lib.hid s3
              clear ho6 s3
              have hl5' : lv5.length ≤ 60 := by omega
              have hl6' : lv6.length ≤ 60 := by omega
              have szb2 := Nat.le_trans szB5 szB6
              go_wp2_with (at_builtin; go_loud (refine mem.wpList_append_any _ rfl (.tmp 140) (.tmp 144) 22 rfl bs 40 i0 (.agg #[.int .i64 0, .int .i64 0]) 2 16 Try.underlying22 HIn.out HY0.out HY1.out HY2.out rfl (by omega) u5 lv5.length (mem.pc lv5) rfl HO5.out (v328).heap.size B6 lv6.length d6 (mem.pc lv6) rfl HS6.out (mem.pc_oneCell _) (by unfold maxLen; omega) (by omega) szb2 ?_); intro vb wb9 hownb hgb hatb)
              obtain ⟨AJ, cJ, rfl, j1, j2, j3⟩ := mem.own_form hownb
              have j2' : cJ ≤ 9223372036854775807 := j2
              have HLv : Hid (mem.PRead wb9 wb9.heap.size AJ (lv5.length + lv6.length) (lv5 ++ lv6)) := by rw [Hid, mem.PRead, mem.pc_append]; exact j3
              replace KK := Lib.hid (ext.Bx.app3 KK.out hgb (fun q hq h => by have h2 := mem.own_block_ge HO5.out _ h.symm; simp at hq; rcases hq with h3 | h3 | h3 <;> rw [h3] at h2 <;> simp at h2 <;> omega))
              replace HA9 := Lib.hid (show mem.PRead wb9 wb9.heap.size A9 n9 _ from ext.Reads.app HA9.out hgb (fun h0 ad e h => by have h2 := mem.own_block_ge HO5.out _ h.symm; have h3 := bk9.out h0 ad e; omega))
              replace BB := Lib.hid (BB.out.grown hgb BB.out.size (fun k hk => by have h2 := mem.own_block_ge HO5.out _ hk; omega))
              replace sz := Nat.le_trans sz hgb.size
              clear j3 hownb hgb hatb HO5 HS6 bk9 s1 s2
              have hlk : lv5.length + lv6.length ≤ 1000 := by omega
              have hn9 := mem.PRead.len HA9.out
              have hkl9 := ext.keptN_len a2 (lv5 ++ lv6) (lv5.length + lv6.length)
              have hn9' : n9 ≤ 1000 := by omega
              clear hn9 hkl9
              clear R327 R328
              (refine gro.wp_region_heldA [] 22 16 _ (gro.lasts_bx _) (by kernel_rfl) (by kernel_rfl) (by intro _ _ _ _ _ h; exact h) (by kernel_rfl) (by kernel_rfl) (by kernel_rfl) (by kernel_rfl) (by kernel_rfl) (by decide) (KK.out).drew ?_; apply Exists.intro; refine ⟨fun w0 hb0 => ?_, ?_⟩; focus (have RZ := gro.Bx.rules hb0; simp only [gro.Rules] at RZ; simp only [gro.pickA, List.filterMap_cons, List.filterMap_nil, List.getElem?_toArray, List.getElem?_cons_succ, List.getElem?_cons_zero]; change wpQuiet _ _ _ _ ( []) _; (repeat (go_big_quiet_step ((fail)))); exact wpQuiet_nil rfl))
              replace BB := Lib.hid BB.out.drew
              replace KK := Lib.hid KK.out.drew
              replace HA9 := Lib.hid (show mem.PRead (wb9.drew) (wb9.drew).heap.size _ _ _ from mem.Reads.drew HA9.out)
              replace HLv := Lib.hid (show mem.PRead (wb9.drew) (wb9.drew).heap.size _ _ _ from mem.Reads.drew HLv.out)
              replace sz := (show _ ≤ (wb9.drew).heap.size from sz)
              generalize wb9.drew = v329 at *
              (refine gro.anyM_first_all [0, 1, 2, 3, 4, 5, 6, 7, 8, 9, 10] 11 (gro.lasts_bx _) (by kernel_rfl) (by intro _ _ _ _ _ h; exact h) (by kernel_rfl) (by kernel_rfl) (by kernel_rfl) (by kernel_rfl) (by kernel_rfl) (KK.out.perm (by simp)) ?_; apply Exists.intro; refine ⟨fun w0 => ?_, ?_⟩; focus (simp only [gro.pickA, List.filterMap_cons, List.filterMap_nil, List.getElem?_toArray, List.getElem?_cons_succ, List.getElem?_cons_zero]; change wpQuiet _ _ _ _ (_ :: _ :: _ :: _ :: _ :: _ :: _ :: _ :: _ :: _ :: _ ::  []) _; (repeat (go_big_quiet_step ((fail)))); exact wpQuiet_nil rfl))
              (refine gro.anyM_first_all [11, 13, 14] 8 (gro.lasts_bx _) (by kernel_rfl) (by intro _ _ _ _ _ h; exact h) (by kernel_rfl) (by kernel_rfl) (by kernel_rfl) (by kernel_rfl) (by kernel_rfl) (KK.out.perm (by simp)) ?_; apply Exists.intro; refine ⟨fun w0 => ?_, ?_⟩; focus (simp only [gro.pickA, List.filterMap_cons, List.filterMap_nil, List.getElem?_toArray, List.getElem?_cons_succ, List.getElem?_cons_zero]; change wpQuiet _ _ _ _ (_ :: _ :: _ ::  []) _; (repeat (go_big_quiet_step ((fail)))); exact wpQuiet_nil rfl))
              (refine gro.anyM_mid_all [12] 7 (gro.lasts_bx _) (by kernel_rfl) (by intro _ _ _ _ _ h; exact h) (by kernel_rfl) (by kernel_rfl) (by kernel_rfl) (by kernel_rfl) (by kernel_rfl) (by kernel_rfl) (KK.out.perm (by simp)) ?_; apply Exists.intro; refine ⟨fun w0 hb0 => ?_, ?_⟩; focus (have RZ := gro.Bx.rules hb0; simp only [gro.Rules] at RZ; simp only [gro.pickA, List.filterMap_cons, List.filterMap_nil, List.getElem?_toArray, List.getElem?_cons_succ, List.getElem?_cons_zero]; change wpQuiet _ _ _ _ (_ ::  []) _; (repeat (go_big_quiet_step ((fail)))); exact wpQuiet_nil rfl))
              refine gro.anyM_one 15 (by kernel_rfl) rfl ?_
              intro v330 hz K' hK'
              replace BB := Lib.hid (BB.out.trans (hz.mono BB.out.size))
              replace KK := Lib.hid (KK.out.below hz)
              replace HA9 := Lib.hid ((HA9.out.below hz).more hz.size)
              replace HLv := Lib.hid ((HLv.out.below hz).more hz.size)
              replace sz := Nat.le_trans sz hz.size
              clear hz
              go_simp
              (refine (C6.out _ _ _ _ HLv.out hlk).mono ?_)
              rintro e v331 ⟨A10, n10, c10, rfl, q10, ⟨p10, fr⟩, hr, hb⟩
              replace BB := Lib.hid (BB.out.trans (hb.mono BB.out.size))
              replace KK := Lib.hid (KK.out.below hb)
              replace HA9 := Lib.hid ((HA9.out.below hb).more hb.size)
              replace HLv := Lib.hid ((HLv.out.below hb).more hb.size)
              have HA10 := Lib.hid hr
              have f_HA10_gm : 0 < n10 → ∀ ad, A10 = some ad → ad.block ≠ gm := fun _ ad h => by have := fr ad h; omega
              have f_HA10_gy : 0 < n10 → ∀ ad, A10 = some ad → ad.block ≠ gy := fun _ ad h => by have := fr ad h; omega
              have f_HA10_gx : 0 < n10 → ∀ ad, A10 = some ad → ad.block ≠ gx := fun _ ad h => by have := fr ad h; omega
              replace sz := Nat.le_trans sz hb.size
              clear hb hr fr
              refine hK' _ _ ⟨fun _ => KK.out.perm (by simp), ?_⟩
              clear hK' K'
              refine gro.anyM_one 16 (by kernel_rfl) rfl ?_
              intro v332 hz K' hK'
              replace BB := Lib.hid (BB.out.trans (hz.mono BB.out.size))
              replace KK := Lib.hid (KK.out.below hz)
              replace HA9 := Lib.hid ((HA9.out.below hz).more hz.size)
              replace HLv := Lib.hid ((HLv.out.below hz).more hz.size)
              replace HA10 := Lib.hid ((HA10.out.below hz).more hz.size)
              replace sz := Nat.le_trans sz hz.size
              clear hz
              go_simp
              (refine (C7.out _ _ _ _ _ _ _ _ HA9.out HA10.out hn9').mono ?_)
              rintro e v333 ⟨rfl, hb⟩
              replace BB := Lib.hid (BB.out.trans (hb.mono BB.out.size))
              replace KK := Lib.hid (KK.out.below hb)
              replace HA9 := Lib.hid ((HA9.out.below hb).more hb.size)
              replace HLv := Lib.hid ((HLv.out.below hb).more hb.size)
              replace HA10 := Lib.hid ((HA10.out.below hb).more hb.size)
              replace sz := Nat.le_trans sz hb.size
              clear hb
              refine hK' _ _ ⟨fun h => absurd (show true = false from h) (by decide), ?_⟩
              clear hK' K'
              refine gro.anyM_one 17 (by kernel_rfl) rfl ?_
              intro v334 hz K' hK'
              replace BB := Lib.hid (BB.out.trans (hz.mono BB.out.size))
              replace KK := Lib.hid (KK.out.below hz)
              replace HA9 := Lib.hid ((HA9.out.below hz).more hz.size)
              replace HLv := Lib.hid ((HLv.out.below hz).more hz.size)
              replace HA10 := Lib.hid ((HA10.out.below hz).more hz.size)
              replace sz := Nat.le_trans sz hz.size
              clear hz
              go_simp
              refine hK' _ _ ⟨fun h => absurd (show true = false from h) (by decide), ?_⟩
              clear hK' K'
              refine gro.anyM_one 18 (by kernel_rfl) rfl ?_
              intro v335 hz K' hK'
              replace BB := Lib.hid (BB.out.trans (hz.mono BB.out.size))
              replace KK := Lib.hid (KK.out.below hz)
              replace HA9 := Lib.hid ((HA9.out.below hz).more hz.size)
              replace HLv := Lib.hid ((HLv.out.below hz).more hz.size)
              replace HA10 := Lib.hid ((HA10.out.below hz).more hz.size)
              replace sz := Nat.le_trans sz hz.size
              clear hz
              go_simp
              refine hK' _ _ ⟨fun h => absurd (show true = false from h) (by decide), ?_⟩
              clear hK' K'
              refine gro.anyM_one 19 (by kernel_rfl) rfl ?_
              intro v336 hz K' hK'
              replace BB := Lib.hid (BB.out.trans (hz.mono BB.out.size))
              replace KK := Lib.hid (KK.out.below hz)
              replace HA9 := Lib.hid ((HA9.out.below hz).more hz.size)
              replace HLv := Lib.hid ((HLv.out.below hz).more hz.size)
              replace HA10 := Lib.hid ((HA10.out.below hz).more hz.size)
              replace sz := Nat.le_trans sz hz.size
              clear hz
              go_simp
              (refine (H9.out _).mono ?_)
              rintro e v337 ⟨rfl, hb⟩
              replace BB := Lib.hid (BB.out.trans (hb.mono BB.out.size))
              replace KK := Lib.hid (KK.out.below hb)
              replace HA9 := Lib.hid ((HA9.out.below hb).more hb.size)
              replace HLv := Lib.hid ((HLv.out.below hb).more hb.size)
              replace HA10 := Lib.hid ((HA10.out.below hb).more hb.size)
              replace sz := Nat.le_trans sz hb.size
              clear hb
              refine hK' _ _ ⟨fun h => absurd (show true = false from h) (by decide), ?_⟩
              clear hK' K'
              refine gro.anyM_one 20 (by kernel_rfl) rfl ?_
              intro v338 hz K' hK'
              replace BB := Lib.hid (BB.out.trans (hz.mono BB.out.size))
              replace KK := Lib.hid (KK.out.below hz)
              replace HA9 := Lib.hid ((HA9.out.below hz).more hz.size)
              replace HLv := Lib.hid ((HLv.out.below hz).more hz.size)
              replace HA10 := Lib.hid ((HA10.out.below hz).more hz.size)
              replace sz := Nat.le_trans sz hz.size
              clear hz
              go_simp
              refine hK' _ _ ⟨fun h => absurd (show true = false from h) (by decide), ?_⟩
              clear hK' K'
              refine gro.anyM_one 21 (by kernel_rfl) rfl ?_
              intro v339 hz K' hK'
              replace BB := Lib.hid (BB.out.trans (hz.mono BB.out.size))
              replace KK := Lib.hid (KK.out.below hz)
              replace HA9 := Lib.hid ((HA9.out.below hz).more hz.size)
              replace HLv := Lib.hid ((HLv.out.below hz).more hz.size)
              replace HA10 := Lib.hid ((HA10.out.below hz).more hz.size)
              replace sz := Nat.le_trans sz hz.size
              clear hz
              go_simp
              refine hK' _ _ ⟨fun h => absurd (show true = false from h) (by decide), ?_⟩
              clear hK' K'
              refine gro.anyM_done (by kernel_rfl) ?_
              intro v340 hz
              replace BB := Lib.hid (BB.out.trans (hz.mono BB.out.size))
              replace KK := Lib.hid (KK.out.below hz)
              replace HA9 := Lib.hid ((HA9.out.below hz).more hz.size)
              replace HLv := Lib.hid ((HLv.out.below hz).more hz.size)
              replace HA10 := Lib.hid ((HA10.out.below hz).more hz.size)
              replace sz := Nat.le_trans sz hz.size
              clear hz
              have R340 := KK.out.rules
              simp only [gro.Rules] at R340
              go_wp2
              go_ret
              exact ⟨rfl, BB.out⟩
            have hmes2 : i + 1 ≤ p6 := by omega
            obtain ⟨ad, rfl, hblt, hc1, hc2⟩ := mem.PRead.at_ HI6.out hlt
            change wr.cell? (ad.add (i * 2)) = some (.int .i64 (buk.at_ jts i).1) at hc1
            change wr.cell? ⟨(ad.add (i * 2)).block, (ad.add (i * 2)).off + 1, none⟩ = some (.int .i64 (buk.at_ jts i).2) at hc2
            obtain ⟨⟨ha1, ha2⟩, ⟨ha3, ha4⟩, HN⟩ := HA6.out i (by rw [HL6.out]; exact hlt)
            have HT1 := HT.out hlt
            have hTn := hm6.out i hlt
            have HN2 : Hid (i + 1 < p6 → (buk.at_ jts i).1 ≤ (buk.at_ jts (i + 1)).1) := fun h => HN (by rw [HL6.out]; exact h)
            have hta : Hid (jts.take (i + 1) = jts.take i ++ [((buk.at_ jts i).1, (buk.at_ jts i).2)]) := by
              rw [Hid, List.take_succ_eq_append_getElem (by rw [HL6.out]; exact hlt), buk.at_, List.getElem?_eq_getElem (by rw [HL6.out]; exact hlt)]; rfl
            clear HN HT
            generalize (buk.at_ jts i).1 = T at *
            generalize (buk.at_ jts i).2 = V at *
            have HR2 := HRy.out.adv (t := T) HT1
            have HR3 := HR2.add (x := V) (by omega) (by omega) ⟨ha3, ha4⟩
            have hle2 := lst.expireL_le (T - v + 1) ysy
            have hle3 := ext.addL_len a2 V T (lst.expireL (T - v + 1) ysy)
            have hg1 := HRy.out.val (p := 200) (by omega) ⟨hv1, by omega⟩ (by omega) (by omega)
            have hg2 := HR2.val (p := 200) (by omega) ⟨hv1, by omega⟩ (by omega) (by omega)
            have C1 := Lib.hid (fun W (h : mem.PRead W W.heap.size Ay ny ysy) => ext.AdvE_ok (m := a2) (v := v) (p := 200) (o := nowy) (tt := T) h hncy hcmy (by omega) hg1 ⟨HT1, by omega⟩)
            have C2 := Lib.hid (fun A n c W (h : mem.PRead W W.heap.size A n (lst.expireL (T - v + 1) ysy)) h1 h2 => ext.AddE_ok (m := a2) (v := v) (p := 200) (o := T) (x := V) (c := c) h h1 h2 (by have := mem.PRead.len h; omega) hg2 ⟨ha3, ha4⟩ (by omega))
            rw [← hta.out] at HR3
            replace HR3 := Lib.hid HR3
            have hln : Hid ((ext.addL a2 V T (lst.expireL (T - v + 1) ysy)).length ≤ i + 1) := by rw [Hid]; omega
            clear hg1 hg2 HRy HR2 hle2 hle3 hta
            generalize ext.addL a2 V T (lst.expireL (T - v + 1) ysy) = yq3 at *
            generalize lst.expireL (T - v + 1) ysy = yq2 at *
            have R220 := KK.out.rules
            simp only [gro.Rules] at R220
            obtain ⟨gi, hs_gi⟩ : ∃ s, (wr).heap.size = s := ⟨_, rfl⟩
            have wg_gi : w.heap.size ≤ gi := by have := BB.out.size; omega
            obtain ⟨v221, hv221, K5, B5, z5, P5⟩ := cst.newbox (40) #[Value.int IntKind.i64 T, Value.int IntKind.i64 V] KK.out hs_gi BB.out BB.out.size
            have o_gx_gi : gx < gi := by omega
            have o_gy_gi : gy < gi := by omega
            have f_HXy_gi := (P5 _ _ _ HXy.out).2
            replace HXy := Lib.hid (P5 _ _ _ HXy.out).1
            have f_HI5_gi := (P5 _ _ _ HI5.out).2
            replace HI5 := Lib.hid (P5 _ _ _ HI5.out).1
            have f_HI6_gi := (P5 _ _ _ HI6.out).2
            replace HI6 := Lib.hid (P5 _ _ _ HI6.out).1
            have f_HXx_gi := (P5 _ _ _ HXx.out).2
            replace HXx := Lib.hid (P5 _ _ _ HXx.out).1
            replace KK := Lib.hid K5
            replace BB := Lib.hid B5
            replace sz : gi + 1 ≤ (v221).heap.size := by rw [z5]; exact Nat.le_refl _
            clear K5 B5 P5 z5
            have R221 := KK.out.rules
            simp only [gro.Rules] at R221
            go_wp2_with fail
            clear R220 hv221 hs_gi
            (refine (C1.out _ HXy.out).mono ?_)
            rintro e v222 ⟨A3, n3, c3, rfl, q3, ⟨p3, fr⟩, hr, hb⟩
            replace BB := Lib.hid (BB.out.trans (hb.mono BB.out.size))
            replace KK := Lib.hid (KK.out.below hb)
            replace HXy := Lib.hid ((HXy.out.below hb).more hb.size)
            replace HI5 := Lib.hid ((HI5.out.below hb).more hb.size)
            replace HI6 := Lib.hid ((HI6.out.below hb).more hb.size)
            replace HXx := Lib.hid ((HXx.out.below hb).more hb.size)
            have HA3 := Lib.hid hr
            have f_HA3_gi : 0 < n3 → ∀ ad, A3 = some ad → ad.block ≠ gi := fun _ ad h => by have := fr ad h; omega
            have f_HA3_gx : 0 < n3 → ∀ ad, A3 = some ad → ad.block ≠ gx := fun _ ad h => by have := fr ad h; omega
            have f_HA3_gy : 0 < n3 → ∀ ad, A3 = some ad → ad.block ≠ gy := fun _ ad h => by have := fr ad h; omega
            replace sz := Nat.le_trans sz hb.size
            clear hb hr fr
            have R222 := KK.out.rules
            simp only [gro.Rules] at R222
            clear HXy
            have KP := KK.out.perm (L' := [(gy, 24, #[Value.bool a2, Value.int IntKind.i64 v, Value.int IntKind.i64 200, Value.int IntKind.i64 nowy, Value.slice Ay ny cy]), (gi, 40, #[Value.int IntKind.i64 T, Value.int IntKind.i64 V]), (gx, 24, #[Value.bool a2, Value.int IntKind.i64 v, Value.int IntKind.i64 200, Value.int IntKind.i64 nowx, Value.slice Ax nx cx])]) (by simp)
            obtain ⟨v223, hv223, K5, B5, z5, P5⟩ := cst.putC (Value.bool a2) (Value.int IntKind.i64 v) (Value.int IntKind.i64 200) (Value.int IntKind.i64 T) (Value.slice A3 n3 c3) KP (by simp <;> omega) BB.out wg_gy
            replace HI5 := Lib.hid (P5 _ _ _ HI5.out f_HI5_gy)
            replace HI6 := Lib.hid (P5 _ _ _ HI6.out f_HI6_gy)
            replace HXx := Lib.hid (P5 _ _ _ HXx.out f_HXx_gy)
            replace HA3 := Lib.hid (P5 _ _ _ HA3.out f_HA3_gy)
            replace KK := Lib.hid K5
            replace BB := Lib.hid B5
            rw [← z5] at sz
            clear K5 B5 P5 KP z5
            have R223 := KK.out.rules
            simp only [gro.Rules] at R223
            go_wp2_with fail
            clear R221 R222 hv223
            (refine (C2.out _ _ _ _ HA3.out q3 p3).mono ?_)
            rintro e v224 ⟨A4, n4, c4, rfl, q4, ⟨p4, fr⟩, hr, hb⟩
            replace BB := Lib.hid (BB.out.trans (hb.mono BB.out.size))
            replace KK := Lib.hid (KK.out.below hb)
            replace HI5 := Lib.hid ((HI5.out.below hb).more hb.size)
            replace HI6 := Lib.hid ((HI6.out.below hb).more hb.size)
            replace HXx := Lib.hid ((HXx.out.below hb).more hb.size)
            replace HA3 := Lib.hid ((HA3.out.below hb).more hb.size)
            have HA4 := Lib.hid hr
            have f_HA4_gy : 0 < n4 → ∀ ad, A4 = some ad → ad.block ≠ gy := fun _ ad h => by have := fr ad h; omega
            have f_HA4_gi : 0 < n4 → ∀ ad, A4 = some ad → ad.block ≠ gi := fun _ ad h => by have := fr ad h; omega
            have f_HA4_gx : 0 < n4 → ∀ ad, A4 = some ad → ad.block ≠ gx := fun _ ad h => by have := fr ad h; omega
            have fx4 : ∀ ad, A4 = some ad → gy < ad.block := fun ad h => by have := fr ad h; omega
            replace sz := Nat.le_trans sz hb.size
            clear hb hr fr
            have R224 := KK.out.rules
            simp only [gro.Rules] at R224
            clear HA3
            have KP := KK.out.perm (L' := [(gy, 24, #[Value.bool a2, Value.int IntKind.i64 v, Value.int IntKind.i64 200, Value.int IntKind.i64 T, Value.slice A3 n3 c3]), (gi, 40, #[Value.int IntKind.i64 T, Value.int IntKind.i64 V]), (gx, 24, #[Value.bool a2, Value.int IntKind.i64 v, Value.int IntKind.i64 200, Value.int IntKind.i64 nowx, Value.slice Ax nx cx])]) (by simp)
            obtain ⟨v225, hv225, K5, B5, z5, P5⟩ := cst.putC (Value.bool a2) (Value.int IntKind.i64 v) (Value.int IntKind.i64 200) (Value.int IntKind.i64 T) (Value.slice A4 n4 c4) KP (by simp <;> omega) BB.out wg_gy
            replace HI5 := Lib.hid (P5 _ _ _ HI5.out f_HI5_gy)
            replace HI6 := Lib.hid (P5 _ _ _ HI6.out f_HI6_gy)
            replace HXx := Lib.hid (P5 _ _ _ HXx.out f_HXx_gy)
            replace HA4 := Lib.hid (P5 _ _ _ HA4.out f_HA4_gy)
            replace KK := Lib.hid K5
            replace BB := Lib.hid B5
            rw [← z5] at sz
            clear K5 B5 P5 KP z5
            have R225 := KK.out.rules
            simp only [gro.Rules] at R225
            have hl4 := mem.PRead.len HA4.out
            have hn4 : n4 ≤ i + 1 := by have := hln.out; omega
            have hsz2 : gy + 1 ≤ (v225).heap.size := by omega
            go_wp2_with fail
            clear R223 R224 hv225
            go_roundg (p6 - (i + 1))
            case measure => omega
            case rel => exact ⟨i + 1, A4, n4, c4, yq3, T, by go_num, rfl, hmes2, Nat.le_refl _, q4, p4, ha1, hTn, HN2.out, hn4, HR3.out, HA4.out, HI5.out, HI6.out, HXx.out, Lib.hid fx4, KK.out.perm (by simp), BB.out, hsz2⟩
        have hmes2 : i + 1 ≤ p5 := by omega
        obtain ⟨ad, rfl, hblt, hc1, hc2⟩ := mem.PRead.at_ HI5.out hlt
        change wr.cell? (ad.add (i * 2)) = some (.int .i64 (buk.at_ its i).1) at hc1
        change wr.cell? ⟨(ad.add (i * 2)).block, (ad.add (i * 2)).off + 1, none⟩ = some (.int .i64 (buk.at_ its i).2) at hc2
        obtain ⟨⟨ha1, ha2⟩, ⟨ha3, ha4⟩, HN⟩ := HA5.out i (by rw [HL5.out]; exact hlt)
        have HT1 := HT.out hlt
        have hTn := hm5.out i hlt
        have HN2 : Hid (i + 1 < p5 → (buk.at_ its i).1 ≤ (buk.at_ its (i + 1)).1) := fun h => HN (by rw [HL5.out]; exact h)
        have hta : Hid (its.take (i + 1) = its.take i ++ [((buk.at_ its i).1, (buk.at_ its i).2)]) := by
          rw [Hid, List.take_succ_eq_append_getElem (by rw [HL5.out]; exact hlt), buk.at_, List.getElem?_eq_getElem (by rw [HL5.out]; exact hlt)]; rfl
        clear HN HT
        generalize (buk.at_ its i).1 = T at *
        generalize (buk.at_ its i).2 = V at *
        have HR2 := HRx.out.adv (t := T) HT1
        have HR3 := HR2.add (x := V) (by omega) (by omega) ⟨ha3, ha4⟩
        have hle2 := lst.expireL_le (T - v + 1) ysx
        have hle3 := ext.addL_len a2 V T (lst.expireL (T - v + 1) ysx)
        have hg1 := HRx.out.val (p := 200) (by omega) ⟨hv1, by omega⟩ (by omega) (by omega)
        have hg2 := HR2.val (p := 200) (by omega) ⟨hv1, by omega⟩ (by omega) (by omega)
        have C1 := Lib.hid (fun W (h : mem.PRead W W.heap.size Ax nx ysx) => ext.AdvE_ok (m := a2) (v := v) (p := 200) (o := nowx) (tt := T) h hncx hcmx (by omega) hg1 ⟨HT1, by omega⟩)
        have C2 := Lib.hid (fun A n c W (h : mem.PRead W W.heap.size A n (lst.expireL (T - v + 1) ysx)) h1 h2 => ext.AddE_ok (m := a2) (v := v) (p := 200) (o := T) (x := V) (c := c) h h1 h2 (by have := mem.PRead.len h; omega) hg2 ⟨ha3, ha4⟩ (by omega))
        rw [← hta.out] at HR3
        replace HR3 := Lib.hid HR3
        have hln : Hid ((ext.addL a2 V T (lst.expireL (T - v + 1) ysx)).length ≤ i + 1) := by rw [Hid]; omega
        clear hg1 hg2 HRx HR2 hle2 hle3 hta
        generalize ext.addL a2 V T (lst.expireL (T - v + 1) ysx) = yq3 at *
        generalize lst.expireL (T - v + 1) ysx = yq2 at *
        have R20 := KK.out.rules
        simp only [gro.Rules] at R20
        obtain ⟨gi, hs_gi⟩ : ∃ s, (wr).heap.size = s := ⟨_, rfl⟩
        have wg_gi : w.heap.size ≤ gi := by have := BB.out.size; omega
        obtain ⟨v21, hv21, K5, B5, z5, P5⟩ := cst.newbox (40) #[Value.int IntKind.i64 T, Value.int IntKind.i64 V] KK.out hs_gi BB.out BB.out.size
        have o_gx_gi : gx < gi := by omega
        have o_gy_gi : gy < gi := by omega
        have f_HXx_gi := (P5 _ _ _ HXx.out).2
        replace HXx := Lib.hid (P5 _ _ _ HXx.out).1
        have f_HI5_gi := (P5 _ _ _ HI5.out).2
        replace HI5 := Lib.hid (P5 _ _ _ HI5.out).1
        have f_HI6_gi := (P5 _ _ _ HI6.out).2
        replace HI6 := Lib.hid (P5 _ _ _ HI6.out).1
        replace KK := Lib.hid K5
        replace BB := Lib.hid B5
        replace sz : gi + 1 ≤ (v21).heap.size := by rw [z5]; exact Nat.le_refl _
        clear K5 B5 P5 z5
        have R21 := KK.out.rules
        simp only [gro.Rules] at R21
        go_wp2_with fail
        clear R20 hv21 hs_gi
        (refine (C1.out _ HXx.out).mono ?_)
        rintro e v22 ⟨A3, n3, c3, rfl, q3, ⟨p3, fr⟩, hr, hb⟩
        replace BB := Lib.hid (BB.out.trans (hb.mono BB.out.size))
        replace KK := Lib.hid (KK.out.below hb)
        replace HXx := Lib.hid ((HXx.out.below hb).more hb.size)
        replace HI5 := Lib.hid ((HI5.out.below hb).more hb.size)
        replace HI6 := Lib.hid ((HI6.out.below hb).more hb.size)
        have HA3 := Lib.hid hr
        have f_HA3_gi : 0 < n3 → ∀ ad, A3 = some ad → ad.block ≠ gi := fun _ ad h => by have := fr ad h; omega
        have f_HA3_gx : 0 < n3 → ∀ ad, A3 = some ad → ad.block ≠ gx := fun _ ad h => by have := fr ad h; omega
        have f_HA3_gy : 0 < n3 → ∀ ad, A3 = some ad → ad.block ≠ gy := fun _ ad h => by have := fr ad h; omega
        replace sz := Nat.le_trans sz hb.size
        clear hb hr fr
        have R22 := KK.out.rules
        simp only [gro.Rules] at R22
        clear HXx
        have KP := KK.out.perm (L' := [(gx, 24, #[Value.bool a2, Value.int IntKind.i64 v, Value.int IntKind.i64 200, Value.int IntKind.i64 nowx, Value.slice Ax nx cx]), (gi, 40, #[Value.int IntKind.i64 T, Value.int IntKind.i64 V]), (gy, 24, #[Value.bool a2, Value.int IntKind.i64 v, Value.int IntKind.i64 200, Value.int IntKind.i64 0, Value.slice none 0 0])]) (by simp)
        obtain ⟨v23, hv23, K5, B5, z5, P5⟩ := cst.putC (Value.bool a2) (Value.int IntKind.i64 v) (Value.int IntKind.i64 200) (Value.int IntKind.i64 T) (Value.slice A3 n3 c3) KP (by simp <;> omega) BB.out wg_gx
        replace HI5 := Lib.hid (P5 _ _ _ HI5.out f_HI5_gx)
        replace HI6 := Lib.hid (P5 _ _ _ HI6.out f_HI6_gx)
        replace HA3 := Lib.hid (P5 _ _ _ HA3.out f_HA3_gx)
        replace KK := Lib.hid K5
        replace BB := Lib.hid B5
        rw [← z5] at sz
        clear K5 B5 P5 KP z5
        have R23 := KK.out.rules
        simp only [gro.Rules] at R23
        go_wp2_with fail
        clear R21 R22 hv23
        (refine (C2.out _ _ _ _ HA3.out q3 p3).mono ?_)
        rintro e v24 ⟨A4, n4, c4, rfl, q4, ⟨p4, fr⟩, hr, hb⟩
        replace BB := Lib.hid (BB.out.trans (hb.mono BB.out.size))
        replace KK := Lib.hid (KK.out.below hb)
        replace HI5 := Lib.hid ((HI5.out.below hb).more hb.size)
        replace HI6 := Lib.hid ((HI6.out.below hb).more hb.size)
        replace HA3 := Lib.hid ((HA3.out.below hb).more hb.size)
        have HA4 := Lib.hid hr
        have f_HA4_gx : 0 < n4 → ∀ ad, A4 = some ad → ad.block ≠ gx := fun _ ad h => by have := fr ad h; omega
        have f_HA4_gi : 0 < n4 → ∀ ad, A4 = some ad → ad.block ≠ gi := fun _ ad h => by have := fr ad h; omega
        have f_HA4_gy : 0 < n4 → ∀ ad, A4 = some ad → ad.block ≠ gy := fun _ ad h => by have := fr ad h; omega
        have fx4 : ∀ ad, A4 = some ad → gy < ad.block := fun ad h => by have := fr ad h; omega
        replace sz := Nat.le_trans sz hb.size
        clear hb hr fr
        have R24 := KK.out.rules
        simp only [gro.Rules] at R24
        clear HA3
        have KP := KK.out.perm (L' := [(gx, 24, #[Value.bool a2, Value.int IntKind.i64 v, Value.int IntKind.i64 200, Value.int IntKind.i64 T, Value.slice A3 n3 c3]), (gi, 40, #[Value.int IntKind.i64 T, Value.int IntKind.i64 V]), (gy, 24, #[Value.bool a2, Value.int IntKind.i64 v, Value.int IntKind.i64 200, Value.int IntKind.i64 0, Value.slice none 0 0])]) (by simp)
        obtain ⟨v25, hv25, K5, B5, z5, P5⟩ := cst.putC (Value.bool a2) (Value.int IntKind.i64 v) (Value.int IntKind.i64 200) (Value.int IntKind.i64 T) (Value.slice A4 n4 c4) KP (by simp <;> omega) BB.out wg_gx
        replace HI5 := Lib.hid (P5 _ _ _ HI5.out f_HI5_gx)
        replace HI6 := Lib.hid (P5 _ _ _ HI6.out f_HI6_gx)
        replace HA4 := Lib.hid (P5 _ _ _ HA4.out f_HA4_gx)
        replace KK := Lib.hid K5
        replace BB := Lib.hid B5
        rw [← z5] at sz
        clear K5 B5 P5 KP z5
        have R25 := KK.out.rules
        simp only [gro.Rules] at R25
        have hl4 := mem.PRead.len HA4.out
        have hn4 : n4 ≤ i + 1 := by have := hln.out; omega
        have hsz2 : gy + 1 ≤ (v25).heap.size := by omega
        go_wp2_with fail
        clear R23 R24 hv25
        go_roundg (p5 - (i + 1))
        case measure => omega
        case rel => exact ⟨i + 1, A4, n4, c4, yq3, T, by go_num, rfl, hmes2, Nat.le_refl _, q4, p4, ha1, hTn, HN2.out, hn4, HR3.out, HA4.out, HI5.out, HI6.out, Lib.hid fx4, KK.out.perm (by simp), BB.out, hsz2⟩
    obtain ⟨adj, rfl, hbj, hc1, hc2⟩ := mem.PRead.at_ ((HJ.out.below HBL.out)) hlt
    have hsj := HBL.out.size
    have hbj2 : adj.block < wr.heap.size := by omega
    change wr.cell? (adj.add (i * 2)) = some (.int .i64 (buk.at_ (its ++ jts) i).1) at hc1
    change wr.cell? ⟨(adj.add (i * 2)).block, (adj.add (i * 2)).off + 1, none⟩ = some (.int .i64 (buk.at_ (its ++ jts) i).2) at hc2
    obtain ⟨hT0, hT1⟩ := hTb.out i hlt
    obtain ⟨T, hT⟩ : ∃ t, (buk.at_ (its ++ jts) i).1 = t := ⟨_, rfl⟩
    rw [hT] at hc1 hT0 hT1
    have HTt := Lib.hid hT
    clear hT
    generalize (buk.at_ (its ++ jts) i).2 = V at *
    obtain ⟨gi, hgi⟩ : ∃ s, wr.heap.size = s := ⟨_, rfl⟩
    have KZ := gro.Bx.nil_.new (W := wr) (t := 40) (c := #[Value.int IntKind.i64 T, Value.int IntKind.i64 V]) hgi
    have RZ := KZ.rules
    simp only [gro.Rules] at RZ
    by_cases hc : nw < T
    case pos =>
      go_wp2_with fail
      go_roundg (p5 + p6 - (i + 1))
      case measure => omega
      case rel => exact ⟨i + 1, T, by go_num, rfl, by omega, by omega, hT0, hT1, Lib.hid (fun j h => by by_cases e : j = i; (· rw [e, HTt.out]; exact Int.le_refl _); (· have := HM.out j (by omega); omega)), HBL.out.alloc HBL.out.size _⟩
    go_wp2_with fail
    go_roundg (p5 + p6 - (i + 1))
    case measure => omega
    case rel => exact ⟨i + 1, nw, by go_num, rfl, by omega, by omega, hw0, hw1, Lib.hid (fun j h => by by_cases e : j = i; (· rw [e, HTt.out]; omega); (· exact HM.out j (by omega))), HBL.out.alloc HBL.out.size _⟩
end Go.Proofs.Yteajgmihhnghfaa.extremeBoth
