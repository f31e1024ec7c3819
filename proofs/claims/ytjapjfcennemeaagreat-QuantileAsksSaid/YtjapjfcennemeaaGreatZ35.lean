/- BInsA: proved here in one text, no conditions beyond those that each theorem states. -/
import Derived.Deep.DeepCutAuto
import Derived.Deep.CutBlock
import Derived.StillTailTactics
import Derived.Test.YtjapjfcennemeaaGreatZ33
set_option linter.unusedVariables false
set_option linter.unusedSimpArgs false
namespace Go.Proofs.YtjapjfcennemeaaGreat.blk
open Go.RowKit Go.Proofs.YtjapjfcennemeaaGreat.mem Go.Proofs.YtjapjfcennemeaaGreat.rnk Go.Proofs.YtjapjfcennemeaaGreat.gro Go.Proofs.YtjapjfcennemeaaGreat.buk
set_option linter.unusedVariables false
set_option linter.unusedSimpArgs false
set_option pp.maxSteps 200000
def Apt (P : Nat → Prop) (hi : Nat) (ys : List BlkM) : Prop := ∀ y ∈ ys, 0 < y.en → ∀ ad, y.adr = some ad → P ad.block ∨ hi ≤ ad.block
def NewBKA (P : Nat → Prop) (ks : List K5) (w : World) (e : Ending) (w' : World) : Prop :=
  ∃ A m c ys, e = .returned (.slice A m c) ∧ m ≤ c ∧ c ≤ maxLen ∧ BRead w' w'.heap.size A m ys ∧ ys.map bkey = ks ∧ Below w.heap.size w w' ∧ (∀ ad, A = some ad → w.heap.size ≤ ad.block) ∧ Apt P w.heap.size ys
set_option maxHeartbeats 16000000 in
set_option maxRecDepth 100000 in
theorem InsertB_yesA (P : Nat → Prop) (A : Option Addr) (n c : Nat) (xs : List BlkM) (k : Nat) (b t v : Int) (w : World) (h1 : BRead w w.heap.size A n xs) (hs : n ≤ 64000) (hent : entsK (xs.map bkey) ≤ 4000000) (hm : mayK (xs.map bkey) k b t v = true) (hA : ∀ x ∈ xs, 0 < x.en → ∀ ad, x.adr = some ad → P ad.block) : Calls Tryz.prog 21 #[.slice A n c, .int .i64 k, .int .i64 b, .int .i64 t, .int .i64 v] w (NewBKA P (insKC (xs.map bkey) k b t v) w) := by
  have HA0 := Lib.hid hA
  clear hA
  have HV := Lib.hid (ValidB_any A n c xs k b w h1 (by omega))
  have HT := Lib.hid (fun W (hb : Below w.heap.size w W) => TotalB_any A n c xs W ((h1.below hb).more hb.size) (by omega))
  obtain ⟨hv, ⟨ht1, ht2⟩, hlast, ⟨hv1, hv2⟩, htot⟩ := mayK_iff.1 hm
  rw [hv] at HV
  have hk := (validB_iff.1 (validK_iff.1 hv).2.1).1
  have hk1 : 1 ≤ k := by omega
  have hk2 : k ≤ 128 := by omega
  have htot2 : ¬ 1073741824 ≤ (totalK (xs.map bkey) : Int) := by omega
  have H1 := Lib.hid h1
  have HL := Lib.hid h1.len
  have HEn0 := Lib.hid hent
  clear hv hk htot hm hent
  generalize ((totalK (xs.map bkey) : Nat) : Int) = tt at *
  obtain ⟨i0, hi0, hz0, hz1, hz2⟩ := info_parts block_info
  have HI := Lib.hid hi0
  have HZ0 := Lib.hid hz0
  have HZ1 := Lib.hid hz1
  have HZ2 := Lib.hid hz2
  clear hi0 hz0 hz1 hz2
  go_enter Tryz.func21, Tryz.ntmps21
  go_upto_region 1 with fail
  go_cut [60] (fun s60 wx => s60 = .bool false ∧ Hid (Below w.heap.size w wx))
  case first =>
    by_cases h0 : 0 < n
    case pos =>
      obtain ⟨ad, x, rfl, hbl, hx, hc, _⟩ := BRead.at_ h1 (show n - 1 < n by omega)
      rw [lastK_last HL.out h0 hx] at hlast
      have HC := Lib.hid (fun W (hb : Below w.heap.size w W) => (hb.cell (p := ad.add ((n - 1) * 5)) (by rw [block_of_add]; exact hbl)).trans hc)
      clear hx hc h1
      generalize x.t = z at *
      have s1 : IntKind.i64.wrap ((n : Int) - 1) = (n : Int) - 1 := IntWalk.i64_in _ (by omega)
      have s2 : ((n : Int) - 1).toNat = n - 1 := by omega
      go_wp2_with fail
      refine HV.out.mono ?_
      rintro e w1 ⟨rfl, hb1⟩
      have HB1 := Lib.hid hb1
      have hc := HC.out _ hb1
      clear hb1 HV
      go_wp2_with (go_at_call 20; refine (HT.out _ HB1.out).mono ?_; rintro e w3 ⟨rfl, hb3⟩; have HB3 := Lib.hid (HB1.out.trans (hb3.mono HB1.out.size)); clear hb3)
      go_meet
      exact ⟨congrArg Value.bool (by simp; omega), HB3⟩
    obtain rfl : n = 0 := by omega
    clear h1
    go_wp2_with fail
    refine HV.out.mono ?_
    rintro e w1 ⟨rfl, hb1⟩
    have HB1 := Lib.hid hb1
    clear hb1 HV
    go_wp2_with (go_at_call 20; refine (HT.out _ HB1.out).mono ?_; rintro e w3 ⟨rfl, hb3⟩; have HB3 := Lib.hid (HB1.out.trans (hb3.mono HB1.out.size)); clear hb3)
    go_meet
    exact ⟨congrArg Value.bool (by simp; omega), HB3⟩
  case rest =>
  obtain ⟨rfl, HB⟩ := hcut
  clear HV HT htot2 hlast h1 ht1 ht2 hv1 hv2
  obtain ⟨sb, hsb⟩ : ∃ s, wc.heap.size = s := ⟨_, rfl⟩
  have hwb : w.heap.size ≤ sb := by have := HB.out.size; omega
  have HSB := Lib.hid hsb
  clear hsb
  go_wp2_with (first | (at_builtin; (refine wpList_append_any _ rfl (.tmp 61) (.tmp 62) 22 rfl wc.heap.size 41 i0 (.agg #[.int .i64 0, .int .i64 0, .int .i64 0, .int .i64 0, .slice none 0 0]) 5 56 Tryz.underlying22 HI.out HZ0.out HZ1.out HZ2.out rfl (by omega) (.slice (some ⟨wc.heap.size, 0, none⟩) 0 0) 0 [] rfl (own_empty wc 41) w.heap.size A n c (bc xs) rfl ((H1.out.1.below HB.out).alloc HB.out.size _) (bc_oneCell xs) (by unfold maxLen; omega) (by omega) (by simp) ?_); intro v4 w4 hown4 hg4 hat4; simp only [Nat.zero_add, List.nil_append] at hown4; obtain ⟨A4, c4, rfl, q1, q2, q3⟩ := own_form hown4; have HB4 : Hid (Below wc.heap.size wc w4) := ((Below.refl _ _).alloc (Nat.le_refl _) _).grown hg4 (by simp) (by simp [Value.ownBlock]); have HO4 := Lib.hid hown4; clear hown4 hg4 hat4 q3) | (go_at_call 44; refine (single_any v _).mono ?_; rintro e w5 ⟨A5, m5, c5, rfl, r1, r2, r3, hb5, hfr5⟩; obtain rfl : 1 = m5 := (by have := r3.len; simpa using this); have HB5 := Lib.hid hb5; have HO5 := Lib.hid (own_keep HO4.out hb5); have HE5 := Lib.hid r3; have HF5 := Lib.hid hfr5; clear r3 hb5 hfr5) | (at_builtin; refine wpList_append_any _ rfl (.tmp 63) (.tmp 69) 22 rfl wc.heap.size 41 i0 (.agg #[.int .i64 0, .int .i64 0, .int .i64 0, .int .i64 0, .slice none 0 0]) 5 56 Tryz.underlying22 HI.out HZ0.out HZ1.out HZ2.out rfl (by omega) (.slice A4 n c4) n (bc xs) rfl (own_alloc HO5.out _) _ _ 1 1 _ rfl (reads_blk (blk_new2 rfl) rfl) (by simp [Value.oneCell']) (by unfold maxLen; omega) (by omega) (by have h4 := HB4.out.size; have h5 := HB5.out.size; simp; omega) ?_; intro v6 w6 hown6 hg6 hat6; obtain ⟨g1, c1, rfl, p1, p2, p3, p4⟩ := own_form2 hown6 (by omega); have HO6 := Lib.hid hown6; have HG6 := Lib.hid hg6; have HA6 := Lib.hid hat6; clear hown6 hg6 hat6))
  have hsb := HSB.out
  have h4 := HB4.out.size
  have h5 := HB5.out.size
  have BB5 := HB.out.trans ((HB4.out.trans (HB5.out.mono HB4.out.size)).mono HB.out.size)
  have HB6 := Lib.hid (below_own HG6.out (own_alloc HO5.out _) (BB5.alloc BB5.size _) HB.out.size (by simp; omega))
  have hown4lt := fun k h => (World.ownsRow.lt HO4.out k h)
  have e6 : g1 = w5.heap.size + 1 ∨ ∃ k, (Value.slice A4 n c4).ownBlock = some k ∧ g1 = k := by
    have h6 := HA6.out
    rcases h6 with h6 | h6
    · exact .inr ⟨g1, by rw [← h6]; rfl, rfl⟩
    · simp [Value.ownBlock] at h6
      exact .inl h6
  have HEn6 : Hid (Ents w6 g1 (xs ++ [⟨t, v, 0, 1, A5, 1, c5, [(v, 1, 1)]⟩])) := by
    intro y hy
    rcases List.mem_append.1 hy with hy | hy
    · obtain ⟨a1, a2, a3⟩ := H1.out.2 y hy
      exact ⟨(ERead.below a1 HB6.out).more HB6.out.size, a2, a3, fun h0 ad h => by have := rnk.Reads.blk a1 h0 ad h; omega⟩
    · obtain rfl : y = ⟨t, v, 0, 1, A5, 1, c5, [(v, 1, 1)]⟩ := by simpa using hy
      refine ⟨Reads.appG (W := w5.alloc _) ((Reads.below HE5.out ((Below.refl _ _).alloc (Nat.le_refl _) _)).more (by simp)) HG6.out (fun h0 ad h e => ?_), r1, r2, fun h0 ad h => ?_⟩
      · have f1 := HF5.out ad h
        have f2 := (hown4lt _ e.symm).2
        omega
      · have f1 := HF5.out ad h
        have f3 := rnk.Reads.blk HE5.out h0 ad h
        rcases e6 with e6 | ⟨k, e6, e7⟩
        · omega
        · have := (hown4lt _ e6).2; omega
  have HAp0 : Hid (Apt P w.heap.size (xs ++ [⟨t, v, 0, 1, A5, 1, c5, [(v, 1, 1)]⟩])) := fun y hy h0 ad h => by
    rcases List.mem_append.1 hy with hy | hy
    · exact .inl (HA0.out y hy h0 ad h)
    · obtain rfl : y = ⟨t, v, 0, 1, A5, 1, c5, [(v, 1, 1)]⟩ := by simpa using hy
      have f1 := HF5.out ad h
      exact .inr (by omega)
  clear HA0
  have HK0 : Hid (w6.ownsRow sb 41 5 (.slice (some ⟨g1, 0, none⟩) (n + 1) c1) (n + 1) (bc (xs ++ [⟨t, v, 0, 1, A5, 1, c5, [(v, 1, 1)]⟩]))) := by
    have := HO6.out; rw [hsb] at this; rw [Hid, bc_append]; exact this
  have HEK : Hid (entsK ((xs ++ [(⟨t, v, 0, 1, A5, 1, c5, [(v, 1, 1)]⟩ : BlkM)]).map bkey) ≤ 4000001) := by
    have := HEn0.out; unfold entsK at this ⊢; rw [Hid]; simp [bkey]; simp at this; omega
  have hbg1 : sb ≤ g1 := by omega
  have hk0 : sb ≤ w6.heap.size := by omega
  have HCs : Hid (cascK k b (n + 1) ((xs ++ [(⟨t, v, 0, 1, A5, 1, c5, [(v, 1, 1)]⟩ : BlkM)]).map bkey) 0 (n + 1) = insKC (xs.map bkey) k b t v) := by
    rw [Hid, insKC, List.length_map, HL.out, List.map_append]; rfl
  have HLn : Hid ((xs ++ [(⟨t, v, 0, 1, A5, 1, c5, [(v, 1, 1)]⟩ : BlkM)]).length = n + 1) := by rw [Hid]; simp; exact HL.out
  generalize xs ++ [(⟨t, v, 0, 1, A5, 1, c5, [(v, 1, 1)]⟩ : BlkM)] = ys0 at *
  clear hsb HO6 HG6 HA6 HO4 HO5 HE5 HF5 HB4 HB5 BB5 hown4lt e6 h4 h5 p3 p4
  go_loopg [11, 12, 13] (n + 1) (fun kx s11 s12 s13 wr => ∃ (ys : List BlkM) (m l e f g' c' : Nat), s11 = .slice (some ⟨g', 0, none⟩) m c' ∧ s12 = .int .i64 e ∧ s13 = .int .i64 l ∧ e ≤ m ∧ 1 ≤ m ∧ m ≤ c' ∧ c' ≤ 9223372036854775807 ∧ m ≤ kx ∧ m ≤ f ∧ l + m ≤ n + 1 ∧ sb ≤ wr.heap.size ∧ sb ≤ g' ∧ Hid (ys.length = m) ∧ Hid (wr.ownsRow sb 41 5 (.slice (some ⟨g', 0, none⟩) m c') m (bc ys)) ∧ Hid (Ents wr g' ys) ∧ Hid (Below w.heap.size w wr) ∧ Hid (entsK (ys.map bkey) ≤ 4000001) ∧ Hid (cascK k b f (ys.map bkey) l e = insKC (xs.map bkey) k b t v) ∧ Hid (Apt P w.heap.size ys))
  case atStart => exact ⟨ys0, n + 1, 0, n + 1, n + 1, g1, c1, rfl, by go_num, rfl, Nat.le_refl _, by omega, p1, p2, Nat.le_refl _, Nat.le_refl _, by omega, hk0, hbg1, HLn, HK0, HEn6, HB6, HEK, HCs, HAp0⟩
  case round =>
    clear HK0 HEn6 HB6 HEK HCs HAp0 HLn HL HEn0 H1 HB hk0 hbg1 p1 p2 r1 r2 q1 q2
    obtain ⟨ys, m, l, e, f, g', c', rfl, rfl, rfl, he, hm1, hmc, hcm, hmk, hmf, hlm, hbw, hgb, HLy, HO, HEn, BB, HEK, HE, HAp⟩ := hrel
    have s0 : IntKind.i64.wrap ((l : Int) + 1) = (l : Int) + 1 := IntWalk.i64_in _ (by omega)
    go_upto_block 2 with fail
    go_cut [14] (fun s14 wx => ∃ bg : Nat, s14 = .int .i64 bg ∧ bg ≤ e ∧ Hid (runK (ys.map bkey) l e = bg) ∧ wr = wx)
    case first =>
      go_wp2_with fail
      go_loopg [14] e (fun kx s14 wx => ∃ bb : Nat, s14 = .int .i64 bb ∧ bb ≤ kx ∧ bb ≤ e ∧ Hid (runK (ys.map bkey) l e = runK (ys.map bkey) l bb) ∧ wr = wx)
      case atStart => exact ⟨e, rfl, Nat.le_refl _, Nat.le_refl _, (rfl : runK (ys.map bkey) l e = runK (ys.map bkey) l e), rfl⟩
      case round =>
        obtain ⟨bb, rfl, hbk, hbe, HR, rfl⟩ := hrel
        by_cases h0 : 0 < bb
        case neg =>
          obtain rfl : bb = 0 := by omega
          go_wp2
          go_meet
          exact ⟨0, rfl, hbe, HR.out, rfl⟩
        obtain ⟨x, hx, cc1, cc2, cc3, cc4, cc5⟩ := own_blk HO.out (show bb - 1 < m by omega)
        have hat : (atK (ys.map bkey) (bb - 1)).2.2.1 = x.level := by rw [atK_key hx]
        have hrun : runK (ys.map bkey) l bb = if x.level = (l : Int) then runK (ys.map bkey) l (bb - 1) else bb := by
          obtain ⟨b', rfl⟩ : ∃ b', bb = b' + 1 := ⟨bb - 1, by omega⟩
          rw [runK]
          rw [Nat.add_sub_cancel] at hat ⊢
          rw [hat]
        have HRn := Lib.hid hrun
        clear hat hrun hx cc1 cc2 cc4 cc5
        generalize x.level = lv at *
        have sb1 : IntKind.i64.wrap ((bb : Int) - 1) = (bb : Int) - 1 := IntWalk.i64_in _ (by omega)
        have sb2 : ((bb : Int) - 1).toNat = bb - 1 := by omega
        have sb3 : (bb : Int) - 1 < m := by omega
        have sb4 : 0 ≤ (bb : Int) - 1 := by omega
        have h0' : (0 : Int) < (bb : Int) := by omega
        by_cases hlv : lv = (l : Int)
        case pos =>
          have HR2 : Hid (runK (ys.map bkey) l e = runK (ys.map bkey) l (bb - 1)) := by rw [Hid, HR.out, HRn.out, if_pos hlv]
          have hd : (lv == (l : Int)) = true := by simpa using hlv
          rw [hlv] at cc3
          clear hlv HRn hd
          go_wp2
          go_roundg (bb - 1)
          case measure => omega
          case rel => exact ⟨bb - 1, by go_num, by omega, by omega, HR2, rfl⟩
        have HR2 : Hid (runK (ys.map bkey) l e = bb) := by rw [Hid, HR.out, HRn.out, if_neg hlv]
        have hd : (lv == (l : Int)) = false := by simpa using hlv
        clear HRn
        go_wp2
        go_meet
        exact ⟨bb, rfl, hbe, HR2, rfl⟩
    case rest =>
    obtain ⟨bg, rfl, hbe, HRb, rfl⟩ := hcut
    by_cases hst : e - bg < k + 2
    case pos =>
      have HC : Hid (insKC (xs.map bkey) k b t v = ys.map bkey) := by rw [Hid, ← HE.out, cascK_stop (by rw [HRb.out]; exact hst)]
      have hst2 : (e : Int) - bg < k + 2 := by omega
      clear hst
      go_wp2
      go_ret
      exact ⟨_, m, c', ys, rfl, hmc, hcm, ⟨Reads.of_own HO.out, fun y hy => by obtain ⟨a1, a2, a3, _⟩ := HEn.out y hy; exact ⟨a1, a2, a3⟩⟩, HC.out.symm, BB.out, (fun ad h => by injection h with h; subst h; show w.heap.size ≤ g'; omega), HAp.out⟩
    obtain ⟨f, rfl⟩ : ∃ f', f = f' + 1 := ⟨f - 1, by omega⟩
    have HC : Hid (cascK k b f (joinK b (ys.map bkey) bg l) (l + 1) (bg + 1) = insKC (xs.map bkey) k b t v) := by
      have := HE.out
      rw [cascK_go (by rw [HRb.out]; exact hst), HRb.out] at this
      exact this
    have hst2 : ¬ (e : Int) - bg < k + 2 := by omega
    obtain ⟨x, hx, HX⟩ := own_cells HO.out (show bg < m by omega)
    obtain ⟨y, hy, HY⟩ := own_cells HO.out (show bg + 1 < m by omega)
    have HLx := Lib.hid (ents_le (List.mem_of_getElem? hx))
    have HLy2 := Lib.hid (ents_le (List.mem_of_getElem? hy))
    have HJ := Lib.hid (fun (nb : BlkM) h => joinM_key (bb := b) (l := (l : Int)) (b := nb) hx hy h)
    have HEx := Lib.hid (HEn.out x (List.mem_of_getElem? hx))
    have HEy := Lib.hid (HEn.out y (List.mem_of_getElem? hy))
    clear hx hy HE HRb
    rcases x with ⟨xt, xl, xv, xn, xa, xe, xc, xes⟩
    rcases y with ⟨yt, yl, yv, yn, ya, ye, yc, yes⟩
    simp only at HX HY HLx HLy2 HEx HEy
    have hxe : xes.length = xe := HEx.out.1.len
    have hye : yes.length = ye := HEy.out.1.len
    have hxs : xe ≤ 4000001 := by have := HLx.out; have := HEK.out; omega
    have hys : ye ≤ 4000001 := by have := HLy2.out; have := HEK.out; omega
    have t1 : IntKind.i64.wrap ((bg : Int) + 1) = (bg : Int) + 1 := IntWalk.i64_in _ (by omega)
    have t2 : ((bg : Int) + 1).toNat = bg + 1 := by omega
    have t3 : (bg : Int) + 1 < m := by omega
    have t4 : 0 ≤ (bg : Int) + 1 := by omega
    have t5 : (bg : Int) < m := by omega
    go_upto_region 12 with fail
    go_cut [15, 16] (fun s15 s16 wx => ∃ p q : Nat, s15 = .pointer (some ⟨p, 0, none⟩) ∧ s16 = .pointer (some ⟨q, 0, none⟩) ∧ wr.heap.size ≤ p ∧ wr.heap.size ≤ q ∧ p ≠ q ∧ Hid (Bx wx [(q, 41, #[Value.int IntKind.i64 yt, Value.int IntKind.i64 yl, Value.int IntKind.i64 yv, Value.int IntKind.i64 yn, Value.slice ya ye yc]), (p, 41, #[Value.int IntKind.i64 xt, Value.int IntKind.i64 xl, Value.int IntKind.i64 xv, Value.int IntKind.i64 xn, Value.slice xa xe xc])]) ∧ Hid (Below wr.heap.size wr wx))
    case first =>
      (refine gro.wp_region_heldA [0, 1, 2, 3, 4, 5, 6, 7, 8] 4 12 _ (gro.lasts_below (wr).drew) (by kernel_rfl) (by kernel_rfl) (by intro _ _ _ _ _ h; exact h) (by kernel_rfl) (by kernel_rfl) (by kernel_rfl) (by kernel_rfl) (by kernel_rfl) (by decide) (Below.refl _ _) ?_; apply Exists.intro; refine ⟨fun w0 hb0 => ?_, ?_⟩; focus (replace hb0 := (Below.drew (Below.refl _ (wr))).trans hb0; have KZ := ((gro.Bx.nil_ (W := wr))).below hb0; have RZ := KZ.rules; simp only [gro.Rules] at RZ; (obtain ⟨f1, f2, f3, f4, f5⟩ := HX.out w0 hb0; obtain ⟨k1, k2, k3, k4, k5⟩ := HY.out w0 hb0); simp only [gro.pickA, List.filterMap_cons, List.filterMap_nil, List.getElem?_toArray, List.getElem?_cons_succ, List.getElem?_cons_zero]; change wpQuiet _ _ _ _ (_ :: _ :: _ :: _ :: _ :: _ :: _ :: _ :: _ ::  []) _; (repeat (go_big_quiet_step ((fail)))); exact wpQuiet_nil rfl))
      refine gro.anyM_two 9 10 (by kernel_rfl) rfl rfl ?_ ?_
      · intro y1 hz1 K' hK'
        go_simp
        refine hK' _ _ ⟨fun _ => hz1.alloc hz1.size _, ?_⟩
        clear hK' K'
        obtain ⟨p, hp⟩ : ∃ s, y1.heap.size = s := ⟨_, rfl⟩
        have hs1 := hz1.size
        have SD := hz1.alloc hz1.size (.cells #[Value.int IntKind.i64 0, Value.int IntKind.i64 0, Value.int IntKind.i64 0, Value.int IntKind.i64 0, Value.slice none 0 0] 41)
        have KY := (gro.Bx.nil_ (W := y1)).new (t := 41) (c := #[Value.int IntKind.i64 0, Value.int IntKind.i64 0, Value.int IntKind.i64 0, Value.int IntKind.i64 0, Value.slice none 0 0]) hp
        have sY : (y1.alloc (.cells #[Value.int IntKind.i64 0, Value.int IntKind.i64 0, Value.int IntKind.i64 0, Value.int IntKind.i64 0, Value.slice none 0 0] 41)).heap.size = p + 1 := by simp [hp]
        rw [hp]
        clear hz1
        generalize y1.alloc (.cells #[Value.int IntKind.i64 0, Value.int IntKind.i64 0, Value.int IntKind.i64 0, Value.int IntKind.i64 0, Value.slice none 0 0] 41) = y2 at *
        refine gro.anyM_one 10 (by kernel_rfl) rfl ?_
        intro y3 hz3 K' hK'
        replace SD := SD.trans (hz3.mono SD.size)
        replace KY := KY.below hz3
        have hs3 := hz3.size
        go_simp
        refine hK' _ _ ⟨fun _ => SD.alloc SD.size _, ?_⟩
        clear hK' K'
        obtain ⟨q, hq⟩ : ∃ s, y3.heap.size = s := ⟨_, rfl⟩
        have hab : p < q := by omega
        replace SD := SD.alloc SD.size (.cells #[Value.int IntKind.i64 0, Value.int IntKind.i64 0, Value.int IntKind.i64 0, Value.int IntKind.i64 0, Value.slice none 0 0] 41)
        replace KY := KY.new (t := 41) (c := #[Value.int IntKind.i64 0, Value.int IntKind.i64 0, Value.int IntKind.i64 0, Value.int IntKind.i64 0, Value.slice none 0 0]) hq
        have sY3 : (y3.alloc (.cells #[Value.int IntKind.i64 0, Value.int IntKind.i64 0, Value.int IntKind.i64 0, Value.int IntKind.i64 0, Value.slice none 0 0] 41)).heap.size = q + 1 := by simp [hq]
        have hpw : wr.heap.size ≤ p := by rw [← hp]; exact hs1
        have hqw : wr.heap.size ≤ q := by omega
        rw [hq]
        clear hz3
        generalize y3.alloc (.cells #[Value.int IntKind.i64 0, Value.int IntKind.i64 0, Value.int IntKind.i64 0, Value.int IntKind.i64 0, Value.slice none 0 0] 41) = y4 at *
        refine gro.anyM_one 11 (by kernel_rfl) rfl ?_
        intro y5 hz5 K' hK'
        replace SD := SD.trans (hz5.mono SD.size)
        replace KY := (KY.below hz5).perm (L' := [(p, 41, #[Value.int IntKind.i64 0, Value.int IntKind.i64 0, Value.int IntKind.i64 0, Value.int IntKind.i64 0, Value.slice none 0 0]), (q, 41, #[Value.int IntKind.i64 0, Value.int IntKind.i64 0, Value.int IntKind.i64 0, Value.int IntKind.i64 0, Value.slice none 0 0])]) (by simp)
        have RY := KY.rules
        simp only [Rules] at RY
        have hs5 := hz5.size
        go_simp
        have SD5 := ((((SD.setCell (p := ⟨p, 0, none⟩) (by show wr.heap.size ≤ p; omega) (Value.int IntKind.i64 xt)).setCell (p := ⟨p, 1, none⟩) (by show wr.heap.size ≤ p; omega) (Value.int IntKind.i64 xl)).setCell (p := ⟨p, 2, none⟩) (by show wr.heap.size ≤ p; omega) (Value.int IntKind.i64 xv)).setCell (p := ⟨p, 3, none⟩) (by show wr.heap.size ≤ p; omega) (Value.int IntKind.i64 xn)).setCell (p := ⟨p, 4, none⟩) (by show wr.heap.size ≤ p; omega) (Value.slice xa xe xc)
        refine hK' _ _ ⟨fun _ => SD5, ?_⟩
        clear hK' K' RY
        replace KY := (blk.Bx.put5 (u0 := Value.int IntKind.i64 xt) (u1 := Value.int IntKind.i64 xl) (u2 := Value.int IntKind.i64 xv) (u3 := Value.int IntKind.i64 xn) (u4 := Value.slice xa xe xc) KY (by simp; omega)).perm (L' := [(q, 41, #[Value.int IntKind.i64 0, Value.int IntKind.i64 0, Value.int IntKind.i64 0, Value.int IntKind.i64 0, Value.slice none 0 0]), (p, 41, #[Value.int IntKind.i64 xt, Value.int IntKind.i64 xl, Value.int IntKind.i64 xv, Value.int IntKind.i64 xn, Value.slice xa xe xc])]) (by simp)
        refine gro.anyM_one 12 (by kernel_rfl) rfl ?_
        intro y7 hz7 K' hK'
        replace SD := SD5.trans (hz7.mono SD5.size)
        replace KY := KY.below hz7
        have RY := KY.rules
        simp only [Rules] at RY
        go_simp
        refine hK' _ _ ⟨fun h => absurd (show true = false from h) (by decide), ?_⟩
        clear hK' K' RY SD5
        replace KY := blk.Bx.put5 (u0 := Value.int IntKind.i64 yt) (u1 := Value.int IntKind.i64 yl) (u2 := Value.int IntKind.i64 yv) (u3 := Value.int IntKind.i64 yn) (u4 := Value.slice ya ye yc) KY (by simp; omega)
        have SD7 := ((((SD.setCell (p := ⟨q, 0, none⟩) (by show wr.heap.size ≤ q; omega) (Value.int IntKind.i64 yt)).setCell (p := ⟨q, 1, none⟩) (by show wr.heap.size ≤ q; omega) (Value.int IntKind.i64 yl)).setCell (p := ⟨q, 2, none⟩) (by show wr.heap.size ≤ q; omega) (Value.int IntKind.i64 yv)).setCell (p := ⟨q, 3, none⟩) (by show wr.heap.size ≤ q; omega) (Value.int IntKind.i64 yn)).setCell (p := ⟨q, 4, none⟩) (by show wr.heap.size ≤ q; omega) (Value.slice ya ye yc)
        refine gro.anyM_done (by kernel_rfl) ?_
        intro y9 hz9
        go_wp2_with fail
        go_meet
        exact ⟨p, q, rfl, rfl, by omega, by omega, by omega, Lib.hid (KY.below hz9), Lib.hid (((Below.refl _ _).drew).trans (SD7.trans (hz9.mono SD7.size)))⟩
      · intro y1 hz1 K' hK'
        go_simp
        refine hK' _ _ ⟨fun _ => hz1.alloc hz1.size _, ?_⟩
        clear hK' K'
        obtain ⟨q, hq⟩ : ∃ s, y1.heap.size = s := ⟨_, rfl⟩
        have hs1 := hz1.size
        have SD := hz1.alloc hz1.size (.cells #[Value.int IntKind.i64 0, Value.int IntKind.i64 0, Value.int IntKind.i64 0, Value.int IntKind.i64 0, Value.slice none 0 0] 41)
        have KY := (gro.Bx.nil_ (W := y1)).new (t := 41) (c := #[Value.int IntKind.i64 0, Value.int IntKind.i64 0, Value.int IntKind.i64 0, Value.int IntKind.i64 0, Value.slice none 0 0]) hq
        have sY : (y1.alloc (.cells #[Value.int IntKind.i64 0, Value.int IntKind.i64 0, Value.int IntKind.i64 0, Value.int IntKind.i64 0, Value.slice none 0 0] 41)).heap.size = q + 1 := by simp [hq]
        rw [hq]
        clear hz1
        generalize y1.alloc (.cells #[Value.int IntKind.i64 0, Value.int IntKind.i64 0, Value.int IntKind.i64 0, Value.int IntKind.i64 0, Value.slice none 0 0] 41) = y2 at *
        refine gro.anyM_one 9 (by kernel_rfl) rfl ?_
        intro y3 hz3 K' hK'
        replace SD := SD.trans (hz3.mono SD.size)
        replace KY := KY.below hz3
        have hs3 := hz3.size
        go_simp
        refine hK' _ _ ⟨fun _ => SD.alloc SD.size _, ?_⟩
        clear hK' K'
        obtain ⟨p, hp⟩ : ∃ s, y3.heap.size = s := ⟨_, rfl⟩
        have hab : q < p := by omega
        replace SD := SD.alloc SD.size (.cells #[Value.int IntKind.i64 0, Value.int IntKind.i64 0, Value.int IntKind.i64 0, Value.int IntKind.i64 0, Value.slice none 0 0] 41)
        replace KY := KY.new (t := 41) (c := #[Value.int IntKind.i64 0, Value.int IntKind.i64 0, Value.int IntKind.i64 0, Value.int IntKind.i64 0, Value.slice none 0 0]) hp
        have sY3 : (y3.alloc (.cells #[Value.int IntKind.i64 0, Value.int IntKind.i64 0, Value.int IntKind.i64 0, Value.int IntKind.i64 0, Value.slice none 0 0] 41)).heap.size = p + 1 := by simp [hp]
        have hpw : wr.heap.size ≤ q := by rw [← hq]; exact hs1
        have hqw : wr.heap.size ≤ p := by omega
        rw [hp]
        clear hz3
        generalize y3.alloc (.cells #[Value.int IntKind.i64 0, Value.int IntKind.i64 0, Value.int IntKind.i64 0, Value.int IntKind.i64 0, Value.slice none 0 0] 41) = y4 at *
        refine gro.anyM_one 11 (by kernel_rfl) rfl ?_
        intro y5 hz5 K' hK'
        replace SD := SD.trans (hz5.mono SD.size)
        replace KY := (KY.below hz5).perm (L' := [(p, 41, #[Value.int IntKind.i64 0, Value.int IntKind.i64 0, Value.int IntKind.i64 0, Value.int IntKind.i64 0, Value.slice none 0 0]), (q, 41, #[Value.int IntKind.i64 0, Value.int IntKind.i64 0, Value.int IntKind.i64 0, Value.int IntKind.i64 0, Value.slice none 0 0])]) (by simp)
        have RY := KY.rules
        simp only [Rules] at RY
        have hs5 := hz5.size
        go_simp
        have SD5 := ((((SD.setCell (p := ⟨p, 0, none⟩) (by show wr.heap.size ≤ p; omega) (Value.int IntKind.i64 xt)).setCell (p := ⟨p, 1, none⟩) (by show wr.heap.size ≤ p; omega) (Value.int IntKind.i64 xl)).setCell (p := ⟨p, 2, none⟩) (by show wr.heap.size ≤ p; omega) (Value.int IntKind.i64 xv)).setCell (p := ⟨p, 3, none⟩) (by show wr.heap.size ≤ p; omega) (Value.int IntKind.i64 xn)).setCell (p := ⟨p, 4, none⟩) (by show wr.heap.size ≤ p; omega) (Value.slice xa xe xc)
        refine hK' _ _ ⟨fun _ => SD5, ?_⟩
        clear hK' K' RY
        replace KY := (blk.Bx.put5 (u0 := Value.int IntKind.i64 xt) (u1 := Value.int IntKind.i64 xl) (u2 := Value.int IntKind.i64 xv) (u3 := Value.int IntKind.i64 xn) (u4 := Value.slice xa xe xc) KY (by simp; omega)).perm (L' := [(q, 41, #[Value.int IntKind.i64 0, Value.int IntKind.i64 0, Value.int IntKind.i64 0, Value.int IntKind.i64 0, Value.slice none 0 0]), (p, 41, #[Value.int IntKind.i64 xt, Value.int IntKind.i64 xl, Value.int IntKind.i64 xv, Value.int IntKind.i64 xn, Value.slice xa xe xc])]) (by simp)
        refine gro.anyM_one 12 (by kernel_rfl) rfl ?_
        intro y7 hz7 K' hK'
        replace SD := SD5.trans (hz7.mono SD5.size)
        replace KY := KY.below hz7
        have RY := KY.rules
        simp only [Rules] at RY
        go_simp
        refine hK' _ _ ⟨fun h => absurd (show true = false from h) (by decide), ?_⟩
        clear hK' K' RY SD5
        replace KY := blk.Bx.put5 (u0 := Value.int IntKind.i64 yt) (u1 := Value.int IntKind.i64 yl) (u2 := Value.int IntKind.i64 yv) (u3 := Value.int IntKind.i64 yn) (u4 := Value.slice ya ye yc) KY (by simp; omega)
        have SD7 := ((((SD.setCell (p := ⟨q, 0, none⟩) (by show wr.heap.size ≤ q; omega) (Value.int IntKind.i64 yt)).setCell (p := ⟨q, 1, none⟩) (by show wr.heap.size ≤ q; omega) (Value.int IntKind.i64 yl)).setCell (p := ⟨q, 2, none⟩) (by show wr.heap.size ≤ q; omega) (Value.int IntKind.i64 yv)).setCell (p := ⟨q, 3, none⟩) (by show wr.heap.size ≤ q; omega) (Value.int IntKind.i64 yn)).setCell (p := ⟨q, 4, none⟩) (by show wr.heap.size ≤ q; omega) (Value.slice ya ye yc)
        refine gro.anyM_done (by kernel_rfl) ?_
        intro y9 hz9
        go_wp2_with fail
        go_meet
        exact ⟨p, q, rfl, rfl, by omega, by omega, by omega, Lib.hid (KY.below hz9), Lib.hid (((Below.refl _ _).drew).trans (SD7.trans (hz9.mono SD7.size)))⟩
    case rest =>
    obtain ⟨p, q, rfl, rfl, hpw, hqw, hpq, KK, BQ⟩ := hcut
    have HO2 := Lib.hid (own_keep HO.out BQ.out)
    have HE2 := Lib.hid (Ents.below HEn.out BQ.out)
    have BB2 := Lib.hid (BB.out.trans (BQ.out.mono BB.out.size))
    have hszc := BQ.out.size
    have hgl : g' < wr.heap.size := own_lt HO.out
    have HM := Lib.hid (fun W (hb : Below wr.heap.size wr W) => Merge_any xn xa xe xc xes yn ya ye yc yes W ((ERead.below HEx.out.1 hb).more hb.size) ((ERead.below HEy.out.1 hb).more hb.size) (by omega) (by omega))
    clear HX HY t1 t2 t3 t4 t5 HO HEn HEx HEy
    have R := KK.out.rules
    simp only [Rules] at R
    go_wp2_with fail
    (with_reducible refine (HM.out _ BQ.out).mono ?_)
    rintro e w5 ⟨Am, mm, cm, rfl, m1, m2, m3, hb5, hfr5⟩
    have hml := m3.len
    have hmm : mm ≤ 8000002 := by
      rw [← hml]
      unfold mrgP
      split
      · simp only; rw [merge_len]; omega
      · simp
    have HTW : Hid (twoR b (xt, xl, xv, xn, xes) (yt, yl, yv, yn, yes) = pruP (mrgP xn xes yn yes).1 b (mrgP xn xes yn yes).2) := rfl
    generalize (mrgP xn xes yn yes).1 = N1 at *
    generalize (mrgP xn xes yn yes).2 = es1 at *
    have BQ5 := Lib.hid (BQ.out.trans (hb5.mono BQ.out.size))
    have HO5 := Lib.hid (own_keep HO2.out hb5)
    have HE5 := Lib.hid (Ents.below HE2.out hb5)
    have KK5 := Lib.hid (KK.out.below hb5)
    have hs5 := hb5.size
    have HEr0 := Lib.hid (fun z (hz : z ∈ ys) (h0 : 0 < z.en) ad (h : z.adr = some ad) => rnk.Reads.blk (HE5.out z hz).1 h0 ad h)
    obtain ⟨r, hr⟩ : ∃ r, w5.heap.size = r := ⟨_, rfl⟩
    have hqr : q < r := by have := (KK5.out _ (List.mem_cons_self ..)).lt; rw [hr] at this; exact this
    have hpr : p < r := by have := (KK5.out.tail _ (List.mem_cons_self ..)).lt; rw [hr] at this; exact this
    have HEr : Hid (∀ z ∈ ys, 0 < z.en → ∀ ad, z.adr = some ad → ad.block ≠ r) := fun z hz h0 ad h => by have := HEr0.out z hz h0 ad h; omega
    clear HEr0
    have BZ := Lib.hid (BQ5.out.alloc BQ5.out.size (.cells #[Value.int IntKind.i64 N1, Value.slice Am mm cm] 39))
    have KZ := Lib.hid (KK5.out.new (t := 39) (c := #[Value.int IntKind.i64 N1, Value.slice Am mm cm]) hr)
    have HOZ := Lib.hid (own_alloc HO5.out (.cells #[Value.int IntKind.i64 N1, Value.slice Am mm cm] 39))
    have HEZ := Lib.hid (Ents.below HE5.out ((Below.refl _ _).alloc (Nat.le_refl _) (.cells #[Value.int IntKind.i64 N1, Value.slice Am mm cm] 39)))
    have HMZ := Lib.hid ((ERead.below m3 ((Below.refl _ _).alloc (Nat.le_refl _) (.cells #[Value.int IntKind.i64 N1, Value.slice Am mm cm] 39))).more (B' := (w5.alloc (.cells #[Value.int IntKind.i64 N1, Value.slice Am mm cm] 39)).heap.size) (by simp))
    clear R m3 hb5 KK KK5 HO2 HO5 HE2 HE5 BQ BQ5 HM
    go_wp2_with fail
    obtain ⟨W6, hW, K6, B6, z6⟩ := name_world KZ.out BZ.out (s := r + 1) (by simp; omega)
    rw [hW]
    rw [hW] at HOZ HEZ HMZ
    clear hW KZ BZ hr
    have R := K6.rules
    simp only [Rules] at R
    have HP := Lib.hid (Prune_any N1 Am mm cm es1 b W6 HMZ.out (by omega))
    (with_reducible refine (HP.out).mono ?_)
    rintro e w7 ⟨Ap, mp, cp, rfl, n1, n2, n3, hb7, hfr7⟩
    have HTK : Hid (twoR b (bkey ⟨xt, xl, xv, xn, xa, xe, xc, xes⟩) (bkey ⟨yt, yl, yv, yn, ya, ye, yc, yes⟩) = twoR b (xt, xl, xv, xn, xes) (yt, yl, yv, yn, yes)) := rfl
    rw [show (pruP N1 b es1).1 = (twoR b (xt, xl, xv, xn, xes) (yt, yl, yv, yn, yes)).1 by rw [HTW.out]]
    have n3' : ERead w7 w7.heap.size Ap mp (twoR b (xt, xl, xv, xn, xes) (yt, yl, yv, yn, yes)).2 := by rw [HTW.out]; exact n3
    generalize twoR b (xt, xl, xv, xn, xes) (yt, yl, yv, yn, yes) = tw at *
    have HO7 := Lib.hid (own_keep HOZ.out hb7)
    have HE7 := Lib.hid (Ents.below HEZ.out hb7)
    have K7 := K6.below hb7
    have B7 := B6.trans (hb7.mono B6.size)
    have hs7 := hb7.size
    have R7 := K7.rules
    simp only [Rules] at R7
    clear R HOZ HEZ HMZ HP K6 B6 hb7 n3
    go_upto_region 15 with fail
    have KU := Lib.hid (Bx.put2 (u := Value.int IntKind.i64 tw.1) (v := Value.slice Ap mp cp) K7 (by simp; omega))
    have BU := Lib.hid ((B7.setCell (p := ⟨r, 0, none⟩) (by show wr.heap.size ≤ r; omega) (Value.int IntKind.i64 tw.1)).setCell (p := ⟨r, 1, none⟩) (by show wr.heap.size ≤ r; omega) (Value.slice Ap mp cp))
    have hgr : g' ≠ r := by omega
    have HOU := Lib.hid (ownsRow_setCell_other (ownsRow_setCell_other HO7.out (a := ⟨r, 0, none⟩) (fun h => hgr (by injection h)) (Value.int IntKind.i64 tw.1)) (a := ⟨r, 1, none⟩) (fun h => hgr (by injection h)) (Value.slice Ap mp cp))
    have hApr : 0 < mp → ∀ ad, Ap = some ad → ad.block ≠ r := fun _ ad h => by have := hfr7 ad h; omega
    have HAp1 := Lib.hid (show 0 < mp → ∀ ad, Ap = some ad → w.heap.size ≤ ad.block from fun _ ad h => by have := hfr7 ad h; have := BB.out.size; omega)
    have hApg : 0 < mp → ∀ ad, Ap = some ad → ad.block ≠ g' := fun _ ad h => by have := hfr7 ad h; omega
    have HNU := Lib.hid (Reads.more (B' := ((w7.setCell ⟨r, 0, none⟩ (Value.int IntKind.i64 tw.1)).setCell ⟨r, 1, none⟩ (Value.slice Ap mp cp)).heap.size) (rnk.Reads.far (rnk.Reads.far n3' ⟨r, 0, none⟩ hApr (Value.int IntKind.i64 tw.1)) ⟨r, 1, none⟩ hApr (Value.slice Ap mp cp)) (by simp [World.setCell]))
    have hEr : ∀ z ∈ ys, 0 < z.en → ∀ ad, z.adr = some ad → ad.block ≠ r := HEr.out
    have HEU : Hid (Ents ((w7.setCell ⟨r, 0, none⟩ (Value.int IntKind.i64 tw.1)).setCell ⟨r, 1, none⟩ (Value.slice Ap mp cp)) g' ys) := fun z hz => by
      obtain ⟨a1, a2, a3, a4⟩ := HE7.out z hz
      exact ⟨Reads.more (rnk.Reads.far (rnk.Reads.far a1 ⟨r, 0, none⟩ (hEr z hz) (Value.int IntKind.i64 tw.1)) ⟨r, 1, none⟩ (hEr z hz) (Value.slice Ap mp cp)) (by simp [World.setCell]), a2, a3, a4⟩
    have hsu : r + 1 ≤ ((w7.setCell ⟨r, 0, none⟩ (Value.int IntKind.i64 tw.1)).setCell ⟨r, 1, none⟩ (Value.slice Ap mp cp)).heap.size := by simp [World.setCell]; omega
    clear R7 K7 B7 HO7 HE7 n3' hEr HEr
    generalize (w7.setCell ⟨r, 0, none⟩ (Value.int IntKind.i64 tw.1)).setCell ⟨r, 1, none⟩ (Value.slice Ap mp cp) = W8 at *
    have R := KU.out.rules
    simp only [Rules] at R
    obtain ⟨_, _, d1, d2, d3, d4, d5⟩ := own_blk HOU.out (show bg < m by omega)
    have f1 := HOU.out.frozenAt (bg * 5)
    have f2 := HOU.out.frozenAt (bg * 5 + 1)
    have f3 := HOU.out.frozenAt (bg * 5 + 2)
    have f4 := HOU.out.frozenAt (bg * 5 + 3)
    have f5 := HOU.out.frozenAt (bg * 5 + 4)
    have t5 : (bg : Int) < m := by omega
    go_wp2_with fail
    have HOS := Lib.hid (own_store5 HOU.out bg ⟨yt, yl, (l : Int) + 1, tw.1, Ap, mp, cp, tw.2⟩)
    have HES := Lib.hid (Ents.put (i := bg) (b := ⟨yt, yl, (l : Int) + 1, tw.1, Ap, mp, cp, tw.2⟩) HEU.out ⟨HNU.out, n1, n2, hApg⟩)
    have HES2 := Lib.hid (((((HES.out.set (bg * 5) (Value.int IntKind.i64 yt)).set (bg * 5 + 1) (Value.int IntKind.i64 yl)).set (bg * 5 + 2) (Value.int IntKind.i64 ((l : Int) + 1))).set (bg * 5 + 3) (Value.int IntKind.i64 tw.1)).set (bg * 5 + 4) (Value.slice Ap mp cp))
    have BW := BB.out.trans (BU.out.mono BB.out.size)
    have BS := Lib.hid (((((BW.setCell (p := ⟨g', bg * 5, none⟩) (by show w.heap.size ≤ g'; omega) (Value.int IntKind.i64 yt)).setCell (p := ⟨g', bg * 5 + 1, none⟩) (by show w.heap.size ≤ g'; omega) (Value.int IntKind.i64 yl)).setCell (p := ⟨g', bg * 5 + 2, none⟩) (by show w.heap.size ≤ g'; omega) (Value.int IntKind.i64 ((l : Int) + 1))).setCell (p := ⟨g', bg * 5 + 3, none⟩) (by show w.heap.size ≤ g'; omega) (Value.int IntKind.i64 tw.1)).setCell (p := ⟨g', bg * 5 + 4, none⟩) (by show w.heap.size ≤ g'; omega) (Value.slice Ap mp cp))
    have hss : r + 1 ≤ (((((W8.setCell ⟨g', bg * 5, none⟩ (Value.int IntKind.i64 yt)).setCell ⟨g', bg * 5 + 1, none⟩ (Value.int IntKind.i64 yl)).setCell ⟨g', bg * 5 + 2, none⟩ (Value.int IntKind.i64 ((l : Int) + 1))).setCell ⟨g', bg * 5 + 3, none⟩ (Value.int IntKind.i64 tw.1)).setCell ⟨g', bg * 5 + 4, none⟩ (Value.slice Ap mp cp)).heap.size := by simpa [World.setCell] using hsu
    simp only at HOS
    clear R d1 d2 d3 d4 d5 f1 f2 f3 f4 f5 HOU HEU HNU BU HES BW KU
    generalize ((((W8.setCell ⟨g', bg * 5, none⟩ (Value.int IntKind.i64 yt)).setCell ⟨g', bg * 5 + 1, none⟩ (Value.int IntKind.i64 yl)).setCell ⟨g', bg * 5 + 2, none⟩ (Value.int IntKind.i64 ((l : Int) + 1))).setCell ⟨g', bg * 5 + 3, none⟩ (Value.int IntKind.i64 tw.1)).setCell ⟨g', bg * 5 + 4, none⟩ (Value.slice Ap mp cp) = W2 at *
    have HKy := Lib.hid (HJ.out ⟨yt, yl, (l : Int) + 1, tw.1, Ap, mp, cp, tw.2⟩ (by rw [HTK.out]; rfl))
    have s1 : IntKind.i64.wrap ((bg : Int) + 1) = (bg : Int) + 1 := IntWalk.i64_in _ (by omega)
    have s2 : IntKind.i64.wrap ((bg : Int) + 2) = (bg : Int) + 2 := IntWalk.i64_in _ (by omega)
    have s3 : ((bg : Int) + 1).toNat = bg + 1 := by omega
    have s4 : ((bg : Int) + 2).toNat = bg + 2 := by omega
    have s5 : (bg : Int) + 1 ≤ c' := by omega
    have s6 : (bg : Int) + 2 ≤ m := by omega
    have s7 : 0 ≤ (bg : Int) + 1 := by omega
    have s8 : 0 ≤ (bg : Int) + 2 := by omega
    have s9 : (m : Int) ≤ c' := by omega
    go_still_tail 8, (by kernel_rfl)
    change wpList _ _ _ _ _ W2.drew
    have HO3 : Hid (W2.drew.ownsRow sb 41 5 (.slice (some ⟨g', 0, none⟩) m c') m (bc (ys.set bg ⟨yt, yl, (l : Int) + 1, tw.1, Ap, mp, cp, tw.2⟩))) := HOS.out.drew
    have HE3 : Hid (Ents W2.drew g' (ys.set bg ⟨yt, yl, (l : Int) + 1, tw.1, Ap, mp, cp, tw.2⟩)) := HES2.out
    have BB3 : Hid (Below w.heap.size w W2.drew) := BS.out.drew
    have hbw3 : sb ≤ W2.drew.heap.size := by show sb ≤ W2.heap.size; omega
    clear s1 s2 s3 s4 s5 s6 s7 s8 s9 HOS HES2 BS
    generalize W2.drew = W3 at *
    go_wp2_with (at_builtin; refine wpList_append_any _ rfl (.tmp 134) (.tmp 138) 22 rfl sb 41 i0 (.agg #[.int .i64 0, .int .i64 0, .int .i64 0, .int .i64 0, .slice none 0 0]) 5 56 Tryz.underlying22 HI.out HZ0.out HZ1.out HZ2.out rfl (by omega) (.slice (some ⟨g', 0, none⟩) (bg + 1) c') (bg + 1) _ rfl (own_prefix HO3.out (by omega)) _ _ (m - (bg + 2)) (c' - (bg + 2)) _ rfl (own_cut HO3.out (by omega) hmc) (by rw [← bc_drop]; exact bc_oneCell _) (by unfold maxLen; omega) (by omega) hbw3 ?_; intro v4 w4 hown4 hg4 hat4; obtain ⟨g4, c4, rfl, r1, r2, r3, r4⟩ := own_form2 hown4 (by omega); have HB4 := Lib.hid (BB3.out.grown hg4 (by omega) (fun g hg => by simp [Value.ownBlock] at hg; omega)); have HO4 := Lib.hid hown4; have HE4 := Lib.hid (Ents.grown (g' := g4) HE3.out hg4 (by simp [Value.ownBlock] at hat4; exact hat4)); clear hown4 hg4 hat4)
    have HO5 : Hid (w4.ownsRow sb 41 5 (.slice (some ⟨g4, 0, none⟩) (bg + 1 + (m - (bg + 2))) c4) (bg + 1 + (m - (bg + 2))) (bc (joinM ys bg ⟨yt, yl, (l : Int) + 1, tw.1, Ap, mp, cp, tw.2⟩))) := by
      have h := HO4.out
      rw [← bc_take, ← bc_drop, ← bc_append, joinM_eq (by rw [HLy.out]; omega)] at h
      exact h
    have HE5 : Hid (Ents w4 g4 (joinM ys bg ⟨yt, yl, (l : Int) + 1, tw.1, Ap, mp, cp, tw.2⟩)) := Ents.mem HE4.out (fun z hz => by
      rw [← joinM_eq (by rw [HLy.out]; omega)] at hz
      rcases List.mem_append.1 hz with h | h
      · exact List.mem_of_mem_take h
      · exact List.mem_of_mem_drop h)
    have HLj : Hid ((joinM ys bg (⟨yt, yl, (l : Int) + 1, tw.1, Ap, mp, cp, tw.2⟩ : BlkM)).length = bg + 1 + (m - (bg + 2))) := by rw [Hid, joinM_len (by rw [HLy.out]; omega), HLy.out]; omega
    have HEK5 : Hid (entsK ((joinM ys bg (⟨yt, yl, (l : Int) + 1, tw.1, Ap, mp, cp, tw.2⟩ : BlkM)).map bkey) ≤ 4000001) := by
      rw [Hid, HKy.out]
      exact Nat.le_trans (joinK_ents (by rw [List.length_map, HLy.out]; omega)) HEK.out
    have HC5 : Hid (cascK k b f ((joinM ys bg (⟨yt, yl, (l : Int) + 1, tw.1, Ap, mp, cp, tw.2⟩ : BlkM)).map bkey) (l + 1) (bg + 1) = insKC (xs.map bkey) k b t v) := by
      rw [Hid, HKy.out]; exact HC.out
    have HAJ : Hid (Apt P w.heap.size (joinM ys bg ⟨yt, yl, (l : Int) + 1, tw.1, Ap, mp, cp, tw.2⟩)) := fun z hz h0 ad h => by
      unfold joinM at hz
      rcases List.mem_append.1 hz with h1 | h1
      · exact HAp.out z (List.mem_of_mem_take h1) h0 ad h
      · rcases List.mem_cons.1 h1 with rfl | h1
        · exact .inr (HAp1.out h0 ad h)
        · exact HAp.out z (List.mem_of_mem_drop h1) h0 ad h
    have hbw4 : sb ≤ w4.heap.size := by omega
    go_roundg (m - 1)
    case measure => omega
    case rel => exact ⟨joinM ys bg ⟨yt, yl, (l : Int) + 1, tw.1, Ap, mp, cp, tw.2⟩, bg + 1 + (m - (bg + 2)), l + 1, bg + 1, f, g4, c4, rfl, by go_num, by go_num, by omega, by omega, r1, r2, by omega, by omega, by omega, hbw4, r3, HLj, HO5, HE5, HB4, HEK5, HC5, HAJ⟩
theorem InsertB_anyA (P : Nat → Prop) (A : Option Addr) (n c : Nat) (xs : List BlkM) (k b t v : Int) (w : World) (h1 : BRead w w.heap.size A n xs) (hs : n ≤ 64000) (hent : validK (xs.map bkey) k b = true → entsK (xs.map bkey) ≤ 4000000) (hA : ∀ x ∈ xs, 0 < x.en → ∀ ad, x.adr = some ad → P ad.block) : Calls Tryz.prog 21 #[.slice A n c, .int .i64 k, .int .i64 b, .int .i64 t, .int .i64 v] w (NewBKA P (insK (xs.map bkey) k b t v) w) := by
  by_cases hm : mayK (xs.map bkey) k b t v = true
  · rw [insK_t hm]
    have hv := (mayK_iff.1 hm).1
    have hk := (validB_iff.1 (validK_iff.1 hv).2.1).1
    obtain ⟨kk, rfl⟩ := Int.eq_ofNat_of_zero_le (show 0 ≤ k by omega)
    rw [Int.toNat_natCast]
    exact InsertB_yesA P A n c xs kk b t v w h1 hs (hent hv) hm hA
  · rw [insK_f hm]
    exact (InsertB_no A n c xs k b t v w h1 hs hm).mono fun e w' ⟨he, hb⟩ => by
      rw [he]
      exact ⟨none, 0, 0, [], rfl, Nat.le_refl _, Nat.zero_le _, ⟨Reads.none_, fun b hb => by cases hb⟩, rfl, hb, fun _ h => (by cases h), fun y hy => by cases hy⟩
end Go.Proofs.YtjapjfcennemeaaGreat.blk
