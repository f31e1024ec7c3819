/- Contract of the reference's list of the items that no other one rules out. -/
import Derived.Test.YteajgmihhnghfaaExtV
import Derived.Test.YteajgmihhnghfaaExtL2
import Derived.Test.YteajgmihhnghfaaNewF
import Derived.Test.YteajgmihhnghfaaOwn2
import Derived.Test.YteajgmihhnghfaaSteady3
import Derived.Test.YteajgmihhnghfaaExtA
namespace Go.Proofs.Yteajgmihhnghfaa.ext
open Go.RowKit Go.Proofs.Yteajgmihhnghfaa.mem Go.Proofs.Yteajgmihhnghfaa.gro
open Go.Proofs.Yteajgmihhnghfaa.buk (at_)
open Go.Proofs.Yteajgmihhnghfaa.lst (own_new NewF newF_own)
set_option linter.unusedVariables false
set_option linter.unusedSimpArgs false
theorem rul_form (m : Bool) (xs : L2) (i j : Nat) : rul m xs i j = decide (i ≠ j ∧ (at_ xs i).1 ≤ (at_ xs j).1 ∧ key m (at_ xs i).2 ≤ key m (at_ xs j).2 ∧ (¬ ((at_ xs i).1 = (at_ xs j).1 ∧ (at_ xs i).2 = (at_ xs j).2) ∨ j < i)) := by
  unfold rul
  have e : (at_ xs i ≠ at_ xs j) ↔ ¬ ((at_ xs i).1 = (at_ xs j).1 ∧ (at_ xs i).2 = (at_ xs j).2) := by rw [Ne, Prod.ext_iff]
  simp only [e]
theorem keepTo_succ (m : Bool) (xs : L2) (i j : Nat) : keepTo m xs i (j + 1) = if rul m xs i j = true then false else keepTo m xs i j := rfl
theorem keptN_no {m : Bool} {xs : L2} {i n : Nat} (hl : xs.length = n) (h : keepTo m xs i n = false) : keptN m xs (i + 1) = keptN m xs i := by
  rw [keptN, hl, h]; rfl
theorem keptN_yes {m : Bool} {xs : L2} {i n : Nat} (hl : xs.length = n) (h : keepTo m xs i n = true) : keptN m xs (i + 1) = insT (keptN m xs i) (at_ xs i) := by
  rw [keptN, hl, h]; rfl
theorem kpos_yes {t : Int} {out : L2} {k : Nat} (h0 : 0 < k) (h : t < (at_ out (k - 1)).1) : kpos t out k = kpos t out (k - 1) := by
  obtain ⟨j, rfl⟩ : ∃ j, k = j + 1 := ⟨k - 1, by omega⟩
  simp only [Nat.add_sub_cancel] at h ⊢
  rw [kpos, if_pos h]
theorem kpos_no {t : Int} {out : L2} {k : Nat} (h0 : 0 < k) (h : ¬ t < (at_ out (k - 1)).1) : kpos t out k = k := by
  obtain ⟨j, rfl⟩ : ∃ j, k = j + 1 := ⟨k - 1, by omega⟩
  simp only [Nat.add_sub_cancel] at h
  rw [kpos, if_neg h]
theorem insT_at {t x : Int} {out : L2} {k : Nat} (h : kpos t out out.length = k) : insT out (t, x) = out.take k ++ (t, x) :: out.drop k := by
  unfold insT; rw [show (t, x).1 = t from rfl, h]
theorem Reads.app {W w1 : World} {size n : Nat} {A : Option Addr} {xs : List Value} {row : Option Nat} (h : Reads W W.heap.size size A n xs) (hg : W.grownBy w1 row) (hd : 0 < n → ∀ ad, A = some ad → some ad.block ≠ row) : Reads w1 w1.heap.size size A n xs := by
  obtain ⟨h1, h2⟩ := h
  refine ⟨h1, fun hn => ?_⟩
  obtain ⟨ad, e, hb, hc⟩ := h2 hn
  refine ⟨ad, e, Nat.lt_of_lt_of_le hb hg.size, fun j v hv => ?_⟩
  rw [← hc j v hv]
  exact World.cell?_of_block (by rw [block_of_add]; exact hg.block _ hb (hd hn ad e))
set_option maxHeartbeats 8000000 in
set_option maxRecDepth 100000 in
theorem Kept_f (m : Bool) (A : Option Addr) (n c : Nat) (xs : L2) (w : World) (h1 : PRead w w.heap.size A n xs) (hs : n ≤ 1000) :
    Calls Try.prog 26 #[.slice A n c, .bool m] w (NewF (keptN m xs n) w) := by
  have H1 := Lib.hid h1
  have HL := Lib.hid h1.len
  clear h1
  obtain ⟨i0, hi0, hz0, hz1, hz2⟩ := info_parts item_info
  have HI := Lib.hid hi0
  have HZ0 := Lib.hid hz0
  have HZ1 := Lib.hid hz1
  have HZ2 := Lib.hid hz2
  clear hi0 hz0 hz1 hz2
  go_enter Try.func26, Try.ntmps26
  go_wp2_with fail
  go_loopg [5, 14] n (fun kx s5 s14 wr => ∃ (u : Value) (i : Nat), s14 = .int .i64 i ∧ u = s5 ∧ i ≤ n ∧ n - i ≤ kx ∧ Hid (keptN m xs i = [] → u = .slice none 0 0) ∧ Hid (wr.ownsRow w.heap.size 40 2 u (keptN m xs i).length (pc (keptN m xs i))) ∧ Hid (Below w.heap.size w wr))
  case atStart => exact ⟨_, 0, rfl, rfl, by omega, by omega, Lib.hid (fun _ => rfl), own_nil _ _ _ _, Below.refl _ _⟩
  case round =>
    obtain ⟨u, i, rfl, rfl, hin, hik, HN, HO, HB⟩ := hrel
    by_cases hlt : i < n
    case neg =>
      obtain rfl : i = n := by omega
      go_wp2
      go_ret
      exact newF_own HB.out HO.out rfl
    have hmes : n - (i + 1) < n - i := by omega
    replace hmes := Lib.hid (Nat.lt_of_lt_of_le hmes hik)
    have H2 := H1.out.below HB.out
    obtain ⟨ad, rfl, hbl, hc1, hc2⟩ := PRead.at_ H2 hlt
    have hs2 := HB.out.size
    have hbl2 : ad.block < wr.heap.size := by omega
    clear H2
    have hkl := keptN_len m xs i
    have HNo := Lib.hid (fun h => keptN_no (m := m) (xs := xs) (i := i) HL.out h)
    have HYes := Lib.hid (fun h => keptN_yes (m := m) (xs := xs) (i := i) HL.out h)
    have HAt : Hid (at_ xs i = ((at_ xs i).1, (at_ xs i).2)) := rfl
    have HRf : Hid (∀ j, rul m xs i j = decide (i ≠ j ∧ (at_ xs i).1 ≤ (at_ xs j).1 ∧ key m (at_ xs i).2 ≤ key m (at_ xs j).2 ∧ (¬ ((at_ xs i).1 = (at_ xs j).1 ∧ (at_ xs i).2 = (at_ xs j).2) ∨ j < i))) := fun j => rul_form m xs i j
    change wr.cell? (ad.add (i * 2)) = some (.int .i64 (at_ xs i).1) at hc1
    change wr.cell? ⟨(ad.add (i * 2)).block, (ad.add (i * 2)).off + 1, none⟩ = some (.int .i64 (at_ xs i).2) at hc2
    generalize (at_ xs i).1 = tx at *
    generalize (at_ xs i).2 = vx at *
    generalize keptN m xs i = ys at *
    obtain ⟨gx, hgx⟩ : ∃ s, wr.heap.size = s := ⟨_, rfl⟩
    have KZ := Lib.hid (Bx.nil_.new (W := wr) (t := 40) (c := #[Value.int IntKind.i64 tx, Value.int IntKind.i64 vx]) hgx)
    have BZ := Lib.hid (HB.out.alloc HB.out.size (.cells #[Value.int IntKind.i64 tx, Value.int IntKind.i64 vx] 40))
    have HOZ := Lib.hid (own_alloc HO.out (.cells #[Value.int IntKind.i64 tx, Value.int IntKind.i64 vx] 40))
    have RZ := KZ.out.rules
    simp only [Rules] at RZ
    have hxs : gx + 1 ≤ (wr.alloc (.cells #[Value.int IntKind.i64 tx, Value.int IntKind.i64 vx] 40)).heap.size := by simp; omega
    go_wp2_with fail
    obtain ⟨W1, hW, K1, B1, z1⟩ := name_world KZ.out BZ.out hxs
    rw [hW]
    rw [hW] at HOZ
    clear hW RZ KZ BZ HB HO hxs hc1 hc2
    have KK := Lib.hid K1
    have BB := Lib.hid B1
    clear K1 B1
    go_loopg [8, 21] n (fun kx s8 s21 w2 => ∃ (j : Nat) (b : Bool), s21 = .int .i64 j ∧ s8 = .bool b ∧ j ≤ n ∧ n - j ≤ kx ∧ Hid (keepTo m xs i j = b) ∧ Hid (Below W1.heap.size W1 w2))
    case atStart => exact ⟨0, true, rfl, rfl, by omega, by omega, Lib.hid rfl, Below.refl _ _⟩
    case round =>
      obtain ⟨j, b, rfl, rfl, hjn, hjk, hb, HB2⟩ := hrel
      by_cases hlt2 : j < n
      case neg =>
        obtain rfl : n = j := by omega
        cases b
        case false =>
          have hK := HNo.out hb.out
          go_wp2
          go_roundg (n - (i + 1))
          case measure => exact hmes.out
          case rel => exact ⟨u, i + 1, by go_num, rfl, by omega, Nat.le_refl _, by rw [hK]; exact HN, by rw [hK]; exact own_keep HOZ.out HB2.out, BB.out.trans (HB2.out.mono BB.out.size)⟩
        have hK := HYes.out hb.out
        rw [HAt.out] at hK
        have HKe := Lib.hid hK
        clear HYes HNo hb hK HRf HAt
        by_cases h0 : ys = []
        case pos =>
          obtain rfl := HN.out h0
          subst h0
          clear HN
          have HLy : Hid (([] : L2).length = 0) := rfl
          have hK : Hid (kpos tx ([] : L2) ([] : L2).length = 0) := rfl
          go_wp2_with fail
          go_loopg [11] 0 (fun kx s11 w3 => s11 = .int .i64 0 ∧ Hid (Below W1.heap.size W1 w3))
          case atStart => exact ⟨rfl, HB2⟩
          case round =>
            clear HB2
            obtain ⟨rfl, HB2⟩ := hrel
            have KX := Lib.hid (KK.out.below HB2.out)
            have RX := KX.out.rules
            simp only [Rules] at RX
            go_wp2_with fail
            (refine gro.wp_region_grown (by kernel_rfl) (by kernel_rfl) ?_; (repeat (go_big_quiet_step ((fail)))); refine wpQuiet_nil ?_; intro _ hw'; obtain ⟨nx, hw''⟩ := hw'; subst hw'')
            have HB3 := Lib.hid (HB2.out.trans ((below_grown _ nx).mono HB2.out.size))
            replace KX := Lib.hid (KX.out.below (below_grown _ nx))
            clear RX
            generalize grown _ nx = W8 at *
            have BB3 := Lib.hid (BB.out.trans (HB3.out.mono BB.out.size))
            have hW8 : w.heap.size ≤ W8.heap.size := BB3.out.size
            have R := KX.out.rules
            simp only [Rules] at R
            go_wp2_with fail
            (refine gro.wp_region_heldA [1, 2, 3, 5, 8, 9, 10] 6 12 _ (gro.lasts_bx _) (by kernel_rfl) (by kernel_rfl) (by intro _ _ _ _ _ h; exact h) (by kernel_rfl) (by kernel_rfl) (by kernel_rfl) (by kernel_rfl) (by kernel_rfl) (by decide) (KX.out).drew ?_; apply Exists.intro; refine ⟨fun w0 hb0 => ?_, ?_⟩; focus (have RZ := gro.Bx.rules hb0; simp only [gro.Rules] at RZ; simp only [gro.pickA, List.filterMap_cons, List.filterMap_nil, List.getElem?_toArray, List.getElem?_cons_succ, List.getElem?_cons_zero]; change wpQuiet _ _ _ _ (_ :: _ :: _ :: _ :: _ :: _ :: _ ::  []) _; (repeat (go_big_quiet_step ((fail)))); exact wpQuiet_nil rfl))
            have KX0 := KX.out.drew
            have BZ0 : Below W8.heap.size W8 W8.drew := (Below.refl _ _).drew
            refine gro.anyM_two 0 6 (by kernel_rfl) rfl rfl ?_ ?_
            · intro y1 hz1 K' hK'
              have BZ1 := BZ0.trans (hz1.mono BZ0.size)
              go_simp
              refine hK' _ _ ⟨fun _ => (KX.out.below BZ1).alloc _, ?_⟩
              clear hK' K'
              obtain ⟨z1, hy1⟩ : ∃ z, y1.alloc (.cells #[] 40) = z := ⟨_, rfl⟩
              have hA1 : Below y1.heap.size y1 z1 := by rw [← hy1]; exact (Below.refl _ _).alloc (Nat.le_refl _) _
              have BA1 := BZ1.trans (hA1.mono BZ1.size)
              have HV1 : z1.ownsRow W8.heap.size 40 2 (.slice (some ⟨y1.heap.size, 0, none⟩) 0 0) 0 [] := by rw [← hy1]; exact own_empty2 rfl BZ1.size
              rw [hy1]
              clear hz1 hA1 hy1
              refine gro.anyM_two 4 6 (by kernel_rfl) rfl rfl ?_ ?_
              · intro y2 hz2 K' hK'
                have BZ2 := BA1.trans (hz2.mono BA1.size)
                have HU2 := own_keep HV1 hz2
                refine step_append_any _ (by rfl) (.tmp 75) (.tmp 78) 22 rfl W8.heap.size 40 i0 (.agg #[.int .i64 0, .int .i64 0]) 2 16 Try.underlying22 HI.out HZ0.out HZ1.out HZ2.out rfl (by omega) (.slice (some ⟨y1.heap.size, 0, none⟩) 0 0) (0) ([]) (by rfl) HU2 _ none (0) (0) (pc []) (by rfl) (Reads.below ((Reads.none_ (w := W8) (B := W8.heap.size))) BZ2) (pc_oneCell _) (by unfold maxLen; omega) (by omega) BZ2.size ?_
                intro v2 w2 hown2 hg2 hat2
                have BG2 := below_own hg2 HU2 BZ2 (Nat.le_refl _) BZ2.size
                refine hK' _ _ ⟨fun _ => KX.out.below BG2, ?_⟩
                clear hK' K' hg2 hat2
                refine gro.anyM_one 6 (by kernel_rfl) rfl ?_
                intro y3 hz3 K' hK'
                have BZ3 := BG2.trans (hz3.mono BG2.size)
                have HU3 := own_keep hown2 hz3
                go_simp
                refine hK' _ _ ⟨fun _ => (KX.out.below BZ3).alloc _, ?_⟩
                clear hK' K'
                obtain ⟨z3, hy3⟩ : ∃ z, y3.alloc (.cells #[Value.int IntKind.i64 tx, Value.int IntKind.i64 vx] 40) = z := ⟨_, rfl⟩
                have hA3 : Below y3.heap.size y3 z3 := by rw [← hy3]; exact (Below.refl _ _).alloc (Nat.le_refl _) _
                have BA3 := BZ3.trans (hA3.mono BZ3.size)
                have HV3 := own_keep HU3 hA3
                have HF3 : Reads z3 z3.heap.size 2 (some ⟨y3.heap.size, 0, none⟩) 1 [Value.int IntKind.i64 tx, Value.int IntKind.i64 vx] := by rw [← hy3]; exact Reads.more (reads_new y3 40 #[Value.int IntKind.i64 tx, Value.int IntKind.i64 vx] rfl) (by simp)
                have le3 : y3.heap.size + 1 ≤ z3.heap.size := by rw [← hy3]; simp
                have hd3 : some y3.heap.size ≠ (Value.ownBlock v2) := fun e => by have h1 := (World.ownsRow.lt HU3 _ e.symm).2; omega
                rw [hy3]
                clear hz3 hA3 hy3
                refine gro.anyM_one 7 (by kernel_rfl) rfl ?_
                intro y4 hz4 K' hK'
                have BZ4 := BA3.trans (hz4.mono BA3.size)
                have HU4 := own_keep HV3 hz4
                have HE4 := (Reads.below HF3 hz4).more hz4.size
                refine step_append_any _ (by rfl) (.tmp 79) (.tmp 81) 22 rfl W8.heap.size 40 i0 (.agg #[.int .i64 0, .int .i64 0]) 2 16 Try.underlying22 HI.out HZ0.out HZ1.out HZ2.out rfl (by omega) v2 (0 + (0)) ([] ++ (pc [])) (by rfl) HU4 _ _ (1) (1) _ (by rfl) HE4 (by simp [Value.oneCell']) (by unfold maxLen; omega) (by omega) BZ4.size ?_
                intro v4 w4 hown4 hg4 hat4
                have BG4 := below_own hg4 HU4 BZ4 (Nat.le_refl _) BZ4.size
                refine hK' _ _ ⟨fun _ => KX.out.below BG4, ?_⟩
                clear hK' K' hg4 hat4
                refine gro.anyM_one 11 (by kernel_rfl) rfl ?_
                intro y5 hz5 K' hK'
                have BZ5 := BG4.trans (hz5.mono BG4.size)
                have HU5 := own_keep hown4 hz5
                refine step_append_any _ (by rfl) (.tmp 82) (.tmp 85) 22 rfl W8.heap.size 40 i0 (.agg #[.int .i64 0, .int .i64 0]) 2 16 Try.underlying22 HI.out HZ0.out HZ1.out HZ2.out rfl (by omega) v4 (0 + (0) + (1)) ([] ++ (pc []) ++ [Value.int IntKind.i64 tx, Value.int IntKind.i64 vx]) (by rfl) HU5 _ none (0) (0) (pc []) (by rfl) (Reads.below ((Reads.none_ (w := W8) (B := W8.heap.size))) BZ5) (pc_oneCell _) (by unfold maxLen; omega) (by omega) BZ5.size ?_
                intro v5 w5 hown5 hg5 hat5
                have BG5 := below_own hg5 HU5 BZ5 (Nat.le_refl _) BZ5.size
                refine hK' _ _ ⟨fun _ => KX.out.below BG5, ?_⟩
                clear hK' K' hg5 hat5
                refine gro.anyM_one 12 (by kernel_rfl) rfl ?_
                intro y6 hz6 K' hK'
                have BZ6 := BG5.trans (hz6.mono BG5.size)
                have HU6 := own_keep hown5 hz6
                go_simp
                refine hK' _ _ ⟨fun h => absurd (show true = false from h) (by decide), ?_⟩
                clear hK' K'
                refine gro.anyM_done (by kernel_rfl) ?_
                intro y7 hz7
                have HF := own_keep HU6 hz7
                have BF := BZ6.trans (hz7.mono BZ6.size)
                have hE : Hid (keptN m xs (i + 1) = ([] : L2).take 0 ++ (tx, vx) :: ([] : L2).drop 0) := by rw [Hid, HKe.out, insT_at hK.out]
                have HF2 : Hid (y7.ownsRow w.heap.size 40 2 v5 (keptN m xs (i + 1)).length (pc (keptN m xs (i + 1)))) := by
                  have h := own_mono HF hW8
                  have e : [] ++ (pc []) ++ [Value.int IntKind.i64 tx, Value.int IntKind.i64 vx] ++ (pc []) = pc (keptN m xs (i + 1)) := by rw [hE.out, pc_append, pc_cons]; simp [pc]
                  have e2 : 0 + (0) + (1) + (0) = (keptN m xs (i + 1)).length := by rw [hE.out]; first | (simp; done) | (simp; omega)
                  rw [e, e2] at h
                  exact h
                have hE2 : Hid (keptN m xs (i + 1) = [] → v5 = .slice none 0 0) := fun h => by rw [hE.out] at h; simp at h
                go_wp2
                all_goals (go_roundg (n - (i + 1)); (case measure => exact hmes.out); (case rel => exact ⟨v5, i + 1, by go_num, rfl, by omega, Nat.le_refl _, hE2, HF2.out, BB3.out.trans (BF.mono hW8)⟩))
              · intro y8 hz8 K' hK'
                have BZ8 := BA1.trans (hz8.mono BA1.size)
                have HU8 := own_keep HV1 hz8
                go_simp
                refine hK' _ _ ⟨fun _ => (KX.out.below BZ8).alloc _, ?_⟩
                clear hK' K'
                obtain ⟨z8, hy8⟩ : ∃ z, y8.alloc (.cells #[Value.int IntKind.i64 tx, Value.int IntKind.i64 vx] 40) = z := ⟨_, rfl⟩
                have hA8 : Below y8.heap.size y8 z8 := by rw [← hy8]; exact (Below.refl _ _).alloc (Nat.le_refl _) _
                have BA8 := BZ8.trans (hA8.mono BZ8.size)
                have HV8 := own_keep HU8 hA8
                have HF8 : Reads z8 z8.heap.size 2 (some ⟨y8.heap.size, 0, none⟩) 1 [Value.int IntKind.i64 tx, Value.int IntKind.i64 vx] := by rw [← hy8]; exact Reads.more (reads_new y8 40 #[Value.int IntKind.i64 tx, Value.int IntKind.i64 vx] rfl) (by simp)
                have le8 : y8.heap.size + 1 ≤ z8.heap.size := by rw [← hy8]; simp
                have hd8 : some y8.heap.size ≠ (Value.ownBlock (.slice (some ⟨y1.heap.size, 0, none⟩) 0 0)) := fun e => by have h1 := (World.ownsRow.lt HU8 _ e.symm).2; omega
                rw [hy8]
                clear hz8 hA8 hy8
                refine gro.anyM_one 4 (by kernel_rfl) rfl ?_
                intro y9 hz9 K' hK'
                have BZ9 := BA8.trans (hz9.mono BA8.size)
                have HU9 := own_keep HV8 hz9
                have HE9 := (Reads.below HF8 hz9).more hz9.size
                refine step_append_any _ (by rfl) (.tmp 75) (.tmp 78) 22 rfl W8.heap.size 40 i0 (.agg #[.int .i64 0, .int .i64 0]) 2 16 Try.underlying22 HI.out HZ0.out HZ1.out HZ2.out rfl (by omega) (.slice (some ⟨y1.heap.size, 0, none⟩) 0 0) (0) ([]) (by rfl) HU9 _ none (0) (0) (pc []) (by rfl) (Reads.below ((Reads.none_ (w := W8) (B := W8.heap.size))) BZ9) (pc_oneCell _) (by unfold maxLen; omega) (by omega) BZ9.size ?_
                intro v9 w9 hown9 hg9 hat9
                have BG9 := below_own hg9 HU9 BZ9 (Nat.le_refl _) BZ9.size
                have HG9 := Reads.app HE9 hg9 (fun _ ad e => by injection e with e; subst e; exact hd8)
                refine hK' _ _ ⟨fun _ => KX.out.below BG9, ?_⟩
                clear hK' K' hg9 hat9
                refine gro.anyM_one 7 (by kernel_rfl) rfl ?_
                intro y10 hz10 K' hK'
                have BZ10 := BG9.trans (hz10.mono BG9.size)
                have HU10 := own_keep hown9 hz10
                have HE10 := (Reads.below HG9 hz10).more hz10.size
                refine step_append_any _ (by rfl) (.tmp 79) (.tmp 81) 22 rfl W8.heap.size 40 i0 (.agg #[.int .i64 0, .int .i64 0]) 2 16 Try.underlying22 HI.out HZ0.out HZ1.out HZ2.out rfl (by omega) v9 (0 + (0)) ([] ++ (pc [])) (by rfl) HU10 _ _ (1) (1) _ (by rfl) HE10 (by simp [Value.oneCell']) (by unfold maxLen; omega) (by omega) BZ10.size ?_
                intro v10 w10 hown10 hg10 hat10
                have BG10 := below_own hg10 HU10 BZ10 (Nat.le_refl _) BZ10.size
                refine hK' _ _ ⟨fun _ => KX.out.below BG10, ?_⟩
                clear hK' K' hg10 hat10
                refine gro.anyM_one 11 (by kernel_rfl) rfl ?_
                intro y11 hz11 K' hK'
                have BZ11 := BG10.trans (hz11.mono BG10.size)
                have HU11 := own_keep hown10 hz11
                refine step_append_any _ (by rfl) (.tmp 82) (.tmp 85) 22 rfl W8.heap.size 40 i0 (.agg #[.int .i64 0, .int .i64 0]) 2 16 Try.underlying22 HI.out HZ0.out HZ1.out HZ2.out rfl (by omega) v10 (0 + (0) + (1)) ([] ++ (pc []) ++ [Value.int IntKind.i64 tx, Value.int IntKind.i64 vx]) (by rfl) HU11 _ none (0) (0) (pc []) (by rfl) (Reads.below ((Reads.none_ (w := W8) (B := W8.heap.size))) BZ11) (pc_oneCell _) (by unfold maxLen; omega) (by omega) BZ11.size ?_
                intro v11 w11 hown11 hg11 hat11
                have BG11 := below_own hg11 HU11 BZ11 (Nat.le_refl _) BZ11.size
                refine hK' _ _ ⟨fun _ => KX.out.below BG11, ?_⟩
                clear hK' K' hg11 hat11
                refine gro.anyM_one 12 (by kernel_rfl) rfl ?_
                intro y12 hz12 K' hK'
                have BZ12 := BG11.trans (hz12.mono BG11.size)
                have HU12 := own_keep hown11 hz12
                go_simp
                refine hK' _ _ ⟨fun h => absurd (show true = false from h) (by decide), ?_⟩
                clear hK' K'
                refine gro.anyM_done (by kernel_rfl) ?_
                intro y13 hz13
                have HF := own_keep HU12 hz13
                have BF := BZ12.trans (hz13.mono BZ12.size)
                have hE : Hid (keptN m xs (i + 1) = ([] : L2).take 0 ++ (tx, vx) :: ([] : L2).drop 0) := by rw [Hid, HKe.out, insT_at hK.out]
                have HF2 : Hid (y13.ownsRow w.heap.size 40 2 v11 (keptN m xs (i + 1)).length (pc (keptN m xs (i + 1)))) := by
                  have h := own_mono HF hW8
                  have e : [] ++ (pc []) ++ [Value.int IntKind.i64 tx, Value.int IntKind.i64 vx] ++ (pc []) = pc (keptN m xs (i + 1)) := by rw [hE.out, pc_append, pc_cons]; simp [pc]
                  have e2 : 0 + (0) + (1) + (0) = (keptN m xs (i + 1)).length := by rw [hE.out]; first | (simp; done) | (simp; omega)
                  rw [e, e2] at h
                  exact h
                have hE2 : Hid (keptN m xs (i + 1) = [] → v11 = .slice none 0 0) := fun h => by rw [hE.out] at h; simp at h
                go_wp2
                all_goals (go_roundg (n - (i + 1)); (case measure => exact hmes.out); (case rel => exact ⟨v11, i + 1, by go_num, rfl, by omega, Nat.le_refl _, hE2, HF2.out, BB3.out.trans (BF.mono hW8)⟩))
            · intro y14 hz14 K' hK'
              have BZ14 := BZ0.trans (hz14.mono BZ0.size)
              go_simp
              refine hK' _ _ ⟨fun _ => (KX.out.below BZ14).alloc _, ?_⟩
              clear hK' K'
              obtain ⟨z14, hy14⟩ : ∃ z, y14.alloc (.cells #[Value.int IntKind.i64 tx, Value.int IntKind.i64 vx] 40) = z := ⟨_, rfl⟩
              have hA14 : Below y14.heap.size y14 z14 := by rw [← hy14]; exact (Below.refl _ _).alloc (Nat.le_refl _) _
              have BA14 := BZ14.trans (hA14.mono BZ14.size)
              have HF14 : Reads z14 z14.heap.size 2 (some ⟨y14.heap.size, 0, none⟩) 1 [Value.int IntKind.i64 tx, Value.int IntKind.i64 vx] := by rw [← hy14]; exact Reads.more (reads_new y14 40 #[Value.int IntKind.i64 tx, Value.int IntKind.i64 vx] rfl) (by simp)
              have le14 : y14.heap.size + 1 ≤ z14.heap.size := by rw [← hy14]; simp
              rw [hy14]
              clear hz14 hA14 hy14
              refine gro.anyM_one 0 (by kernel_rfl) rfl ?_
              intro y15 hz15 K' hK'
              have BZ15 := BA14.trans (hz15.mono BA14.size)
              have HE15 := (Reads.below HF14 hz15).more hz15.size
              go_simp
              refine hK' _ _ ⟨fun _ => (KX.out.below BZ15).alloc _, ?_⟩
              clear hK' K'
              obtain ⟨z15, hy15⟩ : ∃ z, y15.alloc (.cells #[] 40) = z := ⟨_, rfl⟩
              have hA15 : Below y15.heap.size y15 z15 := by rw [← hy15]; exact (Below.refl _ _).alloc (Nat.le_refl _) _
              have BA15 := BZ15.trans (hA15.mono BZ15.size)
              have HF15 := (Reads.below HE15 hA15).more hA15.size
              have HV15 : z15.ownsRow W8.heap.size 40 2 (.slice (some ⟨y15.heap.size, 0, none⟩) 0 0) 0 [] := by rw [← hy15]; exact own_empty2 rfl BZ15.size
              have hd15 : some y14.heap.size ≠ (Value.slice (some ⟨y15.heap.size, 0, none⟩) 0 0).ownBlock := fun e => by have h1 : y14.heap.size = y15.heap.size := Option.some.inj e; have h2 := le14; have h3 := hz15.size; omega
              rw [hy15]
              clear hA15 hy15
              refine gro.anyM_one 4 (by kernel_rfl) rfl ?_
              intro y16 hz16 K' hK'
              have BZ16 := BA15.trans (hz16.mono BA15.size)
              have HU16 := own_keep HV15 hz16
              have HE16 := (Reads.below HF15 hz16).more hz16.size
              refine step_append_any _ (by rfl) (.tmp 75) (.tmp 78) 22 rfl W8.heap.size 40 i0 (.agg #[.int .i64 0, .int .i64 0]) 2 16 Try.underlying22 HI.out HZ0.out HZ1.out HZ2.out rfl (by omega) (.slice (some ⟨y15.heap.size, 0, none⟩) 0 0) (0) ([]) (by rfl) HU16 _ none (0) (0) (pc []) (by rfl) (Reads.below ((Reads.none_ (w := W8) (B := W8.heap.size))) BZ16) (pc_oneCell _) (by unfold maxLen; omega) (by omega) BZ16.size ?_
              intro v16 w16 hown16 hg16 hat16
              have BG16 := below_own hg16 HU16 BZ16 (Nat.le_refl _) BZ16.size
              have HG16 := Reads.app HE16 hg16 (fun _ ad e => by injection e with e; subst e; exact hd15)
              refine hK' _ _ ⟨fun _ => KX.out.below BG16, ?_⟩
              clear hK' K' hg16 hat16
              refine gro.anyM_one 7 (by kernel_rfl) rfl ?_
              intro y17 hz17 K' hK'
              have BZ17 := BG16.trans (hz17.mono BG16.size)
              have HU17 := own_keep hown16 hz17
              have HE17 := (Reads.below HG16 hz17).more hz17.size
              refine step_append_any _ (by rfl) (.tmp 79) (.tmp 81) 22 rfl W8.heap.size 40 i0 (.agg #[.int .i64 0, .int .i64 0]) 2 16 Try.underlying22 HI.out HZ0.out HZ1.out HZ2.out rfl (by omega) v16 (0 + (0)) ([] ++ (pc [])) (by rfl) HU17 _ _ (1) (1) _ (by rfl) HE17 (by simp [Value.oneCell']) (by unfold maxLen; omega) (by omega) BZ17.size ?_
              intro v17 w17 hown17 hg17 hat17
              have BG17 := below_own hg17 HU17 BZ17 (Nat.le_refl _) BZ17.size
              refine hK' _ _ ⟨fun _ => KX.out.below BG17, ?_⟩
              clear hK' K' hg17 hat17
              refine gro.anyM_one 11 (by kernel_rfl) rfl ?_
              intro y18 hz18 K' hK'
              have BZ18 := BG17.trans (hz18.mono BG17.size)
              have HU18 := own_keep hown17 hz18
              refine step_append_any _ (by rfl) (.tmp 82) (.tmp 85) 22 rfl W8.heap.size 40 i0 (.agg #[.int .i64 0, .int .i64 0]) 2 16 Try.underlying22 HI.out HZ0.out HZ1.out HZ2.out rfl (by omega) v17 (0 + (0) + (1)) ([] ++ (pc []) ++ [Value.int IntKind.i64 tx, Value.int IntKind.i64 vx]) (by rfl) HU18 _ none (0) (0) (pc []) (by rfl) (Reads.below ((Reads.none_ (w := W8) (B := W8.heap.size))) BZ18) (pc_oneCell _) (by unfold maxLen; omega) (by omega) BZ18.size ?_
              intro v18 w18 hown18 hg18 hat18
              have BG18 := below_own hg18 HU18 BZ18 (Nat.le_refl _) BZ18.size
              refine hK' _ _ ⟨fun _ => KX.out.below BG18, ?_⟩
              clear hK' K' hg18 hat18
              refine gro.anyM_one 12 (by kernel_rfl) rfl ?_
              intro y19 hz19 K' hK'
              have BZ19 := BG18.trans (hz19.mono BG18.size)
              have HU19 := own_keep hown18 hz19
              go_simp
              refine hK' _ _ ⟨fun h => absurd (show true = false from h) (by decide), ?_⟩
              clear hK' K'
              refine gro.anyM_done (by kernel_rfl) ?_
              intro y20 hz20
              have HF := own_keep HU19 hz20
              have BF := BZ19.trans (hz20.mono BZ19.size)
              have hE : Hid (keptN m xs (i + 1) = ([] : L2).take 0 ++ (tx, vx) :: ([] : L2).drop 0) := by rw [Hid, HKe.out, insT_at hK.out]
              have HF2 : Hid (y20.ownsRow w.heap.size 40 2 v18 (keptN m xs (i + 1)).length (pc (keptN m xs (i + 1)))) := by
                have h := own_mono HF hW8
                have e : [] ++ (pc []) ++ [Value.int IntKind.i64 tx, Value.int IntKind.i64 vx] ++ (pc []) = pc (keptN m xs (i + 1)) := by rw [hE.out, pc_append, pc_cons]; simp [pc]
                have e2 : 0 + (0) + (1) + (0) = (keptN m xs (i + 1)).length := by rw [hE.out]; first | (simp; done) | (simp; omega)
                rw [e, e2] at h
                exact h
              have hE2 : Hid (keptN m xs (i + 1) = [] → v18 = .slice none 0 0) := fun h => by rw [hE.out] at h; simp at h
              go_wp2
              all_goals (go_roundg (n - (i + 1)); (case measure => exact hmes.out); (case rel => exact ⟨v18, i + 1, by go_num, rfl, by omega, Nat.le_refl _, hE2, HF2.out, BB3.out.trans (BF.mono hW8)⟩))
        obtain ⟨len, hlen⟩ : ∃ l, ys.length = l := ⟨_, rfl⟩
        have HLy := Lib.hid hlen
        rw [hlen] at HOZ hkl
        have hl0 : 0 < len := by have : ys.length ≠ 0 := fun h => h0 (List.eq_nil_of_length_eq_zero h); omega
        clear HN h0 hlen
        obtain ⟨g, cc, rfl, q1, q2, q3, q4⟩ := own_form2 HOZ.out hl0
        have HQ1 := Lib.hid q1
        have q2' : cc ≤ 9223372036854775807 := q2
        clear q3 q4
        go_wp2_with fail
        go_loopg [11] len (fun kx s11 w3 => ∃ k : Nat, s11 = .int .i64 k ∧ k ≤ kx ∧ k ≤ len ∧ Hid (kpos tx ys len = kpos tx ys k) ∧ Hid (Below W1.heap.size W1 w3))
        case atStart => exact ⟨len, rfl, by omega, Nat.le_refl _, (rfl : kpos tx ys len = kpos tx ys len), HB2⟩
        case round =>
          clear HB2
          obtain ⟨k, rfl, hkk, hkl2, HP, HB2⟩ := hrel
          have KX := Lib.hid (KK.out.below HB2.out)
          have RX := KX.out.rules
          simp only [Rules] at RX
          have HOw := Lib.hid (own_keep HOZ.out HB2.out)
          by_cases hk0 : 0 < k
          case neg =>
            obtain rfl : k = 0 := by omega
            have hK : Hid (kpos tx ys ys.length = 0) := by rw [Hid, HLy.out, HP.out]; rfl
            clear HP
            go_wp2_with fail
            (refine gro.wp_region_grown (by kernel_rfl) (by kernel_rfl) ?_; (repeat (go_big_quiet_step ((fail)))); refine wpQuiet_nil ?_; intro _ hw'; obtain ⟨nx, hw''⟩ := hw'; subst hw'')
            have HB3 := Lib.hid (HB2.out.trans ((below_grown _ nx).mono HB2.out.size))
            replace KX := Lib.hid (KX.out.below (below_grown _ nx))
            clear RX
            replace HOw := Lib.hid (own_keep HOw.out (below_grown _ nx))
            generalize grown _ nx = W8 at *
            have BB3 := Lib.hid (BB.out.trans (HB3.out.mono BB.out.size))
            have hW8 : w.heap.size ≤ W8.heap.size := BB3.out.size
            have R := KX.out.rules
            simp only [Rules] at R
            have HRa : Hid (Reads W8 W8.heap.size 2 (some ⟨g, 0, none⟩) 0 (pc (ys.take 0))) := by
              have := (Reads.of_own HOw.out).front (show 0 ≤ len by omega)
              rw [Hid, pc_take]
              exact this
            have HRb : Hid (Reads W8 W8.heap.size 2 (some ⟨g, 0, none⟩) len (pc ys)) := Reads.of_own HOw.out
            have s1 : 0 ≤ (0 : Int) := by omega
            have s2 : (0 : Int) ≤ len := by omega
            have s3 : (0 : Int) ≤ cc := by omega
            have s4 : (len : Int) ≤ cc := by omega
            go_wp2_with fail
            (refine gro.wp_region_heldA [1, 2, 3, 5, 8, 9, 10] 6 12 _ (gro.lasts_bx _) (by kernel_rfl) (by kernel_rfl) (by intro _ _ _ _ _ h; exact h) (by kernel_rfl) (by kernel_rfl) (by kernel_rfl) (by kernel_rfl) (by kernel_rfl) (by decide) (KX.out).drew ?_; apply Exists.intro; refine ⟨fun w0 hb0 => ?_, ?_⟩; focus (have RZ := gro.Bx.rules hb0; simp only [gro.Rules] at RZ; simp only [gro.pickA, List.filterMap_cons, List.filterMap_nil, List.getElem?_toArray, List.getElem?_cons_succ, List.getElem?_cons_zero]; change wpQuiet _ _ _ _ (_ :: _ :: _ :: _ :: _ :: _ :: _ ::  []) _; (repeat (go_big_quiet_step ((fail)))); exact wpQuiet_nil rfl))
            have KX0 := KX.out.drew
            have BZ0 : Below W8.heap.size W8 W8.drew := (Below.refl _ _).drew
            refine gro.anyM_two 0 6 (by kernel_rfl) rfl rfl ?_ ?_
            · intro y1 hz1 K' hK'
              have BZ1 := BZ0.trans (hz1.mono BZ0.size)
              go_simp
              refine hK' _ _ ⟨fun _ => (KX.out.below BZ1).alloc _, ?_⟩
              clear hK' K'
              obtain ⟨z1, hy1⟩ : ∃ z, y1.alloc (.cells #[] 40) = z := ⟨_, rfl⟩
              have hA1 : Below y1.heap.size y1 z1 := by rw [← hy1]; exact (Below.refl _ _).alloc (Nat.le_refl _) _
              have BA1 := BZ1.trans (hA1.mono BZ1.size)
              have HV1 : z1.ownsRow W8.heap.size 40 2 (.slice (some ⟨y1.heap.size, 0, none⟩) 0 0) 0 [] := by rw [← hy1]; exact own_empty2 rfl BZ1.size
              rw [hy1]
              clear hz1 hA1 hy1
              refine gro.anyM_two 4 6 (by kernel_rfl) rfl rfl ?_ ?_
              · intro y2 hz2 K' hK'
                have BZ2 := BA1.trans (hz2.mono BA1.size)
                have HU2 := own_keep HV1 hz2
                refine step_append_any _ (by rfl) (.tmp 75) (.tmp 78) 22 rfl W8.heap.size 40 i0 (.agg #[.int .i64 0, .int .i64 0]) 2 16 Try.underlying22 HI.out HZ0.out HZ1.out HZ2.out rfl (by omega) (.slice (some ⟨y1.heap.size, 0, none⟩) 0 0) (0) ([]) (by rfl) HU2 _ (some ⟨g, 0, none⟩) (0) (cc) (pc (ys.take 0)) (by rfl) (Reads.below (HRa.out) BZ2) (pc_oneCell _) (by unfold maxLen; omega) (by omega) BZ2.size ?_
                intro v2 w2 hown2 hg2 hat2
                have BG2 := below_own hg2 HU2 BZ2 (Nat.le_refl _) BZ2.size
                refine hK' _ _ ⟨fun _ => KX.out.below BG2, ?_⟩
                clear hK' K' hg2 hat2
                refine gro.anyM_one 6 (by kernel_rfl) rfl ?_
                intro y3 hz3 K' hK'
                have BZ3 := BG2.trans (hz3.mono BG2.size)
                have HU3 := own_keep hown2 hz3
                go_simp
                refine hK' _ _ ⟨fun _ => (KX.out.below BZ3).alloc _, ?_⟩
                clear hK' K'
                obtain ⟨z3, hy3⟩ : ∃ z, y3.alloc (.cells #[Value.int IntKind.i64 tx, Value.int IntKind.i64 vx] 40) = z := ⟨_, rfl⟩
                have hA3 : Below y3.heap.size y3 z3 := by rw [← hy3]; exact (Below.refl _ _).alloc (Nat.le_refl _) _
                have BA3 := BZ3.trans (hA3.mono BZ3.size)
                have HV3 := own_keep HU3 hA3
                have HF3 : Reads z3 z3.heap.size 2 (some ⟨y3.heap.size, 0, none⟩) 1 [Value.int IntKind.i64 tx, Value.int IntKind.i64 vx] := by rw [← hy3]; exact Reads.more (reads_new y3 40 #[Value.int IntKind.i64 tx, Value.int IntKind.i64 vx] rfl) (by simp)
                have le3 : y3.heap.size + 1 ≤ z3.heap.size := by rw [← hy3]; simp
                have hd3 : some y3.heap.size ≠ (Value.ownBlock v2) := fun e => by have h1 := (World.ownsRow.lt HU3 _ e.symm).2; omega
                rw [hy3]
                clear hz3 hA3 hy3
                refine gro.anyM_one 7 (by kernel_rfl) rfl ?_
                intro y4 hz4 K' hK'
                have BZ4 := BA3.trans (hz4.mono BA3.size)
                have HU4 := own_keep HV3 hz4
                have HE4 := (Reads.below HF3 hz4).more hz4.size
                refine step_append_any _ (by rfl) (.tmp 79) (.tmp 81) 22 rfl W8.heap.size 40 i0 (.agg #[.int .i64 0, .int .i64 0]) 2 16 Try.underlying22 HI.out HZ0.out HZ1.out HZ2.out rfl (by omega) v2 (0 + (0)) ([] ++ (pc (ys.take 0))) (by rfl) HU4 _ _ (1) (1) _ (by rfl) HE4 (by simp [Value.oneCell']) (by unfold maxLen; omega) (by omega) BZ4.size ?_
                intro v4 w4 hown4 hg4 hat4
                have BG4 := below_own hg4 HU4 BZ4 (Nat.le_refl _) BZ4.size
                refine hK' _ _ ⟨fun _ => KX.out.below BG4, ?_⟩
                clear hK' K' hg4 hat4
                refine gro.anyM_one 11 (by kernel_rfl) rfl ?_
                intro y5 hz5 K' hK'
                have BZ5 := BG4.trans (hz5.mono BG4.size)
                have HU5 := own_keep hown4 hz5
                refine step_append_any _ (by rfl) (.tmp 82) (.tmp 85) 22 rfl W8.heap.size 40 i0 (.agg #[.int .i64 0, .int .i64 0]) 2 16 Try.underlying22 HI.out HZ0.out HZ1.out HZ2.out rfl (by omega) v4 (0 + (0) + (1)) ([] ++ (pc (ys.take 0)) ++ [Value.int IntKind.i64 tx, Value.int IntKind.i64 vx]) (by rfl) HU5 _ (some ⟨g, 0, none⟩) (len) (cc) (pc ys) (by rfl) (Reads.below (HRb.out) BZ5) (pc_oneCell _) (by unfold maxLen; omega) (by omega) BZ5.size ?_
                intro v5 w5 hown5 hg5 hat5
                have BG5 := below_own hg5 HU5 BZ5 (Nat.le_refl _) BZ5.size
                refine hK' _ _ ⟨fun _ => KX.out.below BG5, ?_⟩
                clear hK' K' hg5 hat5
                refine gro.anyM_one 12 (by kernel_rfl) rfl ?_
                intro y6 hz6 K' hK'
                have BZ6 := BG5.trans (hz6.mono BG5.size)
                have HU6 := own_keep hown5 hz6
                go_simp
                refine hK' _ _ ⟨fun h => absurd (show true = false from h) (by decide), ?_⟩
                clear hK' K'
                refine gro.anyM_done (by kernel_rfl) ?_
                intro y7 hz7
                have HF := own_keep HU6 hz7
                have BF := BZ6.trans (hz7.mono BZ6.size)
                have hE : Hid (keptN m xs (i + 1) = ys.take 0 ++ (tx, vx) :: ys.drop 0) := by rw [Hid, HKe.out, insT_at hK.out]
                have HF2 : Hid (y7.ownsRow w.heap.size 40 2 v5 (keptN m xs (i + 1)).length (pc (keptN m xs (i + 1)))) := by
                  have h := own_mono HF hW8
                  have e : [] ++ (pc (ys.take 0)) ++ [Value.int IntKind.i64 tx, Value.int IntKind.i64 vx] ++ (pc ys) = pc (keptN m xs (i + 1)) := by rw [hE.out, pc_append, pc_cons]; simp [pc]
                  have e2 : 0 + (0) + (1) + (len) = (keptN m xs (i + 1)).length := by rw [hE.out]; simp; have := HLy.out; omega
                  rw [e, e2] at h
                  exact h
                have hE2 : Hid (keptN m xs (i + 1) = [] → v5 = .slice none 0 0) := fun h => by rw [hE.out] at h; simp at h
                go_wp2
                all_goals (go_roundg (n - (i + 1)); (case measure => exact hmes.out); (case rel => exact ⟨v5, i + 1, by go_num, rfl, by omega, Nat.le_refl _, hE2, HF2.out, BB3.out.trans (BF.mono hW8)⟩))
              · intro y8 hz8 K' hK'
                have BZ8 := BA1.trans (hz8.mono BA1.size)
                have HU8 := own_keep HV1 hz8
                go_simp
                refine hK' _ _ ⟨fun _ => (KX.out.below BZ8).alloc _, ?_⟩
                clear hK' K'
                obtain ⟨z8, hy8⟩ : ∃ z, y8.alloc (.cells #[Value.int IntKind.i64 tx, Value.int IntKind.i64 vx] 40) = z := ⟨_, rfl⟩
                have hA8 : Below y8.heap.size y8 z8 := by rw [← hy8]; exact (Below.refl _ _).alloc (Nat.le_refl _) _
                have BA8 := BZ8.trans (hA8.mono BZ8.size)
                have HV8 := own_keep HU8 hA8
                have HF8 : Reads z8 z8.heap.size 2 (some ⟨y8.heap.size, 0, none⟩) 1 [Value.int IntKind.i64 tx, Value.int IntKind.i64 vx] := by rw [← hy8]; exact Reads.more (reads_new y8 40 #[Value.int IntKind.i64 tx, Value.int IntKind.i64 vx] rfl) (by simp)
                have le8 : y8.heap.size + 1 ≤ z8.heap.size := by rw [← hy8]; simp
                have hd8 : some y8.heap.size ≠ (Value.ownBlock (.slice (some ⟨y1.heap.size, 0, none⟩) 0 0)) := fun e => by have h1 := (World.ownsRow.lt HU8 _ e.symm).2; omega
                rw [hy8]
                clear hz8 hA8 hy8
                refine gro.anyM_one 4 (by kernel_rfl) rfl ?_
                intro y9 hz9 K' hK'
                have BZ9 := BA8.trans (hz9.mono BA8.size)
                have HU9 := own_keep HV8 hz9
                have HE9 := (Reads.below HF8 hz9).more hz9.size
                refine step_append_any _ (by rfl) (.tmp 75) (.tmp 78) 22 rfl W8.heap.size 40 i0 (.agg #[.int .i64 0, .int .i64 0]) 2 16 Try.underlying22 HI.out HZ0.out HZ1.out HZ2.out rfl (by omega) (.slice (some ⟨y1.heap.size, 0, none⟩) 0 0) (0) ([]) (by rfl) HU9 _ (some ⟨g, 0, none⟩) (0) (cc) (pc (ys.take 0)) (by rfl) (Reads.below (HRa.out) BZ9) (pc_oneCell _) (by unfold maxLen; omega) (by omega) BZ9.size ?_
                intro v9 w9 hown9 hg9 hat9
                have BG9 := below_own hg9 HU9 BZ9 (Nat.le_refl _) BZ9.size
                have HG9 := Reads.app HE9 hg9 (fun _ ad e => by injection e with e; subst e; exact hd8)
                refine hK' _ _ ⟨fun _ => KX.out.below BG9, ?_⟩
                clear hK' K' hg9 hat9
                refine gro.anyM_one 7 (by kernel_rfl) rfl ?_
                intro y10 hz10 K' hK'
                have BZ10 := BG9.trans (hz10.mono BG9.size)
                have HU10 := own_keep hown9 hz10
                have HE10 := (Reads.below HG9 hz10).more hz10.size
                refine step_append_any _ (by rfl) (.tmp 79) (.tmp 81) 22 rfl W8.heap.size 40 i0 (.agg #[.int .i64 0, .int .i64 0]) 2 16 Try.underlying22 HI.out HZ0.out HZ1.out HZ2.out rfl (by omega) v9 (0 + (0)) ([] ++ (pc (ys.take 0))) (by rfl) HU10 _ _ (1) (1) _ (by rfl) HE10 (by simp [Value.oneCell']) (by unfold maxLen; omega) (by omega) BZ10.size ?_
                intro v10 w10 hown10 hg10 hat10
                have BG10 := below_own hg10 HU10 BZ10 (Nat.le_refl _) BZ10.size
                refine hK' _ _ ⟨fun _ => KX.out.below BG10, ?_⟩
                clear hK' K' hg10 hat10
                refine gro.anyM_one 11 (by kernel_rfl) rfl ?_
                intro y11 hz11 K' hK'
                have BZ11 := BG10.trans (hz11.mono BG10.size)
                have HU11 := own_keep hown10 hz11
                refine step_append_any _ (by rfl) (.tmp 82) (.tmp 85) 22 rfl W8.heap.size 40 i0 (.agg #[.int .i64 0, .int .i64 0]) 2 16 Try.underlying22 HI.out HZ0.out HZ1.out HZ2.out rfl (by omega) v10 (0 + (0) + (1)) ([] ++ (pc (ys.take 0)) ++ [Value.int IntKind.i64 tx, Value.int IntKind.i64 vx]) (by rfl) HU11 _ (some ⟨g, 0, none⟩) (len) (cc) (pc ys) (by rfl) (Reads.below (HRb.out) BZ11) (pc_oneCell _) (by unfold maxLen; omega) (by omega) BZ11.size ?_
                intro v11 w11 hown11 hg11 hat11
                have BG11 := below_own hg11 HU11 BZ11 (Nat.le_refl _) BZ11.size
                refine hK' _ _ ⟨fun _ => KX.out.below BG11, ?_⟩
                clear hK' K' hg11 hat11
                refine gro.anyM_one 12 (by kernel_rfl) rfl ?_
                intro y12 hz12 K' hK'
                have BZ12 := BG11.trans (hz12.mono BG11.size)
                have HU12 := own_keep hown11 hz12
                go_simp
                refine hK' _ _ ⟨fun h => absurd (show true = false from h) (by decide), ?_⟩
                clear hK' K'
                refine gro.anyM_done (by kernel_rfl) ?_
                intro y13 hz13
                have HF := own_keep HU12 hz13
                have BF := BZ12.trans (hz13.mono BZ12.size)
                have hE : Hid (keptN m xs (i + 1) = ys.take 0 ++ (tx, vx) :: ys.drop 0) := by rw [Hid, HKe.out, insT_at hK.out]
                have HF2 : Hid (y13.ownsRow w.heap.size 40 2 v11 (keptN m xs (i + 1)).length (pc (keptN m xs (i + 1)))) := by
                  have h := own_mono HF hW8
                  have e : [] ++ (pc (ys.take 0)) ++ [Value.int IntKind.i64 tx, Value.int IntKind.i64 vx] ++ (pc ys) = pc (keptN m xs (i + 1)) := by rw [hE.out, pc_append, pc_cons]; simp [pc]
                  have e2 : 0 + (0) + (1) + (len) = (keptN m xs (i + 1)).length := by rw [hE.out]; simp; have := HLy.out; omega
                  rw [e, e2] at h
                  exact h
                have hE2 : Hid (keptN m xs (i + 1) = [] → v11 = .slice none 0 0) := fun h => by rw [hE.out] at h; simp at h
                go_wp2
                all_goals (go_roundg (n - (i + 1)); (case measure => exact hmes.out); (case rel => exact ⟨v11, i + 1, by go_num, rfl, by omega, Nat.le_refl _, hE2, HF2.out, BB3.out.trans (BF.mono hW8)⟩))
            · intro y14 hz14 K' hK'
              have BZ14 := BZ0.trans (hz14.mono BZ0.size)
              go_simp
              refine hK' _ _ ⟨fun _ => (KX.out.below BZ14).alloc _, ?_⟩
              clear hK' K'
              obtain ⟨z14, hy14⟩ : ∃ z, y14.alloc (.cells #[Value.int IntKind.i64 tx, Value.int IntKind.i64 vx] 40) = z := ⟨_, rfl⟩
              have hA14 : Below y14.heap.size y14 z14 := by rw [← hy14]; exact (Below.refl _ _).alloc (Nat.le_refl _) _
              have BA14 := BZ14.trans (hA14.mono BZ14.size)
              have HF14 : Reads z14 z14.heap.size 2 (some ⟨y14.heap.size, 0, none⟩) 1 [Value.int IntKind.i64 tx, Value.int IntKind.i64 vx] := by rw [← hy14]; exact Reads.more (reads_new y14 40 #[Value.int IntKind.i64 tx, Value.int IntKind.i64 vx] rfl) (by simp)
              have le14 : y14.heap.size + 1 ≤ z14.heap.size := by rw [← hy14]; simp
              rw [hy14]
              clear hz14 hA14 hy14
              refine gro.anyM_one 0 (by kernel_rfl) rfl ?_
              intro y15 hz15 K' hK'
              have BZ15 := BA14.trans (hz15.mono BA14.size)
              have HE15 := (Reads.below HF14 hz15).more hz15.size
              go_simp
              refine hK' _ _ ⟨fun _ => (KX.out.below BZ15).alloc _, ?_⟩
              clear hK' K'
              obtain ⟨z15, hy15⟩ : ∃ z, y15.alloc (.cells #[] 40) = z := ⟨_, rfl⟩
              have hA15 : Below y15.heap.size y15 z15 := by rw [← hy15]; exact (Below.refl _ _).alloc (Nat.le_refl _) _
              have BA15 := BZ15.trans (hA15.mono BZ15.size)
              have HF15 := (Reads.below HE15 hA15).more hA15.size
              have HV15 : z15.ownsRow W8.heap.size 40 2 (.slice (some ⟨y15.heap.size, 0, none⟩) 0 0) 0 [] := by rw [← hy15]; exact own_empty2 rfl BZ15.size
              have hd15 : some y14.heap.size ≠ (Value.slice (some ⟨y15.heap.size, 0, none⟩) 0 0).ownBlock := fun e => by have h1 : y14.heap.size = y15.heap.size := Option.some.inj e; have h2 := le14; have h3 := hz15.size; omega
              rw [hy15]
              clear hA15 hy15
              refine gro.anyM_one 4 (by kernel_rfl) rfl ?_
              intro y16 hz16 K' hK'
              have BZ16 := BA15.trans (hz16.mono BA15.size)
              have HU16 := own_keep HV15 hz16
              have HE16 := (Reads.below HF15 hz16).more hz16.size
              refine step_append_any _ (by rfl) (.tmp 75) (.tmp 78) 22 rfl W8.heap.size 40 i0 (.agg #[.int .i64 0, .int .i64 0]) 2 16 Try.underlying22 HI.out HZ0.out HZ1.out HZ2.out rfl (by omega) (.slice (some ⟨y15.heap.size, 0, none⟩) 0 0) (0) ([]) (by rfl) HU16 _ (some ⟨g, 0, none⟩) (0) (cc) (pc (ys.take 0)) (by rfl) (Reads.below (HRa.out) BZ16) (pc_oneCell _) (by unfold maxLen; omega) (by omega) BZ16.size ?_
              intro v16 w16 hown16 hg16 hat16
              have BG16 := below_own hg16 HU16 BZ16 (Nat.le_refl _) BZ16.size
              have HG16 := Reads.app HE16 hg16 (fun _ ad e => by injection e with e; subst e; exact hd15)
              refine hK' _ _ ⟨fun _ => KX.out.below BG16, ?_⟩
              clear hK' K' hg16 hat16
              refine gro.anyM_one 7 (by kernel_rfl) rfl ?_
              intro y17 hz17 K' hK'
              have BZ17 := BG16.trans (hz17.mono BG16.size)
              have HU17 := own_keep hown16 hz17
              have HE17 := (Reads.below HG16 hz17).more hz17.size
              refine step_append_any _ (by rfl) (.tmp 79) (.tmp 81) 22 rfl W8.heap.size 40 i0 (.agg #[.int .i64 0, .int .i64 0]) 2 16 Try.underlying22 HI.out HZ0.out HZ1.out HZ2.out rfl (by omega) v16 (0 + (0)) ([] ++ (pc (ys.take 0))) (by rfl) HU17 _ _ (1) (1) _ (by rfl) HE17 (by simp [Value.oneCell']) (by unfold maxLen; omega) (by omega) BZ17.size ?_
              intro v17 w17 hown17 hg17 hat17
              have BG17 := below_own hg17 HU17 BZ17 (Nat.le_refl _) BZ17.size
              refine hK' _ _ ⟨fun _ => KX.out.below BG17, ?_⟩
              clear hK' K' hg17 hat17
              refine gro.anyM_one 11 (by kernel_rfl) rfl ?_
              intro y18 hz18 K' hK'
              have BZ18 := BG17.trans (hz18.mono BG17.size)
              have HU18 := own_keep hown17 hz18
              refine step_append_any _ (by rfl) (.tmp 82) (.tmp 85) 22 rfl W8.heap.size 40 i0 (.agg #[.int .i64 0, .int .i64 0]) 2 16 Try.underlying22 HI.out HZ0.out HZ1.out HZ2.out rfl (by omega) v17 (0 + (0) + (1)) ([] ++ (pc (ys.take 0)) ++ [Value.int IntKind.i64 tx, Value.int IntKind.i64 vx]) (by rfl) HU18 _ (some ⟨g, 0, none⟩) (len) (cc) (pc ys) (by rfl) (Reads.below (HRb.out) BZ18) (pc_oneCell _) (by unfold maxLen; omega) (by omega) BZ18.size ?_
              intro v18 w18 hown18 hg18 hat18
              have BG18 := below_own hg18 HU18 BZ18 (Nat.le_refl _) BZ18.size
              refine hK' _ _ ⟨fun _ => KX.out.below BG18, ?_⟩
              clear hK' K' hg18 hat18
              refine gro.anyM_one 12 (by kernel_rfl) rfl ?_
              intro y19 hz19 K' hK'
              have BZ19 := BG18.trans (hz19.mono BG18.size)
              have HU19 := own_keep hown18 hz19
              go_simp
              refine hK' _ _ ⟨fun h => absurd (show true = false from h) (by decide), ?_⟩
              clear hK' K'
              refine gro.anyM_done (by kernel_rfl) ?_
              intro y20 hz20
              have HF := own_keep HU19 hz20
              have BF := BZ19.trans (hz20.mono BZ19.size)
              have hE : Hid (keptN m xs (i + 1) = ys.take 0 ++ (tx, vx) :: ys.drop 0) := by rw [Hid, HKe.out, insT_at hK.out]
              have HF2 : Hid (y20.ownsRow w.heap.size 40 2 v18 (keptN m xs (i + 1)).length (pc (keptN m xs (i + 1)))) := by
                have h := own_mono HF hW8
                have e : [] ++ (pc (ys.take 0)) ++ [Value.int IntKind.i64 tx, Value.int IntKind.i64 vx] ++ (pc ys) = pc (keptN m xs (i + 1)) := by rw [hE.out, pc_append, pc_cons]; simp [pc]
                have e2 : 0 + (0) + (1) + (len) = (keptN m xs (i + 1)).length := by rw [hE.out]; simp; have := HLy.out; omega
                rw [e, e2] at h
                exact h
              have hE2 : Hid (keptN m xs (i + 1) = [] → v18 = .slice none 0 0) := fun h => by rw [hE.out] at h; simp at h
              go_wp2
              all_goals (go_roundg (n - (i + 1)); (case measure => exact hmes.out); (case rel => exact ⟨v18, i + 1, by go_num, rfl, by omega, Nat.le_refl _, hE2, HF2.out, BB3.out.trans (BF.mono hW8)⟩))
          obtain ⟨d1, d2⟩ := own_pair HOw.out (show k - 1 < len by omega)
          change wr.cell? ⟨g, (k - 1) * 2, none⟩ = some (.int .i64 (at_ ys (k - 1)).1) at d1
          clear d2
          have hgl : g < wr.heap.size := (World.ownsRow.lt HOw.out _ rfl).2
          have hy := Lib.hid (fun h => kpos_yes (t := tx) (out := ys) hk0 h)
          have hn := Lib.hid (fun h => kpos_no (t := tx) (out := ys) hk0 h)
          generalize (at_ ys (k - 1)).1 = tk at *
          have s1 : IntKind.i64.wrap ((k : Int) - 1) = (k : Int) - 1 := IntWalk.i64_in _ (by omega)
          have s2 : 0 ≤ (k : Int) - 1 := by omega
          have s3 : ((k : Int) - 1).toNat = k - 1 := by omega
          have s4 : (k : Int) - 1 < k := by omega
          have s5 : 1 ≤ (k : Int) := by omega
          have s6 : (k : Int) - 1 < len := by omega
          by_cases hc : tx < tk
          case pos =>
            go_wp2_with fail
            (refine gro.wp_region_grown (by kernel_rfl) (by kernel_rfl) ?_; (repeat (go_big_quiet_step ((fail)))); refine wpQuiet_nil ?_; intro _ hw'; obtain ⟨nx, hw''⟩ := hw'; subst hw'')
            clear s1 s2 s3 s4 s5 s6
            go_wp2
            go_roundg (k - 1)
            case measure => omega
            case rel => exact ⟨k - 1, by go_num, by omega, by omega, Lib.hid (HP.out.trans (hy.out hc)), HB2.out.trans ((below_grown _ nx).mono HB2.out.size)⟩
          have hK : Hid (kpos tx ys ys.length = k) := by rw [Hid, HLy.out, HP.out, hn.out hc]
          clear HP hy hn
          have g1 : decide (tx < tk) = false := decide_eq_false hc
          go_wp2_with fail
          (refine gro.wp_region_grown (by kernel_rfl) (by kernel_rfl) ?_; (repeat (go_big_quiet_step ((fail)))); refine wpQuiet_nil ?_; intro _ hw'; obtain ⟨nx, hw''⟩ := hw'; subst hw'')
          clear s1 s2 s3 s4 s5 s6 d1 hgl g1
          have HB3 := Lib.hid (HB2.out.trans ((below_grown _ nx).mono HB2.out.size))
          replace KX := Lib.hid (KX.out.below (below_grown _ nx))
          clear RX
          replace HOw := Lib.hid (own_keep HOw.out (below_grown _ nx))
          generalize grown _ nx = W8 at *
          have BB3 := Lib.hid (BB.out.trans (HB3.out.mono BB.out.size))
          have hW8 : w.heap.size ≤ W8.heap.size := BB3.out.size
          have R := KX.out.rules
          simp only [Rules] at R
          have HRa : Hid (Reads W8 W8.heap.size 2 (some ⟨g, 0, none⟩) k (pc (ys.take k))) := by
            have := (Reads.of_own HOw.out).front (show k ≤ len by omega)
            rw [Hid, pc_take]
            exact this
          have HRb : Hid (Reads W8 W8.heap.size 2 (if cc = k then some ⟨g, 0, none⟩ else some ⟨g, k * 2, none⟩) (len - k) (pc (ys.drop k))) := by
            have := (own_cut HOw.out (k := k) (by omega) HQ1.out).more (show g + 1 ≤ W8.heap.size from (World.ownsRow.lt HOw.out _ rfl).2)
            rw [Hid, pc_drop]
            exact this
          have s1 : 0 ≤ (k : Int) := by omega
          have s2 : (k : Int) ≤ len := by omega
          have s3 : (k : Int) ≤ cc := by omega
          have s4 : (len : Int) ≤ cc := by omega
          go_wp2_with fail
          (refine gro.wp_region_heldA [1, 2, 3, 5, 8, 9, 10] 6 12 _ (gro.lasts_bx _) (by kernel_rfl) (by kernel_rfl) (by intro _ _ _ _ _ h; exact h) (by kernel_rfl) (by kernel_rfl) (by kernel_rfl) (by kernel_rfl) (by kernel_rfl) (by decide) (KX.out).drew ?_; apply Exists.intro; refine ⟨fun w0 hb0 => ?_, ?_⟩; focus (have RZ := gro.Bx.rules hb0; simp only [gro.Rules] at RZ; simp only [gro.pickA, List.filterMap_cons, List.filterMap_nil, List.getElem?_toArray, List.getElem?_cons_succ, List.getElem?_cons_zero]; change wpQuiet _ _ _ _ (_ :: _ :: _ :: _ :: _ :: _ :: _ ::  []) _; (repeat (go_big_quiet_step ((fail)))); exact wpQuiet_nil rfl))
          have KX0 := KX.out.drew
          have BZ0 : Below W8.heap.size W8 W8.drew := (Below.refl _ _).drew
          refine gro.anyM_two 0 6 (by kernel_rfl) rfl rfl ?_ ?_
          · intro y1 hz1 K' hK'
            have BZ1 := BZ0.trans (hz1.mono BZ0.size)
            go_simp
            refine hK' _ _ ⟨fun _ => (KX.out.below BZ1).alloc _, ?_⟩
            clear hK' K'
            obtain ⟨z1, hy1⟩ : ∃ z, y1.alloc (.cells #[] 40) = z := ⟨_, rfl⟩
            have hA1 : Below y1.heap.size y1 z1 := by rw [← hy1]; exact (Below.refl _ _).alloc (Nat.le_refl _) _
            have BA1 := BZ1.trans (hA1.mono BZ1.size)
            have HV1 : z1.ownsRow W8.heap.size 40 2 (.slice (some ⟨y1.heap.size, 0, none⟩) 0 0) 0 [] := by rw [← hy1]; exact own_empty2 rfl BZ1.size
            rw [hy1]
            clear hz1 hA1 hy1
            refine gro.anyM_two 4 6 (by kernel_rfl) rfl rfl ?_ ?_
            · intro y2 hz2 K' hK'
              have BZ2 := BA1.trans (hz2.mono BA1.size)
              have HU2 := own_keep HV1 hz2
              refine step_append_any _ (by rfl) (.tmp 75) (.tmp 78) 22 rfl W8.heap.size 40 i0 (.agg #[.int .i64 0, .int .i64 0]) 2 16 Try.underlying22 HI.out HZ0.out HZ1.out HZ2.out rfl (by omega) (.slice (some ⟨y1.heap.size, 0, none⟩) 0 0) (0) ([]) (by rfl) HU2 _ (some ⟨g, 0, none⟩) (k) (cc) (pc (ys.take k)) (by rfl) (Reads.below (HRa.out) BZ2) (pc_oneCell _) (by unfold maxLen; omega) (by omega) BZ2.size ?_
              intro v2 w2 hown2 hg2 hat2
              have BG2 := below_own hg2 HU2 BZ2 (Nat.le_refl _) BZ2.size
              refine hK' _ _ ⟨fun _ => KX.out.below BG2, ?_⟩
              clear hK' K' hg2 hat2
              refine gro.anyM_one 6 (by kernel_rfl) rfl ?_
              intro y3 hz3 K' hK'
              have BZ3 := BG2.trans (hz3.mono BG2.size)
              have HU3 := own_keep hown2 hz3
              go_simp
              refine hK' _ _ ⟨fun _ => (KX.out.below BZ3).alloc _, ?_⟩
              clear hK' K'
              obtain ⟨z3, hy3⟩ : ∃ z, y3.alloc (.cells #[Value.int IntKind.i64 tx, Value.int IntKind.i64 vx] 40) = z := ⟨_, rfl⟩
              have hA3 : Below y3.heap.size y3 z3 := by rw [← hy3]; exact (Below.refl _ _).alloc (Nat.le_refl _) _
              have BA3 := BZ3.trans (hA3.mono BZ3.size)
              have HV3 := own_keep HU3 hA3
              have HF3 : Reads z3 z3.heap.size 2 (some ⟨y3.heap.size, 0, none⟩) 1 [Value.int IntKind.i64 tx, Value.int IntKind.i64 vx] := by rw [← hy3]; exact Reads.more (reads_new y3 40 #[Value.int IntKind.i64 tx, Value.int IntKind.i64 vx] rfl) (by simp)
              have le3 : y3.heap.size + 1 ≤ z3.heap.size := by rw [← hy3]; simp
              have hd3 : some y3.heap.size ≠ (Value.ownBlock v2) := fun e => by have h1 := (World.ownsRow.lt HU3 _ e.symm).2; omega
              rw [hy3]
              clear hz3 hA3 hy3
              refine gro.anyM_one 7 (by kernel_rfl) rfl ?_
              intro y4 hz4 K' hK'
              have BZ4 := BA3.trans (hz4.mono BA3.size)
              have HU4 := own_keep HV3 hz4
              have HE4 := (Reads.below HF3 hz4).more hz4.size
              refine step_append_any _ (by rfl) (.tmp 79) (.tmp 81) 22 rfl W8.heap.size 40 i0 (.agg #[.int .i64 0, .int .i64 0]) 2 16 Try.underlying22 HI.out HZ0.out HZ1.out HZ2.out rfl (by omega) v2 (0 + (k)) ([] ++ (pc (ys.take k))) (by rfl) HU4 _ _ (1) (1) _ (by rfl) HE4 (by simp [Value.oneCell']) (by unfold maxLen; omega) (by omega) BZ4.size ?_
              intro v4 w4 hown4 hg4 hat4
              have BG4 := below_own hg4 HU4 BZ4 (Nat.le_refl _) BZ4.size
              refine hK' _ _ ⟨fun _ => KX.out.below BG4, ?_⟩
              clear hK' K' hg4 hat4
              refine gro.anyM_one 11 (by kernel_rfl) rfl ?_
              intro y5 hz5 K' hK'
              have BZ5 := BG4.trans (hz5.mono BG4.size)
              have HU5 := own_keep hown4 hz5
              refine step_append_any _ (by rfl) (.tmp 82) (.tmp 85) 22 rfl W8.heap.size 40 i0 (.agg #[.int .i64 0, .int .i64 0]) 2 16 Try.underlying22 HI.out HZ0.out HZ1.out HZ2.out rfl (by omega) v4 (0 + (k) + (1)) ([] ++ (pc (ys.take k)) ++ [Value.int IntKind.i64 tx, Value.int IntKind.i64 vx]) (by rfl) HU5 _ _ (len - k) (cc - k) (pc (ys.drop k)) (by rfl) (Reads.below (HRb.out) BZ5) (pc_oneCell _) (by unfold maxLen; omega) (by omega) BZ5.size ?_
              intro v5 w5 hown5 hg5 hat5
              have BG5 := below_own hg5 HU5 BZ5 (Nat.le_refl _) BZ5.size
              refine hK' _ _ ⟨fun _ => KX.out.below BG5, ?_⟩
              clear hK' K' hg5 hat5
              refine gro.anyM_one 12 (by kernel_rfl) rfl ?_
              intro y6 hz6 K' hK'
              have BZ6 := BG5.trans (hz6.mono BG5.size)
              have HU6 := own_keep hown5 hz6
              go_simp
              refine hK' _ _ ⟨fun h => absurd (show true = false from h) (by decide), ?_⟩
              clear hK' K'
              refine gro.anyM_done (by kernel_rfl) ?_
              intro y7 hz7
              have HF := own_keep HU6 hz7
              have BF := BZ6.trans (hz7.mono BZ6.size)
              have hE : Hid (keptN m xs (i + 1) = ys.take k ++ (tx, vx) :: ys.drop k) := by rw [Hid, HKe.out, insT_at hK.out]
              have HF2 : Hid (y7.ownsRow w.heap.size 40 2 v5 (keptN m xs (i + 1)).length (pc (keptN m xs (i + 1)))) := by
                have h := own_mono HF hW8
                have e : [] ++ (pc (ys.take k)) ++ [Value.int IntKind.i64 tx, Value.int IntKind.i64 vx] ++ (pc (ys.drop k)) = pc (keptN m xs (i + 1)) := by rw [hE.out, pc_append, pc_cons]; simp [pc]
                have e2 : 0 + (k) + (1) + (len - k) = (keptN m xs (i + 1)).length := by rw [hE.out]; simp; have := HLy.out; omega
                rw [e, e2] at h
                exact h
              have hE2 : Hid (keptN m xs (i + 1) = [] → v5 = .slice none 0 0) := fun h => by rw [hE.out] at h; simp at h
              go_wp2
              all_goals (go_roundg (n - (i + 1)); (case measure => exact hmes.out); (case rel => exact ⟨v5, i + 1, by go_num, rfl, by omega, Nat.le_refl _, hE2, HF2.out, BB3.out.trans (BF.mono hW8)⟩))
            · intro y8 hz8 K' hK'
              have BZ8 := BA1.trans (hz8.mono BA1.size)
              have HU8 := own_keep HV1 hz8
              go_simp
              refine hK' _ _ ⟨fun _ => (KX.out.below BZ8).alloc _, ?_⟩
              clear hK' K'
              obtain ⟨z8, hy8⟩ : ∃ z, y8.alloc (.cells #[Value.int IntKind.i64 tx, Value.int IntKind.i64 vx] 40) = z := ⟨_, rfl⟩
              have hA8 : Below y8.heap.size y8 z8 := by rw [← hy8]; exact (Below.refl _ _).alloc (Nat.le_refl _) _
              have BA8 := BZ8.trans (hA8.mono BZ8.size)
              have HV8 := own_keep HU8 hA8
              have HF8 : Reads z8 z8.heap.size 2 (some ⟨y8.heap.size, 0, none⟩) 1 [Value.int IntKind.i64 tx, Value.int IntKind.i64 vx] := by rw [← hy8]; exact Reads.more (reads_new y8 40 #[Value.int IntKind.i64 tx, Value.int IntKind.i64 vx] rfl) (by simp)
              have le8 : y8.heap.size + 1 ≤ z8.heap.size := by rw [← hy8]; simp
              have hd8 : some y8.heap.size ≠ (Value.ownBlock (.slice (some ⟨y1.heap.size, 0, none⟩) 0 0)) := fun e => by have h1 := (World.ownsRow.lt HU8 _ e.symm).2; omega
              rw [hy8]
              clear hz8 hA8 hy8
              refine gro.anyM_one 4 (by kernel_rfl) rfl ?_
              intro y9 hz9 K' hK'
              have BZ9 := BA8.trans (hz9.mono BA8.size)
              have HU9 := own_keep HV8 hz9
              have HE9 := (Reads.below HF8 hz9).more hz9.size
              refine step_append_any _ (by rfl) (.tmp 75) (.tmp 78) 22 rfl W8.heap.size 40 i0 (.agg #[.int .i64 0, .int .i64 0]) 2 16 Try.underlying22 HI.out HZ0.out HZ1.out HZ2.out rfl (by omega) (.slice (some ⟨y1.heap.size, 0, none⟩) 0 0) (0) ([]) (by rfl) HU9 _ (some ⟨g, 0, none⟩) (k) (cc) (pc (ys.take k)) (by rfl) (Reads.below (HRa.out) BZ9) (pc_oneCell _) (by unfold maxLen; omega) (by omega) BZ9.size ?_
              intro v9 w9 hown9 hg9 hat9
              have BG9 := below_own hg9 HU9 BZ9 (Nat.le_refl _) BZ9.size
              have HG9 := Reads.app HE9 hg9 (fun _ ad e => by injection e with e; subst e; exact hd8)
              refine hK' _ _ ⟨fun _ => KX.out.below BG9, ?_⟩
              clear hK' K' hg9 hat9
              refine gro.anyM_one 7 (by kernel_rfl) rfl ?_
              intro y10 hz10 K' hK'
              have BZ10 := BG9.trans (hz10.mono BG9.size)
              have HU10 := own_keep hown9 hz10
              have HE10 := (Reads.below HG9 hz10).more hz10.size
              refine step_append_any _ (by rfl) (.tmp 79) (.tmp 81) 22 rfl W8.heap.size 40 i0 (.agg #[.int .i64 0, .int .i64 0]) 2 16 Try.underlying22 HI.out HZ0.out HZ1.out HZ2.out rfl (by omega) v9 (0 + (k)) ([] ++ (pc (ys.take k))) (by rfl) HU10 _ _ (1) (1) _ (by rfl) HE10 (by simp [Value.oneCell']) (by unfold maxLen; omega) (by omega) BZ10.size ?_
              intro v10 w10 hown10 hg10 hat10
              have BG10 := below_own hg10 HU10 BZ10 (Nat.le_refl _) BZ10.size
              refine hK' _ _ ⟨fun _ => KX.out.below BG10, ?_⟩
              clear hK' K' hg10 hat10
              refine gro.anyM_one 11 (by kernel_rfl) rfl ?_
              intro y11 hz11 K' hK'
              have BZ11 := BG10.trans (hz11.mono BG10.size)
              have HU11 := own_keep hown10 hz11
              refine step_append_any _ (by rfl) (.tmp 82) (.tmp 85) 22 rfl W8.heap.size 40 i0 (.agg #[.int .i64 0, .int .i64 0]) 2 16 Try.underlying22 HI.out HZ0.out HZ1.out HZ2.out rfl (by omega) v10 (0 + (k) + (1)) ([] ++ (pc (ys.take k)) ++ [Value.int IntKind.i64 tx, Value.int IntKind.i64 vx]) (by rfl) HU11 _ _ (len - k) (cc - k) (pc (ys.drop k)) (by rfl) (Reads.below (HRb.out) BZ11) (pc_oneCell _) (by unfold maxLen; omega) (by omega) BZ11.size ?_
              intro v11 w11 hown11 hg11 hat11
              have BG11 := below_own hg11 HU11 BZ11 (Nat.le_refl _) BZ11.size
              refine hK' _ _ ⟨fun _ => KX.out.below BG11, ?_⟩
              clear hK' K' hg11 hat11
              refine gro.anyM_one 12 (by kernel_rfl) rfl ?_
              intro y12 hz12 K' hK'
              have BZ12 := BG11.trans (hz12.mono BG11.size)
              have HU12 := own_keep hown11 hz12
              go_simp
              refine hK' _ _ ⟨fun h => absurd (show true = false from h) (by decide), ?_⟩
              clear hK' K'
              refine gro.anyM_done (by kernel_rfl) ?_
              intro y13 hz13
              have HF := own_keep HU12 hz13
              have BF := BZ12.trans (hz13.mono BZ12.size)
              have hE : Hid (keptN m xs (i + 1) = ys.take k ++ (tx, vx) :: ys.drop k) := by rw [Hid, HKe.out, insT_at hK.out]
              have HF2 : Hid (y13.ownsRow w.heap.size 40 2 v11 (keptN m xs (i + 1)).length (pc (keptN m xs (i + 1)))) := by
                have h := own_mono HF hW8
                have e : [] ++ (pc (ys.take k)) ++ [Value.int IntKind.i64 tx, Value.int IntKind.i64 vx] ++ (pc (ys.drop k)) = pc (keptN m xs (i + 1)) := by rw [hE.out, pc_append, pc_cons]; simp [pc]
                have e2 : 0 + (k) + (1) + (len - k) = (keptN m xs (i + 1)).length := by rw [hE.out]; simp; have := HLy.out; omega
                rw [e, e2] at h
                exact h
              have hE2 : Hid (keptN m xs (i + 1) = [] → v11 = .slice none 0 0) := fun h => by rw [hE.out] at h; simp at h
              go_wp2
              all_goals (go_roundg (n - (i + 1)); (case measure => exact hmes.out); (case rel => exact ⟨v11, i + 1, by go_num, rfl, by omega, Nat.le_refl _, hE2, HF2.out, BB3.out.trans (BF.mono hW8)⟩))
          · intro y14 hz14 K' hK'
            have BZ14 := BZ0.trans (hz14.mono BZ0.size)
            go_simp
            refine hK' _ _ ⟨fun _ => (KX.out.below BZ14).alloc _, ?_⟩
            clear hK' K'
            obtain ⟨z14, hy14⟩ : ∃ z, y14.alloc (.cells #[Value.int IntKind.i64 tx, Value.int IntKind.i64 vx] 40) = z := ⟨_, rfl⟩
            have hA14 : Below y14.heap.size y14 z14 := by rw [← hy14]; exact (Below.refl _ _).alloc (Nat.le_refl _) _
            have BA14 := BZ14.trans (hA14.mono BZ14.size)
            have HF14 : Reads z14 z14.heap.size 2 (some ⟨y14.heap.size, 0, none⟩) 1 [Value.int IntKind.i64 tx, Value.int IntKind.i64 vx] := by rw [← hy14]; exact Reads.more (reads_new y14 40 #[Value.int IntKind.i64 tx, Value.int IntKind.i64 vx] rfl) (by simp)
            have le14 : y14.heap.size + 1 ≤ z14.heap.size := by rw [← hy14]; simp
            rw [hy14]
            clear hz14 hA14 hy14
            refine gro.anyM_one 0 (by kernel_rfl) rfl ?_
            intro y15 hz15 K' hK'
            have BZ15 := BA14.trans (hz15.mono BA14.size)
            have HE15 := (Reads.below HF14 hz15).more hz15.size
            go_simp
            refine hK' _ _ ⟨fun _ => (KX.out.below BZ15).alloc _, ?_⟩
            clear hK' K'
            obtain ⟨z15, hy15⟩ : ∃ z, y15.alloc (.cells #[] 40) = z := ⟨_, rfl⟩
            have hA15 : Below y15.heap.size y15 z15 := by rw [← hy15]; exact (Below.refl _ _).alloc (Nat.le_refl _) _
            have BA15 := BZ15.trans (hA15.mono BZ15.size)
            have HF15 := (Reads.below HE15 hA15).more hA15.size
            have HV15 : z15.ownsRow W8.heap.size 40 2 (.slice (some ⟨y15.heap.size, 0, none⟩) 0 0) 0 [] := by rw [← hy15]; exact own_empty2 rfl BZ15.size
            have hd15 : some y14.heap.size ≠ (Value.slice (some ⟨y15.heap.size, 0, none⟩) 0 0).ownBlock := fun e => by have h1 : y14.heap.size = y15.heap.size := Option.some.inj e; have h2 := le14; have h3 := hz15.size; omega
            rw [hy15]
            clear hA15 hy15
            refine gro.anyM_one 4 (by kernel_rfl) rfl ?_
            intro y16 hz16 K' hK'
            have BZ16 := BA15.trans (hz16.mono BA15.size)
            have HU16 := own_keep HV15 hz16
            have HE16 := (Reads.below HF15 hz16).more hz16.size
            refine step_append_any _ (by rfl) (.tmp 75) (.tmp 78) 22 rfl W8.heap.size 40 i0 (.agg #[.int .i64 0, .int .i64 0]) 2 16 Try.underlying22 HI.out HZ0.out HZ1.out HZ2.out rfl (by omega) (.slice (some ⟨y15.heap.size, 0, none⟩) 0 0) (0) ([]) (by rfl) HU16 _ (some ⟨g, 0, none⟩) (k) (cc) (pc (ys.take k)) (by rfl) (Reads.below (HRa.out) BZ16) (pc_oneCell _) (by unfold maxLen; omega) (by omega) BZ16.size ?_
            intro v16 w16 hown16 hg16 hat16
            have BG16 := below_own hg16 HU16 BZ16 (Nat.le_refl _) BZ16.size
            have HG16 := Reads.app HE16 hg16 (fun _ ad e => by injection e with e; subst e; exact hd15)
            refine hK' _ _ ⟨fun _ => KX.out.below BG16, ?_⟩
            clear hK' K' hg16 hat16
            refine gro.anyM_one 7 (by kernel_rfl) rfl ?_
            intro y17 hz17 K' hK'
            have BZ17 := BG16.trans (hz17.mono BG16.size)
            have HU17 := own_keep hown16 hz17
            have HE17 := (Reads.below HG16 hz17).more hz17.size
            refine step_append_any _ (by rfl) (.tmp 79) (.tmp 81) 22 rfl W8.heap.size 40 i0 (.agg #[.int .i64 0, .int .i64 0]) 2 16 Try.underlying22 HI.out HZ0.out HZ1.out HZ2.out rfl (by omega) v16 (0 + (k)) ([] ++ (pc (ys.take k))) (by rfl) HU17 _ _ (1) (1) _ (by rfl) HE17 (by simp [Value.oneCell']) (by unfold maxLen; omega) (by omega) BZ17.size ?_
            intro v17 w17 hown17 hg17 hat17
            have BG17 := below_own hg17 HU17 BZ17 (Nat.le_refl _) BZ17.size
            refine hK' _ _ ⟨fun _ => KX.out.below BG17, ?_⟩
            clear hK' K' hg17 hat17
            refine gro.anyM_one 11 (by kernel_rfl) rfl ?_
            intro y18 hz18 K' hK'
            have BZ18 := BG17.trans (hz18.mono BG17.size)
            have HU18 := own_keep hown17 hz18
            refine step_append_any _ (by rfl) (.tmp 82) (.tmp 85) 22 rfl W8.heap.size 40 i0 (.agg #[.int .i64 0, .int .i64 0]) 2 16 Try.underlying22 HI.out HZ0.out HZ1.out HZ2.out rfl (by omega) v17 (0 + (k) + (1)) ([] ++ (pc (ys.take k)) ++ [Value.int IntKind.i64 tx, Value.int IntKind.i64 vx]) (by rfl) HU18 _ _ (len - k) (cc - k) (pc (ys.drop k)) (by rfl) (Reads.below (HRb.out) BZ18) (pc_oneCell _) (by unfold maxLen; omega) (by omega) BZ18.size ?_
            intro v18 w18 hown18 hg18 hat18
            have BG18 := below_own hg18 HU18 BZ18 (Nat.le_refl _) BZ18.size
            refine hK' _ _ ⟨fun _ => KX.out.below BG18, ?_⟩
            clear hK' K' hg18 hat18
            refine gro.anyM_one 12 (by kernel_rfl) rfl ?_
            intro y19 hz19 K' hK'
            have BZ19 := BG18.trans (hz19.mono BG18.size)
            have HU19 := own_keep hown18 hz19
            go_simp
            refine hK' _ _ ⟨fun h => absurd (show true = false from h) (by decide), ?_⟩
            clear hK' K'
            refine gro.anyM_done (by kernel_rfl) ?_
            intro y20 hz20
            have HF := own_keep HU19 hz20
            have BF := BZ19.trans (hz20.mono BZ19.size)
            have hE : Hid (keptN m xs (i + 1) = ys.take k ++ (tx, vx) :: ys.drop k) := by rw [Hid, HKe.out, insT_at hK.out]
            have HF2 : Hid (y20.ownsRow w.heap.size 40 2 v18 (keptN m xs (i + 1)).length (pc (keptN m xs (i + 1)))) := by
              have h := own_mono HF hW8
              have e : [] ++ (pc (ys.take k)) ++ [Value.int IntKind.i64 tx, Value.int IntKind.i64 vx] ++ (pc (ys.drop k)) = pc (keptN m xs (i + 1)) := by rw [hE.out, pc_append, pc_cons]; simp [pc]
              have e2 : 0 + (k) + (1) + (len - k) = (keptN m xs (i + 1)).length := by rw [hE.out]; simp; have := HLy.out; omega
              rw [e, e2] at h
              exact h
            have hE2 : Hid (keptN m xs (i + 1) = [] → v18 = .slice none 0 0) := fun h => by rw [hE.out] at h; simp at h
            go_wp2
            all_goals (go_roundg (n - (i + 1)); (case measure => exact hmes.out); (case rel => exact ⟨v18, i + 1, by go_num, rfl, by omega, Nat.le_refl _, hE2, HF2.out, BB3.out.trans (BF.mono hW8)⟩))
      have BW := BB.out.trans (HB2.out.mono BB.out.size)
      obtain ⟨ad', e, _, hd1, hd2⟩ := PRead.at_ (H1.out.below BW) hlt2
      injection e with e
      subst e
      have hs5 := BW.size
      have hbl3 : ad.block < wr.heap.size := by omega
      have HS := Lib.hid (keepTo_succ m xs i j)
      have HR := Lib.hid (HRf.out j)
      change wr.cell? (ad.add (j * 2)) = some (.int .i64 (at_ xs j).1) at hd1
      change wr.cell? ⟨(ad.add (j * 2)).block, (ad.add (j * 2)).off + 1, none⟩ = some (.int .i64 (at_ xs j).2) at hd2
      generalize (at_ xs j).1 = ty at *
      generalize (at_ xs j).2 = vy at *
      obtain ⟨gy, hgy⟩ : ∃ s, wr.heap.size = s := ⟨_, rfl⟩
      have KX := KK.out.below HB2.out
      have KY := KX.new (t := 40) (c := #[Value.int IntKind.i64 ty, Value.int IntKind.i64 vy]) hgy
      have RY := KY.rules
      simp only [Rules] at RY
      have HBe := Lib.hid (fun W => better_any m vx vy W)
      clear BW KX KY
      by_cases hij : i = j
      case pos =>
        have q1 : ((i : Int) == (j : Int)) = true := by simp [hij]
        clear HBe
        go_wp2
        go_roundg (n - (j + 1))
        case measure => omega
        case rel => exact ⟨j + 1, b, by go_num, rfl, by omega, by omega, Lib.hid (by rw [HS.out, if_neg (by rw [HR.out, decide_eq_true_iff]; first | omega | (simp; omega)), hb.out]), HB2.out.alloc HB2.out.size _⟩
      have q1 : ((i : Int) == (j : Int)) = false := by simp; omega
      by_cases ht : tx ≤ ty
      case neg =>
        go_wp2_with (go_at_call 40; refine (HBe.out _).mono ?_; rintro e w' ⟨rfl, rfl⟩)
        go_roundg (n - (j + 1))
        case measure => omega
        case rel => exact ⟨j + 1, b, by go_num, rfl, by omega, by omega, Lib.hid (by rw [HS.out, if_neg (by rw [HR.out, decide_eq_true_iff]; first | omega | (simp; omega)), hb.out]), HB2.out.alloc HB2.out.size _⟩
      by_cases hk : key m vy < key m vx
      case pos =>
        rw [decide_eq_true hk] at HBe
        go_wp2_with (go_at_call 40; refine (HBe.out _).mono ?_; rintro e w' ⟨rfl, rfl⟩)
        go_roundg (n - (j + 1))
        case measure => omega
        case rel => exact ⟨j + 1, b, by go_num, rfl, by omega, by omega, Lib.hid (by rw [HS.out, if_neg (by rw [HR.out, decide_eq_true_iff]; first | omega | (simp; omega)), hb.out]), HB2.out.alloc HB2.out.size _⟩
      rw [decide_eq_false hk] at HBe
      have hk2 : key m vx ≤ key m vy := by omega
      by_cases e1 : tx = ty
      case neg =>
        go_wp2_with (go_at_call 40; refine (HBe.out _).mono ?_; rintro e w' ⟨rfl, rfl⟩)
        go_roundg (n - (j + 1))
        case measure => omega
        case rel => exact ⟨j + 1, false, by go_num, rfl, by omega, by omega, Lib.hid (by rw [HS.out, if_pos (by rw [HR.out, decide_eq_true_iff]; omega)]), HB2.out.alloc HB2.out.size _⟩
      subst e1
      by_cases e2 : vx = vy
      case neg =>
        go_wp2_with (go_at_call 40; refine (HBe.out _).mono ?_; rintro e w' ⟨rfl, rfl⟩)
        go_roundg (n - (j + 1))
        case measure => omega
        case rel => exact ⟨j + 1, false, by go_num, rfl, by omega, by omega, Lib.hid (by rw [HS.out, if_pos (by rw [HR.out, decide_eq_true_iff]; omega)]), HB2.out.alloc HB2.out.size _⟩
      subst e2
      by_cases hji : j < i
      case pos =>
        go_wp2_with (go_at_call 40; refine (HBe.out _).mono ?_; rintro e w' ⟨rfl, rfl⟩)
        go_roundg (n - (j + 1))
        case measure => omega
        case rel => exact ⟨j + 1, false, by go_num, rfl, by omega, by omega, Lib.hid (by rw [HS.out, if_pos (by rw [HR.out, decide_eq_true_iff]; omega)]), HB2.out.alloc HB2.out.size _⟩
      have q2 : ¬ j < i := hji
      go_wp2_with (go_at_call 40; refine (HBe.out _).mono ?_; rintro e w' ⟨rfl, rfl⟩)
      go_roundg (n - (j + 1))
      case measure => omega
      case rel => exact ⟨j + 1, b, by go_num, rfl, by omega, by omega, Lib.hid (by rw [HS.out, if_neg (by rw [HR.out, decide_eq_true_iff]; first | omega | (simp; omega)), hb.out]), HB2.out.alloc HB2.out.size _⟩
end Go.Proofs.Yteajgmihhnghfaa.ext
