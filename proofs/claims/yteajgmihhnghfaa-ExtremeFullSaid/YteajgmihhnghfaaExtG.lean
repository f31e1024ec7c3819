/- Contract of the reference's Add of the deque, at any state. -/
import Derived.Test.YteajgmihhnghfaaExtF
import Derived.Test.YteajgmihhnghfaaExtE
namespace Go.Proofs.Yteajgmihhnghfaa.ext
open Go.RowKit Go.Proofs.Yteajgmihhnghfaa.mem Go.Proofs.Yteajgmihhnghfaa.gro
open Go.Proofs.Yteajgmihhnghfaa.buk (at_)
open Go.Proofs.Yteajgmihhnghfaa.lst (own_new NewF newF_own)
set_option linter.unusedVariables false
set_option linter.unusedSimpArgs false
set_option maxHeartbeats 8000000 in
set_option maxRecDepth 100000 in
theorem AddR_f (m : Bool) (v p o x : Int) (A : Option Addr) (n c : Nat) (xs : L2) (w : World) (h1 : PRead w w.heap.size A n xs) (hnc : n ≤ c) (hcm : c ≤ maxLen) (hsmall : n ≤ 900) :
    Calls Try.prog 17 #[.agg #[Value.bool m, Value.int IntKind.i64 v, Value.int IntKind.i64 p, Value.int IntKind.i64 o, Value.slice A n c], .int .i64 x] w (NewE (kb (valE m v p o xs && valB x && !fullE m x o p xs) m) (kp (valE m v p o xs && valB x && !fullE m x o p xs) v) (kp (valE m v p o xs && valB x && !fullE m x o p xs) p) (kp (valE m v p o xs && valB x && !fullE m x o p xs) o) (lsK (valE m v p o xs && valB x && !fullE m x o p xs) (addL m x o xs)) (addEr (valE m v p o xs) (valB x) (fullE m x o p xs)) w) := by
  have hcm9 : c ≤ 9223372036854775807 := hcm
  have HV := Lib.hid (fun W (hb : Below w.heap.size w W) => ValidateR_any m v p o A n c xs W ((h1.below hb).more hb.size) (by omega))
  have hlaw := Lib.hid (fun h : valE m v p o xs = true => add_law (x := x) h h1.len)
  have HVl := Lib.hid (fun W => Value_any x W)
  have H1 := Lib.hid h1
  have HLn := Lib.hid h1.len
  clear h1 hcm
  generalize valE m v p o xs = ft at *
  cases ft
  case false =>
    clear hlaw HVl H1 HLn
    simp only [addEr_f, addEr_r, addEr_u, addEr_0, Bool.not_true, Bool.not_false, erV_t, erV_f, kp_t, kp_f, kb_t, kb_f, lsK_t, lsK_f, advE_t, advE_f, okT_3, okT_0, Bool.false_and, Bool.true_and, Bool.and_false, Bool.and_true] at *
    go_enter Try.func17, Try.ntmps17
    go_wp2_with fail
    obtain ⟨W0, hW, hs0, K0, B0⟩ := start2 w 24 24 #[Value.bool m, Value.int IntKind.i64 v, Value.int IntKind.i64 p, Value.int IntKind.i64 o, Value.slice A n c] #[Value.bool false, Value.int IntKind.i64 0, Value.int IntKind.i64 0, Value.int IntKind.i64 0, Value.slice none 0 0]
    rw [hW]
    clear hW
    have KK := Lib.hid K0
    have BB := Lib.hid B0
    have sz : w.heap.size + 1 + 1 ≤ W0.heap.size := by omega
    have R := K0.rules
    simp only [Rules] at R
    clear K0 B0 hs0
    (with_reducible refine (HV.out _ BB.out).mono ?_)
    rintro e wv ⟨rfl, hbv⟩
    replace BB := Lib.hid (BB.out.trans (hbv.mono BB.out.size))
    replace KK := Lib.hid (KK.out.below hbv)
    replace sz := Nat.le_trans sz hbv.size
    replace R := KK.out.rules
    simp only [Rules] at R
    clear hbv
    go_wp2
    refine bodyPost_ret (v := Value.tuple #[.agg #[Value.bool false, Value.int IntKind.i64 0, Value.int IntKind.i64 0, Value.int IntKind.i64 0, Value.slice none 0 0], .int .i64 2]) (by simp [results, Try.results17, go_sem, R]) rfl ⟨none, 0, 0, rfl, Nat.le_refl _, ⟨Nat.zero_le _, fun ad h => by cases h⟩, PRead.nil_, ?_⟩
    exact (((((BB.out.setCell (by first | (simp; done) | (simp; omega)) _).setCell (by first | (simp; done) | (simp; omega)) _).setCell (by first | (simp; done) | (simp; omega)) _).setCell (by first | (simp; done) | (simp; omega)) _).setCell (by first | (simp; done) | (simp; omega)) _)
  obtain ⟨hE1, hE2⟩ := hlaw.out rfl
  clear hlaw
  have HE1 := Lib.hid hE1
  rw [hE2]
  clear hE1 hE2
  have HK := Lib.hid (fun A n c xs W h1 hs => Kept_f m A n c xs W h1 hs)
  generalize addL m x o xs = la at *
  generalize valB x = vb at *
  cases vb
  case false =>
    clear HK HE1 H1 HLn
    simp only [addEr_f, addEr_r, addEr_u, addEr_0, Bool.not_true, Bool.not_false, erV_t, erV_f, kp_t, kp_f, kb_t, kb_f, lsK_t, lsK_f, advE_t, advE_f, okT_3, okT_0, Bool.false_and, Bool.true_and, Bool.and_false, Bool.and_true] at *
    go_enter Try.func17, Try.ntmps17
    go_wp2_with fail
    obtain ⟨W0, hW, hs0, K0, B0⟩ := start2 w 24 24 #[Value.bool m, Value.int IntKind.i64 v, Value.int IntKind.i64 p, Value.int IntKind.i64 o, Value.slice A n c] #[Value.bool false, Value.int IntKind.i64 0, Value.int IntKind.i64 0, Value.int IntKind.i64 0, Value.slice none 0 0]
    rw [hW]
    clear hW
    have KK := Lib.hid K0
    have BB := Lib.hid B0
    have sz : w.heap.size + 1 + 1 ≤ W0.heap.size := by omega
    have R := K0.rules
    simp only [Rules] at R
    clear K0 B0 hs0
    (with_reducible refine (HV.out _ BB.out).mono ?_)
    rintro e wv ⟨rfl, hbv⟩
    replace BB := Lib.hid (BB.out.trans (hbv.mono BB.out.size))
    replace KK := Lib.hid (KK.out.below hbv)
    replace sz := Nat.le_trans sz hbv.size
    replace R := KK.out.rules
    simp only [Rules] at R
    clear hbv
    go_wp2_with fail
    (with_reducible refine (HVl.out _).mono ?_)
    rintro e w1 ⟨rfl, rfl⟩
    go_wp2
    refine bodyPost_ret (v := Value.tuple #[.agg #[Value.bool false, Value.int IntKind.i64 0, Value.int IntKind.i64 0, Value.int IntKind.i64 0, Value.slice none 0 0], .int .i64 4]) (by simp [results, Try.results17, go_sem, R]) rfl ⟨none, 0, 0, rfl, Nat.le_refl _, ⟨Nat.zero_le _, fun ad h => by cases h⟩, PRead.nil_, ?_⟩
    exact (((((BB.out.setCell (by first | (simp; done) | (simp; omega)) _).setCell (by first | (simp; done) | (simp; omega)) _).setCell (by first | (simp; done) | (simp; omega)) _).setCell (by first | (simp; done) | (simp; omega)) _).setCell (by first | (simp; done) | (simp; omega)) _)
  obtain ⟨i0, hi0, hz0, hz1, hz2⟩ := info_parts item_info
  have HI := Lib.hid hi0
  have HZ0 := Lib.hid hz0
  have HZ1 := Lib.hid hz1
  have HZ2 := Lib.hid hz2
  clear hi0 hz0 hz1 hz2
  simp only [addEr_f, addEr_r, addEr_u, addEr_0, Bool.not_true, Bool.not_false, erV_t, erV_f, kp_t, kp_f, kb_t, kb_f, lsK_t, lsK_f, advE_t, advE_f, okT_3, okT_0, Bool.false_and, Bool.true_and, Bool.and_false, Bool.and_true] at HV ⊢
  go_enter Try.func17, Try.ntmps17
  go_wp2_with fail
  obtain ⟨W0, hW, hs0, K0, B0⟩ := start2 w 24 24 #[Value.bool m, Value.int IntKind.i64 v, Value.int IntKind.i64 p, Value.int IntKind.i64 o, Value.slice A n c] #[Value.bool false, Value.int IntKind.i64 0, Value.int IntKind.i64 0, Value.int IntKind.i64 0, Value.slice none 0 0]
  rw [hW]
  clear hW
  have KK := Lib.hid K0
  have BB := Lib.hid B0
  have sz : w.heap.size + 1 + 1 ≤ W0.heap.size := by omega
  have R := K0.rules
  simp only [Rules] at R
  clear K0 B0 hs0
  (with_reducible refine (HV.out _ BB.out).mono ?_)
  rintro e wv ⟨rfl, hbv⟩
  replace BB := Lib.hid (BB.out.trans (hbv.mono BB.out.size))
  replace KK := Lib.hid (KK.out.below hbv)
  replace sz := Nat.le_trans sz hbv.size
  replace R := KK.out.rules
  simp only [Rules] at R
  clear hbv
  go_wp2_with fail
  (with_reducible refine (HVl.out _).mono ?_)
  rintro e w1 ⟨rfl, rfl⟩
  go_wp2_with fail
  generalize hWV : wv = W8 at *
  clear hWV
  have KX := KK
  clear R
  have HR := Lib.hid ((H1.out.below BB.out).more BB.out.size)
  have hW8 : w.heap.size ≤ W8.heap.size := BB.out.size
  (refine gro.wp_region_heldA [1, 2, 4, 5, 6, 7, 10, 11] 6 13 _ (gro.lasts_bx _) (by kernel_rfl) (by kernel_rfl) (by intro _ _ _ _ _ h; exact h) (by kernel_rfl) (by kernel_rfl) (by kernel_rfl) (by kernel_rfl) (by kernel_rfl) (by decide) (KX.out).drew ?_; apply Exists.intro; refine ⟨fun w0 hb0 => ?_, ?_⟩; focus (have RZ := gro.Bx.rules hb0; simp only [gro.Rules] at RZ; simp only [gro.pickA, List.filterMap_cons, List.filterMap_nil, List.getElem?_toArray, List.getElem?_cons_succ, List.getElem?_cons_zero]; change wpQuiet _ _ _ _ (_ :: _ :: _ :: _ :: _ :: _ :: _ :: _ ::  []) _; (repeat (go_big_quiet_step ((fail)))); exact wpQuiet_nil rfl))
  have KX0 := KX.out.drew
  have BZ0 : Below W8.heap.size W8 W8.drew := (Below.refl _ _).drew
  refine gro.anyM_two 0 8 (by kernel_rfl) rfl rfl ?_ ?_
  · intro y1 hz1 K' hK'
    have BZ1 := BZ0.trans (hz1.mono BZ0.size)
    go_simp
    refine hK' _ _ ⟨fun _ => (KX.out.below BZ1).alloc _, ?_⟩
    clear hK' K'
    obtain ⟨z1, hy1⟩ : ∃ z, y1.alloc (.cells #[] 40) = z := ⟨_, rfl⟩
    have hA1 : Below y1.heap.size y1 z1 := by rw [← hy1]; exact (Below.refl _ _).alloc (Nat.le_refl _) _
    have BA1 := BZ1.trans (hA1.mono BZ1.size)
    have HV1 : z1.ownsRow W8.heap.size 40 2 (.slice (some ⟨y1.heap.size, 0, none⟩) 0 0) 0 [] := by rw [← hy1]; exact own_empty2 rfl BZ1.size
    rw [hy1]
    clear hz1 hA1 hy1
    refine gro.anyM_two 3 8 (by kernel_rfl) rfl rfl ?_ ?_
    · intro y2 hz2 K' hK'
      have BZ2 := BA1.trans (hz2.mono BA1.size)
      have HU2 := own_keep HV1 hz2
      refine step_append_any _ (by rfl) (.tmp 18) (.tmp 20) 22 rfl W8.heap.size 40 i0 (.agg #[.int .i64 0, .int .i64 0]) 2 16 Try.underlying22 HI.out HZ0.out HZ1.out HZ2.out rfl (by omega) (.slice (some ⟨y1.heap.size, 0, none⟩) 0 0) (0) ([]) (by rfl) HU2 _ A (n) (c) (pc xs) (by rfl) (Reads.below (HR.out) BZ2) (pc_oneCell _) (by unfold maxLen; omega) (by omega) BZ2.size ?_
      intro v2 w2 hown2 hg2 hat2
      have BG2 := below_own hg2 HU2 BZ2 (Nat.le_refl _) BZ2.size
      refine hK' _ _ ⟨fun _ => KX.out.below BG2, ?_⟩
      clear hK' K' hg2 hat2
      refine gro.anyM_one 8 (by kernel_rfl) rfl ?_
      intro y3 hz3 K' hK'
      have BZ3 := BG2.trans (hz3.mono BG2.size)
      have HU3 := own_keep hown2 hz3
      go_simp
      refine hK' _ _ ⟨fun _ => (KX.out.below BZ3).alloc _, ?_⟩
      clear hK' K'
      obtain ⟨z3, hy3⟩ : ∃ z, y3.alloc (.cells #[Value.int IntKind.i64 o, Value.int IntKind.i64 x] 40) = z := ⟨_, rfl⟩
      have hA3 : Below y3.heap.size y3 z3 := by rw [← hy3]; exact (Below.refl _ _).alloc (Nat.le_refl _) _
      have BA3 := BZ3.trans (hA3.mono BZ3.size)
      have HV3 := own_keep HU3 hA3
      have HF3 : Reads z3 z3.heap.size 2 (some ⟨y3.heap.size, 0, none⟩) 1 [Value.int IntKind.i64 o, Value.int IntKind.i64 x] := by rw [← hy3]; exact Reads.more (reads_new y3 40 #[Value.int IntKind.i64 o, Value.int IntKind.i64 x] rfl) (by simp)
      have le3 : y3.heap.size + 1 ≤ z3.heap.size := by rw [← hy3]; simp
      have hd3 : some y3.heap.size ≠ (Value.ownBlock v2) := fun e => by have h1 := (World.ownsRow.lt HU3 _ e.symm).2; omega
      rw [hy3]
      clear hz3 hA3 hy3
      refine gro.anyM_one 9 (by kernel_rfl) rfl ?_
      intro y4 hz4 K' hK'
      have BZ4 := BA3.trans (hz4.mono BA3.size)
      have HU4 := own_keep HV3 hz4
      have HE4 := (Reads.below HF3 hz4).more hz4.size
      refine step_append_any _ (by rfl) (.tmp 21) (.tmp 26) 22 rfl W8.heap.size 40 i0 (.agg #[.int .i64 0, .int .i64 0]) 2 16 Try.underlying22 HI.out HZ0.out HZ1.out HZ2.out rfl (by omega) v2 (0 + (n)) ([] ++ (pc xs)) (by rfl) HU4 _ _ (1) (1) _ (by rfl) HE4 (by simp [Value.oneCell']) (by unfold maxLen; omega) (by omega) BZ4.size ?_
      intro v4 w4 hown4 hg4 hat4
      have BG4 := below_own hg4 HU4 BZ4 (Nat.le_refl _) BZ4.size
      refine hK' _ _ ⟨fun _ => KX.out.below BG4, ?_⟩
      clear hK' K' hg4 hat4
      refine gro.anyM_one 12 (by kernel_rfl) rfl ?_
      intro y5 hz5 K' hK'
      have BZ5 := BG4.trans (hz5.mono BG4.size)
      have HU5 := own_keep hown4 hz5
      go_simp
      obtain ⟨A5, c5, rfl, e1, e2, e3⟩ := own_form HU5
      have hpl : Hid (PRead y5 y5.heap.size A5 (0 + n + 1) (xs ++ [(o, x)])) := by
        have h : Reads y5 y5.heap.size 2 A5 (0 + n + 1) ([] ++ (pc xs) ++ [Value.int IntKind.i64 o, Value.int IntKind.i64 x]) := e3
        have e : [] ++ (pc xs) ++ [Value.int IntKind.i64 o, Value.int IntKind.i64 x] = pc (xs ++ [(o, x)]) := by rw [pc_append]; simp [pc]
        rw [Hid, PRead, ← e]
        exact h
      (refine (HK.out A5 (0 + n + 1) c5 (xs ++ [(o, x)]) _ hpl.out (by omega)).mono ?_)
      rintro e w5 ⟨A6, l6, c6, rfl, r1, ⟨r2, fr⟩, hr, hb⟩
      rw [show 0 + n + 1 = n + 1 from by omega, HE1.out] at hr
      have BC5 := BZ5.trans (hb.mono BZ5.size)
      have fr6 : ∀ ad, A6 = some ad → W8.heap.size ≤ ad.block := fun ad h => Nat.le_trans BZ5.size (fr ad h)
      refine hK' _ _ ⟨fun _ => KX.out.below BC5, ?_⟩
      clear hK' K' hz5 e1 e2 e3 hpl
      refine gro.anyM_one 13 (by kernel_rfl) rfl ?_
      intro y6 hz6 K' hK'
      have BZ6 := BC5.trans (hz6.mono BC5.size)
      go_simp
      refine hK' _ _ ⟨fun h => absurd (show true = false from h) (by decide), ?_⟩
      clear hK' K'
      refine gro.anyM_done (by kernel_rfl) ?_
      intro y7 hz7
      have BF := BZ6.trans (hz7.mono BZ6.size)
      have HR6 := Lib.hid ((hr.below (hz6.trans (hz7.mono hz6.size))).more (hz6.trans (hz7.mono hz6.size)).size)
      replace KK := Lib.hid ((KX.out.below BF).swap)
      replace BB := Lib.hid (BB.out.trans (BF.mono BB.out.size))
      clear KX KX0 HR
      have R := KK.out.rules
      simp only [Rules] at R
      have hl6 := PRead.len (xs := la) HR6.out
      have hmz : l6 ≤ 2001 := by have := keptN_len m (xs ++ [(o, x)]) (n + 1); rw [HE1.out] at this; omega
      by_cases hfu : p < (la.length : Int)
      case pos =>
        have hfu2 : p < (l6 : Int) := by omega
        rw [decide_eq_true hfu] at *
        simp only [kp_f, kb_f, lsK_f, Bool.true_and, Bool.and_false, Bool.not_true, addEr_u] at *
        go_wp2
        refine bodyPost_ret (v := Value.tuple #[.agg #[Value.bool false, Value.int IntKind.i64 0, Value.int IntKind.i64 0, Value.int IntKind.i64 0, Value.slice none 0 0], .int .i64 5]) (by simp [results, Try.results17, go_sem, R]) rfl ⟨none, 0, 0, rfl, Nat.le_refl _, ⟨Nat.zero_le _, fun ad h => by cases h⟩, PRead.nil_, ?_⟩
        exact (((((BB.out.setCell (by first | (simp; done) | (simp; omega)) _).setCell (by first | (simp; done) | (simp; omega)) _).setCell (by first | (simp; done) | (simp; omega)) _).setCell (by first | (simp; done) | (simp; omega)) _).setCell (by first | (simp; done) | (simp; omega)) _)
      rw [decide_eq_false hfu] at *
      have hfu2 : ¬ p < (l6 : Int) := by omega
      simp only [kp_t, kb_t, lsK_t, Bool.true_and, Bool.and_true, Bool.not_false, addEr_0] at *
      have K3 := Bx.one (d := #[Value.bool m, Value.int IntKind.i64 v, Value.int IntKind.i64 p, Value.int IntKind.i64 o, Value.slice A6 l6 c6]) 4 (.slice A6 l6 c6) KK.out (by simp) (by simp)
      have R3 := K3.rules
      simp only [Rules] at R3
      go_wp2
      refine bodyPost_ret (v := Value.tuple #[.agg #[Value.bool m, Value.int IntKind.i64 v, Value.int IntKind.i64 p, Value.int IntKind.i64 o, Value.slice A6 l6 c6], .int .i64 0]) (by simp [results, Try.results17, go_sem, R, R3]) rfl ⟨A6, l6, c6, rfl, r1, ⟨r2, fun ad h => by have := fr6 ad h; omega⟩, ?_, ?_⟩
      · exact PRead.sz ((PRead.far (PRead.far (PRead.far (PRead.far (PRead.far (PRead.far HR6.out ⟨w.heap.size, 4, none⟩ (fun h0 ad h => by have := fr6 ad h; simp; omega) _) ⟨w.heap.size + 1, 0, none⟩ (fun h0 ad h => by have := fr6 ad h; simp; omega) _) ⟨w.heap.size + 1, 1, none⟩ (fun h0 ad h => by have := fr6 ad h; simp; omega) _) ⟨w.heap.size + 1, 2, none⟩ (fun h0 ad h => by have := fr6 ad h; simp; omega) _) ⟨w.heap.size + 1, 3, none⟩ (fun h0 ad h => by have := fr6 ad h; simp; omega) _) ⟨w.heap.size + 1, 4, none⟩ (fun h0 ad h => by have := fr6 ad h; simp; omega) _)) (by simp [World.setCell])
      · exact ((((((BB.out.setCell (by first | (simp; done) | (simp; omega)) _).setCell (by first | (simp; done) | (simp; omega)) _).setCell (by first | (simp; done) | (simp; omega)) _).setCell (by first | (simp; done) | (simp; omega)) _).setCell (by first | (simp; done) | (simp; omega)) _).setCell (by first | (simp; done) | (simp; omega)) _)
    · intro y8 hz8 K' hK'
      have BZ8 := BA1.trans (hz8.mono BA1.size)
      have HU8 := own_keep HV1 hz8
      go_simp
      refine hK' _ _ ⟨fun _ => (KX.out.below BZ8).alloc _, ?_⟩
      clear hK' K'
      obtain ⟨z8, hy8⟩ : ∃ z, y8.alloc (.cells #[Value.int IntKind.i64 o, Value.int IntKind.i64 x] 40) = z := ⟨_, rfl⟩
      have hA8 : Below y8.heap.size y8 z8 := by rw [← hy8]; exact (Below.refl _ _).alloc (Nat.le_refl _) _
      have BA8 := BZ8.trans (hA8.mono BZ8.size)
      have HV8 := own_keep HU8 hA8
      have HF8 : Reads z8 z8.heap.size 2 (some ⟨y8.heap.size, 0, none⟩) 1 [Value.int IntKind.i64 o, Value.int IntKind.i64 x] := by rw [← hy8]; exact Reads.more (reads_new y8 40 #[Value.int IntKind.i64 o, Value.int IntKind.i64 x] rfl) (by simp)
      have le8 : y8.heap.size + 1 ≤ z8.heap.size := by rw [← hy8]; simp
      have hd8 : some y8.heap.size ≠ (Value.ownBlock (.slice (some ⟨y1.heap.size, 0, none⟩) 0 0)) := fun e => by have h1 := (World.ownsRow.lt HU8 _ e.symm).2; omega
      rw [hy8]
      clear hz8 hA8 hy8
      refine gro.anyM_one 3 (by kernel_rfl) rfl ?_
      intro y9 hz9 K' hK'
      have BZ9 := BA8.trans (hz9.mono BA8.size)
      have HU9 := own_keep HV8 hz9
      have HE9 := (Reads.below HF8 hz9).more hz9.size
      refine step_append_any _ (by rfl) (.tmp 18) (.tmp 20) 22 rfl W8.heap.size 40 i0 (.agg #[.int .i64 0, .int .i64 0]) 2 16 Try.underlying22 HI.out HZ0.out HZ1.out HZ2.out rfl (by omega) (.slice (some ⟨y1.heap.size, 0, none⟩) 0 0) (0) ([]) (by rfl) HU9 _ A (n) (c) (pc xs) (by rfl) (Reads.below (HR.out) BZ9) (pc_oneCell _) (by unfold maxLen; omega) (by omega) BZ9.size ?_
      intro v9 w9 hown9 hg9 hat9
      have BG9 := below_own hg9 HU9 BZ9 (Nat.le_refl _) BZ9.size
      have HG9 := Reads.app HE9 hg9 (fun _ ad e => by injection e with e; subst e; exact hd8)
      refine hK' _ _ ⟨fun _ => KX.out.below BG9, ?_⟩
      clear hK' K' hg9 hat9
      refine gro.anyM_one 9 (by kernel_rfl) rfl ?_
      intro y10 hz10 K' hK'
      have BZ10 := BG9.trans (hz10.mono BG9.size)
      have HU10 := own_keep hown9 hz10
      have HE10 := (Reads.below HG9 hz10).more hz10.size
      refine step_append_any _ (by rfl) (.tmp 21) (.tmp 26) 22 rfl W8.heap.size 40 i0 (.agg #[.int .i64 0, .int .i64 0]) 2 16 Try.underlying22 HI.out HZ0.out HZ1.out HZ2.out rfl (by omega) v9 (0 + (n)) ([] ++ (pc xs)) (by rfl) HU10 _ _ (1) (1) _ (by rfl) HE10 (by simp [Value.oneCell']) (by unfold maxLen; omega) (by omega) BZ10.size ?_
      intro v10 w10 hown10 hg10 hat10
      have BG10 := below_own hg10 HU10 BZ10 (Nat.le_refl _) BZ10.size
      refine hK' _ _ ⟨fun _ => KX.out.below BG10, ?_⟩
      clear hK' K' hg10 hat10
      refine gro.anyM_one 12 (by kernel_rfl) rfl ?_
      intro y11 hz11 K' hK'
      have BZ11 := BG10.trans (hz11.mono BG10.size)
      have HU11 := own_keep hown10 hz11
      go_simp
      obtain ⟨A5, c5, rfl, e1, e2, e3⟩ := own_form HU11
      have hpl : Hid (PRead y11 y11.heap.size A5 (0 + n + 1) (xs ++ [(o, x)])) := by
        have h : Reads y11 y11.heap.size 2 A5 (0 + n + 1) ([] ++ (pc xs) ++ [Value.int IntKind.i64 o, Value.int IntKind.i64 x]) := e3
        have e : [] ++ (pc xs) ++ [Value.int IntKind.i64 o, Value.int IntKind.i64 x] = pc (xs ++ [(o, x)]) := by rw [pc_append]; simp [pc]
        rw [Hid, PRead, ← e]
        exact h
      (refine (HK.out A5 (0 + n + 1) c5 (xs ++ [(o, x)]) _ hpl.out (by omega)).mono ?_)
      rintro e w11 ⟨A6, l6, c6, rfl, r1, ⟨r2, fr⟩, hr, hb⟩
      rw [show 0 + n + 1 = n + 1 from by omega, HE1.out] at hr
      have BC11 := BZ11.trans (hb.mono BZ11.size)
      have fr6 : ∀ ad, A6 = some ad → W8.heap.size ≤ ad.block := fun ad h => Nat.le_trans BZ11.size (fr ad h)
      refine hK' _ _ ⟨fun _ => KX.out.below BC11, ?_⟩
      clear hK' K' hz11 e1 e2 e3 hpl
      refine gro.anyM_one 13 (by kernel_rfl) rfl ?_
      intro y12 hz12 K' hK'
      have BZ12 := BC11.trans (hz12.mono BC11.size)
      go_simp
      refine hK' _ _ ⟨fun h => absurd (show true = false from h) (by decide), ?_⟩
      clear hK' K'
      refine gro.anyM_done (by kernel_rfl) ?_
      intro y13 hz13
      have BF := BZ12.trans (hz13.mono BZ12.size)
      have HR6 := Lib.hid ((hr.below (hz12.trans (hz13.mono hz12.size))).more (hz12.trans (hz13.mono hz12.size)).size)
      replace KK := Lib.hid ((KX.out.below BF).swap)
      replace BB := Lib.hid (BB.out.trans (BF.mono BB.out.size))
      clear KX KX0 HR
      have R := KK.out.rules
      simp only [Rules] at R
      have hl6 := PRead.len (xs := la) HR6.out
      have hmz : l6 ≤ 2001 := by have := keptN_len m (xs ++ [(o, x)]) (n + 1); rw [HE1.out] at this; omega
      by_cases hfu : p < (la.length : Int)
      case pos =>
        have hfu2 : p < (l6 : Int) := by omega
        rw [decide_eq_true hfu] at *
        simp only [kp_f, kb_f, lsK_f, Bool.true_and, Bool.and_false, Bool.not_true, addEr_u] at *
        go_wp2
        refine bodyPost_ret (v := Value.tuple #[.agg #[Value.bool false, Value.int IntKind.i64 0, Value.int IntKind.i64 0, Value.int IntKind.i64 0, Value.slice none 0 0], .int .i64 5]) (by simp [results, Try.results17, go_sem, R]) rfl ⟨none, 0, 0, rfl, Nat.le_refl _, ⟨Nat.zero_le _, fun ad h => by cases h⟩, PRead.nil_, ?_⟩
        exact (((((BB.out.setCell (by first | (simp; done) | (simp; omega)) _).setCell (by first | (simp; done) | (simp; omega)) _).setCell (by first | (simp; done) | (simp; omega)) _).setCell (by first | (simp; done) | (simp; omega)) _).setCell (by first | (simp; done) | (simp; omega)) _)
      rw [decide_eq_false hfu] at *
      have hfu2 : ¬ p < (l6 : Int) := by omega
      simp only [kp_t, kb_t, lsK_t, Bool.true_and, Bool.and_true, Bool.not_false, addEr_0] at *
      have K3 := Bx.one (d := #[Value.bool m, Value.int IntKind.i64 v, Value.int IntKind.i64 p, Value.int IntKind.i64 o, Value.slice A6 l6 c6]) 4 (.slice A6 l6 c6) KK.out (by simp) (by simp)
      have R3 := K3.rules
      simp only [Rules] at R3
      go_wp2
      refine bodyPost_ret (v := Value.tuple #[.agg #[Value.bool m, Value.int IntKind.i64 v, Value.int IntKind.i64 p, Value.int IntKind.i64 o, Value.slice A6 l6 c6], .int .i64 0]) (by simp [results, Try.results17, go_sem, R, R3]) rfl ⟨A6, l6, c6, rfl, r1, ⟨r2, fun ad h => by have := fr6 ad h; omega⟩, ?_, ?_⟩
      · exact PRead.sz ((PRead.far (PRead.far (PRead.far (PRead.far (PRead.far (PRead.far HR6.out ⟨w.heap.size, 4, none⟩ (fun h0 ad h => by have := fr6 ad h; simp; omega) _) ⟨w.heap.size + 1, 0, none⟩ (fun h0 ad h => by have := fr6 ad h; simp; omega) _) ⟨w.heap.size + 1, 1, none⟩ (fun h0 ad h => by have := fr6 ad h; simp; omega) _) ⟨w.heap.size + 1, 2, none⟩ (fun h0 ad h => by have := fr6 ad h; simp; omega) _) ⟨w.heap.size + 1, 3, none⟩ (fun h0 ad h => by have := fr6 ad h; simp; omega) _) ⟨w.heap.size + 1, 4, none⟩ (fun h0 ad h => by have := fr6 ad h; simp; omega) _)) (by simp [World.setCell])
      · exact ((((((BB.out.setCell (by first | (simp; done) | (simp; omega)) _).setCell (by first | (simp; done) | (simp; omega)) _).setCell (by first | (simp; done) | (simp; omega)) _).setCell (by first | (simp; done) | (simp; omega)) _).setCell (by first | (simp; done) | (simp; omega)) _).setCell (by first | (simp; done) | (simp; omega)) _)
  · intro y14 hz14 K' hK'
    have BZ14 := BZ0.trans (hz14.mono BZ0.size)
    go_simp
    refine hK' _ _ ⟨fun _ => (KX.out.below BZ14).alloc _, ?_⟩
    clear hK' K'
    obtain ⟨z14, hy14⟩ : ∃ z, y14.alloc (.cells #[Value.int IntKind.i64 o, Value.int IntKind.i64 x] 40) = z := ⟨_, rfl⟩
    have hA14 : Below y14.heap.size y14 z14 := by rw [← hy14]; exact (Below.refl _ _).alloc (Nat.le_refl _) _
    have BA14 := BZ14.trans (hA14.mono BZ14.size)
    have HF14 : Reads z14 z14.heap.size 2 (some ⟨y14.heap.size, 0, none⟩) 1 [Value.int IntKind.i64 o, Value.int IntKind.i64 x] := by rw [← hy14]; exact Reads.more (reads_new y14 40 #[Value.int IntKind.i64 o, Value.int IntKind.i64 x] rfl) (by simp)
    have le14 : y14.heap.size + 1 ≤ z14.heap.size := by rw [← hy14]; simp
    rw [hy14]
    clear hz14 hA14 hy14
    refine gro.anyM_one 0 (by kernel_rfl) rfl ?_
    intro y15 hz15 K' hK'
    have BZ15 := BA14.trans (hz15.mono BA14.size)
    have HE15 := (Reads.below HF14 hz15).more hz15.size
    go_simp
    refine hK' _ _ ⟨fun _ => (KX.out.below BZ15).alloc _, ?_⟩
    clear hK' K'
    obtain ⟨z15, hy15⟩ : ∃ z, y15.alloc (.cells #[] 40) = z := ⟨_, rfl⟩
    have hA15 : Below y15.heap.size y15 z15 := by rw [← hy15]; exact (Below.refl _ _).alloc (Nat.le_refl _) _
    have BA15 := BZ15.trans (hA15.mono BZ15.size)
    have HF15 := (Reads.below HE15 hA15).more hA15.size
    have HV15 : z15.ownsRow W8.heap.size 40 2 (.slice (some ⟨y15.heap.size, 0, none⟩) 0 0) 0 [] := by rw [← hy15]; exact own_empty2 rfl BZ15.size
    have hd15 : some y14.heap.size ≠ (Value.slice (some ⟨y15.heap.size, 0, none⟩) 0 0).ownBlock := fun e => by have h1 : y14.heap.size = y15.heap.size := Option.some.inj e; have h2 := le14; have h3 := hz15.size; omega
    rw [hy15]
    clear hA15 hy15
    refine gro.anyM_one 3 (by kernel_rfl) rfl ?_
    intro y16 hz16 K' hK'
    have BZ16 := BA15.trans (hz16.mono BA15.size)
    have HU16 := own_keep HV15 hz16
    have HE16 := (Reads.below HF15 hz16).more hz16.size
    refine step_append_any _ (by rfl) (.tmp 18) (.tmp 20) 22 rfl W8.heap.size 40 i0 (.agg #[.int .i64 0, .int .i64 0]) 2 16 Try.underlying22 HI.out HZ0.out HZ1.out HZ2.out rfl (by omega) (.slice (some ⟨y15.heap.size, 0, none⟩) 0 0) (0) ([]) (by rfl) HU16 _ A (n) (c) (pc xs) (by rfl) (Reads.below (HR.out) BZ16) (pc_oneCell _) (by unfold maxLen; omega) (by omega) BZ16.size ?_
    intro v16 w16 hown16 hg16 hat16
    have BG16 := below_own hg16 HU16 BZ16 (Nat.le_refl _) BZ16.size
    have HG16 := Reads.app HE16 hg16 (fun _ ad e => by injection e with e; subst e; exact hd15)
    refine hK' _ _ ⟨fun _ => KX.out.below BG16, ?_⟩
    clear hK' K' hg16 hat16
    refine gro.anyM_one 9 (by kernel_rfl) rfl ?_
    intro y17 hz17 K' hK'
    have BZ17 := BG16.trans (hz17.mono BG16.size)
    have HU17 := own_keep hown16 hz17
    have HE17 := (Reads.below HG16 hz17).more hz17.size
    refine step_append_any _ (by rfl) (.tmp 21) (.tmp 26) 22 rfl W8.heap.size 40 i0 (.agg #[.int .i64 0, .int .i64 0]) 2 16 Try.underlying22 HI.out HZ0.out HZ1.out HZ2.out rfl (by omega) v16 (0 + (n)) ([] ++ (pc xs)) (by rfl) HU17 _ _ (1) (1) _ (by rfl) HE17 (by simp [Value.oneCell']) (by unfold maxLen; omega) (by omega) BZ17.size ?_
    intro v17 w17 hown17 hg17 hat17
    have BG17 := below_own hg17 HU17 BZ17 (Nat.le_refl _) BZ17.size
    refine hK' _ _ ⟨fun _ => KX.out.below BG17, ?_⟩
    clear hK' K' hg17 hat17
    refine gro.anyM_one 12 (by kernel_rfl) rfl ?_
    intro y18 hz18 K' hK'
    have BZ18 := BG17.trans (hz18.mono BG17.size)
    have HU18 := own_keep hown17 hz18
    go_simp
    obtain ⟨A5, c5, rfl, e1, e2, e3⟩ := own_form HU18
    have hpl : Hid (PRead y18 y18.heap.size A5 (0 + n + 1) (xs ++ [(o, x)])) := by
      have h : Reads y18 y18.heap.size 2 A5 (0 + n + 1) ([] ++ (pc xs) ++ [Value.int IntKind.i64 o, Value.int IntKind.i64 x]) := e3
      have e : [] ++ (pc xs) ++ [Value.int IntKind.i64 o, Value.int IntKind.i64 x] = pc (xs ++ [(o, x)]) := by rw [pc_append]; simp [pc]
      rw [Hid, PRead, ← e]
      exact h
    (refine (HK.out A5 (0 + n + 1) c5 (xs ++ [(o, x)]) _ hpl.out (by omega)).mono ?_)
    rintro e w18 ⟨A6, l6, c6, rfl, r1, ⟨r2, fr⟩, hr, hb⟩
    rw [show 0 + n + 1 = n + 1 from by omega, HE1.out] at hr
    have BC18 := BZ18.trans (hb.mono BZ18.size)
    have fr6 : ∀ ad, A6 = some ad → W8.heap.size ≤ ad.block := fun ad h => Nat.le_trans BZ18.size (fr ad h)
    refine hK' _ _ ⟨fun _ => KX.out.below BC18, ?_⟩
    clear hK' K' hz18 e1 e2 e3 hpl
    refine gro.anyM_one 13 (by kernel_rfl) rfl ?_
    intro y19 hz19 K' hK'
    have BZ19 := BC18.trans (hz19.mono BC18.size)
    go_simp
    refine hK' _ _ ⟨fun h => absurd (show true = false from h) (by decide), ?_⟩
    clear hK' K'
    refine gro.anyM_done (by kernel_rfl) ?_
    intro y20 hz20
    have BF := BZ19.trans (hz20.mono BZ19.size)
    have HR6 := Lib.hid ((hr.below (hz19.trans (hz20.mono hz19.size))).more (hz19.trans (hz20.mono hz19.size)).size)
    replace KK := Lib.hid ((KX.out.below BF).swap)
    replace BB := Lib.hid (BB.out.trans (BF.mono BB.out.size))
    clear KX KX0 HR
    have R := KK.out.rules
    simp only [Rules] at R
    have hl6 := PRead.len (xs := la) HR6.out
    have hmz : l6 ≤ 2001 := by have := keptN_len m (xs ++ [(o, x)]) (n + 1); rw [HE1.out] at this; omega
    by_cases hfu : p < (la.length : Int)
    case pos =>
      have hfu2 : p < (l6 : Int) := by omega
      rw [decide_eq_true hfu] at *
      simp only [kp_f, kb_f, lsK_f, Bool.true_and, Bool.and_false, Bool.not_true, addEr_u] at *
      go_wp2
      refine bodyPost_ret (v := Value.tuple #[.agg #[Value.bool false, Value.int IntKind.i64 0, Value.int IntKind.i64 0, Value.int IntKind.i64 0, Value.slice none 0 0], .int .i64 5]) (by simp [results, Try.results17, go_sem, R]) rfl ⟨none, 0, 0, rfl, Nat.le_refl _, ⟨Nat.zero_le _, fun ad h => by cases h⟩, PRead.nil_, ?_⟩
      exact (((((BB.out.setCell (by first | (simp; done) | (simp; omega)) _).setCell (by first | (simp; done) | (simp; omega)) _).setCell (by first | (simp; done) | (simp; omega)) _).setCell (by first | (simp; done) | (simp; omega)) _).setCell (by first | (simp; done) | (simp; omega)) _)
    rw [decide_eq_false hfu] at *
    have hfu2 : ¬ p < (l6 : Int) := by omega
    simp only [kp_t, kb_t, lsK_t, Bool.true_and, Bool.and_true, Bool.not_false, addEr_0] at *
    have K3 := Bx.one (d := #[Value.bool m, Value.int IntKind.i64 v, Value.int IntKind.i64 p, Value.int IntKind.i64 o, Value.slice A6 l6 c6]) 4 (.slice A6 l6 c6) KK.out (by simp) (by simp)
    have R3 := K3.rules
    simp only [Rules] at R3
    go_wp2
    refine bodyPost_ret (v := Value.tuple #[.agg #[Value.bool m, Value.int IntKind.i64 v, Value.int IntKind.i64 p, Value.int IntKind.i64 o, Value.slice A6 l6 c6], .int .i64 0]) (by simp [results, Try.results17, go_sem, R, R3]) rfl ⟨A6, l6, c6, rfl, r1, ⟨r2, fun ad h => by have := fr6 ad h; omega⟩, ?_, ?_⟩
    · exact PRead.sz ((PRead.far (PRead.far (PRead.far (PRead.far (PRead.far (PRead.far HR6.out ⟨w.heap.size, 4, none⟩ (fun h0 ad h => by have := fr6 ad h; simp; omega) _) ⟨w.heap.size + 1, 0, none⟩ (fun h0 ad h => by have := fr6 ad h; simp; omega) _) ⟨w.heap.size + 1, 1, none⟩ (fun h0 ad h => by have := fr6 ad h; simp; omega) _) ⟨w.heap.size + 1, 2, none⟩ (fun h0 ad h => by have := fr6 ad h; simp; omega) _) ⟨w.heap.size + 1, 3, none⟩ (fun h0 ad h => by have := fr6 ad h; simp; omega) _) ⟨w.heap.size + 1, 4, none⟩ (fun h0 ad h => by have := fr6 ad h; simp; omega) _)) (by simp [World.setCell])
    · exact ((((((BB.out.setCell (by first | (simp; done) | (simp; omega)) _).setCell (by first | (simp; done) | (simp; omega)) _).setCell (by first | (simp; done) | (simp; omega)) _).setCell (by first | (simp; done) | (simp; omega)) _).setCell (by first | (simp; done) | (simp; omega)) _).setCell (by first | (simp; done) | (simp; omega)) _)
end Go.Proofs.Yteajgmihhnghfaa.ext
