/- Contract of the reference's put. -/
import Derived.Test.YtjapjfcennemeaaMgIns
import Derived.Test.YtjapjfcennemeaaMgPutEq
import Derived.Test.YtjapjfcennemeaaMgExpire
import Derived.Deep.RegionHeld3
import Derived.Deep.DrawnRows
namespace Go.Proofs.Ytjapjfcennemeaa.lst
open Go.RowKit Go.Proofs.Ytjapjfcennemeaa.mem Go.Proofs.Ytjapjfcennemeaa.buk
set_option linter.unusedVariables false

set_option maxHeartbeats 8000000 in
set_option maxRecDepth 100000 in
theorem put_any (A : Option Addr) (n c : Nat) (xs : List (Int × Int)) (k : Nat) (t : Int) (w : World) (h1 : PRead w w.heap.size A n xs) (hsmall : n ≤ 60000) (hk1 : 1 ≤ k) (hk2 : k ≤ 128) :
    Calls Try.prog 86 #[.slice A n c, .int .i64 k, .int .i64 t] w (NewP (putC xs k t) w) := by
  have HL := Lib.hid h1.len
  have H1 := Lib.hid h1
  obtain ⟨i0, hi0, hz0, hz1, hz2⟩ := info_parts bucket_info
  have HI := Lib.hid hi0
  have HZ0 := Lib.hid hz0
  have HZ1 := Lib.hid hz1
  have HZ2 := Lib.hid hz2
  clear hi0 hz0 hz1 hz2 h1
  go_enter Try.func86, Try.ntmps86
  go_wp2_with (first | (at_builtin; refine wpList_append_any _ rfl (.tmp 14) (.tmp 15) 34 rfl w.heap.size 102 i0 (.agg #[.int .i64 0, .int .i64 0]) 2 16 Try.underlying34 HI.out HZ0.out HZ1.out HZ2.out rfl (by omega) (.slice (some ⟨w.heap.size, 0, none⟩) 0 0) 0 [] rfl (own_empty w 102) w.heap.size A n c (pc xs) rfl (H1.out.alloc (Nat.le_refl _) _) (pc_oneCell xs) (by unfold maxLen; omega) (by omega) (by simp) ?_; intro v1 w1 hown1 hg1 hat1; simp only [Nat.zero_add, List.nil_append] at hown1; have HB1 : Hid (Below w.heap.size w w1) := ((Below.refl _ _).alloc (Nat.le_refl _) _).grown hg1 (by simp) (by simp [Value.ownBlock]); have HO1 := Lib.hid hown1; clear hown1 hg1 hat1) | (at_builtin; go_loud (refine wpList_append_any _ rfl (.tmp 16) (.tmp 19) 34 rfl w.heap.size 102 i0 (.agg #[.int .i64 0, .int .i64 0]) 2 16 Try.underlying34 HI.out HZ0.out HZ1.out HZ2.out rfl (by omega) v1 n (pc xs) rfl (own_alloc HO1.out _) _ _ 1 1 _ rfl (reads_new _ _ _ rfl) (by simp [Value.oneCell']) (by unfold maxLen; omega) (by omega) (by have := HB1.out.size; simp; omega) ?_); intro v2 w2 hown2 hg2 hat2; obtain ⟨g2, c2, rfl, q1, q2, q3, q4⟩ := own_form2 hown2 (by omega); have HB2 := Lib.hid (HB1.out.trans (below_box2 HB1.out.size HO1.out hg2)); have HO2 := Lib.hid hown2; clear hown2 hg2 hat2))
  have HK0 : Hid (w2.ownsRow w.heap.size 102 2 (.slice (some ⟨g2, 0, none⟩) (n + 1) c2) (n + 1) (pc (xs ++ [(t, 0)]))) := by
    have := HO2.out; rw [Hid, pc_append]; exact this
  clear HO1 HO2 HB1
  go_loopg [7, 8] 31 (fun kx s7 s8 wr => ∃ (ys : List (Int × Int)) (m l f g' c' : Nat), s7 = .slice (some ⟨g', 0, none⟩) m c' ∧ s8 = .int .i64 l ∧ 1 ≤ m ∧ m ≤ n + 1 ∧ m ≤ c' ∧ c' ≤ 9223372036854775807 ∧ l + f = 31 ∧ f ≤ kx ∧
    w.heap.size ≤ g' ∧ g' < wr.heap.size ∧ Hid (ys.length = m) ∧ Hid (wr.ownsRow w.heap.size 102 2 (.slice (some ⟨g', 0, none⟩) m c') m (pc ys)) ∧ Hid (Below w.heap.size w wr) ∧ Hid (putR k f ys l = putC xs k t))
  case atStart => exact ⟨xs ++ [(t, 0)], n + 1, 0, 31, g2, c2, rfl, rfl, by omega, Nat.le_refl _, q1, q2, by omega, Nat.le_refl _, q3, q4, (by have := HL.out; simp [Hid]; omega), HK0, HB2, (rfl : putR k 31 (xs ++ [(t, 0)]) 0 = putC xs k t)⟩
  case round =>
    obtain ⟨ys, m, l, f, g', c', rfl, rfl, hm1, hmn, hmc, hcm, hlf, hfk, hgb, hgw, HLy, HO, HB, HE⟩ := hrel
    clear HK0 HB2 HL H1
    by_cases hl30 : l ≤ 30
    · obtain ⟨f, rfl⟩ : ∃ f', f = f' + 1 := ⟨f - 1, by omega⟩
      have hb30 : decide ((l : Int) ≤ 30) = true := decide_eq_true (by omega)
      go_wp2_with fail
      obtain ⟨wo, rfl⟩ : ∃ wo : World, wo = wr := ⟨_, rfl⟩
      go_loopg [9, 10, 27] m (fun kx s9 s10 s27 wi => ∃ i : Nat, s27 = .int .i64 i ∧ s9 = .int .i64 (firstTo ys l i) ∧ s10 = .int .i64 (cnt (ys.take i) l) ∧ i ≤ m ∧ m - i ≤ kx ∧ Hid (Below wo.heap.size wo wi))
      case atStart => exact ⟨0, rfl, rfl, rfl, Nat.zero_le _, by omega, Below.refl _ _⟩
      case round =>
        obtain ⟨i, rfl, rfl, rfl, him, hik, HBi⟩ := hrel
        by_cases hlt : i < m
        · obtain ⟨hc1, hc2⟩ := own_pair HO.out hlt
          rw [← HBi.out.cell (p := ⟨g', i * 2, none⟩) hgw] at hc1
          rw [← HBi.out.cell (p := ⟨g', i * 2 + 1, none⟩) hgw] at hc2
          have hcs := cnt_take (xs := ys) (k := i) (by rw [HLy.out]; exact hlt) l
          have hcl := cnt_le (ys.take i) l
          rw [List.length_take] at hcl
          have hfs : firstTo ys l (i + 1) = if firstTo ys l i < 0 ∧ (at_ ys i).2 = l then (i : Int) else firstTo ys l i := rfl
          have hws := HBi.out.size
          change wr.cell? ⟨g', i * 2, none⟩ = some (.int .i64 (at_ ys i).1) at hc1
          change wr.cell? ⟨g', i * 2 + 1, none⟩ = some (.int .i64 (at_ ys i).2) at hc2
          have HCS := Lib.hid hcs
          have HFS := Lib.hid hfs
          clear hcs hfs
          generalize (at_ ys i).1 = t1 at *
          generalize (at_ ys i).2 = l1 at *
          generalize firstTo ys l i = fi at *
          generalize cnt (ys.take i) l = ci at *
          by_cases e1 : l1 = (l : Int)
          · have e1b : (l1 == (l : Int)) = true := by simpa using e1
            have HE1 := Lib.hid e1
            clear e1
            by_cases e2 : fi < 0
            · go_wp2
              go_roundg (m - (i + 1))
              case measure => omega
              case rel => exact ⟨i + 1, by go_num, by rw [HFS.out, if_pos ⟨e2, HE1.out⟩], by rw [HCS.out, if_pos HE1.out]; go_num, by omega, by omega, HBi.out.alloc HBi.out.size _⟩
            · go_wp2
              go_roundg (m - (i + 1))
              case measure => omega
              case rel => exact ⟨i + 1, by go_num, by rw [HFS.out, if_neg (fun h => by omega)], by rw [HCS.out, if_pos HE1.out]; go_num, by omega, by omega, HBi.out.alloc HBi.out.size _⟩
          · have e1b : (l1 == (l : Int)) = false := by simpa using e1
            go_wp2
            go_roundg (m - (i + 1))
            case measure => omega
            case rel => exact ⟨i + 1, by go_num, by rw [HFS.out, if_neg (fun h => e1 h.2)], by rw [HCS.out, if_neg e1]; rfl, by omega, by omega, HBi.out.alloc HBi.out.size _⟩
        · obtain rfl : i = m := by omega
          have hfull : ys.take i = ys := List.take_of_length_le (by rw [HLy.out]; exact Nat.le_refl _)
          rw [hfull]
          have hsp := firstTo_spec ys l i (by rw [HLy.out]; exact Nat.le_refl _)
          rw [hfull] at hsp
          have hcl := cnt_le ys l
          rw [HLy.out] at hcl
          clear hfull
          by_cases hst : cnt ys l ≤ k + 1
          · have HC : Hid (putC xs k t = ys) := by rw [Hid, ← HE.out, putR_stop hst]
            have hst2 : (cnt ys l : Int) ≤ k + 1 := by omega
            clear hsp hst
            generalize cnt ys l = cc at *
            generalize firstTo ys l i = fi at *
            go_wp2
            go_ret
            exact newP_own (HB.out.trans (HBi.out.mono HB.out.size)) (own_keep HO.out HBi.out) (by rw [HC.out])
          · obtain ⟨b, hb1, hb2, hb3⟩ : ∃ b : Nat, firstTo ys l i = b ∧ b < i ∧ cnt ys l ≤ i - b := by
              rcases hsp with ⟨_, h⟩ | h
              · omega
              · exact h
            have HC : Hid (putR k f (joined ys b l) (l + 1) = putC xs k t) := by
              have := HE.out
              rw [putR_go hst, HLy.out, hb1] at this
              exact this
            have hst2 : (k : Int) + 1 < cnt ys l := by omega
            have hb4 : b + 2 < i := by omega
            rw [hb1]
            clear hsp hst hb1 hb3
            obtain ⟨d1, d2⟩ := own_pair HO.out (show b + 1 < i by omega)
            rw [← HBi.out.cell (p := ⟨g', (b + 1) * 2, none⟩) hgw] at d1
            clear d2
            change wr.cell? ⟨g', (b + 1) * 2, none⟩ = some (.int .i64 (at_ ys (b + 1)).1) at d1
            generalize htt : (at_ ys (b + 1)).1 = tt at d1
            have HTT := Lib.hid htt
            clear htt
            generalize cnt ys l = cc at *
            go_wp2_with fail
            have HOw := Lib.hid (own_keep HO.out HBi.out)
            have hgw2 : g' < wr.heap.size := Nat.lt_of_lt_of_le hgw HBi.out.size
            have hbw2 : w.heap.size ≤ wr.heap.size := by omega
            have s1 : IntKind.i64.wrap ((b : Int) + 2) = (b : Int) + 2 := IntWalk.i64_in _ (by omega)
            have s2 : ((b : Int) + 2).toNat = b + 2 := by omega
            have s3 : (b : Int) ≤ c' := by omega
            have s4 : (b : Int) + 2 ≤ i := by omega
            have s5 : 0 ≤ (b : Int) + 2 := by omega
            have s6 : (i : Int) ≤ c' := by omega
            have s7 : 0 ≤ (b : Int) := by omega
            clear HE hst2 hcl HO
            have HRa : Hid (Reads wr (g' + 1) 2 (some ⟨g', 0, none⟩) b (pc (ys.take b))) := by
              have := (own_reads HOw.out (Nat.zero_le _)).front (show b ≤ i - 0 by omega)
              rw [Hid, pc_take]
              simpa using this
            have HRb : Hid (Reads wr (g' + 1) 2 (if c' = b + 2 then some ⟨g', 0, none⟩ else some ⟨g', (b + 2) * 2, none⟩) (i - (b + 2)) (pc (ys.drop (b + 2)))) := by
              have := own_cut HOw.out (k := b + 2) (by omega) hmc
              rw [Hid, pc_drop]
              exact this
            go_region_held3 (fun w' => w'.cell? ⟨wr.heap.size, 0, none⟩ = some (.int .i64 tt) ∧ w'.cell? ⟨wr.heap.size, 1, none⟩ = some (.int .i64 ((l : Int) + 1)))
              (first | go_keep | (go_split_ands; refine ⟨?_, ?_⟩ <;> assumption))
              ((first | (refine step_append_any _ (by rfl) (.tmp 56) (.tmp 59) 34 rfl (wr.heap.size + 1) 102 i0 (.agg #[.int .i64 0, .int .i64 0]) 2 16 Try.underlying34 HI.out HZ0.out HZ1.out HZ2.out rfl (by omega) (.slice (some ⟨_, 0, none⟩) 0 0) 0 [] (by rfl) (by first | exact own_empty2 (by first | rfl | (simp; done)) (by first | omega | (simp; done) | (simp; omega)) | exact own_alloc (own_empty2 (by first | rfl | (simp; done)) (by first | omega | (simp; done) | (simp; omega))) _) (g' + 1) (some ⟨g', 0, none⟩) b c' (pc (ys.take b)) (by rfl) (by refine Reads.below HRa.out (B := g' + 1) ?_; refine Below.mono (B := wr.heap.size) ?_ (by omega); repeat (first | exact Below.refl _ _ | refine Below.alloc ?_ (by first | omega | (simp; done) | (simp; omega)) _ | refine Below.drew ?_)) (pc_oneCell _) (by unfold maxLen; omega) (by omega) (by first | omega | (simp; done) | (simp; omega)) ?_; intro v5 w5 hown5 hg5 hat5; have bw5 := below_own hg5 (n := 0) (xs := []) (size := 2) (e := 102) (base := wr.heap.size + 1) (by first | exact own_empty2 (by first | rfl | (simp; done)) (by first | omega | (simp; done) | (simp; omega)) | exact own_alloc (own_empty2 (by first | rfl | (simp; done)) (by first | omega | (simp; done) | (simp; omega))) _) (Below.refl (wr.heap.size + 1) _) (Nat.le_refl _) (by first | omega | (simp; done) | (simp; omega)); have hS5a : w5.cell? ⟨wr.heap.size, 0, none⟩ = some (.int .i64 tt) := (bw5.cell (p := ⟨wr.heap.size, 0, none⟩) (Nat.lt_succ_self _)).trans (by go_simp); have hS5b : w5.cell? ⟨wr.heap.size, 1, none⟩ = some (.int .i64 ((l : Int) + 1)) := (bw5.cell (p := ⟨wr.heap.size, 1, none⟩) (Nat.lt_succ_self _)).trans (by go_simp); have hz5 : wr.heap.size + 1 ≤ w5.heap.size := (by have h9 := bw5.size; simp at h9; omega); clear bw5; have HK5 := Lib.hid (fun gg t cs (h : Blk _ gg t cs) (hne : some gg ≠ _) => Blk.grown h hg5 hne); have HB5 : Hid (Below wr.heap.size wr w5) := below_own hg5 (n := 0) (xs := []) (size := 2) (e := 102) (base := wr.heap.size + 1) (by first | exact own_empty2 (by first | rfl | (simp; done)) (by first | omega | (simp; done) | (simp; omega)) | exact own_alloc (own_empty2 (by first | rfl | (simp; done)) (by first | omega | (simp; done) | (simp; omega))) _) (by repeat (first | exact Below.refl _ _ | refine Below.alloc ?_ (by first | omega | (simp; done) | (simp; omega)) _ | refine Below.drew ?_)) (Nat.le_succ _) (by first | omega | (simp; done) | (simp; omega)); have HO5 := Lib.hid hown5; clear hown5 hg5 hat5) | (refine step_append_any _ (by rfl) (.tmp 60) (.tmp 62) 34 rfl (wr.heap.size + 1) 102 i0 (.agg #[.int .i64 0, .int .i64 0]) 2 16 Try.underlying34 HI.out HZ0.out HZ1.out HZ2.out rfl (by omega) v5 (0 + b) ([] ++ pc (ys.take b)) (by rfl) (by first | exact HO5.out | exact own_alloc HO5.out _) _ (some _) 1 1 [.int .i64 tt, .int .i64 ((l : Int) + 1)] (by rfl) (by first | exact reads_blk (blk_new2 (by first | rfl | (simp; done))) rfl | exact reads_blk (HK5.out _ _ _ (by first | exact blk_new2 (by first | rfl | (simp; done)) | exact (blk_new2 (by first | rfl | (simp; done))).alloc _) (by simp [Value.ownBlock])) rfl) (by simp [Value.oneCell']) (by unfold maxLen; omega) (by omega) (by first | omega | (simp; done) | (simp; omega)) ?_; intro v6 w6 hown6 hg6 hat6; have bw6 := below_own hg6 (by first | exact HO5.out | exact own_alloc HO5.out _) (Below.refl (wr.heap.size + 1) _) (Nat.le_refl _) (by first | omega | (simp; done) | (simp; omega)); have hS6a : w6.cell? ⟨wr.heap.size, 0, none⟩ = some (.int .i64 tt) := (bw6.cell (p := ⟨wr.heap.size, 0, none⟩) (Nat.lt_succ_self _)).trans (by first | exact hS5a | exact cell_box hS5a _); have hS6b : w6.cell? ⟨wr.heap.size, 1, none⟩ = some (.int .i64 ((l : Int) + 1)) := (bw6.cell (p := ⟨wr.heap.size, 1, none⟩) (Nat.lt_succ_self _)).trans (by first | exact hS5b | exact cell_box hS5b _); have hz6 : wr.heap.size + 1 ≤ w6.heap.size := (by have h9 := bw6.size; first | omega | (simp at h9; omega)); clear bw6; have HB6 : Hid (Below wr.heap.size wr w6) := below_own hg6 (by first | exact HO5.out | exact own_alloc HO5.out _) (by first | exact HB5.out | exact HB5.out.alloc HB5.out.size _) (Nat.le_succ _) (by first | omega | (simp; done) | (simp; omega)); have HO6 := Lib.hid hown6; clear hown6 hg6 hat6) | (refine step_append_any _ (by rfl) (.tmp 63) (.tmp 67) 34 rfl (wr.heap.size + 1) 102 i0 (.agg #[.int .i64 0, .int .i64 0]) 2 16 Try.underlying34 HI.out HZ0.out HZ1.out HZ2.out rfl (by omega) v6 (0 + b + 1) ([] ++ pc (ys.take b) ++ [.int .i64 tt, .int .i64 ((l : Int) + 1)]) (by rfl) HO6.out (g' + 1) _ (i - (b + 2)) (c' - (b + 2)) (pc (ys.drop (b + 2))) (by rfl) (Reads.below HRb.out (HB6.out.mono (by omega))) (pc_oneCell _) (by unfold maxLen; omega) (by omega) (by first | omega | (simp; done) | (simp; omega)) ?_; intro v7 w7 hown7 hg7 hat7; obtain ⟨g7, c7, rfl, r1, r2, r3, r4⟩ := own_form2 hown7 (by omega); have bw7 := below_own hg7 HO6.out (Below.refl (wr.heap.size + 1) _) (Nat.le_refl _) (by first | omega | (simp; done) | (simp; omega)); have hS7a : w7.cell? ⟨wr.heap.size, 0, none⟩ = some (.int .i64 tt) := (bw7.cell (p := ⟨wr.heap.size, 0, none⟩) (Nat.lt_succ_self _)).trans hS6a; have hS7b : w7.cell? ⟨wr.heap.size, 1, none⟩ = some (.int .i64 ((l : Int) + 1)) := (bw7.cell (p := ⟨wr.heap.size, 1, none⟩) (Nat.lt_succ_self _)).trans hS6b; clear bw7; have HB7 : Hid (Below wr.heap.size wr w7) := below_own hg7 HO6.out HB6.out (Nat.le_succ _) (by first | omega | (simp; done) | (simp; omega)); have HO7 := Lib.hid hown7; clear hown7 hg7 hat7)))
            all_goals
              go_wp2
              have HO8 : Hid (w7.ownsRow w.heap.size 102 2 (.slice (some ⟨g7, 0, none⟩) (b + 1 + (i - (b + 2))) c7) (b + 1 + (i - (b + 2))) (pc (joined ys b l))) := by
                have h := own_mono HO7.out (Nat.le_trans hbw2 (Nat.le_succ _))
                have e : [] ++ pc (ys.take b) ++ [Value.int .i64 tt, Value.int .i64 ((l : Int) + 1)] ++ pc (ys.drop (b + 2)) = pc (joined ys b l) := by
                  rw [joined, HTT.out, pc_append, pc_cons]; simp
                rw [e, Nat.zero_add] at h
                exact h
              have HLj : Hid ((joined ys b l).length = b + 1 + (i - (b + 2))) := by rw [Hid, joined_length (by rw [HLy.out]; omega), HLy.out]; omega
              go_roundg f
              case measure => omega
              case rel => exact ⟨joined ys b l, b + 1 + (i - (b + 2)), l + 1, f, g7, c7, rfl, by go_num, by omega, by omega, by omega, r2, by omega, Nat.le_refl _, by omega, r4, HLj, HO8, HB.out.trans ((HBi.out.mono HB.out.size).trans (HB7.out.mono hbw2)), HC⟩
    · obtain rfl : l = 31 := by omega
      obtain rfl : f = 0 := by omega
      go_wp2
      go_ret
      exact newP_own HB.out HO.out (by rw [← HE.out]; rfl)
end Go.Proofs.Ytjapjfcennemeaa.lst
