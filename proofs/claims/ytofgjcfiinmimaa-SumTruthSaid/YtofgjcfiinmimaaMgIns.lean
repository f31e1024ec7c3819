/- Expire; Ins: texts in one. -/
import Derived.Test.YtofgjcfiinmimaaApp
import Derived.Deep.QuietTactic
import Derived.BigQuiet
import Derived.Deep.LoopGhost
import Derived.LoopTactic
import Derived.Outline
import Derived.Test.YtofgjcfiinmimaaMgGrown
import Derived.Test.YtofgjcfiinmimaaMgPutEq
import Derived.Test.YtofgjcfiinmimaaMgCountsR
import Derived.StillTailTactics
/- Contracts of buckets.Expire and of its reference. -/
namespace Go.Proofs.Ytofgjcfiinmimaa.lst
open Go.RowKit Go.Proofs.Ytofgjcfiinmimaa.mem
set_option linter.unusedVariables false

def expireL (f : Int) (xs : List (Int × Int)) : List (Int × Int) := xs.dropWhile (fun p => decide (p.1 < f))

/-- A slice of pairs that is handed back: it lies in the world w', below its size. -/
def PSlice (w' : World) (ys : List (Int × Int)) (v : Value) : Prop := ∃ A m c, v = .slice A m c ∧ m ≤ c ∧ c ≤ maxLen ∧ PRead w' w'.heap.size A m ys

def ExpireR (xs : List (Int × Int)) (f : Int) (w : World) (B : Nat) (e : Ending) (w' : World) : Prop :=
  ∃ A m c, e = .returned (.slice A m c) ∧ m ≤ c ∧ c ≤ maxLen ∧ PRead w B A m (expireL f xs) ∧ w = w'

theorem expireL_le (f : Int) (xs : List (Int × Int)) : (expireL f xs).length ≤ xs.length := (List.dropWhile_sublist _).length_le
theorem expire_yes {f : Int} {ys : List (Int × Int)} (h : (ys[0]?.getD (0, 0)).1 < f) (h0 : 0 < ys.length) : expireL f (ys.drop 1) = expireL f ys := by
  cases ys with
  | nil => simp at h0
  | cons y ys => simp at h; simp [expireL, List.dropWhile, h]
theorem expire_no {f : Int} {ys : List (Int × Int)} (h : f ≤ (ys[0]?.getD (0, 0)).1) (h0 : 0 < ys.length) : expireL f ys = ys := by
  cases ys with
  | nil => simp at h0
  | cons y ys => simp at h; simp [expireL, List.dropWhile, show ¬ y.1 < f from by omega]

set_option maxHeartbeats 2000000 in
theorem ExpireRef_any (A : Option Addr) (n c : Nat) (xs : List (Int × Int)) (f : Int) (w : World) (B : Nat) (h1 : PRead w B A n xs) (hnc : n ≤ c) (hcm : c ≤ maxLen) :
    Calls Try.prog 63 #[.slice A n c, .int .i64 f] w (ExpireR xs f w B) := by
  have hcm9 : c ≤ 9223372036854775807 := hcm
  clear hcm
  have H1 := Lib.hid h1
  clear h1
  go_enter Try.func63, Try.ntmps63
  go_wp2
  go_loop [0] (fun s => ∃ (m c' : Nat) (A' : Option Addr) (ys : List (Int × Int)), s = .slice A' m c' ∧ m ≤ c' ∧ c' ≤ 9223372036854775807 ∧ Hid (PRead w B A' m ys) ∧ Hid (expireL f ys = expireL f xs)) (fun s => match s with | .slice _ m _ => m | _ => 0)
  case atStart => exact ⟨n, c, A, xs, rfl, hnc, hcm9, H1, (rfl : expireL f xs = expireL f xs)⟩
  case round =>
    obtain ⟨m, c', A', ys, rfl, hmc, hcm', H, HE⟩ := hrel
    have hl := H.out.len
    have HL := Lib.hid hl
    clear hl
    by_cases hm : 0 < m
    · obtain ⟨ad, rfl, _, hc1, _⟩ := (H.out).at_ hm
      rw [show ad.add (0 * 2) = ad from by simp [Addr.add]] at hc1
      have hy := Lib.hid (expire_yes (f := f) (ys := ys))
      have hn := Lib.hid (expire_no (f := f) (ys := ys))
      generalize (ys[0]?.getD (0, 0)).1 = z at *
      by_cases hz : z < f
      · go_wp2
        refine ⟨⟨m - 1, c' - 1, _, ys.drop 1, rfl, by omega, by omega, H.out.tail hm hmc, (hy.out hz (by rw [HL.out]; exact hm)).trans HE.out⟩, by show m - 1 < m; omega⟩
      · go_wp2
        go_ret
        exact ⟨_, _, _, rfl, hmc, hcm', by rw [← HE.out, hn.out (by omega) (by rw [HL.out]; exact hm)]; exact H.out, rfl⟩
    · obtain rfl : m = 0 := by omega
      go_wp2
      go_ret
      have e : ys = [] := List.eq_nil_of_length_eq_zero HL.out
      subst e
      exact ⟨_, _, _, rfl, hmc, hcm', by rw [← HE.out]; exact H.out, rfl⟩

theorem bucket_info : (Try.prog.info? 87).map (fun i => (i.zero, i.size, i.bytes)) = some (some (.agg #[.int .i64 0, .int .i64 0]), 2, 16) := by kernel_rfl

set_option maxHeartbeats 2000000 in
theorem Expire_any (A : Option Addr) (n c : Nat) (xs : List (Int × Int)) (f : Int) (w : World) (h1 : PRead w w.heap.size A n xs) (hnc : n ≤ c) (hcm : c ≤ maxLen) (hsmall : n ≤ 65536) :
    Calls Try.prog 60 #[.slice A n c, .int .i64 f] w (NewP (expireL f xs) w) := by
  have hcm9 : c ≤ 9223372036854775807 := hcm
  clear hcm
  have H1 := Lib.hid h1
  clear h1
  obtain ⟨i0, hi0, hz0, hz1, hz2⟩ := info_parts bucket_info
  have HI := Lib.hid hi0
  have HZ0 := Lib.hid hz0
  have HZ1 := Lib.hid hz1
  have HZ2 := Lib.hid hz2
  clear hi0 hz0 hz1 hz2
  go_enter Try.func60, Try.ntmps60
  go_wp2
  go_loop [0] (fun s => ∃ (m c' : Nat) (A' : Option Addr) (ys : List (Int × Int)), s = .slice A' m c' ∧ m ≤ n ∧ m ≤ c' ∧ c' ≤ 9223372036854775807 ∧ Hid (PRead w w.heap.size A' m ys) ∧ Hid (expireL f ys = expireL f xs)) (fun s => match s with | .slice _ m _ => m | _ => 0)
  case atStart => exact ⟨n, c, A, xs, rfl, Nat.le_refl _, hnc, hcm9, H1, (rfl : expireL f xs = expireL f xs)⟩
  case round =>
    obtain ⟨m, c', A', ys, rfl, hmn, hmc, hcm', H, HE⟩ := hrel
    have hl := H.out.len
    have HL := Lib.hid hl
    clear hl
    have HA : Hid (∀ b, Reads (w.alloc b) (w.alloc b).heap.size 2 A' m (pc ys)) := fun b => (H.out.alloc (Nat.le_refl _) b).more (by simp)
    by_cases hm : 0 < m
    · obtain ⟨ad, rfl, _, hc1, _⟩ := (H.out).at_ hm
      rw [show ad.add (0 * 2) = ad from by simp [Addr.add]] at hc1
      have hy := Lib.hid (expire_yes (f := f) (ys := ys))
      have hn := Lib.hid (expire_no (f := f) (ys := ys))
      generalize (ys[0]?.getD (0, 0)).1 = z at *
      by_cases hz : z < f
      · go_wp2
        refine ⟨⟨m - 1, c' - 1, _, ys.drop 1, rfl, by omega, by omega, by omega, H.out.tail hm hmc, (hy.out hz (by rw [HL.out]; exact hm)).trans HE.out⟩, by show m - 1 < m; omega⟩
      · go_wp2_with (at_builtin; refine wpList_append_any _ rfl (.tmp 18) (.tmp 19) 22 rfl w.heap.size 87 i0 (.agg #[.int .i64 0, .int .i64 0]) 2 16 Try.underlying22 HI.out HZ0.out HZ1.out HZ2.out rfl (by omega) (.slice (some ⟨w.heap.size, 0, none⟩) 0 0) 0 [] rfl (own_empty w 87) _ (some ad) m c' (pc ys) rfl (HA.out _) (pc_oneCell ys) (by unfold maxLen; omega) (by omega) (by simp) ?_; intro v1 w1 hown1 hg1 hat1)
        go_ret
        exact newP_of_own ((Below.refl _ _).alloc (Nat.le_refl _) _) hown1 (by rw [← HE.out, hn.out (by omega) (by rw [HL.out]; exact hm)]; rfl) hg1 (by simp [Value.ownBlock])
    · obtain rfl : m = 0 := by omega
      go_wp2_with (at_builtin; refine wpList_append_any _ rfl (.tmp 18) (.tmp 19) 22 rfl w.heap.size 87 i0 (.agg #[.int .i64 0, .int .i64 0]) 2 16 Try.underlying22 HI.out HZ0.out HZ1.out HZ2.out rfl (by omega) (.slice (some ⟨w.heap.size, 0, none⟩) 0 0) 0 [] rfl (own_empty w 87) _ A' 0 c' (pc ys) rfl (HA.out _) (pc_oneCell ys) (by unfold maxLen; omega) (by omega) (by simp) ?_; intro v1 w1 hown1 hg1 hat1)
      go_ret
      have e : ys = [] := List.eq_nil_of_length_eq_zero HL.out
      exact newP_of_own ((Below.refl _ _).alloc (Nat.le_refl _) _) hown1 (by rw [← HE.out, e]; rfl) hg1 (by simp [Value.ownBlock])
end Go.Proofs.Ytofgjcfiinmimaa.lst

/- Contract of buckets.insert: in place, on a row of the caller's own. -/
namespace Go.Proofs.Ytofgjcfiinmimaa.lst
open Go.RowKit Go.Proofs.Ytofgjcfiinmimaa.mem Go.Proofs.Ytofgjcfiinmimaa.buk
set_option linter.unusedVariables false

/-- What comes back as a row of the caller's own. -/
def OwnP (base : Nat) (ys : List (Int × Int)) (w : World) (e : Ending) (w' : World) : Prop :=
  ∃ v, e = .returned v ∧ w'.ownsRow base 87 2 v ys.length (pc ys) ∧ Below base w w'

set_option maxHeartbeats 4000000 in
set_option maxRecDepth 100000 in
theorem insert_any (A : Option Addr) (n c : Nat) (xs : List (Int × Int)) (k : Nat) (t : Int) (base : Nat) (w : World) (hown : w.ownsRow base 87 2 (.slice A n c) n (pc xs)) (hbase : base ≤ w.heap.size)
    (hsmall : n ≤ 65000) (hk1 : 1 ≤ k) (hk2 : k ≤ 128) :
    Calls Try.prog 93 #[.slice A n c, .int .i64 k, .int .i64 t] w (OwnP base (insC xs k t) w) := by
  have hl : xs.length = n := by have := hown.1; rw [pc_length] at this; omega
  have HL := Lib.hid hl
  have HO := Lib.hid hown
  clear hown hl
  obtain ⟨i0, hi0, hz0, hz1, hz2⟩ := info_parts bucket_info
  have HI := Lib.hid hi0
  have HZ0 := Lib.hid hz0
  have HZ1 := Lib.hid hz1
  have HZ2 := Lib.hid hz2
  clear hi0 hz0 hz1 hz2
  go_enter Try.func93, Try.ntmps93
  go_wp2_with (at_builtin; go_loud (refine wpList_append_any _ rfl (.tmp 10) (.tmp 13) 22 rfl base 87 i0 (.agg #[.int .i64 0, .int .i64 0]) 2 16 Try.underlying22 HI.out HZ0.out HZ1.out HZ2.out rfl (by omega) (.slice A n c) n (pc xs) rfl (own_alloc HO.out _) _ _ 1 1 _ rfl (reads_new _ _ _ rfl) (by simp [Value.oneCell']) (by unfold maxLen; omega) (by omega) (by simp; omega) ?_); intro v1 w1 hown1 hg1 hat1; obtain ⟨g1, c1, rfl, q1, q2, q3, q4⟩ := own_form2 hown1 (by omega); have HB1 := Lib.hid (below_box2 hbase HO.out hg1); have HO1 := Lib.hid hown1; clear hown1 hg1 hat1)
  have hk0 : base ≤ w1.heap.size := Nat.le_trans hbase HB1.out.size
  have HK0 : Hid (w1.ownsRow base 87 2 (.slice (some ⟨g1, 0, none⟩) (n + 1) c1) (n + 1) (pc (xs ++ [(t, 0)]))) := by
    have := HO1.out; rw [Hid, pc_append]; exact this
  clear HO1 HO
  go_loopg [0, 7, 8] (n + 1) (fun kx s0 s7 s8 wr => ∃ (ys : List (Int × Int)) (m l e f g' c' : Nat), s0 = .slice (some ⟨g', 0, none⟩) m c' ∧ s7 = .int .i64 e ∧ s8 = .int .i64 l ∧ e ≤ m ∧ 1 ≤ m ∧ m ≤ c' ∧ c' ≤ 9223372036854775807 ∧ m ≤ kx ∧ m ≤ f ∧ l + m ≤ n + 1 ∧
    base ≤ wr.heap.size ∧ base ≤ g' ∧ Hid (ys.length = m) ∧ Hid (wr.ownsRow base 87 2 (.slice (some ⟨g', 0, none⟩) m c') m (pc ys)) ∧ Hid (Below base w wr) ∧ Hid (casc k f ys l e = insC xs k t))
  case atStart => exact ⟨xs ++ [(t, 0)], n + 1, 0, n + 1, n + 1, g1, c1, rfl, by go_num, rfl, Nat.le_refl _, by omega, q1, q2, Nat.le_refl _, Nat.le_refl _, by omega, hk0, q3, (by have := HL.out; simp [Hid]; omega), HK0, HB1, (by have := HL.out; subst this; rfl)⟩
  case round =>
    obtain ⟨ys, m, l, e, f, g', c', rfl, rfl, rfl, he, hm1, hmc, hcm, hmk, hmf, hlm, hbw, hgb, HLy, HO, HB, HE⟩ := hrel
    clear HK0 HB1 HL hk0
    go_wp2_with fail
    go_loop [9] (fun s9 => ∃ b : Nat, s9 = .int .i64 b ∧ b ≤ e ∧ Hid (runB ys l e = runB ys l b)) (fun s9 => (intOf s9).toNat)
    case atStart => exact ⟨e, rfl, Nat.le_refl _, (rfl : runB ys l e = runB ys l e)⟩
    case round =>
      obtain ⟨b, rfl, hb, HR⟩ := hrel
      by_cases h0 : 0 < b
      · obtain ⟨hc1, hc2⟩ := own_pair HO.out (show b - 1 < m by omega)
        have hlv : (b : Int) - 1 = ((b - 1 : Nat) : Int) := by omega
        by_cases hv : (at_ ys (b - 1)).2 = (l : Int)
        · change wr.cell? ⟨g', (b - 1) * 2 + 1, none⟩ = some (.int .i64 (at_ ys (b - 1)).2) at hc2
          rw [hv] at hc2
          have HR2 : Hid (runB ys l e = runB ys l (b - 1)) := by
            have := HR.out
            obtain ⟨b', rfl⟩ : ∃ b', b = b' + 1 := ⟨b - 1, by omega⟩
            rw [Hid, this, runB]
            rw [Nat.add_sub_cancel] at hv ⊢
            rw [if_pos hv]
          clear hv hlv
          go_wp2
          refine ⟨⟨b - 1, by go_num, by omega, HR2.out⟩, by simp [intOf]; omega⟩
        · have HRb : Hid (runB ys l e = b) := by
            have := HR.out
            obtain ⟨b', rfl⟩ : ∃ b', b = b' + 1 := ⟨b - 1, by omega⟩
            rw [Hid, this, runB]
            rw [Nat.add_sub_cancel] at hv
            rw [if_neg hv]
          have hv2 : ((at_ ys (b - 1)).2 == (l : Int)) = false := by simpa using hv
          change wr.cell? ⟨g', (b - 1) * 2 + 1, none⟩ = some (.int .i64 (at_ ys (b - 1)).2) at hc2
          generalize (at_ ys (b - 1)).2 = lv at *
          by_cases hst : e - b < k + 2
          · have HC : Hid (insC xs k t = ys) := by rw [Hid, ← HE.out, casc_stop (by rw [HRb.out]; exact hst)]
            have hst2 : (e : Int) - b < k + 2 := by omega
            clear hst
            go_wp2
            go_ret
            exact ⟨_, rfl, by rw [HC.out, HLy.out]; exact HO.out, HB.out⟩
          · obtain ⟨f, rfl⟩ : ∃ f', f = f' + 1 := ⟨f - 1, by omega⟩
            have HC : Hid (casc k f (joined ys b l) (l + 1) (b + 1) = insC xs k t) := by
              have := HE.out
              rw [casc_go (by rw [HRb.out]; exact hst), HRb.out] at this
              exact this
            have hst2 : (k : Int) + 2 ≤ (e : Int) - b := by omega
            obtain ⟨d1, d2⟩ := own_pair HO.out (show b + 1 < m by omega)
            obtain ⟨d3, d4⟩ := own_pair HO.out (show b < m by omega)
            have f1 := HO.out.frozenAt (b * 2)
            have f2 := HO.out.frozenAt (b * 2 + 1)
            clear d2 hst
            change wr.cell? ⟨g', (b + 1) * 2, none⟩ = some (.int .i64 (at_ ys (b + 1)).1) at d1
            generalize htt : (at_ ys (b + 1)).1 = tt at d1
            have HTT := Lib.hid htt
            clear htt
            go_wp2_with fail
            have HO2 := Lib.hid (own_store2 HO.out b tt ((l : Int) + 1))
            have HB2 : Hid (Below base w ((wr.setCell ⟨g', b * 2, none⟩ (.int .i64 tt)).setCell ⟨g', b * 2 + 1, none⟩ (.int .i64 ((l : Int) + 1)))) := (HB.out.setCell (p := ⟨g', b * 2, none⟩) hgb _).setCell (p := ⟨g', b * 2 + 1, none⟩) hgb _
            have hbw2 : base ≤ ((wr.setCell ⟨g', b * 2, none⟩ (.int .i64 tt)).setCell ⟨g', b * 2 + 1, none⟩ (.int .i64 ((l : Int) + 1))).heap.size := by simpa [World.setCell] using hbw
            generalize (wr.setCell ⟨g', b * 2, none⟩ (.int .i64 tt)).setCell ⟨g', b * 2 + 1, none⟩ (.int .i64 ((l : Int) + 1)) = W2 at *
            clear d1 d3 d4 f1 f2
            have s1 : IntKind.i64.wrap ((b : Int) + 1) = (b : Int) + 1 := IntWalk.i64_in _ (by omega)
            have s2 : IntKind.i64.wrap ((b : Int) + 2) = (b : Int) + 2 := IntWalk.i64_in _ (by omega)
            have s3 : ((b : Int) + 1).toNat = b + 1 := by omega
            have s4 : ((b : Int) + 2).toNat = b + 2 := by omega
            have s5 : (b : Int) + 1 ≤ c' := by omega
            have s6 : (b : Int) + 2 ≤ m := by omega
            have s7 : 0 ≤ (b : Int) + 1 := by omega
            have s8 : 0 ≤ (b : Int) + 2 := by omega
            have s9 : (m : Int) ≤ c' := by omega
            go_still_tail 8, (by kernel_rfl)
            change wpList _ _ _ _ _ W2.drew
            have HO3 : Hid (W2.drew.ownsRow base 87 2 (.slice (some ⟨g', 0, none⟩) m c') m (pc (ys.set b (tt, (l : Int) + 1)))) := HO2.out.drew
            have HB3 : Hid (Below base w W2.drew) := HB2.out.drew
            have hbw3 : base ≤ W2.drew.heap.size := hbw2
            clear s1 s2 s3 s4 s5 s6 s7 s8 s9 HO2 HB2 hbw2
            generalize W2.drew = W3 at *
            go_wp2_with (at_builtin; refine wpList_append_any _ rfl (.tmp 56) (.tmp 60) 22 rfl base 87 i0 (.agg #[.int .i64 0, .int .i64 0]) 2 16 Try.underlying22 HI.out HZ0.out HZ1.out HZ2.out rfl (by omega) (.slice (some ⟨g', 0, none⟩) (b + 1) c') (b + 1) _ rfl (own_prefix HO3.out (by omega)) _ _ (m - (b + 2)) (c' - (b + 2)) _ rfl (own_cut HO3.out (by omega) hmc) (by rw [← pc_drop]; exact pc_oneCell _) (by unfold maxLen; omega) (by omega) hbw3 ?_; intro v4 w4 hown4 hg4 hat4; obtain ⟨g4, c4, rfl, r1, r2, r3, r4⟩ := own_form2 hown4 (by omega); have HB4 := Lib.hid (HB3.out.grown hg4 hbw3 (fun g hg => by simp [Value.ownBlock] at hg; omega)); have HO4 := Lib.hid hown4; clear hown4 hg4)
            have HO5 : Hid (w4.ownsRow base 87 2 (.slice (some ⟨g4, 0, none⟩) (b + 1 + (m - (b + 2))) c4) (b + 1 + (m - (b + 2))) (pc (joined ys b l))) := by
              have h := HO4.out
              rw [← pc_take, ← pc_drop, ← pc_append, ← HTT.out, joined_eq (by rw [HLy.out]; omega)] at h
              exact h
            have HLj : Hid ((joined ys b l).length = b + 1 + (m - (b + 2))) := by rw [Hid, joined_length (by rw [HLy.out]; omega), HLy.out]; omega
            have hbw4 : base ≤ w4.heap.size := by omega
            go_roundg (m - 1)
            case measure => omega
            case rel => exact ⟨joined ys b l, b + 1 + (m - (b + 2)), l + 1, b + 1, f, g4, c4, rfl, by go_num, by go_num, by omega, by omega, r1, r2, by omega, by omega, by omega, hbw4, r3, HLj, HO5, HB4, HC⟩
      · have HRb : Hid (runB ys l e = b) := by
          have h1 := HR.out
          have e0 : b = 0 := by omega
          rw [Hid, h1, e0]
          rfl
        have hb0 : (b : Int) ≤ 0 := by omega
        by_cases hst : e - b < k + 2
        · have HC : Hid (insC xs k t = ys) := by rw [Hid, ← HE.out, casc_stop (by rw [HRb.out]; exact hst)]
          have hst2 : (e : Int) - b < k + 2 := by omega
          clear hst
          go_wp2
          go_ret
          exact ⟨_, rfl, by rw [HC.out, HLy.out]; exact HO.out, HB.out⟩
        · obtain ⟨f, rfl⟩ : ∃ f', f = f' + 1 := ⟨f - 1, by omega⟩
          have HC : Hid (casc k f (joined ys b l) (l + 1) (b + 1) = insC xs k t) := by
            have := HE.out
            rw [casc_go (by rw [HRb.out]; exact hst), HRb.out] at this
            exact this
          have hst2 : (k : Int) + 2 ≤ (e : Int) - b := by omega
          obtain ⟨d1, d2⟩ := own_pair HO.out (show b + 1 < m by omega)
          obtain ⟨d3, d4⟩ := own_pair HO.out (show b < m by omega)
          have f1 := HO.out.frozenAt (b * 2)
          have f2 := HO.out.frozenAt (b * 2 + 1)
          clear d2 hst
          change wr.cell? ⟨g', (b + 1) * 2, none⟩ = some (.int .i64 (at_ ys (b + 1)).1) at d1
          generalize htt : (at_ ys (b + 1)).1 = tt at d1
          have HTT := Lib.hid htt
          clear htt
          go_wp2_with fail
          have HO2 := Lib.hid (own_store2 HO.out b tt ((l : Int) + 1))
          have HB2 : Hid (Below base w ((wr.setCell ⟨g', b * 2, none⟩ (.int .i64 tt)).setCell ⟨g', b * 2 + 1, none⟩ (.int .i64 ((l : Int) + 1)))) := (HB.out.setCell (p := ⟨g', b * 2, none⟩) hgb _).setCell (p := ⟨g', b * 2 + 1, none⟩) hgb _
          have hbw2 : base ≤ ((wr.setCell ⟨g', b * 2, none⟩ (.int .i64 tt)).setCell ⟨g', b * 2 + 1, none⟩ (.int .i64 ((l : Int) + 1))).heap.size := by simpa [World.setCell] using hbw
          generalize (wr.setCell ⟨g', b * 2, none⟩ (.int .i64 tt)).setCell ⟨g', b * 2 + 1, none⟩ (.int .i64 ((l : Int) + 1)) = W2 at *
          clear d1 d3 d4 f1 f2
          have s1 : IntKind.i64.wrap ((b : Int) + 1) = (b : Int) + 1 := IntWalk.i64_in _ (by omega)
          have s2 : IntKind.i64.wrap ((b : Int) + 2) = (b : Int) + 2 := IntWalk.i64_in _ (by omega)
          have s3 : ((b : Int) + 1).toNat = b + 1 := by omega
          have s4 : ((b : Int) + 2).toNat = b + 2 := by omega
          have s5 : (b : Int) + 1 ≤ c' := by omega
          have s6 : (b : Int) + 2 ≤ m := by omega
          have s7 : 0 ≤ (b : Int) + 1 := by omega
          have s8 : 0 ≤ (b : Int) + 2 := by omega
          have s9 : (m : Int) ≤ c' := by omega
          go_still_tail 8, (by kernel_rfl)
          change wpList _ _ _ _ _ W2.drew
          have HO3 : Hid (W2.drew.ownsRow base 87 2 (.slice (some ⟨g', 0, none⟩) m c') m (pc (ys.set b (tt, (l : Int) + 1)))) := HO2.out.drew
          have HB3 : Hid (Below base w W2.drew) := HB2.out.drew
          have hbw3 : base ≤ W2.drew.heap.size := hbw2
          clear s1 s2 s3 s4 s5 s6 s7 s8 s9 HO2 HB2 hbw2
          generalize W2.drew = W3 at *
          go_wp2_with (at_builtin; refine wpList_append_any _ rfl (.tmp 56) (.tmp 60) 22 rfl base 87 i0 (.agg #[.int .i64 0, .int .i64 0]) 2 16 Try.underlying22 HI.out HZ0.out HZ1.out HZ2.out rfl (by omega) (.slice (some ⟨g', 0, none⟩) (b + 1) c') (b + 1) _ rfl (own_prefix HO3.out (by omega)) _ _ (m - (b + 2)) (c' - (b + 2)) _ rfl (own_cut HO3.out (by omega) hmc) (by rw [← pc_drop]; exact pc_oneCell _) (by unfold maxLen; omega) (by omega) hbw3 ?_; intro v4 w4 hown4 hg4 hat4; obtain ⟨g4, c4, rfl, r1, r2, r3, r4⟩ := own_form2 hown4 (by omega); have HB4 := Lib.hid (HB3.out.grown hg4 hbw3 (fun g hg => by simp [Value.ownBlock] at hg; omega)); have HO4 := Lib.hid hown4; clear hown4 hg4)
          have HO5 : Hid (w4.ownsRow base 87 2 (.slice (some ⟨g4, 0, none⟩) (b + 1 + (m - (b + 2))) c4) (b + 1 + (m - (b + 2))) (pc (joined ys b l))) := by
            have h := HO4.out
            rw [← pc_take, ← pc_drop, ← pc_append, ← HTT.out, joined_eq (by rw [HLy.out]; omega)] at h
            exact h
          have HLj : Hid ((joined ys b l).length = b + 1 + (m - (b + 2))) := by rw [Hid, joined_length (by rw [HLy.out]; omega), HLy.out]; omega
          have hbw4 : base ≤ w4.heap.size := by omega
          go_roundg (m - 1)
          case measure => omega
          case rel => exact ⟨joined ys b l, b + 1 + (m - (b + 2)), l + 1, b + 1, f, g4, c4, rfl, by go_num, by go_num, by omega, by omega, r1, r2, by omega, by omega, by omega, hbw4, r3, HLj, HO5, HB4, HC⟩
end Go.Proofs.Ytofgjcfiinmimaa.lst
