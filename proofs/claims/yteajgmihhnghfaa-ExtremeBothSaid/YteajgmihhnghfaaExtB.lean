/- Contract of Add of the deque, at any state. -/
import Derived.Test.YteajgmihhnghfaaExtA
namespace Go.Proofs.Yteajgmihhnghfaa.ext
open Go.RowKit Go.Proofs.Yteajgmihhnghfaa.mem Go.Proofs.Yteajgmihhnghfaa.gro
open Go.Proofs.Yteajgmihhnghfaa.buk (at_)
open Go.Proofs.Yteajgmihhnghfaa.lst (own_new)
set_option linter.unusedVariables false
set_option linter.unusedSimpArgs false
def popN (m : Bool) (x : Int) (xs : L2) : Nat → Nat
  | 0 => 0
  | i + 1 => if key m (at_ xs i).2 ≤ key m x then popN m x xs i else i + 1
def pushB (m : Bool) (x o : Int) (xs : L2) : Bool := decide (popN m x xs xs.length = 0) || decide ((at_ xs (popN m x xs xs.length - 1)).1 < o)
def addL (m : Bool) (x o : Int) (xs : L2) : L2 := if pushB m x o xs = true then xs.take (popN m x xs xs.length) ++ [(o, x)] else xs.take (popN m x xs xs.length)
def fullE (m : Bool) (x o p : Int) (xs : L2) : Bool := pushB m x o xs && decide (((popN m x xs xs.length : Nat) : Int) = p)
def addEr (a b c : Bool) : Int := if a = true then (if b = true then (if c = true then 5 else 0) else 4) else 2
theorem addEr_f (b c : Bool) : addEr false b c = 2 := rfl
theorem addEr_r (c : Bool) : addEr true false c = 4 := rfl
theorem addEr_u : addEr true true true = 5 := rfl
theorem addEr_0 : addEr true true false = 0 := rfl
theorem pop_yes {m : Bool} {x : Int} {xs : L2} {i : Nat} (h : 0 < i) (h2 : key m (at_ xs (i - 1)).2 ≤ key m x) : popN m x xs i = popN m x xs (i - 1) := by
  obtain ⟨j, rfl⟩ : ∃ j, i = j + 1 := ⟨i - 1, by omega⟩
  simp only [Nat.add_sub_cancel] at h2 ⊢
  rw [popN, if_pos h2]
theorem pop_no {m : Bool} {x : Int} {xs : L2} {i : Nat} (h : 0 < i) (h2 : ¬ key m (at_ xs (i - 1)).2 ≤ key m x) : popN m x xs i = i := by
  obtain ⟨j, rfl⟩ : ∃ j, i = j + 1 := ⟨i - 1, by omega⟩
  simp only [Nat.add_sub_cancel] at h2
  rw [popN, if_neg h2]
theorem add_push0 {m : Bool} {x o p : Int} {xs : L2} (h : popN m x xs xs.length = 0) (hp : 1 ≤ p) : fullE m x o p xs = false ∧ addL m x o xs = [(o, x)] := by
  have h1 : pushB m x o xs = true := by unfold pushB; rw [h]; rfl
  refine ⟨?_, by unfold addL; rw [if_pos h1, h]; rfl⟩
  unfold fullE; rw [h1, h, decide_eq_false (by omega)]; rfl
theorem add_push {m : Bool} {x o p : Int} {xs : L2} {k : Nat} (h : popN m x xs xs.length = k) (h2 : (at_ xs (k - 1)).1 < o) : fullE m x o p xs = decide ((k : Int) = p) ∧ addL m x o xs = xs.take k ++ [(o, x)] := by
  have h1 : pushB m x o xs = true := by unfold pushB; rw [h, decide_eq_true h2, Bool.or_true]
  refine ⟨by unfold fullE; rw [h1, h, Bool.true_and], by unfold addL; rw [if_pos h1, h]⟩
theorem add_stay {m : Bool} {x o p : Int} {xs : L2} {k : Nat} (h : popN m x xs xs.length = k) (h0 : 0 < k) (h2 : ¬ (at_ xs (k - 1)).1 < o) : fullE m x o p xs = false ∧ addL m x o xs = xs.take k := by
  have h1 : pushB m x o xs = false := by unfold pushB; rw [h, decide_eq_false h2, decide_eq_false (by omega)]; rfl
  refine ⟨by unfold fullE; rw [h1]; rfl, by unfold addL; rw [h1, h]; rfl⟩
theorem at_take {xs : L2} {b i : Nat} (h : i < b) : at_ (xs.take b) i = at_ xs i := by simp [at_, h]
set_option maxHeartbeats 8000000 in
set_option maxRecDepth 100000 in
theorem Add_f (m : Bool) (v p o x : Int) (A : Option Addr) (n c : Nat) (xs : L2) (w : World) (h1 : PRead w w.heap.size A n xs) (hnc : n ≤ c) (hcm : c ≤ maxLen) (hsmall : n ≤ 2000) :
    Calls Try.prog 16 #[.agg #[Value.bool m, Value.int IntKind.i64 v, Value.int IntKind.i64 p, Value.int IntKind.i64 o, Value.slice A n c], .int .i64 x] w (NewE (kb (valE m v p o xs && valB x && !fullE m x o p xs) m) (kp (valE m v p o xs && valB x && !fullE m x o p xs) v) (kp (valE m v p o xs && valB x && !fullE m x o p xs) p) (kp (valE m v p o xs && valB x && !fullE m x o p xs) o) (lsK (valE m v p o xs && valB x && !fullE m x o p xs) (addL m x o xs)) (addEr (valE m v p o xs) (valB x) (fullE m x o p xs)) w) := by
  have hcm9 : c ≤ 9223372036854775807 := hcm
  have HV := Lib.hid (fun W (hb : Below w.heap.size w W) => Validate_any m v p o A n c xs W ((h1.below hb).more hb.size) (by omega))
  have hft := Lib.hid (fun h : valE m v p o xs = true => (valE_iff.1 h).1)
  have hbx := Lib.hid (fun h : valE m v p o xs = true => valE_facts h)
  have H1 := Lib.hid h1
  have HLn := Lib.hid h1.len
  clear h1 hcm
  generalize valE m v p o xs = ft at *
  cases ft
  case false =>
    clear hft H1 HLn hbx
    simp only [addEr_f, addEr_r, addEr_u, addEr_0, Bool.not_true, Bool.not_false, erV_t, erV_f, kp_t, kp_f, kb_t, kb_f, lsK_t, lsK_f, advE_t, advE_f, okT_3, okT_0, Bool.false_and, Bool.true_and, Bool.and_false, Bool.and_true] at *
    go_enter Try.func16, Try.ntmps16
    go_wp2_with fail
    obtain ⟨W0, hW, hs0, K0, B0⟩ := start2 w 24 24 #[Value.bool m, Value.int IntKind.i64 v, Value.int IntKind.i64 p, Value.int IntKind.i64 o, Value.slice A n c] #[Value.bool false, Value.int IntKind.i64 0, Value.int IntKind.i64 0, Value.int IntKind.i64 0, Value.slice none 0 0]
    rw [hW]
    clear hW
    have KK := Lib.hid K0
    have BB := Lib.hid B0
    have sz : w.heap.size + 1 + 1 ≤ W0.heap.size := by omega
    have R := K0.rules
    simp only [Rules] at R
    clear K0 B0 hs0
    (with_reducible refine (HV.out _ BB.out).mono ?_)
    rintro e wv ⟨rfl, hbv⟩
    replace BB := Lib.hid (BB.out.trans (hbv.mono BB.out.size))
    replace KK := Lib.hid (KK.out.below hbv)
    replace sz := Nat.le_trans sz hbv.size
    replace R := KK.out.rules
    simp only [Rules] at R
    clear hbv
    go_wp2
    refine bodyPost_ret (v := Value.tuple #[.agg #[Value.bool false, Value.int IntKind.i64 0, Value.int IntKind.i64 0, Value.int IntKind.i64 0, Value.slice none 0 0], .int .i64 2]) (by simp [results, Try.results16, go_sem, R]) rfl ⟨none, 0, 0, rfl, Nat.le_refl _, ⟨Nat.zero_le _, fun ad h => by cases h⟩, PRead.nil_, ?_⟩
    exact (((((BB.out.setCell (by first | (simp; done) | (simp; omega)) _).setCell (by first | (simp; done) | (simp; omega)) _).setCell (by first | (simp; done) | (simp; omega)) _).setCell (by first | (simp; done) | (simp; omega)) _).setCell (by first | (simp; done) | (simp; omega)) _)
  have hp1 := (mayB_iff.1 (hft.out rfl)).2.1
  obtain ⟨ho, _, _⟩ := hbx.out rfl
  clear hft hbx
  rcases Bool.eq_false_or_eq_true (valB x) with hv | hv
  case inr =>
    rw [hv]
    rw [valB_iff0] at hv
    clear H1 HLn ho hp1
    by_cases q1 : x < -4096
    · skip
      simp only [addEr_f, addEr_r, addEr_u, addEr_0, Bool.not_true, Bool.not_false, erV_t, erV_f, kp_t, kp_f, kb_t, kb_f, lsK_t, lsK_f, advE_t, advE_f, okT_3, okT_0, Bool.false_and, Bool.true_and, Bool.and_false, Bool.and_true] at *
      go_enter Try.func16, Try.ntmps16
      go_wp2_with fail
      obtain ⟨W0, hW, hs0, K0, B0⟩ := start2 w 24 24 #[Value.bool m, Value.int IntKind.i64 v, Value.int IntKind.i64 p, Value.int IntKind.i64 o, Value.slice A n c] #[Value.bool false, Value.int IntKind.i64 0, Value.int IntKind.i64 0, Value.int IntKind.i64 0, Value.slice none 0 0]
      rw [hW]
      clear hW
      have KK := Lib.hid K0
      have BB := Lib.hid B0
      have sz : w.heap.size + 1 + 1 ≤ W0.heap.size := by omega
      have R := K0.rules
      simp only [Rules] at R
      clear K0 B0 hs0
      (with_reducible refine (HV.out _ BB.out).mono ?_)
      rintro e wv ⟨rfl, hbv⟩
      replace BB := Lib.hid (BB.out.trans (hbv.mono BB.out.size))
      replace KK := Lib.hid (KK.out.below hbv)
      replace sz := Nat.le_trans sz hbv.size
      replace R := KK.out.rules
      simp only [Rules] at R
      clear hbv
      go_wp2
      refine bodyPost_ret (v := Value.tuple #[.agg #[Value.bool false, Value.int IntKind.i64 0, Value.int IntKind.i64 0, Value.int IntKind.i64 0, Value.slice none 0 0], .int .i64 4]) (by simp [results, Try.results16, go_sem, R]) rfl ⟨none, 0, 0, rfl, Nat.le_refl _, ⟨Nat.zero_le _, fun ad h => by cases h⟩, PRead.nil_, ?_⟩
      exact (((((BB.out.setCell (by first | (simp; done) | (simp; omega)) _).setCell (by first | (simp; done) | (simp; omega)) _).setCell (by first | (simp; done) | (simp; omega)) _).setCell (by first | (simp; done) | (simp; omega)) _).setCell (by first | (simp; done) | (simp; omega)) _)
    have q2 : 4096 < x := by omega
    simp only [addEr_f, addEr_r, addEr_u, addEr_0, Bool.not_true, Bool.not_false, erV_t, erV_f, kp_t, kp_f, kb_t, kb_f, lsK_t, lsK_f, advE_t, advE_f, okT_3, okT_0, Bool.false_and, Bool.true_and, Bool.and_false, Bool.and_true] at *
    go_enter Try.func16, Try.ntmps16
    go_wp2_with fail
    obtain ⟨W0, hW, hs0, K0, B0⟩ := start2 w 24 24 #[Value.bool m, Value.int IntKind.i64 v, Value.int IntKind.i64 p, Value.int IntKind.i64 o, Value.slice A n c] #[Value.bool false, Value.int IntKind.i64 0, Value.int IntKind.i64 0, Value.int IntKind.i64 0, Value.slice none 0 0]
    rw [hW]
    clear hW
    have KK := Lib.hid K0
    have BB := Lib.hid B0
    have sz : w.heap.size + 1 + 1 ≤ W0.heap.size := by omega
    have R := K0.rules
    simp only [Rules] at R
    clear K0 B0 hs0
    (with_reducible refine (HV.out _ BB.out).mono ?_)
    rintro e wv ⟨rfl, hbv⟩
    replace BB := Lib.hid (BB.out.trans (hbv.mono BB.out.size))
    replace KK := Lib.hid (KK.out.below hbv)
    replace sz := Nat.le_trans sz hbv.size
    replace R := KK.out.rules
    simp only [Rules] at R
    clear hbv
    go_wp2
    refine bodyPost_ret (v := Value.tuple #[.agg #[Value.bool false, Value.int IntKind.i64 0, Value.int IntKind.i64 0, Value.int IntKind.i64 0, Value.slice none 0 0], .int .i64 4]) (by simp [results, Try.results16, go_sem, R]) rfl ⟨none, 0, 0, rfl, Nat.le_refl _, ⟨Nat.zero_le _, fun ad h => by cases h⟩, PRead.nil_, ?_⟩
    exact (((((BB.out.setCell (by first | (simp; done) | (simp; omega)) _).setCell (by first | (simp; done) | (simp; omega)) _).setCell (by first | (simp; done) | (simp; omega)) _).setCell (by first | (simp; done) | (simp; omega)) _).setCell (by first | (simp; done) | (simp; omega)) _)
  rw [hv]
  rw [valB_iff] at hv
  have q1 : ¬ x < -4096 := by omega
  have q2 : ¬ 4096 < x := by omega
  obtain ⟨ok, hok⟩ : ∃ b, fullE m x o p xs = b := ⟨_, rfl⟩
  rw [hok]
  have HOK := Lib.hid hok
  clear hok hv
  obtain ⟨i0, hi0, hz0, hz1, hz2⟩ := info_parts item_info
  have HI := Lib.hid hi0
  have HZ0 := Lib.hid hz0
  have HZ1 := Lib.hid hz1
  have HZ2 := Lib.hid hz2
  clear hi0 hz0 hz1 hz2
  simp only [addEr_f, addEr_r, addEr_u, addEr_0, Bool.not_true, Bool.not_false, erV_t, erV_f, kp_t, kp_f, kb_t, kb_f, lsK_t, lsK_f, advE_t, advE_f, okT_3, okT_0, Bool.false_and, Bool.true_and, Bool.and_false, Bool.and_true] at HV ⊢
  go_enter Try.func16, Try.ntmps16
  go_wp2_with fail
  obtain ⟨W0, hW, hs0, K0, B0⟩ := start2 w 24 24 #[Value.bool m, Value.int IntKind.i64 v, Value.int IntKind.i64 p, Value.int IntKind.i64 o, Value.slice A n c] #[Value.bool false, Value.int IntKind.i64 0, Value.int IntKind.i64 0, Value.int IntKind.i64 0, Value.slice none 0 0]
  rw [hW]
  clear hW
  have KK := Lib.hid K0
  have BB := Lib.hid B0
  have sz : w.heap.size + 1 + 1 ≤ W0.heap.size := by omega
  have R := K0.rules
  simp only [Rules] at R
  clear K0 B0 hs0
  (with_reducible refine (HV.out _ BB.out).mono ?_)
  rintro e wv ⟨rfl, hbv⟩
  replace BB := Lib.hid (BB.out.trans (hbv.mono BB.out.size))
  replace KK := Lib.hid (KK.out.below hbv)
  replace sz := Nat.le_trans sz hbv.size
  replace R := KK.out.rules
  simp only [Rules] at R
  clear hbv
  go_wp2_with fail
  replace KK := Lib.hid (KK.out.perm (L' := [(w.heap.size, 24, #[Value.bool m, Value.int IntKind.i64 v, Value.int IntKind.i64 p, Value.int IntKind.i64 o, Value.slice A n c]), (w.heap.size + 1, 24, #[Value.bool false, Value.int IntKind.i64 0, Value.int IntKind.i64 0, Value.int IntKind.i64 0, Value.slice none 0 0])]) (by simp))
  clear R
  go_loopg [7] n (fun kx s7 wr => ∃ k : Nat, s7 = .slice A k c ∧ k ≤ kx ∧ k ≤ n ∧ w.heap.size + 1 + 1 ≤ wr.heap.size ∧ Hid (popN m x xs n = popN m x xs k) ∧ Hid (Bx wr [(w.heap.size, 24, #[Value.bool m, Value.int IntKind.i64 v, Value.int IntKind.i64 p, Value.int IntKind.i64 o, Value.slice A n c]), (w.heap.size + 1, 24, #[Value.bool false, Value.int IntKind.i64 0, Value.int IntKind.i64 0, Value.int IntKind.i64 0, Value.slice none 0 0])]) ∧ Hid (Below w.heap.size w wr))
  case atStart => exact ⟨n, rfl, by omega, Nat.le_refl _, sz, (rfl : popN m x xs n = popN m x xs n), KK, BB⟩
  case round =>
    clear KK BB sz HV
    obtain ⟨k, rfl, hkx, hkn, sz, HE, KK, BB⟩ := hrel
    have R := KK.out.rules
    simp only [Rules] at R
    by_cases hm : 0 < k
    case neg =>
      obtain rfl : k = 0 := by omega
      obtain ⟨hF, hA⟩ := add_push0 (m := m) (x := x) (o := o) (p := p) (xs := xs) (by rw [HLn.out, HE.out]; rfl) hp1.1
      rw [hF] at HOK
      obtain rfl := HOK.out
      clear HOK hF
      have H0 : Hid (∀ b W, Reads (World.alloc W b) (W.alloc b).heap.size 2 A 0 (pc [])) := fun b W => ⟨rfl, fun h => absurd h (by omega)⟩
      go_wp2_with fail
      (refine gro.wp_region_grown (by kernel_rfl) (by kernel_rfl) ?_; (repeat (go_big_quiet_step ((fail)))); refine wpQuiet_nil ?_; intro _ hw'; obtain ⟨nx, hw''⟩ := hw'; subst hw'')
      replace KK := Lib.hid (KK.out.below (below_grown _ nx))
      replace BB := Lib.hid (BB.out.trans ((below_grown _ nx).mono BB.out.size))
      replace sz := Nat.le_trans sz (below_grown _ nx).size
      clear R
      generalize grown _ nx = W7 at *
      have R := KK.out.rules
      simp only [Rules] at R
      simp only [kp_t, kb_t, lsK_t, Bool.true_and, Bool.and_true, Bool.not_false, addEr_0]
      rw [hA]
      go_wp2_with (at_builtin; refine wpList_append_any _ rfl (.tmp 44) (.tmp 45) 22 rfl W7.heap.size 40 i0 (.agg #[.int .i64 0, .int .i64 0]) 2 16 Try.underlying22 HI.out HZ0.out HZ1.out HZ2.out rfl (by omega) (.slice (some ⟨W7.heap.size, 0, none⟩) 0 0) 0 [] rfl (own_empty W7 40) _ A 0 c (pc []) rfl (H0.out _ _) (pc_oneCell _) (by unfold maxLen; omega) (by omega) (by simp) ?_; intro v1 w1 hown1 hg1 hat1; rw [Nat.zero_add, List.nil_append] at hown1; obtain ⟨A4, c4, rfl, q1, q2, q3⟩ := own_form hown1; have HB1 : Hid (Below W7.heap.size W7 w1) := ((Below.refl _ _).alloc (Nat.le_refl _) _).grown hg1 (by simp) (by simp [Value.ownBlock]); have HO1 := Lib.hid hown1; have Q1 := Lib.hid q1; have Q2 := Lib.hid q2; clear hown1 hg1 hat1 q1 q2 q3)
      replace BB := Lib.hid (BB.out.trans (HB1.out.mono BB.out.size))
      replace KK := Lib.hid (KK.out.below HB1.out)
      have sz1 := HB1.out.size
      replace R := KK.out.rules
      simp only [Rules] at R
      obtain ⟨base, hbase⟩ : ∃ b, W7.heap.size = b := ⟨_, rfl⟩
      rw [hbase] at sz HO1 sz1
      clear HB1 hbase
      have hp0 : ¬ (0 : Int) = p := by omega
      (refine gro.wp_region_grown (by kernel_rfl) (by kernel_rfl) ?_; (repeat (go_big_quiet_step ((fail)))); refine wpQuiet_nil ?_; intro _ hw'; obtain ⟨nx, hw''⟩ := hw'; subst hw'')
      replace HO1 := Lib.hid (own_keep HO1.out (below_grown _ nx))
      replace KK := Lib.hid (KK.out.below (below_grown _ nx))
      replace BB := Lib.hid (BB.out.trans ((below_grown _ nx).mono BB.out.size))
      replace sz1 := Nat.le_trans sz1 (below_grown _ nx).size
      clear R
      generalize grown _ nx = W8 at *
      have R := KK.out.rules
      simp only [Rules] at R
      go_wp2_with (at_builtin; go_loud (refine wpList_append_any _ rfl (.tmp 68) (.tmp 73) 22 rfl base 40 i0 (.agg #[.int .i64 0, .int .i64 0]) 2 16 Try.underlying22 HI.out HZ0.out HZ1.out HZ2.out rfl (by omega) (.slice A4 0 c4) 0 _ rfl (own_alloc HO1.out _) _ _ 1 1 _ rfl (reads_new _ _ _ rfl) (by simp [Value.oneCell']) (by unfold maxLen; omega) (by omega) (by simp; omega) ?_); intro v2 w2 hown2 hg2 hat2; rw [show pc ([] : L2) = [] from rfl, List.nil_append, Nat.zero_add] at hown2; obtain ⟨A6, c6, rfl, r1, r2, r3⟩ := own_form hown2; have HB2 := Lib.hid (below_box2 sz1 HO1.out hg2); have HO2 := Lib.hid hown2; clear hown2 hg2 hat2; have K2 : Bx w2 [(w.heap.size, 24, #[Value.bool m, Value.int IntKind.i64 v, Value.int IntKind.i64 p, Value.int IntKind.i64 o, Value.slice A n c]), (w.heap.size + 1, 24, #[Value.bool false, Value.int IntKind.i64 0, Value.int IntKind.i64 0, Value.int IntKind.i64 0, Value.slice none 0 0])] := (fun q hq => (KK.out q (by simp at hq ⊢; rcases hq with h | h <;> simp [h])).below HB2.out (by simp at hq; rcases hq with h | h <;> rw [h] <;> simp <;> omega)); have R2 := K2.rules; simp only [Rules] at R2; have K3 := Bx.one (d := #[Value.bool m, Value.int IntKind.i64 v, Value.int IntKind.i64 p, Value.int IntKind.i64 o, Value.slice A6 1 c6]) 4 (.slice A6 1 c6) K2 (by simp) (by simp); have R3 := K3.rules; simp only [Rules] at R3)
      have BF := Lib.hid (BB.out.trans (HB2.out.mono (show w.heap.size ≤ base by omega)))
      have fr : ∀ ad, A6 = some ad → base ≤ ad.block := fun ad e => own_new HO2.out ad e
      have HR : Hid (PRead w2 w2.heap.size A6 1 ([(o, x)])) := by
        have := Reads.of_own HO2.out
        exact this
      refine bodyPost_ret (v := Value.tuple #[.agg #[Value.bool m, Value.int IntKind.i64 v, Value.int IntKind.i64 p, Value.int IntKind.i64 o, Value.slice A6 1 c6], .int .i64 0]) (by simp [results, Try.results16, go_sem, R2, R3]) rfl ⟨A6, 1, c6, rfl, r1, ⟨r2, fun ad h => by have := fr ad h; omega⟩, ?_, ?_⟩
      · exact PRead.sz ((PRead.far (PRead.far (PRead.far (PRead.far (PRead.far (PRead.far HR.out ⟨w.heap.size, 4, none⟩ (fun h0 ad h => by have := fr ad h; simp; omega) _) ⟨w.heap.size + 1, 0, none⟩ (fun h0 ad h => by have := fr ad h; simp; omega) _) ⟨w.heap.size + 1, 1, none⟩ (fun h0 ad h => by have := fr ad h; simp; omega) _) ⟨w.heap.size + 1, 2, none⟩ (fun h0 ad h => by have := fr ad h; simp; omega) _) ⟨w.heap.size + 1, 3, none⟩ (fun h0 ad h => by have := fr ad h; simp; omega) _) ⟨w.heap.size + 1, 4, none⟩ (fun h0 ad h => by have := fr ad h; simp; omega) _)) (by simp [World.setCell])
      · exact ((((((BF.out.setCell (by first | (simp; done) | (simp; omega)) _).setCell (by first | (simp; done) | (simp; omega)) _).setCell (by first | (simp; done) | (simp; omega)) _).setCell (by first | (simp; done) | (simp; omega)) _).setCell (by first | (simp; done) | (simp; omega)) _).setCell (by first | (simp; done) | (simp; omega)) _)
    obtain ⟨ad, rfl, hbl, hc1, hc2⟩ := PRead.at_ (H1.out.below BB.out) (show k - 1 < n by omega)
    have hbl2 : ad.block < wr.heap.size := by have := BB.out.size; omega
    change wr.cell? (ad.add ((k - 1) * 2)) = some (.int .i64 (at_ xs (k - 1)).1) at hc1
    change wr.cell? ⟨(ad.add ((k - 1) * 2)).block, (ad.add ((k - 1) * 2)).off + 1, none⟩ = some (.int .i64 (at_ xs (k - 1)).2) at hc2
    clear hc1
    have hy := Lib.hid (fun h => pop_yes (m := m) (x := x) (xs := xs) hm h)
    have hn := Lib.hid (fun h => pop_no (m := m) (x := x) (xs := xs) hm h)
    have HBe := Lib.hid (fun W => beats_any m x (at_ xs (k - 1)).2 W)
    obtain ⟨V, hV⟩ : ∃ y, (at_ xs (k - 1)).2 = y := ⟨_, rfl⟩
    rw [hV] at hc2 hy hn HBe
    clear hV
    have s1 : IntKind.i64.wrap ((k : Int) - 1) = (k : Int) - 1 := IntWalk.i64_in _ (by omega)
    have s2 : 0 ≤ (k : Int) - 1 := by omega
    have s3 : ((k : Int) - 1).toNat = k - 1 := by omega
    have s4 : (k : Int) - 1 < k := by omega
    have s5 : 1 ≤ (k : Int) := by omega
    by_cases hz : key m V ≤ key m x
    case pos =>
      rw [decide_eq_true hz] at HBe
      go_wp2_with fail
      (refine gro.wp_region_grown (by kernel_rfl) (by kernel_rfl) ?_; (repeat (go_big_quiet_step ((go_at_call 37; exact gro.call_same (HBe.out _))))); refine wpQuiet_nil ?_; intro _ hw'; obtain ⟨nx, hw''⟩ := hw'; subst hw'')
      replace KK := Lib.hid (KK.out.below (below_grown _ nx))
      replace BB := Lib.hid (BB.out.trans ((below_grown _ nx).mono BB.out.size))
      replace sz := Nat.le_trans sz (below_grown _ nx).size
      clear R
      generalize grown _ nx = W7 at *
      have R := KK.out.rules
      simp only [Rules] at R
      go_wp2
      clear s1 s2 s3 s4 s5
      go_roundg (k - 1)
      case measure => omega
      case rel => exact ⟨k - 1, rfl, by omega, by omega, sz, Lib.hid (HE.out.trans (hy.out hz)), KK, BB⟩
    rw [decide_eq_false hz] at HBe
    have hK : Hid (popN m x xs xs.length = k) := by rw [Hid, HLn.out, HE.out, hn.out hz]
    clear HE hy hn
    have HT := Lib.hid (H1.out.front (k := k) hkn)
    go_wp2_with fail
    (refine gro.wp_region_grown (by kernel_rfl) (by kernel_rfl) ?_; (repeat (go_big_quiet_step ((go_at_call 37; exact gro.call_same (HBe.out _))))); refine wpQuiet_nil ?_; intro _ hw'; obtain ⟨nx, hw''⟩ := hw'; subst hw'')
    replace KK := Lib.hid (KK.out.below (below_grown _ nx))
    replace BB := Lib.hid (BB.out.trans ((below_grown _ nx).mono BB.out.size))
    replace sz := Nat.le_trans sz (below_grown _ nx).size
    clear R
    generalize grown _ nx = W7 at *
    have R := KK.out.rules
    simp only [Rules] at R
    have HA : Hid (∀ b, Reads (W7.alloc b) (W7.alloc b).heap.size 2 (some ad) k (pc (xs.take k))) := fun b => by
      rw [pc_take]
      exact ((HT.out.below BB.out).alloc BB.out.size b).more (by have := BB.out.size; simp; omega)
    clear HBe HT hc2
    have hlast : Hid (at_ (xs.take k) (k - 1) = at_ xs (k - 1)) := at_take (by omega)
    go_wp2_with (at_builtin; refine wpList_append_any _ rfl (.tmp 44) (.tmp 45) 22 rfl W7.heap.size 40 i0 (.agg #[.int .i64 0, .int .i64 0]) 2 16 Try.underlying22 HI.out HZ0.out HZ1.out HZ2.out rfl (by omega) (.slice (some ⟨W7.heap.size, 0, none⟩) 0 0) 0 [] rfl (own_empty W7 40) _ (some ad) k c (pc (xs.take k)) rfl (HA.out _) (pc_oneCell _) (by unfold maxLen; omega) (by omega) (by simp) ?_; intro v1 w1 hown1 hg1 hat1; rw [Nat.zero_add, List.nil_append] at hown1; obtain ⟨A4, c4, rfl, q1, q2, q3⟩ := own_form hown1; have HB1 : Hid (Below W7.heap.size W7 w1) := ((Below.refl _ _).alloc (Nat.le_refl _) _).grown hg1 (by simp) (by simp [Value.ownBlock]); have HO1 := Lib.hid hown1; have Q1 := Lib.hid q1; have Q2 := Lib.hid q2; clear hown1 hg1 hat1 q1 q2 q3)
    obtain ⟨a4, rfl, hbl4, hd1, _⟩ := PRead.at_ (xs := xs.take k) (Reads.of_own HO1.out) (show k - 1 < k by omega)
    change w1.cell? (a4.add ((k - 1) * 2)) = some (.int .i64 (at_ (xs.take k) (k - 1)).1) at hd1
    rw [hlast.out] at hd1
    clear hlast
    have hbl5 : a4.block < w1.heap.size := hbl4
    replace BB := Lib.hid (BB.out.trans (HB1.out.mono BB.out.size))
    replace KK := Lib.hid (KK.out.below HB1.out)
    have sz1 := HB1.out.size
    replace R := KK.out.rules
    simp only [Rules] at R
    obtain ⟨base, hbase⟩ : ∃ b, W7.heap.size = b := ⟨_, rfl⟩
    rw [hbase] at sz HO1 sz1
    clear HB1 hbase
    obtain ⟨tl, htl⟩ : ∃ y, (at_ xs (k - 1)).1 = y := ⟨_, rfl⟩
    rw [htl] at hd1
    have HTL := Lib.hid htl
    clear htl
    have hk0 : ((k : Int) == 0) = false := by simp; omega
    by_cases hpu : tl < o
    case neg =>
      obtain ⟨hF, hA⟩ := add_stay (m := m) (x := x) (o := o) (p := p) (xs := xs) hK.out hm (by rw [HTL.out]; exact hpu)
      rw [hF] at HOK
      obtain rfl := HOK.out
      clear HOK hF HTL hK
      simp only [kp_t, kb_t, lsK_t, Bool.true_and, Bool.and_true, Bool.not_false, addEr_0]
      rw [hA]
      (refine gro.wp_region_grown (by kernel_rfl) (by kernel_rfl) ?_; (repeat (go_big_quiet_step ((fail)))); refine wpQuiet_nil ?_; intro _ hw'; obtain ⟨nx, hw''⟩ := hw'; subst hw'')
      replace HO1 := Lib.hid (own_keep HO1.out (below_grown _ nx))
      replace KK := Lib.hid (KK.out.below (below_grown _ nx))
      replace BB := Lib.hid (BB.out.trans ((below_grown _ nx).mono BB.out.size))
      replace sz1 := Nat.le_trans sz1 (below_grown _ nx).size
      clear R
      generalize grown _ nx = W8 at *
      have R := KK.out.rules
      simp only [Rules] at R
      have K3 := Bx.one (d := #[Value.bool m, Value.int IntKind.i64 v, Value.int IntKind.i64 p, Value.int IntKind.i64 o, Value.slice (some a4) k c4]) 4 (.slice (some a4) k c4) KK.out (by simp) (by simp)
      have R3 := K3.rules
      simp only [Rules] at R3
      go_wp2
      have fr : ∀ ad, some a4 = some ad → base ≤ ad.block := fun ad e => own_new HO1.out ad e
      have HR : Hid (PRead W8 W8.heap.size (some a4) k (xs.take k)) := Reads.of_own HO1.out
      refine bodyPost_ret (v := Value.tuple #[.agg #[Value.bool m, Value.int IntKind.i64 v, Value.int IntKind.i64 p, Value.int IntKind.i64 o, Value.slice (some a4) k c4], .int .i64 0]) (by simp [results, Try.results16, go_sem, R, R3]) rfl ⟨some a4, k, c4, rfl, Q1.out, ⟨Q2.out, fun ad h => by have := fr ad h; omega⟩, ?_, ?_⟩
      · exact PRead.sz ((PRead.far (PRead.far (PRead.far (PRead.far (PRead.far (PRead.far HR.out ⟨w.heap.size, 4, none⟩ (fun h0 ad h => by have := fr ad h; simp; omega) _) ⟨w.heap.size + 1, 0, none⟩ (fun h0 ad h => by have := fr ad h; simp; omega) _) ⟨w.heap.size + 1, 1, none⟩ (fun h0 ad h => by have := fr ad h; simp; omega) _) ⟨w.heap.size + 1, 2, none⟩ (fun h0 ad h => by have := fr ad h; simp; omega) _) ⟨w.heap.size + 1, 3, none⟩ (fun h0 ad h => by have := fr ad h; simp; omega) _) ⟨w.heap.size + 1, 4, none⟩ (fun h0 ad h => by have := fr ad h; simp; omega) _)) (by simp [World.setCell])
      · exact ((((((BB.out.setCell (by first | (simp; done) | (simp; omega)) _).setCell (by first | (simp; done) | (simp; omega)) _).setCell (by first | (simp; done) | (simp; omega)) _).setCell (by first | (simp; done) | (simp; omega)) _).setCell (by first | (simp; done) | (simp; omega)) _).setCell (by first | (simp; done) | (simp; omega)) _)
    obtain ⟨hF, hA⟩ := add_push (m := m) (x := x) (o := o) (p := p) (xs := xs) hK.out (by rw [HTL.out]; exact hpu)
    rw [hF] at HOK
    clear hF HTL hK
    by_cases hfu : (k : Int) = p
    case pos =>
      rw [decide_eq_true hfu] at HOK
      have HFU := Lib.hid hfu
      clear hfu
      obtain rfl := HOK.out
      clear HOK hA
      simp only [kp_f, kb_f, lsK_f, Bool.true_and, Bool.and_false, Bool.not_true, addEr_u]
      (refine gro.wp_region_grown (by kernel_rfl) (by kernel_rfl) ?_; (repeat (go_big_quiet_step ((fail)))); refine wpQuiet_nil ?_; intro _ hw'; obtain ⟨nx, hw''⟩ := hw'; subst hw'')
      replace HO1 := Lib.hid (own_keep HO1.out (below_grown _ nx))
      replace KK := Lib.hid (KK.out.below (below_grown _ nx))
      replace BB := Lib.hid (BB.out.trans ((below_grown _ nx).mono BB.out.size))
      replace sz1 := Nat.le_trans sz1 (below_grown _ nx).size
      clear R
      generalize grown _ nx = W8 at *
      have R := KK.out.rules
      simp only [Rules] at R
      have hfu := HFU.out
      have hfu2 : ((k : Int) == p) = true := by simpa using hfu
      go_wp2
      refine bodyPost_ret (v := Value.tuple #[.agg #[Value.bool false, Value.int IntKind.i64 0, Value.int IntKind.i64 0, Value.int IntKind.i64 0, Value.slice none 0 0], .int .i64 5]) (by simp [results, Try.results16, go_sem, R]) rfl ⟨none, 0, 0, rfl, Nat.le_refl _, ⟨Nat.zero_le _, fun ad h => by cases h⟩, PRead.nil_, ?_⟩
      exact (((((BB.out.setCell (by first | (simp; done) | (simp; omega)) _).setCell (by first | (simp; done) | (simp; omega)) _).setCell (by first | (simp; done) | (simp; omega)) _).setCell (by first | (simp; done) | (simp; omega)) _).setCell (by first | (simp; done) | (simp; omega)) _)
    have hfu2 : ((k : Int) == p) = false := by simpa using hfu
    rw [decide_eq_false hfu] at HOK
    obtain rfl := HOK.out
    clear HOK
    simp only [hA, kp_t, kb_t, lsK_t, Bool.true_and, Bool.and_true, Bool.not_false, addEr_0] at *
    have HPC := Lib.hid (show pc (xs.take k ++ [(o, x)]) = pc (xs.take k) ++ [Value.int .i64 o, Value.int .i64 x] from by rw [pc_append]; rfl)
    (refine gro.wp_region_grown (by kernel_rfl) (by kernel_rfl) ?_; (repeat (go_big_quiet_step ((fail)))); refine wpQuiet_nil ?_; intro _ hw'; obtain ⟨nx, hw''⟩ := hw'; subst hw'')
    replace HO1 := Lib.hid (own_keep HO1.out (below_grown _ nx))
    replace KK := Lib.hid (KK.out.below (below_grown _ nx))
    replace BB := Lib.hid (BB.out.trans ((below_grown _ nx).mono BB.out.size))
    replace sz1 := Nat.le_trans sz1 (below_grown _ nx).size
    clear R
    generalize grown _ nx = W8 at *
    have R := KK.out.rules
    simp only [Rules] at R
    go_wp2_with (at_builtin; go_loud (refine wpList_append_any _ rfl (.tmp 68) (.tmp 73) 22 rfl base 40 i0 (.agg #[.int .i64 0, .int .i64 0]) 2 16 Try.underlying22 HI.out HZ0.out HZ1.out HZ2.out rfl (by omega) (.slice (some a4) k c4) k _ rfl (own_alloc HO1.out _) _ _ 1 1 _ rfl (reads_new _ _ _ rfl) (by simp [Value.oneCell']) (by unfold maxLen; omega) (by omega) (by simp; omega) ?_); intro v2 w2 hown2 hg2 hat2; have hown3 : w2.ownsRow base 40 2 v2 (k + 1) (pc (xs.take k ++ [(o, x)])) := (by rw [HPC.out]; exact hown2); clear hown2; have hown2 := hown3; clear hown3; obtain ⟨A6, c6, rfl, r1, r2, r3⟩ := own_form hown2; have HB2 := Lib.hid (below_box2 sz1 HO1.out hg2); have HO2 := Lib.hid hown2; clear hown2 hg2 hat2; have K2 : Bx w2 [(w.heap.size, 24, #[Value.bool m, Value.int IntKind.i64 v, Value.int IntKind.i64 p, Value.int IntKind.i64 o, Value.slice (some ad) n c]), (w.heap.size + 1, 24, #[Value.bool false, Value.int IntKind.i64 0, Value.int IntKind.i64 0, Value.int IntKind.i64 0, Value.slice none 0 0])] := (fun q hq => (KK.out q (by simp at hq ⊢; rcases hq with h | h <;> simp [h])).below HB2.out (by simp at hq; rcases hq with h | h <;> rw [h] <;> simp <;> omega)); have R2 := K2.rules; simp only [Rules] at R2; have K3 := Bx.one (d := #[Value.bool m, Value.int IntKind.i64 v, Value.int IntKind.i64 p, Value.int IntKind.i64 o, Value.slice A6 (k + 1) c6]) 4 (.slice A6 (k + 1) c6) K2 (by simp) (by simp); have R3 := K3.rules; simp only [Rules] at R3)
    have BF := Lib.hid (BB.out.trans (HB2.out.mono (show w.heap.size ≤ base by omega)))
    have fr : ∀ ad, A6 = some ad → base ≤ ad.block := fun ad e => own_new HO2.out ad e
    have HR : Hid (PRead w2 w2.heap.size A6 (k + 1) (xs.take k ++ [(o, x)])) := by
      have := Reads.of_own HO2.out
      exact this
    refine bodyPost_ret (v := Value.tuple #[.agg #[Value.bool m, Value.int IntKind.i64 v, Value.int IntKind.i64 p, Value.int IntKind.i64 o, Value.slice A6 (k + 1) c6], .int .i64 0]) (by simp [results, Try.results16, go_sem, R2, R3]) rfl ⟨A6, (k + 1), c6, rfl, r1, ⟨r2, fun ad h => by have := fr ad h; omega⟩, ?_, ?_⟩
    · exact PRead.sz ((PRead.far (PRead.far (PRead.far (PRead.far (PRead.far (PRead.far HR.out ⟨w.heap.size, 4, none⟩ (fun h0 ad h => by have := fr ad h; simp; omega) _) ⟨w.heap.size + 1, 0, none⟩ (fun h0 ad h => by have := fr ad h; simp; omega) _) ⟨w.heap.size + 1, 1, none⟩ (fun h0 ad h => by have := fr ad h; simp; omega) _) ⟨w.heap.size + 1, 2, none⟩ (fun h0 ad h => by have := fr ad h; simp; omega) _) ⟨w.heap.size + 1, 3, none⟩ (fun h0 ad h => by have := fr ad h; simp; omega) _) ⟨w.heap.size + 1, 4, none⟩ (fun h0 ad h => by have := fr ad h; simp; omega) _)) (by simp [World.setCell])
    · exact ((((((BF.out.setCell (by first | (simp; done) | (simp; omega)) _).setCell (by first | (simp; done) | (simp; omega)) _).setCell (by first | (simp; done) | (simp; omega)) _).setCell (by first | (simp; done) | (simp; omega)) _).setCell (by first | (simp; done) | (simp; omega)) _).setCell (by first | (simp; done) | (simp; omega)) _)
end Go.Proofs.Yteajgmihhnghfaa.ext
