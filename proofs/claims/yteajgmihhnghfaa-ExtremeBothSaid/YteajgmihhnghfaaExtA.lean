/- Contracts of Advance, Add and Ask of the deque, at any state. -/
import Derived.Test.YteajgmihhnghfaaExtV
import Derived.Test.YteajgmihhnghfaaExtL2
import Derived.Test.YteajgmihhnghfaaExpire
import Derived.Test.YteajgmihhnghfaaNewF
namespace Go.Proofs.Yteajgmihhnghfaa.ext
open Go.RowKit Go.Proofs.Yteajgmihhnghfaa.mem Go.Proofs.Yteajgmihhnghfaa.gro
open Go.Proofs.Yteajgmihhnghfaa.buk (at_)
open Go.Proofs.Yteajgmihhnghfaa.lst (expireL expireL_le expire_yes expire_no own_new)
set_option linter.unusedVariables false
set_option linter.unusedSimpArgs false
def timeE (o tt : Int) : Int := if tt < o ∨ 16777216 < tt then 3 else 0
theorem timeE_iff {o tt : Int} : (tt < o ∨ 16777216 < tt) ∧ timeE o tt = 3 ∨ ¬ (tt < o ∨ 16777216 < tt) ∧ timeE o tt = 0 := by
  by_cases h : tt < o ∨ 16777216 < tt
  · exact .inl ⟨h, if_pos h⟩
  · exact .inr ⟨h, if_neg h⟩
def okT (e : Int) : Bool := decide (e = 0)
theorem okT_3 : okT 3 = false := rfl
theorem okT_0 : okT 0 = true := rfl
def advE (b : Bool) (e : Int) : Int := if b = true then e else 2
theorem advE_t (e : Int) : advE true e = e := rfl
theorem advE_f (e : Int) : advE false e = 2 := rfl
def lsK (b : Bool) (ys : L2) : L2 := if b = true then ys else []
theorem lsK_t (ys : L2) : lsK true ys = ys := rfl
theorem lsK_f (ys : L2) : lsK false ys = [] := rfl
/-- A state that comes back with an error; its list is new. -/
def NewE (m : Bool) (x1 x2 x3 : Int) (ys : L2) (er : Int) (w : World) (e : Ending) (w' : World) : Prop :=
  ∃ A k c, e = .returned (.tuple #[.agg #[.bool m, .int .i64 x1, .int .i64 x2, .int .i64 x3, .slice A k c], .int .i64 er]) ∧ k ≤ c ∧ (c ≤ maxLen ∧ ∀ ad, A = some ad → w.heap.size ≤ ad.block) ∧ PRead w' w'.heap.size A k ys ∧ Below w.heap.size w w'
set_option maxHeartbeats 1000000 in
theorem ClkAdv_any (o tt : Int) (ho : 0 ≤ o ∧ o ≤ 16777216) (w : World) : Calls Try.prog 33 #[.int .i64 o, .int .i64 tt] w fun e w' => (∃ r : Int, e = .returned (.tuple #[.int .i64 r, .int .i64 (timeE o tt)])) ∧ w = w' := by
  have HT := Lib.hid (fun W => clk.tick_any o W)
  rw [clk.tickB_iff.2 ho] at HT
  rcases timeE_iff (o := o) (tt := tt) with ⟨h, e⟩ | ⟨h, e⟩ <;> rw [e] <;> clear e
  · rcases h with h | h
    · go_enter Try.func33, Try.ntmps33
      go_wp2_with (go_at_call 45; refine (HT.out _).mono ?_; rintro e w1 ⟨rfl, rfl⟩)
      go_ret2
      exact ⟨⟨_, rfl⟩, rfl⟩
    · by_cases h2 : tt < o
      · go_enter Try.func33, Try.ntmps33
        go_wp2_with (go_at_call 45; refine (HT.out _).mono ?_; rintro e w1 ⟨rfl, rfl⟩)
        go_ret2
        exact ⟨⟨_, rfl⟩, rfl⟩
      · go_enter Try.func33, Try.ntmps33
        go_wp2_with (go_at_call 45; refine (HT.out _).mono ?_; rintro e w1 ⟨rfl, rfl⟩)
        go_ret2
        exact ⟨⟨_, rfl⟩, rfl⟩
  · have h1 : ¬ tt < o := fun h2 => h (.inl h2)
    have h2 : ¬ 16777216 < tt := fun h2 => h (.inr h2)
    clear h
    go_enter Try.func33, Try.ntmps33
    go_wp2_with (go_at_call 45; refine (HT.out _).mono ?_; rintro e w1 ⟨rfl, rfl⟩)
    go_ret2
    exact ⟨⟨_, rfl⟩, rfl⟩
set_option maxHeartbeats 8000000 in
set_option maxRecDepth 100000 in
theorem Advance_f (m : Bool) (v p o tt : Int) (A : Option Addr) (n c : Nat) (xs : L2) (w : World) (h1 : PRead w w.heap.size A n xs) (hnc : n ≤ c) (hcm : c ≤ maxLen) (hsmall : n ≤ 2000) :
    Calls Try.prog 14 #[.agg #[Value.bool m, Value.int IntKind.i64 v, Value.int IntKind.i64 p, Value.int IntKind.i64 o, Value.slice A n c], .int .i64 tt] w (NewE (kb (valE m v p o xs && okT (timeE o tt)) m) (kp (valE m v p o xs && okT (timeE o tt)) v) (kp (valE m v p o xs && okT (timeE o tt)) p) (kp (valE m v p o xs && okT (timeE o tt)) tt) (lsK (valE m v p o xs && okT (timeE o tt)) (expireL (tt - v + 1) xs)) (advE (valE m v p o xs) (timeE o tt)) w) := by
  have hcm9 : c ≤ 9223372036854775807 := hcm
  have HV := Lib.hid (fun W (hb : Below w.heap.size w W) => Validate_any m v p o A n c xs W ((h1.below hb).more hb.size) (by omega))
  have hft := Lib.hid (fun h : valE m v p o xs = true => valE_facts h)
  have HB := Lib.hid (fun (h : 0 ≤ o ∧ o ≤ 16777216) W => ClkAdv_any o tt h W)
  have HLv := Lib.hid (fun t W => clk.live_any tt v t W)
  have H1 := Lib.hid h1
  clear h1 hcm
  generalize valE m v p o xs = ft at *
  cases ft
  case false =>
    clear hft HB HLv H1
    simp only [erV_t, erV_f, kp_t, kp_f, kb_t, kb_f, lsK_t, lsK_f, advE_t, advE_f, okT_3, okT_0, Bool.false_and, Bool.true_and, Bool.and_false, Bool.and_true] at *
    go_enter Try.func14, Try.ntmps14
    go_wp2_with fail
    obtain ⟨W0, hW, hs0, K0, B0⟩ := start2 w 24 24 #[Value.bool m, Value.int IntKind.i64 v, Value.int IntKind.i64 p, Value.int IntKind.i64 o, Value.slice A n c] #[Value.bool false, Value.int IntKind.i64 0, Value.int IntKind.i64 0, Value.int IntKind.i64 0, Value.slice none 0 0]
    rw [hW]
    clear hW
    have KK := Lib.hid K0
    have BB := Lib.hid B0
    have sz : w.heap.size + 1 + 1 ≤ W0.heap.size := by omega
    have R := K0.rules
    simp only [Rules] at R
    clear K0 B0 hs0
    (with_reducible refine (HV.out _ BB.out).mono ?_)
    rintro e wv ⟨rfl, hbv⟩
    replace BB := Lib.hid (BB.out.trans (hbv.mono BB.out.size))
    replace KK := Lib.hid (KK.out.below hbv)
    replace sz := Nat.le_trans sz hbv.size
    replace R := KK.out.rules
    simp only [Rules] at R
    clear hbv
    go_wp2
    refine bodyPost_ret (v := Value.tuple #[.agg #[Value.bool false, Value.int IntKind.i64 0, Value.int IntKind.i64 0, Value.int IntKind.i64 0, Value.slice none 0 0], .int .i64 2]) (by simp [results, Try.results14, go_sem, R]) rfl ⟨none, 0, 0, rfl, Nat.le_refl _, ⟨Nat.zero_le _, fun ad h => by cases h⟩, PRead.nil_, ?_⟩
    exact (((((BB.out.setCell (by first | (simp; done) | (simp; omega)) _).setCell (by first | (simp; done) | (simp; omega)) _).setCell (by first | (simp; done) | (simp; omega)) _).setCell (by first | (simp; done) | (simp; omega)) _).setCell (by first | (simp; done) | (simp; omega)) _)
  obtain ⟨ho, hv, hall⟩ := hft.out rfl
  clear hft
  replace HB := Lib.hid (HB.out ho)
  rcases timeE_iff (o := o) (tt := tt) with ⟨ht, e⟩ | ⟨ht, e⟩ <;> rw [e] at HB ⊢ <;> clear e
  · clear HLv H1 hall
    simp only [erV_t, erV_f, kp_t, kp_f, kb_t, kb_f, lsK_t, lsK_f, advE_t, advE_f, okT_3, okT_0, Bool.false_and, Bool.true_and, Bool.and_false, Bool.and_true] at *
    go_enter Try.func14, Try.ntmps14
    go_wp2_with fail
    obtain ⟨W0, hW, hs0, K0, B0⟩ := start2 w 24 24 #[Value.bool m, Value.int IntKind.i64 v, Value.int IntKind.i64 p, Value.int IntKind.i64 o, Value.slice A n c] #[Value.bool false, Value.int IntKind.i64 0, Value.int IntKind.i64 0, Value.int IntKind.i64 0, Value.slice none 0 0]
    rw [hW]
    clear hW
    have KK := Lib.hid K0
    have BB := Lib.hid B0
    have sz : w.heap.size + 1 + 1 ≤ W0.heap.size := by omega
    have R := K0.rules
    simp only [Rules] at R
    clear K0 B0 hs0
    (with_reducible refine (HV.out _ BB.out).mono ?_)
    rintro e wv ⟨rfl, hbv⟩
    replace BB := Lib.hid (BB.out.trans (hbv.mono BB.out.size))
    replace KK := Lib.hid (KK.out.below hbv)
    replace sz := Nat.le_trans sz hbv.size
    replace R := KK.out.rules
    simp only [Rules] at R
    clear hbv
    go_wp2_with fail
    (with_reducible refine (HB.out _).mono ?_)
    rintro e w1 ⟨⟨r, rfl⟩, rfl⟩
    go_wp2
    refine bodyPost_ret (v := Value.tuple #[.agg #[Value.bool false, Value.int IntKind.i64 0, Value.int IntKind.i64 0, Value.int IntKind.i64 0, Value.slice none 0 0], .int .i64 3]) (by simp [results, Try.results14, go_sem, R]) rfl ⟨none, 0, 0, rfl, Nat.le_refl _, ⟨Nat.zero_le _, fun ad h => by cases h⟩, PRead.nil_, ?_⟩
    exact (((((BB.out.setCell (by first | (simp; done) | (simp; omega)) _).setCell (by first | (simp; done) | (simp; omega)) _).setCell (by first | (simp; done) | (simp; omega)) _).setCell (by first | (simp; done) | (simp; omega)) _).setCell (by first | (simp; done) | (simp; omega)) _)
  · obtain ⟨i0, hi0, hz0, hz1, hz2⟩ := info_parts item_info
    have HI := Lib.hid hi0
    have HZ0 := Lib.hid hz0
    have HZ1 := Lib.hid hz1
    have HZ2 := Lib.hid hz2
    clear hi0 hz0 hz1 hz2
    have HL := Lib.hid (fun q (hq : q ∈ xs) => show clk.liveB tt v q.1 = !decide (q.1 < tt - v + 1) from live_late (hall q hq) ho hv (by omega) (by omega))
    clear hall ht
    simp only [erV_t, erV_f, kp_t, kp_f, kb_t, kb_f, lsK_t, lsK_f, advE_t, advE_f, okT_3, okT_0, Bool.false_and, Bool.true_and, Bool.and_false, Bool.and_true] at *
    go_enter Try.func14, Try.ntmps14
    go_wp2_with fail
    obtain ⟨W0, hW, hs0, K0, B0⟩ := start2 w 24 24 #[Value.bool m, Value.int IntKind.i64 v, Value.int IntKind.i64 p, Value.int IntKind.i64 o, Value.slice A n c] #[Value.bool false, Value.int IntKind.i64 0, Value.int IntKind.i64 0, Value.int IntKind.i64 0, Value.slice none 0 0]
    rw [hW]
    clear hW
    have KK := Lib.hid K0
    have BB := Lib.hid B0
    have sz : w.heap.size + 1 + 1 ≤ W0.heap.size := by omega
    have R := K0.rules
    simp only [Rules] at R
    clear K0 B0 hs0
    (with_reducible refine (HV.out _ BB.out).mono ?_)
    rintro e wv ⟨rfl, hbv⟩
    replace BB := Lib.hid (BB.out.trans (hbv.mono BB.out.size))
    replace KK := Lib.hid (KK.out.below hbv)
    replace sz := Nat.le_trans sz hbv.size
    replace R := KK.out.rules
    simp only [Rules] at R
    clear hbv
    go_wp2_with fail
    (with_reducible refine (HB.out _).mono ?_)
    rintro e w1 ⟨⟨r, rfl⟩, rfl⟩
    go_wp2_with fail
    obtain ⟨W1, hW, K1, B1, sz1⟩ := name_world (Bx.one (d := #[Value.bool m, Value.int IntKind.i64 v, Value.int IntKind.i64 p, Value.int IntKind.i64 tt, Value.slice A n c]) 3 (.int .i64 tt) KK.out.swap (by simp) (by simp)) (BB.out.setCell (p := ⟨w.heap.size, 3, none⟩) (by simp) _) (s := w.heap.size + 1 + 1) (by simp only [set1_size]; exact sz)
    rw [hW]
    clear hW KK BB R sz
    have KK := Lib.hid K1
    have BB := Lib.hid B1
    have sz := sz1
    have R := K1.rules
    simp only [Rules] at R
    clear K1 B1 sz1
    go_wp2_with fail
    clear R
    go_loopg [9] n (fun kx s9 wr => ∃ (k c' : Nat) (A' : Option Addr) (ys : L2), s9 = .slice A' k c' ∧ k ≤ kx ∧ k ≤ n ∧ k ≤ c' ∧ c' ≤ 9223372036854775807 ∧ w.heap.size + 1 + 1 ≤ wr.heap.size ∧ Hid (PRead w w.heap.size A' k ys) ∧ Hid (expireL (tt - v + 1) ys = expireL (tt - v + 1) xs) ∧ Hid (∀ q ∈ ys, q ∈ xs) ∧ Hid (Bx wr [(w.heap.size, 24, #[Value.bool m, Value.int IntKind.i64 v, Value.int IntKind.i64 p, Value.int IntKind.i64 tt, Value.slice A n c]), (w.heap.size + 1, 24, #[Value.bool false, Value.int IntKind.i64 0, Value.int IntKind.i64 0, Value.int IntKind.i64 0, Value.slice none 0 0])]) ∧ Hid (Below w.heap.size w wr))
    case atStart => exact ⟨n, c, A, xs, rfl, by omega, Nat.le_refl _, hnc, hcm9, sz, H1, (rfl : expireL (tt - v + 1) xs = expireL (tt - v + 1) xs), Lib.hid (fun q hq => hq), KK, BB⟩
    case round =>
      clear KK BB sz HB HV
      obtain ⟨k, c', A', ys, rfl, hkx, hkn, hmc, hcm', sz, H, HE, HM, KK, BB⟩ := hrel
      have R := KK.out.rules
      simp only [Rules] at R
      have HLn := Lib.hid H.out.len
      by_cases hm : 0 < k
      case neg =>
        obtain rfl : k = 0 := by omega
        have e : ys = [] := List.eq_nil_of_length_eq_zero HLn.out
        subst e
        go_wp2_with fail
        (refine gro.wp_region_grown (by kernel_rfl) (by kernel_rfl) ?_; (repeat (go_big_quiet_step ((fail)))); refine wpQuiet_nil ?_; intro _ hw'; obtain ⟨nx, hw''⟩ := hw'; subst hw'')
        replace KK := Lib.hid (KK.out.below (below_grown _ nx))
        replace BB := Lib.hid (BB.out.trans ((below_grown _ nx).mono BB.out.size))
        replace sz := Nat.le_trans sz (below_grown _ nx).size
        clear R
        generalize grown _ nx = W7 at *
        have R := KK.out.rules
        simp only [Rules] at R
        have HA : Hid (∀ b, Reads (W7.alloc b) (W7.alloc b).heap.size 2 A' 0 (pc [])) := fun b => ((H.out.below BB.out).alloc BB.out.size b).more (by have := BB.out.size; simp; omega)
        go_wp2_with (at_builtin; refine wpList_append_any _ rfl (.tmp 47) (.tmp 48) 22 rfl W7.heap.size 40 i0 (.agg #[.int .i64 0, .int .i64 0]) 2 16 Try.underlying22 HI.out HZ0.out HZ1.out HZ2.out rfl (by omega) (.slice (some ⟨W7.heap.size, 0, none⟩) 0 0) 0 [] rfl (own_empty W7 40) _ A' 0 c' (pc []) rfl (HA.out _) (pc_oneCell _) (by unfold maxLen; omega) (by omega) (by simp) ?_; intro v1 w1 hown1 hg1 hat1; rw [Nat.zero_add, List.nil_append] at hown1; obtain ⟨A4, c4, rfl, q1, q2, q3⟩ := own_form hown1; have HB1 : Hid (Below W7.heap.size W7 w1) := ((Below.refl _ _).alloc (Nat.le_refl _) _).grown hg1 (by simp) (by simp [Value.ownBlock]); have HO1 := Lib.hid hown1; have Q1 := Lib.hid q1; have Q2 := Lib.hid q2; clear hown1 hg1 hat1 q1 q2 q3; have K2 := KK.out.below HB1.out; have R2 := K2.rules; simp only [Rules] at R2; have K3 := Bx.one (d := #[Value.bool m, Value.int IntKind.i64 v, Value.int IntKind.i64 p, Value.int IntKind.i64 tt, Value.slice A4 0 c4]) 4 (.slice A4 0 c4) K2 (by simp) (by simp); have R3 := K3.rules; simp only [Rules] at R3)
        have BF := Lib.hid (BB.out.trans (HB1.out.mono (show w.heap.size ≤ W7.heap.size by omega)))
        have fr : ∀ ad, A4 = some ad → W7.heap.size ≤ ad.block := fun ad e => own_new HO1.out ad e
        have HR : Hid (PRead w1 w1.heap.size A4 0 []) := Reads.of_own HO1.out
        refine bodyPost_ret (v := Value.tuple #[.agg #[Value.bool m, Value.int IntKind.i64 v, Value.int IntKind.i64 p, Value.int IntKind.i64 tt, Value.slice A4 0 c4], .int .i64 0]) (by simp [results, Try.results14, go_sem, R2, R3]) rfl ⟨A4, 0, _, rfl, Q1.out, ⟨Q2.out, fun ad h => by have := fr ad h; omega⟩, ?_, ?_⟩
        · rw [show expireL (tt - v + 1) xs = [] from by rw [← HE.out]; rfl]
          exact PRead.sz ((PRead.far (PRead.far (PRead.far (PRead.far (PRead.far (PRead.far HR.out ⟨w.heap.size, 4, none⟩ (fun h0 ad h => by have := fr ad h; simp; omega) _) ⟨w.heap.size + 1, 0, none⟩ (fun h0 ad h => by have := fr ad h; simp; omega) _) ⟨w.heap.size + 1, 1, none⟩ (fun h0 ad h => by have := fr ad h; simp; omega) _) ⟨w.heap.size + 1, 2, none⟩ (fun h0 ad h => by have := fr ad h; simp; omega) _) ⟨w.heap.size + 1, 3, none⟩ (fun h0 ad h => by have := fr ad h; simp; omega) _) ⟨w.heap.size + 1, 4, none⟩ (fun h0 ad h => by have := fr ad h; simp; omega) _)) (by simp [World.setCell])
        · exact ((((((BF.out.setCell (by first | (simp; done) | (simp; omega)) _).setCell (by first | (simp; done) | (simp; omega)) _).setCell (by first | (simp; done) | (simp; omega)) _).setCell (by first | (simp; done) | (simp; omega)) _).setCell (by first | (simp; done) | (simp; omega)) _).setCell (by first | (simp; done) | (simp; omega)) _)
      obtain ⟨ad, rfl, hbl, hc1, hc2⟩ := PRead.at_ (H.out.below BB.out) hm
      rw [show ad.add (0 * 2) = ad from by simp [Addr.add]] at hc1
      have hbl2 : ad.block < wr.heap.size := by have := BB.out.size; omega
      clear hc2
      have hy := Lib.hid (expire_yes (f := tt - v + 1) (ys := ys))
      have hn := Lib.hid (expire_no (f := tt - v + 1) (ys := ys))
      have hl2 := HL.out _ (HM.out _ (by rw [List.getElem?_eq_getElem (by rw [HLn.out]; exact hm)]; exact List.getElem_mem (by rw [HLn.out]; exact hm) : (ys[0]?.getD (0, 0)) ∈ ys))
      generalize (ys[0]?.getD (0, 0)).1 = z at *
      replace HLv := Lib.hid (fun W => HLv.out z W)
      rw [hl2] at HLv
      clear hl2
      by_cases hz : z < tt - v + 1
      case pos =>
        rw [decide_eq_true hz] at HLv
        go_wp2_with fail
        (refine gro.wp_region_grown (by kernel_rfl) (by kernel_rfl) ?_; (repeat (go_big_quiet_step ((go_at_call 34; exact gro.call_same (HLv.out _))))); refine wpQuiet_nil ?_; intro _ hw'; obtain ⟨nx, hw''⟩ := hw'; subst hw'')
        replace KK := Lib.hid (KK.out.below (below_grown _ nx))
        replace BB := Lib.hid (BB.out.trans ((below_grown _ nx).mono BB.out.size))
        replace sz := Nat.le_trans sz (below_grown _ nx).size
        clear R
        generalize grown _ nx = W7 at *
        have R := KK.out.rules
        simp only [Rules] at R
        go_wp2
        all_goals (go_roundg (k - 1); (case measure => omega); (case rel => exact ⟨k - 1, c' - 1, (if c' = 1 then some ad else some ⟨ad.block, ad.off + 2, none⟩), ys.drop 1, by first | rfl | (simp [*]; done), by omega, by omega, by omega, by omega, sz, H.out.tail hm hmc, Lib.hid ((hy.out hz (by rw [HLn.out]; exact hm)).trans HE.out), Lib.hid (fun q hq => HM.out q (List.mem_of_mem_drop hq)), KK, BB⟩))
      rw [decide_eq_false hz] at HLv
      go_wp2_with fail
      (refine gro.wp_region_grown (by kernel_rfl) (by kernel_rfl) ?_; (repeat (go_big_quiet_step ((go_at_call 34; exact gro.call_same (HLv.out _))))); refine wpQuiet_nil ?_; intro _ hw'; obtain ⟨nx, hw''⟩ := hw'; subst hw'')
      replace KK := Lib.hid (KK.out.below (below_grown _ nx))
      replace BB := Lib.hid (BB.out.trans ((below_grown _ nx).mono BB.out.size))
      replace sz := Nat.le_trans sz (below_grown _ nx).size
      clear R
      generalize grown _ nx = W7 at *
      have R := KK.out.rules
      simp only [Rules] at R
      have HA : Hid (∀ b, Reads (W7.alloc b) (W7.alloc b).heap.size 2 (some ad) k (pc ys)) := fun b => ((H.out.below BB.out).alloc BB.out.size b).more (by have := BB.out.size; simp; omega)
      have HE2 : Hid (ys = expireL (tt - v + 1) xs) := by rw [Hid, ← HE.out, hn.out (by omega) (by rw [HLn.out]; exact hm)]
      go_wp2_with (at_builtin; refine wpList_append_any _ rfl (.tmp 47) (.tmp 48) 22 rfl W7.heap.size 40 i0 (.agg #[.int .i64 0, .int .i64 0]) 2 16 Try.underlying22 HI.out HZ0.out HZ1.out HZ2.out rfl (by omega) (.slice (some ⟨W7.heap.size, 0, none⟩) 0 0) 0 [] rfl (own_empty W7 40) _ (some ad) k c' (pc ys) rfl (HA.out _) (pc_oneCell _) (by unfold maxLen; omega) (by omega) (by simp) ?_; intro v1 w1 hown1 hg1 hat1; rw [Nat.zero_add, List.nil_append] at hown1; obtain ⟨A4, c4, rfl, q1, q2, q3⟩ := own_form hown1; have HB1 : Hid (Below W7.heap.size W7 w1) := ((Below.refl _ _).alloc (Nat.le_refl _) _).grown hg1 (by simp) (by simp [Value.ownBlock]); have HO1 := Lib.hid hown1; have Q1 := Lib.hid q1; have Q2 := Lib.hid q2; clear hown1 hg1 hat1 q1 q2 q3; have K2 := KK.out.below HB1.out; have R2 := K2.rules; simp only [Rules] at R2; have K3 := Bx.one (d := #[Value.bool m, Value.int IntKind.i64 v, Value.int IntKind.i64 p, Value.int IntKind.i64 tt, Value.slice A4 k c4]) 4 (.slice A4 k c4) K2 (by simp) (by simp); have R3 := K3.rules; simp only [Rules] at R3)
      have BF := Lib.hid (BB.out.trans (HB1.out.mono (show w.heap.size ≤ W7.heap.size by omega)))
      have fr : ∀ ad, A4 = some ad → W7.heap.size ≤ ad.block := fun ad e => own_new HO1.out ad e
      have HR : Hid (PRead w1 w1.heap.size A4 k ys) := Reads.of_own HO1.out
      refine bodyPost_ret (v := Value.tuple #[.agg #[Value.bool m, Value.int IntKind.i64 v, Value.int IntKind.i64 p, Value.int IntKind.i64 tt, Value.slice A4 k c4], .int .i64 0]) (by simp [results, Try.results14, go_sem, R2, R3]) rfl ⟨A4, k, _, rfl, Q1.out, ⟨Q2.out, fun ad h => by have := fr ad h; omega⟩, ?_, ?_⟩
      · rw [← HE2.out]
        exact PRead.sz ((PRead.far (PRead.far (PRead.far (PRead.far (PRead.far (PRead.far HR.out ⟨w.heap.size, 4, none⟩ (fun h0 ad h => by have := fr ad h; simp; omega) _) ⟨w.heap.size + 1, 0, none⟩ (fun h0 ad h => by have := fr ad h; simp; omega) _) ⟨w.heap.size + 1, 1, none⟩ (fun h0 ad h => by have := fr ad h; simp; omega) _) ⟨w.heap.size + 1, 2, none⟩ (fun h0 ad h => by have := fr ad h; simp; omega) _) ⟨w.heap.size + 1, 3, none⟩ (fun h0 ad h => by have := fr ad h; simp; omega) _) ⟨w.heap.size + 1, 4, none⟩ (fun h0 ad h => by have := fr ad h; simp; omega) _)) (by simp [World.setCell])
      · exact ((((((BF.out.setCell (by first | (simp; done) | (simp; omega)) _).setCell (by first | (simp; done) | (simp; omega)) _).setCell (by first | (simp; done) | (simp; omega)) _).setCell (by first | (simp; done) | (simp; omega)) _).setCell (by first | (simp; done) | (simp; omega)) _).setCell (by first | (simp; done) | (simp; omega)) _)
end Go.Proofs.Yteajgmihhnghfaa.ext
