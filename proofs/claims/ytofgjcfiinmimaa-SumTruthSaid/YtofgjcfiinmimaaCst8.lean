/- Contracts of Advance of histograms of counts and of sums. -/
import Derived.Test.YtofgjcfiinmimaaCst3
import Derived.Test.YtofgjcfiinmimaaCst1
import Derived.Test.YtofgjcfiinmimaaMgExpireF
namespace Go.Proofs.Ytofgjcfiinmimaa.cst
open Go.RowKit Go.Proofs.Ytofgjcfiinmimaa.mem Go.Proofs.Ytofgjcfiinmimaa.lst Go.Proofs.Ytofgjcfiinmimaa.gro
set_option linter.unusedVariables false
set_option linter.unusedSimpArgs false
def advE (ft : Bool) (er : Int) : Int := if ft = true then er else 2
theorem advE_t (er : Int) : advE true er = er := rfl
theorem advE_f (er : Int) : advE false er = 2 := rfl
def okT (er : Int) : Bool := decide (er = 0)
theorem okT_3 : okT 3 = false := rfl
theorem okT_0 : okT 0 = true := rfl
theorem NewCst.of {x0 x1 x2 x3 : Int} {ys : List (Int × Int)} {er : Int} {w w' : World} {e : Ending} {A : Option Addr} {m c : Nat} (he : e = .returned (.tuple #[.agg #[.int .i64 x0, .int .i64 x1, .int .i64 x2, .int .i64 x3, .slice A m c], .int .i64 er])) (h1 : m ≤ c) (h2 : c ≤ maxLen) (hr : PRead w w.heap.size A m ys) (hb : Below w.heap.size w w') : NewCst x0 x1 x2 x3 ys er w e w' :=
  ⟨A, m, c, he, h1, h2, (Reads.below hr hb).more hb.size, hb⟩
theorem NewSst.of {x0 x1 x2 x3 x4 : Int} {ys : List (Int × Int)} {er : Int} {w w' : World} {e : Ending} {A : Option Addr} {m c : Nat} (he : e = .returned (.tuple #[.agg #[.int .i64 x0, .int .i64 x1, .int .i64 x2, .int .i64 x3, .int .i64 x4, .slice A m c], .int .i64 er])) (h1 : m ≤ c) (h2 : c ≤ maxLen) (hr : PRead w w.heap.size A m ys) (hb : Below w.heap.size w w') : NewSst x0 x1 x2 x3 x4 ys er w e w' :=
  ⟨A, m, c, he, h1, h2, (Reads.below hr hb).more hb.size, hb⟩
set_option maxHeartbeats 8000000 in
set_option maxRecDepth 100000 in
theorem AdvanceC_f (v k p o tt : Int) (A : Option Addr) (n c : Nat) (xs : List (Int × Int)) (w : World) (h1 : PRead w w.heap.size A n xs) (hnc : n ≤ c) (hcm : c ≤ maxLen) (hsmall : n ≤ 2000) :
    Calls Try.prog 23 #[(Value.agg #[.int .i64 v, .int .i64 k, .int .i64 p, .int .i64 o, .slice A n c]), .int .i64 tt] w (NewCsf (kp (fitB xs v k p o && okT (timeE o tt)) v) (kp (fitB xs v k p o && okT (timeE o tt)) k) (kp (fitB xs v k p o && okT (timeE o tt)) p) (kp (fitB xs v k p o && okT (timeE o tt)) tt) (lsK (fitB xs v k p o && okT (timeE o tt)) (expireL (clk.firstI tt v) xs)) (advE (fitB xs v k p o) (timeE o tt)) w) := by
  have HV := Lib.hid (fun W (hb : Below w.heap.size w W) => ValidateC_any v k p o A n c xs W ((h1.below hb).more hb.size) hnc hcm hsmall)
  have hft : fitB xs v k p o = true → 0 ≤ o ∧ o ≤ 16777216 := fun h => (goodC_iff.1 (fit_iff.1 h).1).2.2.2
  have HB := Lib.hid (fun (h : 0 ≤ o ∧ o ≤ 16777216) W => ClkAdv_any o tt h W)
  have HF := Lib.hid (fun W => clk.first_any tt v W)
  have HE := Lib.hid (fun W (hb : Below w.heap.size w W) => Expire_f A n c xs (clk.firstI tt v) W ((h1.below hb).more hb.size) hnc hcm (by omega))
  clear h1 hcm
  generalize fitB xs v k p o = ft at *
  generalize expireL (clk.firstI tt v) xs = ys at *
  generalize clk.firstI tt v = fi at *
  cases ft
  case false =>
    clear hft HB HF HE
    simp only [kp_t, kp_f, lsK_t, lsK_f, advE_t, advE_f, okT_3, okT_0, okE_t, okE_f, Bool.false_and, Bool.true_and, Bool.and_false, Bool.and_true] at *
    go_enter Try.func23, Try.ntmps23
    go_wp2_with fail
    obtain ⟨W0, hW, hs0, K0, B0⟩ := start2 w 24 24 #[Value.int IntKind.i64 v, Value.int IntKind.i64 k, Value.int IntKind.i64 p, Value.int IntKind.i64 o, Value.slice A n c] #[Value.int IntKind.i64 0, Value.int IntKind.i64 0, Value.int IntKind.i64 0, Value.int IntKind.i64 0, Value.slice none 0 0]
    rw [hW]
    clear hW
    have KK := Lib.hid K0
    have BB := Lib.hid B0
    have sz : w.heap.size + 1 + 1 ≤ W0.heap.size := by omega
    have R := K0.rules
    simp only [Rules] at R
    clear K0 B0 hs0
    (with_reducible refine (HV.out _ BB.out).mono ?_)
    rintro e wv ⟨rfl, hbv⟩
    replace BB := Lib.hid (BB.out.trans (hbv.mono BB.out.size))
    replace KK := Lib.hid (KK.out.below hbv)
    replace sz := Nat.le_trans sz hbv.size
    replace R := KK.out.rules
    simp only [Rules] at R
    clear hbv
    go_wp2
    refine bodyPost_ret (v := Value.tuple #[.agg #[Value.int IntKind.i64 0, Value.int IntKind.i64 0, Value.int IntKind.i64 0, Value.int IntKind.i64 0, Value.slice none 0 0], .int .i64 2]) (by simp [results, Try.results23, go_sem, R]) rfl ⟨none, 0, 0, rfl, Nat.le_refl _, ⟨Nat.zero_le _, fun ad h => by cases h⟩, .nil_, ?_⟩
    exact (((((BB.out.setCell (by first | (simp; done) | (simp; omega)) _).setCell (by first | (simp; done) | (simp; omega)) _).setCell (by first | (simp; done) | (simp; omega)) _).setCell (by first | (simp; done) | (simp; omega)) _).setCell (by first | (simp; done) | (simp; omega)) _)
  have ho := hft rfl
  clear hft
  replace HB := Lib.hid (HB.out ho)
  rcases timeE_iff (o := o) (tt := tt) with ⟨ht, e⟩ | ⟨ht, e⟩ <;> rw [e] at HB ⊢ <;> clear e ht
  · clear HF HE
    simp only [kp_t, kp_f, lsK_t, lsK_f, advE_t, advE_f, okT_3, okT_0, okE_t, okE_f, Bool.false_and, Bool.true_and, Bool.and_false, Bool.and_true] at *
    go_enter Try.func23, Try.ntmps23
    go_wp2_with fail
    obtain ⟨W0, hW, hs0, K0, B0⟩ := start2 w 24 24 #[Value.int IntKind.i64 v, Value.int IntKind.i64 k, Value.int IntKind.i64 p, Value.int IntKind.i64 o, Value.slice A n c] #[Value.int IntKind.i64 0, Value.int IntKind.i64 0, Value.int IntKind.i64 0, Value.int IntKind.i64 0, Value.slice none 0 0]
    rw [hW]
    clear hW
    have KK := Lib.hid K0
    have BB := Lib.hid B0
    have sz : w.heap.size + 1 + 1 ≤ W0.heap.size := by omega
    have R := K0.rules
    simp only [Rules] at R
    clear K0 B0 hs0
    (with_reducible refine (HV.out _ BB.out).mono ?_)
    rintro e wv ⟨rfl, hbv⟩
    replace BB := Lib.hid (BB.out.trans (hbv.mono BB.out.size))
    replace KK := Lib.hid (KK.out.below hbv)
    replace sz := Nat.le_trans sz hbv.size
    replace R := KK.out.rules
    simp only [Rules] at R
    clear hbv
    go_wp2_with fail
    (with_reducible refine (HB.out _).mono ?_)
    rintro e w1 ⟨⟨r, rfl⟩, rfl⟩
    go_wp2
    refine bodyPost_ret (v := Value.tuple #[.agg #[Value.int IntKind.i64 0, Value.int IntKind.i64 0, Value.int IntKind.i64 0, Value.int IntKind.i64 0, Value.slice none 0 0], .int .i64 3]) (by simp [results, Try.results23, go_sem, R]) rfl ⟨none, 0, 0, rfl, Nat.le_refl _, ⟨Nat.zero_le _, fun ad h => by cases h⟩, .nil_, ?_⟩
    exact (((((BB.out.setCell (by first | (simp; done) | (simp; omega)) _).setCell (by first | (simp; done) | (simp; omega)) _).setCell (by first | (simp; done) | (simp; omega)) _).setCell (by first | (simp; done) | (simp; omega)) _).setCell (by first | (simp; done) | (simp; omega)) _)
  · simp only [kp_t, kp_f, lsK_t, lsK_f, advE_t, advE_f, okT_3, okT_0, okE_t, okE_f, Bool.false_and, Bool.true_and, Bool.and_false, Bool.and_true] at *
    go_enter Try.func23, Try.ntmps23
    go_wp2_with fail
    obtain ⟨W0, hW, hs0, K0, B0⟩ := start2 w 24 24 #[Value.int IntKind.i64 v, Value.int IntKind.i64 k, Value.int IntKind.i64 p, Value.int IntKind.i64 o, Value.slice A n c] #[Value.int IntKind.i64 0, Value.int IntKind.i64 0, Value.int IntKind.i64 0, Value.int IntKind.i64 0, Value.slice none 0 0]
    rw [hW]
    clear hW
    have KK := Lib.hid K0
    have BB := Lib.hid B0
    have sz : w.heap.size + 1 + 1 ≤ W0.heap.size := by omega
    have R := K0.rules
    simp only [Rules] at R
    clear K0 B0 hs0
    (with_reducible refine (HV.out _ BB.out).mono ?_)
    rintro e wv ⟨rfl, hbv⟩
    replace BB := Lib.hid (BB.out.trans (hbv.mono BB.out.size))
    replace KK := Lib.hid (KK.out.below hbv)
    replace sz := Nat.le_trans sz hbv.size
    replace R := KK.out.rules
    simp only [Rules] at R
    clear hbv
    go_wp2_with fail
    (with_reducible refine (HB.out _).mono ?_)
    rintro e w1 ⟨⟨r, rfl⟩, rfl⟩
    go_wp2_with fail
    obtain ⟨W1, hW, K1, B1, sz1⟩ := name_world (Bx.one (d := #[Value.int IntKind.i64 v, Value.int IntKind.i64 k, Value.int IntKind.i64 p, Value.int IntKind.i64 tt, Value.slice A n c]) 3 (.int .i64 tt) KK.out.swap (by simp) (by simp)) (BB.out.setCell (p := ⟨w.heap.size, 3, none⟩) (by simp) _) (s := w.heap.size + 1 + 1) (by simp only [set1_size]; exact sz)
    rw [hW]
    clear hW KK BB R sz
    have KL := K1.perm (L' := [(w.heap.size, 24, #[Value.int IntKind.i64 v, Value.int IntKind.i64 k, Value.int IntKind.i64 p, Value.int IntKind.i64 tt, Value.slice A n c])]) (by simp)
    (refine gro.wp_region_keep 6 3 8 _ (gro.lasts_bx _) (by kernel_rfl) (by kernel_rfl) (by intro _ _ _ _ _ h; exact h) (by kernel_rfl) (by kernel_rfl) (by kernel_rfl) (by kernel_rfl) (KL).drew ?_; apply Exists.intro; refine ⟨fun w0 hb0 => ?_, ?_⟩; focus (have RZ := gro.Bx.rules hb0; simp only [gro.Rules] at RZ; simp only [List.take_succ_cons, List.take_zero]; (repeat (go_big_quiet_step (((go_at_call 61; exact call_same (HF.out _)))))); exact wpQuiet_nil rfl))
    refine gro.anyK_one 6 (by kernel_rfl) rfl ?_
    intro y1 hz1 K' hK'
    have KY1 := K1.drew.below hz1
    have BY1 := B1.drew.trans (hz1.mono B1.drew.size)
    have sy1 : w.heap.size + 1 + 1 ≤ y1.heap.size := Nat.le_trans sz1 hz1.size
    go_simp
    refine (HE.out _ BY1).mono ?_
    rintro e y2 ⟨A6, l6, c6, rfl, r1, ⟨r2, fr⟩, hr, hb⟩
    have fr6 : ∀ ad, A6 = some ad → w.heap.size + 1 + 1 ≤ ad.block := fun ad h => Nat.le_trans sy1 (fr ad h)
    refine hK' _ _ ⟨fun _ => (KL.drew.below hz1).below hb, ?_⟩
    clear hK' K'
    have KY2 := KY1.below hb
    have BY2 := BY1.trans (hb.mono BY1.size)
    refine gro.anyK_one 7 (by kernel_rfl) rfl ?_
    intro y3 hz3 K' hK'
    have KY3 := KY2.below hz3
    have BY3 := BY2.trans (hz3.mono BY2.size)
    have hr3 := (Reads.below hr hz3).more hz3.size
    go_simp
    refine hK' _ _ ⟨fun _ => ((KL.drew.below hz1).below hb).below hz3, ?_⟩
    clear hK' K'
    refine gro.anyK_one 8 (by kernel_rfl) rfl ?_
    intro y4 hz4 K' hK'
    have KY4 := KY3.below hz4
    have BY4 := BY3.trans (hz4.mono BY3.size)
    have hr4 := (Reads.below hr3 hz4).more hz4.size
    have RY := KY4.rules
    simp only [gro.Rules] at RY
    go_simp
    refine hK' _ _ ⟨fun h => absurd rfl h, ?_⟩
    clear hK' K' RY
    obtain ⟨y5, hy5, KY5, BY5, sY5⟩ := name_world (Bx.one (d := #[Value.int IntKind.i64 v, Value.int IntKind.i64 k, Value.int IntKind.i64 p, Value.int IntKind.i64 tt, Value.slice A6 l6 c6]) 4 (.slice A6 l6 c6) KY4 (by simp) (by simp)) (BY4.setCell (p := ⟨w.heap.size, 4, none⟩) (by simp) (.slice A6 l6 c6)) (s := 0) (by omega)
    have hr5 : PRead y5 y5.heap.size A6 l6 ys := by
      rw [← hy5]
      exact PRead.sz (PRead.far hr4 ⟨w.heap.size, 4, none⟩ (fun h0 ad h => by have := fr6 ad h; simp; omega) _) (by simp [World.setCell])
    rw [hy5]
    clear hy5
    refine gro.anyK_done (by kernel_rfl) ?_
    intro y6 hz6
    have KK := Lib.hid (KY5.below hz6)
    have BB := Lib.hid (BY5.trans (hz6.mono BY5.size))
    have HR6 := Lib.hid ((Reads.below hr5 hz6).more hz6.size)
    have R := KK.out.rules
    simp only [gro.Rules] at R
    clear K1 B1 KL KY1 KY2 KY3 KY4 KY5 BY1 BY2 BY3 BY4 BY5 hz1 hz3 hz4 hz6 hr hr3 hr4 hr5 hb
    go_wp2
    refine bodyPost_ret (v := Value.tuple #[.agg #[Value.int IntKind.i64 v, Value.int IntKind.i64 k, Value.int IntKind.i64 p, Value.int IntKind.i64 tt, Value.slice A6 l6 c6], .int .i64 0]) (by simp [results, Try.results23, go_sem, R]) rfl ⟨A6, l6, c6, rfl, r1, ⟨r2, fun ad h => by have := fr6 ad h; omega⟩, ?_, ?_⟩
    · exact PRead.sz ((PRead.far (PRead.far (PRead.far (PRead.far (PRead.far (show PRead _ y6.heap.size A6 l6 ys from HR6.out) ⟨w.heap.size + 1, 0, none⟩ (fun h0 ad h => by have := fr6 ad h; simp; omega) _) ⟨w.heap.size + 1, 1, none⟩ (fun h0 ad h => by have := fr6 ad h; simp; omega) _) ⟨w.heap.size + 1, 2, none⟩ (fun h0 ad h => by have := fr6 ad h; simp; omega) _) ⟨w.heap.size + 1, 3, none⟩ (fun h0 ad h => by have := fr6 ad h; simp; omega) _) ⟨w.heap.size + 1, 4, none⟩ (fun h0 ad h => by have := fr6 ad h; simp; omega) _)) (by simp [World.setCell])
    · exact (((((BB.out.setCell (by first | (simp; done) | (simp; omega)) _).setCell (by first | (simp; done) | (simp; omega)) _).setCell (by first | (simp; done) | (simp; omega)) _).setCell (by first | (simp; done) | (simp; omega)) _).setCell (by first | (simp; done) | (simp; omega)) _)
theorem AdvanceC_any (v k p o tt : Int) (A : Option Addr) (n c : Nat) (xs : List (Int × Int)) (w : World) (h1 : PRead w w.heap.size A n xs) (hnc : n ≤ c) (hcm : c ≤ maxLen) (hsmall : n ≤ 2000) :
    Calls Try.prog 23 #[(Value.agg #[.int .i64 v, .int .i64 k, .int .i64 p, .int .i64 o, .slice A n c]), .int .i64 tt] w (NewCst (kp (fitB xs v k p o && okT (timeE o tt)) v) (kp (fitB xs v k p o && okT (timeE o tt)) k) (kp (fitB xs v k p o && okT (timeE o tt)) p) (kp (fitB xs v k p o && okT (timeE o tt)) tt) (lsK (fitB xs v k p o && okT (timeE o tt)) (expireL (clk.firstI tt v) xs)) (advE (fitB xs v k p o) (timeE o tt)) w) :=
  (AdvanceC_f v k p o tt A n c xs w h1 hnc hcm hsmall).mono (fun _ _ h => h.st)
set_option maxHeartbeats 8000000 in
set_option maxRecDepth 100000 in
theorem AdvanceCR_any (v k p o tt : Int) (A : Option Addr) (n c : Nat) (xs : List (Int × Int)) (w : World) (h1 : PRead w w.heap.size A n xs) (hnc : n ≤ c) (hcm : c ≤ maxLen) (hsmall : n ≤ 2000) :
    Calls Try.prog 24 #[(Value.agg #[.int .i64 v, .int .i64 k, .int .i64 p, .int .i64 o, .slice A n c]), .int .i64 tt] w (NewCst (kp (fitB xs v k p o && okT (timeE o tt)) v) (kp (fitB xs v k p o && okT (timeE o tt)) k) (kp (fitB xs v k p o && okT (timeE o tt)) p) (kp (fitB xs v k p o && okT (timeE o tt)) tt) (lsK (fitB xs v k p o && okT (timeE o tt)) (expireL (clk.firstI tt v) xs)) (advE (fitB xs v k p o) (timeE o tt)) w) := by
  have HV := Lib.hid (fun W (hb : Below w.heap.size w W) => ValidateCR_any v k p o A n c xs W ((h1.below hb).more hb.size) hnc hcm hsmall)
  have hft : fitB xs v k p o = true → 0 ≤ o ∧ o ≤ 16777216 := fun h => (goodC_iff.1 (fit_iff.1 h).1).2.2.2
  have HB := Lib.hid (fun W => Back_any o tt W)
  have HF := Lib.hid (fun W => clk.First_any tt v W)
  have HE := Lib.hid (fun W (hb : Below w.heap.size w W) => ExpireRef_any A n c xs (clk.firstI tt v) W w.heap.size (h1.below hb) hnc hcm)
  clear h1 hcm
  generalize fitB xs v k p o = ft at *
  generalize clk.firstI tt v = fi at *
  cases ft
  case false =>
    clear hft HB HF HE
    simp only [kp_t, kp_f, lsK_t, lsK_f, advE_t, advE_f, okT_3, okT_0, okE_t, okE_f, Bool.false_and, Bool.true_and, Bool.and_false, Bool.and_true] at *
    go_enter Try.func24, Try.ntmps24
    go_wp2_with fail
    obtain ⟨W0, hW, hs0, K0, B0⟩ := start2 w 24 24 #[Value.int IntKind.i64 v, Value.int IntKind.i64 k, Value.int IntKind.i64 p, Value.int IntKind.i64 o, Value.slice A n c] #[Value.int IntKind.i64 0, Value.int IntKind.i64 0, Value.int IntKind.i64 0, Value.int IntKind.i64 0, Value.slice none 0 0]
    rw [hW]
    clear hW
    have KK := Lib.hid K0
    have BB := Lib.hid B0
    have sz : w.heap.size + 1 + 1 ≤ W0.heap.size := by omega
    have R := K0.rules
    simp only [Rules] at R
    clear K0 B0 hs0
    (with_reducible refine (HV.out _ BB.out).mono ?_)
    rintro e wv ⟨rfl, hbv⟩
    replace BB := Lib.hid (BB.out.trans (hbv.mono BB.out.size))
    replace KK := Lib.hid (KK.out.below hbv)
    replace sz := Nat.le_trans sz hbv.size
    replace R := KK.out.rules
    simp only [Rules] at R
    clear hbv
    go_wp2
    refine bodyPost_ret (v := Value.tuple #[.agg #[Value.int IntKind.i64 0, Value.int IntKind.i64 0, Value.int IntKind.i64 0, Value.int IntKind.i64 0, Value.slice none 0 0], .int .i64 2]) (by simp [results, Try.results24, go_sem, R]) rfl ⟨none, 0, 0, rfl, Nat.le_refl _, Nat.zero_le _, .nil_, ?_⟩
    exact (((((BB.out.setCell (by first | (simp; done) | (simp; omega)) _).setCell (by first | (simp; done) | (simp; omega)) _).setCell (by first | (simp; done) | (simp; omega)) _).setCell (by first | (simp; done) | (simp; omega)) _).setCell (by first | (simp; done) | (simp; omega)) _)
  have ho := hft rfl
  clear hft
  rcases timeE_iff (o := o) (tt := tt) with ⟨ht, e⟩ | ⟨ht, e⟩ <;> rw [e] at HB ⊢ <;> clear e ht
  · clear HF HE
    simp only [kp_t, kp_f, lsK_t, lsK_f, advE_t, advE_f, okT_3, okT_0, okE_t, okE_f, Bool.false_and, Bool.true_and, Bool.and_false, Bool.and_true] at *
    go_enter Try.func24, Try.ntmps24
    go_wp2_with fail
    obtain ⟨W0, hW, hs0, K0, B0⟩ := start2 w 24 24 #[Value.int IntKind.i64 v, Value.int IntKind.i64 k, Value.int IntKind.i64 p, Value.int IntKind.i64 o, Value.slice A n c] #[Value.int IntKind.i64 0, Value.int IntKind.i64 0, Value.int IntKind.i64 0, Value.int IntKind.i64 0, Value.slice none 0 0]
    rw [hW]
    clear hW
    have KK := Lib.hid K0
    have BB := Lib.hid B0
    have sz : w.heap.size + 1 + 1 ≤ W0.heap.size := by omega
    have R := K0.rules
    simp only [Rules] at R
    clear K0 B0 hs0
    (with_reducible refine (HV.out _ BB.out).mono ?_)
    rintro e wv ⟨rfl, hbv⟩
    replace BB := Lib.hid (BB.out.trans (hbv.mono BB.out.size))
    replace KK := Lib.hid (KK.out.below hbv)
    replace sz := Nat.le_trans sz hbv.size
    replace R := KK.out.rules
    simp only [Rules] at R
    clear hbv
    go_wp2_with fail
    (with_reducible refine (HB.out _).mono ?_)
    rintro e w1 ⟨rfl, rfl⟩
    go_wp2
    refine bodyPost_ret (v := Value.tuple #[.agg #[Value.int IntKind.i64 0, Value.int IntKind.i64 0, Value.int IntKind.i64 0, Value.int IntKind.i64 0, Value.slice none 0 0], .int .i64 3]) (by simp [results, Try.results24, go_sem, R]) rfl ⟨none, 0, 0, rfl, Nat.le_refl _, Nat.zero_le _, .nil_, ?_⟩
    exact (((((BB.out.setCell (by first | (simp; done) | (simp; omega)) _).setCell (by first | (simp; done) | (simp; omega)) _).setCell (by first | (simp; done) | (simp; omega)) _).setCell (by first | (simp; done) | (simp; omega)) _).setCell (by first | (simp; done) | (simp; omega)) _)
  · simp only [kp_t, kp_f, lsK_t, lsK_f, advE_t, advE_f, okT_3, okT_0, okE_t, okE_f, Bool.false_and, Bool.true_and, Bool.and_false, Bool.and_true] at *
    go_enter Try.func24, Try.ntmps24
    go_wp2_with fail
    obtain ⟨W0, hW, hs0, K0, B0⟩ := start2 w 24 24 #[Value.int IntKind.i64 v, Value.int IntKind.i64 k, Value.int IntKind.i64 p, Value.int IntKind.i64 o, Value.slice A n c] #[Value.int IntKind.i64 0, Value.int IntKind.i64 0, Value.int IntKind.i64 0, Value.int IntKind.i64 0, Value.slice none 0 0]
    rw [hW]
    clear hW
    have KK := Lib.hid K0
    have BB := Lib.hid B0
    have sz : w.heap.size + 1 + 1 ≤ W0.heap.size := by omega
    have R := K0.rules
    simp only [Rules] at R
    clear K0 B0 hs0
    (with_reducible refine (HV.out _ BB.out).mono ?_)
    rintro e wv ⟨rfl, hbv⟩
    replace BB := Lib.hid (BB.out.trans (hbv.mono BB.out.size))
    replace KK := Lib.hid (KK.out.below hbv)
    replace sz := Nat.le_trans sz hbv.size
    replace R := KK.out.rules
    simp only [Rules] at R
    clear hbv
    go_wp2_with fail
    (with_reducible refine (HB.out _).mono ?_)
    rintro e w1 ⟨rfl, rfl⟩
    go_wp2_with fail
    replace KK := Lib.hid KK.out.swap
    (refine gro.wp_region_keep 7 5 11 (gro.Two (w.heap.size) 4 (Value.int .i64 v) (Value.slice A n c)) gro.lasts_two (by kernel_rfl) (by kernel_rfl) (by intro _ _ _ _ _ h; exact h) (by kernel_rfl) (by kernel_rfl) (by kernel_rfl) (by kernel_rfl) (gro.two_bx KK.out.drew rfl rfl) ?_; apply Exists.intro; refine ⟨fun w0 hb0 => ?_, ?_⟩; focus (obtain ⟨_, RZ1, RZ2⟩ := hb0; simp only [List.take_succ_cons, List.take_zero]; (repeat (go_big_quiet_step (((go_at_call 64; exact call_same (HF.out _)))))); exact wpQuiet_nil rfl))
    refine gro.anyK_two 7 8 (by kernel_rfl) rfl rfl ?_ ?_
    · intro y1 hz1 K' hK'
      have KY1 := KK.out.drew.below hz1
      have BY1 := BB.out.drew.trans (hz1.mono BB.out.drew.size)
      go_simp
      refine (HE.out _ BY1).mono ?_
      rintro e y2 ⟨A6, l6, c6, rfl, r1, r2, hr, rfl⟩
      have hrw : PRead w w.heap.size A6 l6 (expireL fi xs) := Reads.keep hr (fun p hp => (BY1.cell hp).symm)
      refine hK' _ _ ⟨fun _ => gro.two_bx KY1 rfl rfl, ?_⟩
      clear hK' K' hr
      refine gro.anyK_one 8 (by kernel_rfl) rfl ?_
      intro y3 hz3 K' hK'
      have KY3 := KY1.below hz3
      have BY3 := BY1.trans (hz3.mono BY1.size)
      go_simp
      refine hK' _ _ ⟨fun _ => gro.two_bx KY3 rfl rfl, ?_⟩
      clear hK' K'
      refine gro.anyK_one 9 (by kernel_rfl) rfl ?_
      intro y5 hz5 K' hK'
      have KY5 := KY3.below hz5
      have BY5 := BY3.trans (hz5.mono BY3.size)
      have RY := KY5.rules
      simp only [gro.Rules] at RY
      go_simp
      have KX := Bx.one (d := #[Value.int IntKind.i64 v, Value.int IntKind.i64 k, Value.int IntKind.i64 p, Value.int IntKind.i64 tt, Value.slice A n c]) 3 (.int .i64 tt) KY5 (by simp) (by simp)
      refine hK' _ _ ⟨fun _ => gro.two_bx KX rfl rfl, ?_⟩
      clear hK' K' RY
      obtain ⟨y6, hy6, KY6, BY6, sY6⟩ := name_world KX (BY5.setCell (p := ⟨w.heap.size, 3, none⟩) (by simp) (.int .i64 tt)) (s := 0) (by omega)
      rw [hy6]
      clear hy6 KX
      refine gro.anyK_one 10 (by kernel_rfl) rfl ?_
      intro y7 hz7 K' hK'
      have KY7 := KY6.below hz7
      have BY7 := BY6.trans (hz7.mono BY6.size)
      go_simp
      refine hK' _ _ ⟨fun _ => gro.two_bx KY7 rfl rfl, ?_⟩
      clear hK' K'
      refine gro.anyK_one 11 (by kernel_rfl) rfl ?_
      intro y8 hz8 K' hK'
      have KY8 := KY7.below hz8
      have BY8 := BY7.trans (hz8.mono BY7.size)
      have RY := KY8.rules
      simp only [gro.Rules] at RY
      go_simp
      refine hK' _ _ ⟨fun h => absurd rfl h, ?_⟩
      clear hK' K' RY
      obtain ⟨y9, hy9, KY9, BY9, sY9⟩ := name_world (Bx.one (d := #[Value.int IntKind.i64 v, Value.int IntKind.i64 k, Value.int IntKind.i64 p, Value.int IntKind.i64 tt, Value.slice A6 l6 c6]) 4 (.slice A6 l6 c6) KY8 (by simp) (by simp)) (BY8.setCell (p := ⟨w.heap.size, 4, none⟩) (by simp) (.slice A6 l6 c6)) (s := 0) (by omega)
      rw [hy9]
      clear hy9
      refine gro.anyK_done (by kernel_rfl) ?_
      intro y10 hz10
      replace KK := Lib.hid (KY9.below hz10)
      replace BB := Lib.hid (BY9.trans (hz10.mono BY9.size))
      have R := KK.out.rules
      simp only [gro.Rules] at R
      clear KY1 KY3 KY5 KY6 KY7 KY8 KY9 BY1 BY3 BY5 BY6 BY7 BY8 BY9 hz1 hz3 hz5 hz7 hz8 hz10
      go_wp2
      refine bodyPost_ret (v := Value.tuple #[.agg #[Value.int IntKind.i64 v, Value.int IntKind.i64 k, Value.int IntKind.i64 p, Value.int IntKind.i64 tt, Value.slice A6 l6 c6], .int .i64 0]) (by simp [results, Try.results24, go_sem, R]) rfl (NewCst.of rfl r1 r2 hrw ?_)
      exact (((((BB.out.setCell (by first | (simp; done) | (simp; omega)) _).setCell (by first | (simp; done) | (simp; omega)) _).setCell (by first | (simp; done) | (simp; omega)) _).setCell (by first | (simp; done) | (simp; omega)) _).setCell (by first | (simp; done) | (simp; omega)) _)
    · intro y1 hz1 K' hK'
      have KY1 := KK.out.drew.below hz1
      have BY1 := BB.out.drew.trans (hz1.mono BB.out.drew.size)
      go_simp
      refine hK' _ _ ⟨fun _ => gro.two_bx KY1 rfl rfl, ?_⟩
      clear hK' K'
      refine gro.anyK_one 7 (by kernel_rfl) rfl ?_
      intro y3 hz3 K' hK'
      have KY3 := KY1.below hz3
      have BY3 := BY1.trans (hz3.mono BY1.size)
      go_simp
      refine (HE.out _ BY3).mono ?_
      rintro e y2 ⟨A6, l6, c6, rfl, r1, r2, hr, rfl⟩
      have hrw : PRead w w.heap.size A6 l6 (expireL fi xs) := Reads.keep hr (fun p hp => (BY3.cell hp).symm)
      refine hK' _ _ ⟨fun _ => gro.two_bx KY3 rfl rfl, ?_⟩
      clear hK' K' hr
      refine gro.anyK_one 9 (by kernel_rfl) rfl ?_
      intro y5 hz5 K' hK'
      have KY5 := KY3.below hz5
      have BY5 := BY3.trans (hz5.mono BY3.size)
      have RY := KY5.rules
      simp only [gro.Rules] at RY
      go_simp
      have KX := Bx.one (d := #[Value.int IntKind.i64 v, Value.int IntKind.i64 k, Value.int IntKind.i64 p, Value.int IntKind.i64 tt, Value.slice A n c]) 3 (.int .i64 tt) KY5 (by simp) (by simp)
      refine hK' _ _ ⟨fun _ => gro.two_bx KX rfl rfl, ?_⟩
      clear hK' K' RY
      obtain ⟨y6, hy6, KY6, BY6, sY6⟩ := name_world KX (BY5.setCell (p := ⟨w.heap.size, 3, none⟩) (by simp) (.int .i64 tt)) (s := 0) (by omega)
      rw [hy6]
      clear hy6 KX
      refine gro.anyK_one 10 (by kernel_rfl) rfl ?_
      intro y7 hz7 K' hK'
      have KY7 := KY6.below hz7
      have BY7 := BY6.trans (hz7.mono BY6.size)
      go_simp
      refine hK' _ _ ⟨fun _ => gro.two_bx KY7 rfl rfl, ?_⟩
      clear hK' K'
      refine gro.anyK_one 11 (by kernel_rfl) rfl ?_
      intro y8 hz8 K' hK'
      have KY8 := KY7.below hz8
      have BY8 := BY7.trans (hz8.mono BY7.size)
      have RY := KY8.rules
      simp only [gro.Rules] at RY
      go_simp
      refine hK' _ _ ⟨fun h => absurd rfl h, ?_⟩
      clear hK' K' RY
      obtain ⟨y9, hy9, KY9, BY9, sY9⟩ := name_world (Bx.one (d := #[Value.int IntKind.i64 v, Value.int IntKind.i64 k, Value.int IntKind.i64 p, Value.int IntKind.i64 tt, Value.slice A6 l6 c6]) 4 (.slice A6 l6 c6) KY8 (by simp) (by simp)) (BY8.setCell (p := ⟨w.heap.size, 4, none⟩) (by simp) (.slice A6 l6 c6)) (s := 0) (by omega)
      rw [hy9]
      clear hy9
      refine gro.anyK_done (by kernel_rfl) ?_
      intro y10 hz10
      replace KK := Lib.hid (KY9.below hz10)
      replace BB := Lib.hid (BY9.trans (hz10.mono BY9.size))
      have R := KK.out.rules
      simp only [gro.Rules] at R
      clear KY1 KY3 KY5 KY6 KY7 KY8 KY9 BY1 BY3 BY5 BY6 BY7 BY8 BY9 hz1 hz3 hz5 hz7 hz8 hz10
      go_wp2
      refine bodyPost_ret (v := Value.tuple #[.agg #[Value.int IntKind.i64 v, Value.int IntKind.i64 k, Value.int IntKind.i64 p, Value.int IntKind.i64 tt, Value.slice A6 l6 c6], .int .i64 0]) (by simp [results, Try.results24, go_sem, R]) rfl (NewCst.of rfl r1 r2 hrw ?_)
      exact (((((BB.out.setCell (by first | (simp; done) | (simp; omega)) _).setCell (by first | (simp; done) | (simp; omega)) _).setCell (by first | (simp; done) | (simp; omega)) _).setCell (by first | (simp; done) | (simp; omega)) _).setCell (by first | (simp; done) | (simp; omega)) _)
set_option maxHeartbeats 8000000 in
set_option maxRecDepth 100000 in
theorem AdvanceS_f (v k p m o tt : Int) (A : Option Addr) (n c : Nat) (xs : List (Int × Int)) (w : World) (h1 : PRead w w.heap.size A n xs) (hnc : n ≤ c) (hcm : c ≤ maxLen) (hsmall : n ≤ 2000) :
    Calls Try.prog 35 #[(Value.agg #[.int .i64 v, .int .i64 k, .int .i64 p, .int .i64 m, .int .i64 o, .slice A n c]), .int .i64 tt] w (NewSsf (kp (fitS xs v k p m o && okT (timeE o tt)) v) (kp (fitS xs v k p m o && okT (timeE o tt)) k) (kp (fitS xs v k p m o && okT (timeE o tt)) p) (kp (fitS xs v k p m o && okT (timeE o tt)) m) (kp (fitS xs v k p m o && okT (timeE o tt)) tt) (lsK (fitS xs v k p m o && okT (timeE o tt)) (expireL (clk.firstI tt v) xs)) (advE (fitS xs v k p m o) (timeE o tt)) w) := by
  have HV := Lib.hid (fun W (hb : Below w.heap.size w W) => ValidateS_any v k p m o A n c xs W ((h1.below hb).more hb.size) hnc hcm hsmall)
  have hft : fitS xs v k p m o = true → 0 ≤ o ∧ o ≤ 16777216 := fun h => (goodS_iff.1 (fitS_iff.1 h).1).1.2.2.2
  have HB := Lib.hid (fun (h : 0 ≤ o ∧ o ≤ 16777216) W => ClkAdv_any o tt h W)
  have HF := Lib.hid (fun W => clk.first_any tt v W)
  have HE := Lib.hid (fun W (hb : Below w.heap.size w W) => Expire_f A n c xs (clk.firstI tt v) W ((h1.below hb).more hb.size) hnc hcm (by omega))
  clear h1 hcm
  generalize fitS xs v k p m o = ft at *
  generalize expireL (clk.firstI tt v) xs = ys at *
  generalize clk.firstI tt v = fi at *
  cases ft
  case false =>
    clear hft HB HF HE
    simp only [kp_t, kp_f, lsK_t, lsK_f, advE_t, advE_f, okT_3, okT_0, okE_t, okE_f, Bool.false_and, Bool.true_and, Bool.and_false, Bool.and_true] at *
    go_enter Try.func35, Try.ntmps35
    go_wp2_with fail
    obtain ⟨W0, hW, hs0, K0, B0⟩ := start2 w 32 32 #[Value.int IntKind.i64 v, Value.int IntKind.i64 k, Value.int IntKind.i64 p, Value.int IntKind.i64 m, Value.int IntKind.i64 o, Value.slice A n c] #[Value.int IntKind.i64 0, Value.int IntKind.i64 0, Value.int IntKind.i64 0, Value.int IntKind.i64 0, Value.int IntKind.i64 0, Value.slice none 0 0]
    rw [hW]
    clear hW
    have KK := Lib.hid K0
    have BB := Lib.hid B0
    have sz : w.heap.size + 1 + 1 ≤ W0.heap.size := by omega
    have R := K0.rules
    simp only [Rules] at R
    clear K0 B0 hs0
    (with_reducible refine (HV.out _ BB.out).mono ?_)
    rintro e wv ⟨rfl, hbv⟩
    replace BB := Lib.hid (BB.out.trans (hbv.mono BB.out.size))
    replace KK := Lib.hid (KK.out.below hbv)
    replace sz := Nat.le_trans sz hbv.size
    replace R := KK.out.rules
    simp only [Rules] at R
    clear hbv
    go_wp2
    refine bodyPost_ret (v := Value.tuple #[.agg #[Value.int IntKind.i64 0, Value.int IntKind.i64 0, Value.int IntKind.i64 0, Value.int IntKind.i64 0, Value.int IntKind.i64 0, Value.slice none 0 0], .int .i64 2]) (by simp [results, Try.results35, go_sem, R]) rfl ⟨none, 0, 0, rfl, Nat.le_refl _, ⟨Nat.zero_le _, fun ad h => by cases h⟩, .nil_, ?_⟩
    exact ((((((BB.out.setCell (by first | (simp; done) | (simp; omega)) _).setCell (by first | (simp; done) | (simp; omega)) _).setCell (by first | (simp; done) | (simp; omega)) _).setCell (by first | (simp; done) | (simp; omega)) _).setCell (by first | (simp; done) | (simp; omega)) _).setCell (by first | (simp; done) | (simp; omega)) _)
  have ho := hft rfl
  clear hft
  replace HB := Lib.hid (HB.out ho)
  rcases timeE_iff (o := o) (tt := tt) with ⟨ht, e⟩ | ⟨ht, e⟩ <;> rw [e] at HB ⊢ <;> clear e ht
  · clear HF HE
    simp only [kp_t, kp_f, lsK_t, lsK_f, advE_t, advE_f, okT_3, okT_0, okE_t, okE_f, Bool.false_and, Bool.true_and, Bool.and_false, Bool.and_true] at *
    go_enter Try.func35, Try.ntmps35
    go_wp2_with fail
    obtain ⟨W0, hW, hs0, K0, B0⟩ := start2 w 32 32 #[Value.int IntKind.i64 v, Value.int IntKind.i64 k, Value.int IntKind.i64 p, Value.int IntKind.i64 m, Value.int IntKind.i64 o, Value.slice A n c] #[Value.int IntKind.i64 0, Value.int IntKind.i64 0, Value.int IntKind.i64 0, Value.int IntKind.i64 0, Value.int IntKind.i64 0, Value.slice none 0 0]
    rw [hW]
    clear hW
    have KK := Lib.hid K0
    have BB := Lib.hid B0
    have sz : w.heap.size + 1 + 1 ≤ W0.heap.size := by omega
    have R := K0.rules
    simp only [Rules] at R
    clear K0 B0 hs0
    (with_reducible refine (HV.out _ BB.out).mono ?_)
    rintro e wv ⟨rfl, hbv⟩
    replace BB := Lib.hid (BB.out.trans (hbv.mono BB.out.size))
    replace KK := Lib.hid (KK.out.below hbv)
    replace sz := Nat.le_trans sz hbv.size
    replace R := KK.out.rules
    simp only [Rules] at R
    clear hbv
    go_wp2_with fail
    (with_reducible refine (HB.out _).mono ?_)
    rintro e w1 ⟨⟨r, rfl⟩, rfl⟩
    go_wp2
    refine bodyPost_ret (v := Value.tuple #[.agg #[Value.int IntKind.i64 0, Value.int IntKind.i64 0, Value.int IntKind.i64 0, Value.int IntKind.i64 0, Value.int IntKind.i64 0, Value.slice none 0 0], .int .i64 3]) (by simp [results, Try.results35, go_sem, R]) rfl ⟨none, 0, 0, rfl, Nat.le_refl _, ⟨Nat.zero_le _, fun ad h => by cases h⟩, .nil_, ?_⟩
    exact ((((((BB.out.setCell (by first | (simp; done) | (simp; omega)) _).setCell (by first | (simp; done) | (simp; omega)) _).setCell (by first | (simp; done) | (simp; omega)) _).setCell (by first | (simp; done) | (simp; omega)) _).setCell (by first | (simp; done) | (simp; omega)) _).setCell (by first | (simp; done) | (simp; omega)) _)
  · simp only [kp_t, kp_f, lsK_t, lsK_f, advE_t, advE_f, okT_3, okT_0, okE_t, okE_f, Bool.false_and, Bool.true_and, Bool.and_false, Bool.and_true] at *
    go_enter Try.func35, Try.ntmps35
    go_wp2_with fail
    obtain ⟨W0, hW, hs0, K0, B0⟩ := start2 w 32 32 #[Value.int IntKind.i64 v, Value.int IntKind.i64 k, Value.int IntKind.i64 p, Value.int IntKind.i64 m, Value.int IntKind.i64 o, Value.slice A n c] #[Value.int IntKind.i64 0, Value.int IntKind.i64 0, Value.int IntKind.i64 0, Value.int IntKind.i64 0, Value.int IntKind.i64 0, Value.slice none 0 0]
    rw [hW]
    clear hW
    have KK := Lib.hid K0
    have BB := Lib.hid B0
    have sz : w.heap.size + 1 + 1 ≤ W0.heap.size := by omega
    have R := K0.rules
    simp only [Rules] at R
    clear K0 B0 hs0
    (with_reducible refine (HV.out _ BB.out).mono ?_)
    rintro e wv ⟨rfl, hbv⟩
    replace BB := Lib.hid (BB.out.trans (hbv.mono BB.out.size))
    replace KK := Lib.hid (KK.out.below hbv)
    replace sz := Nat.le_trans sz hbv.size
    replace R := KK.out.rules
    simp only [Rules] at R
    clear hbv
    go_wp2_with fail
    (with_reducible refine (HB.out _).mono ?_)
    rintro e w1 ⟨⟨r, rfl⟩, rfl⟩
    go_wp2_with fail
    obtain ⟨W1, hW, K1, B1, sz1⟩ := name_world (Bx.one (d := #[Value.int IntKind.i64 v, Value.int IntKind.i64 k, Value.int IntKind.i64 p, Value.int IntKind.i64 m, Value.int IntKind.i64 tt, Value.slice A n c]) 4 (.int .i64 tt) KK.out.swap (by simp) (by simp)) (BB.out.setCell (p := ⟨w.heap.size, 4, none⟩) (by simp) _) (s := w.heap.size + 1 + 1) (by simp only [set1_size]; exact sz)
    rw [hW]
    clear hW KK BB R sz
    have KL := K1.perm (L' := [(w.heap.size, 32, #[Value.int IntKind.i64 v, Value.int IntKind.i64 k, Value.int IntKind.i64 p, Value.int IntKind.i64 m, Value.int IntKind.i64 tt, Value.slice A n c])]) (by simp)
    (refine gro.wp_region_keep 6 3 8 _ (gro.lasts_bx _) (by kernel_rfl) (by kernel_rfl) (by intro _ _ _ _ _ h; exact h) (by kernel_rfl) (by kernel_rfl) (by kernel_rfl) (by kernel_rfl) (KL).drew ?_; apply Exists.intro; refine ⟨fun w0 hb0 => ?_, ?_⟩; focus (have RZ := gro.Bx.rules hb0; simp only [gro.Rules] at RZ; simp only [List.take_succ_cons, List.take_zero]; (repeat (go_big_quiet_step (((go_at_call 61; exact call_same (HF.out _)))))); exact wpQuiet_nil rfl))
    refine gro.anyK_one 6 (by kernel_rfl) rfl ?_
    intro y1 hz1 K' hK'
    have KY1 := K1.drew.below hz1
    have BY1 := B1.drew.trans (hz1.mono B1.drew.size)
    have sy1 : w.heap.size + 1 + 1 ≤ y1.heap.size := Nat.le_trans sz1 hz1.size
    go_simp
    refine (HE.out _ BY1).mono ?_
    rintro e y2 ⟨A6, l6, c6, rfl, r1, ⟨r2, fr⟩, hr, hb⟩
    have fr6 : ∀ ad, A6 = some ad → w.heap.size + 1 + 1 ≤ ad.block := fun ad h => Nat.le_trans sy1 (fr ad h)
    refine hK' _ _ ⟨fun _ => (KL.drew.below hz1).below hb, ?_⟩
    clear hK' K'
    have KY2 := KY1.below hb
    have BY2 := BY1.trans (hb.mono BY1.size)
    refine gro.anyK_one 7 (by kernel_rfl) rfl ?_
    intro y3 hz3 K' hK'
    have KY3 := KY2.below hz3
    have BY3 := BY2.trans (hz3.mono BY2.size)
    have hr3 := (Reads.below hr hz3).more hz3.size
    go_simp
    refine hK' _ _ ⟨fun _ => ((KL.drew.below hz1).below hb).below hz3, ?_⟩
    clear hK' K'
    refine gro.anyK_one 8 (by kernel_rfl) rfl ?_
    intro y4 hz4 K' hK'
    have KY4 := KY3.below hz4
    have BY4 := BY3.trans (hz4.mono BY3.size)
    have hr4 := (Reads.below hr3 hz4).more hz4.size
    have RY := KY4.rules
    simp only [gro.Rules] at RY
    go_simp
    refine hK' _ _ ⟨fun h => absurd rfl h, ?_⟩
    clear hK' K' RY
    obtain ⟨y5, hy5, KY5, BY5, sY5⟩ := name_world (Bx.one (d := #[Value.int IntKind.i64 v, Value.int IntKind.i64 k, Value.int IntKind.i64 p, Value.int IntKind.i64 m, Value.int IntKind.i64 tt, Value.slice A6 l6 c6]) 5 (.slice A6 l6 c6) KY4 (by simp) (by simp)) (BY4.setCell (p := ⟨w.heap.size, 5, none⟩) (by simp) (.slice A6 l6 c6)) (s := 0) (by omega)
    have hr5 : PRead y5 y5.heap.size A6 l6 ys := by
      rw [← hy5]
      exact PRead.sz (PRead.far hr4 ⟨w.heap.size, 5, none⟩ (fun h0 ad h => by have := fr6 ad h; simp; omega) _) (by simp [World.setCell])
    rw [hy5]
    clear hy5
    refine gro.anyK_done (by kernel_rfl) ?_
    intro y6 hz6
    have KK := Lib.hid (KY5.below hz6)
    have BB := Lib.hid (BY5.trans (hz6.mono BY5.size))
    have HR6 := Lib.hid ((Reads.below hr5 hz6).more hz6.size)
    have R := KK.out.rules
    simp only [gro.Rules] at R
    clear K1 B1 KL KY1 KY2 KY3 KY4 KY5 BY1 BY2 BY3 BY4 BY5 hz1 hz3 hz4 hz6 hr hr3 hr4 hr5 hb
    go_wp2
    refine bodyPost_ret (v := Value.tuple #[.agg #[Value.int IntKind.i64 v, Value.int IntKind.i64 k, Value.int IntKind.i64 p, Value.int IntKind.i64 m, Value.int IntKind.i64 tt, Value.slice A6 l6 c6], .int .i64 0]) (by simp [results, Try.results35, go_sem, R]) rfl ⟨A6, l6, c6, rfl, r1, ⟨r2, fun ad h => by have := fr6 ad h; omega⟩, ?_, ?_⟩
    · exact PRead.sz ((PRead.far (PRead.far (PRead.far (PRead.far (PRead.far (PRead.far (show PRead _ y6.heap.size A6 l6 ys from HR6.out) ⟨w.heap.size + 1, 0, none⟩ (fun h0 ad h => by have := fr6 ad h; simp; omega) _) ⟨w.heap.size + 1, 1, none⟩ (fun h0 ad h => by have := fr6 ad h; simp; omega) _) ⟨w.heap.size + 1, 2, none⟩ (fun h0 ad h => by have := fr6 ad h; simp; omega) _) ⟨w.heap.size + 1, 3, none⟩ (fun h0 ad h => by have := fr6 ad h; simp; omega) _) ⟨w.heap.size + 1, 4, none⟩ (fun h0 ad h => by have := fr6 ad h; simp; omega) _) ⟨w.heap.size + 1, 5, none⟩ (fun h0 ad h => by have := fr6 ad h; simp; omega) _)) (by simp [World.setCell])
    · exact ((((((BB.out.setCell (by first | (simp; done) | (simp; omega)) _).setCell (by first | (simp; done) | (simp; omega)) _).setCell (by first | (simp; done) | (simp; omega)) _).setCell (by first | (simp; done) | (simp; omega)) _).setCell (by first | (simp; done) | (simp; omega)) _).setCell (by first | (simp; done) | (simp; omega)) _)
theorem AdvanceS_any (v k p m o tt : Int) (A : Option Addr) (n c : Nat) (xs : List (Int × Int)) (w : World) (h1 : PRead w w.heap.size A n xs) (hnc : n ≤ c) (hcm : c ≤ maxLen) (hsmall : n ≤ 2000) :
    Calls Try.prog 35 #[(Value.agg #[.int .i64 v, .int .i64 k, .int .i64 p, .int .i64 m, .int .i64 o, .slice A n c]), .int .i64 tt] w (NewSst (kp (fitS xs v k p m o && okT (timeE o tt)) v) (kp (fitS xs v k p m o && okT (timeE o tt)) k) (kp (fitS xs v k p m o && okT (timeE o tt)) p) (kp (fitS xs v k p m o && okT (timeE o tt)) m) (kp (fitS xs v k p m o && okT (timeE o tt)) tt) (lsK (fitS xs v k p m o && okT (timeE o tt)) (expireL (clk.firstI tt v) xs)) (advE (fitS xs v k p m o) (timeE o tt)) w) :=
  (AdvanceS_f v k p m o tt A n c xs w h1 hnc hcm hsmall).mono (fun _ _ h => h.st)
set_option maxHeartbeats 8000000 in
set_option maxRecDepth 100000 in
theorem AdvanceSR_any (v k p m o tt : Int) (A : Option Addr) (n c : Nat) (xs : List (Int × Int)) (w : World) (h1 : PRead w w.heap.size A n xs) (hnc : n ≤ c) (hcm : c ≤ maxLen) (hsmall : n ≤ 2000) :
    Calls Try.prog 36 #[(Value.agg #[.int .i64 v, .int .i64 k, .int .i64 p, .int .i64 m, .int .i64 o, .slice A n c]), .int .i64 tt] w (NewSst (kp (fitS xs v k p m o && okT (timeE o tt)) v) (kp (fitS xs v k p m o && okT (timeE o tt)) k) (kp (fitS xs v k p m o && okT (timeE o tt)) p) (kp (fitS xs v k p m o && okT (timeE o tt)) m) (kp (fitS xs v k p m o && okT (timeE o tt)) tt) (lsK (fitS xs v k p m o && okT (timeE o tt)) (expireL (clk.firstI tt v) xs)) (advE (fitS xs v k p m o) (timeE o tt)) w) := by
  have HV := Lib.hid (fun W (hb : Below w.heap.size w W) => ValidateSR_any v k p m o A n c xs W ((h1.below hb).more hb.size) hnc hcm hsmall)
  have hft : fitS xs v k p m o = true → 0 ≤ o ∧ o ≤ 16777216 := fun h => (goodS_iff.1 (fitS_iff.1 h).1).1.2.2.2
  have HB := Lib.hid (fun W => Back_any o tt W)
  have HF := Lib.hid (fun W => clk.First_any tt v W)
  have HE := Lib.hid (fun W (hb : Below w.heap.size w W) => ExpireRef_any A n c xs (clk.firstI tt v) W w.heap.size (h1.below hb) hnc hcm)
  clear h1 hcm
  generalize fitS xs v k p m o = ft at *
  generalize clk.firstI tt v = fi at *
  cases ft
  case false =>
    clear hft HB HF HE
    simp only [kp_t, kp_f, lsK_t, lsK_f, advE_t, advE_f, okT_3, okT_0, okE_t, okE_f, Bool.false_and, Bool.true_and, Bool.and_false, Bool.and_true] at *
    go_enter Try.func36, Try.ntmps36
    go_wp2_with fail
    obtain ⟨W0, hW, hs0, K0, B0⟩ := start2 w 32 32 #[Value.int IntKind.i64 v, Value.int IntKind.i64 k, Value.int IntKind.i64 p, Value.int IntKind.i64 m, Value.int IntKind.i64 o, Value.slice A n c] #[Value.int IntKind.i64 0, Value.int IntKind.i64 0, Value.int IntKind.i64 0, Value.int IntKind.i64 0, Value.int IntKind.i64 0, Value.slice none 0 0]
    rw [hW]
    clear hW
    have KK := Lib.hid K0
    have BB := Lib.hid B0
    have sz : w.heap.size + 1 + 1 ≤ W0.heap.size := by omega
    have R := K0.rules
    simp only [Rules] at R
    clear K0 B0 hs0
    (with_reducible refine (HV.out _ BB.out).mono ?_)
    rintro e wv ⟨rfl, hbv⟩
    replace BB := Lib.hid (BB.out.trans (hbv.mono BB.out.size))
    replace KK := Lib.hid (KK.out.below hbv)
    replace sz := Nat.le_trans sz hbv.size
    replace R := KK.out.rules
    simp only [Rules] at R
    clear hbv
    go_wp2
    refine bodyPost_ret (v := Value.tuple #[.agg #[Value.int IntKind.i64 0, Value.int IntKind.i64 0, Value.int IntKind.i64 0, Value.int IntKind.i64 0, Value.int IntKind.i64 0, Value.slice none 0 0], .int .i64 2]) (by simp [results, Try.results36, go_sem, R]) rfl ⟨none, 0, 0, rfl, Nat.le_refl _, Nat.zero_le _, .nil_, ?_⟩
    exact ((((((BB.out.setCell (by first | (simp; done) | (simp; omega)) _).setCell (by first | (simp; done) | (simp; omega)) _).setCell (by first | (simp; done) | (simp; omega)) _).setCell (by first | (simp; done) | (simp; omega)) _).setCell (by first | (simp; done) | (simp; omega)) _).setCell (by first | (simp; done) | (simp; omega)) _)
  have ho := hft rfl
  clear hft
  rcases timeE_iff (o := o) (tt := tt) with ⟨ht, e⟩ | ⟨ht, e⟩ <;> rw [e] at HB ⊢ <;> clear e ht
  · clear HF HE
    simp only [kp_t, kp_f, lsK_t, lsK_f, advE_t, advE_f, okT_3, okT_0, okE_t, okE_f, Bool.false_and, Bool.true_and, Bool.and_false, Bool.and_true] at *
    go_enter Try.func36, Try.ntmps36
    go_wp2_with fail
    obtain ⟨W0, hW, hs0, K0, B0⟩ := start2 w 32 32 #[Value.int IntKind.i64 v, Value.int IntKind.i64 k, Value.int IntKind.i64 p, Value.int IntKind.i64 m, Value.int IntKind.i64 o, Value.slice A n c] #[Value.int IntKind.i64 0, Value.int IntKind.i64 0, Value.int IntKind.i64 0, Value.int IntKind.i64 0, Value.int IntKind.i64 0, Value.slice none 0 0]
    rw [hW]
    clear hW
    have KK := Lib.hid K0
    have BB := Lib.hid B0
    have sz : w.heap.size + 1 + 1 ≤ W0.heap.size := by omega
    have R := K0.rules
    simp only [Rules] at R
    clear K0 B0 hs0
    (with_reducible refine (HV.out _ BB.out).mono ?_)
    rintro e wv ⟨rfl, hbv⟩
    replace BB := Lib.hid (BB.out.trans (hbv.mono BB.out.size))
    replace KK := Lib.hid (KK.out.below hbv)
    replace sz := Nat.le_trans sz hbv.size
    replace R := KK.out.rules
    simp only [Rules] at R
    clear hbv
    go_wp2_with fail
    (with_reducible refine (HB.out _).mono ?_)
    rintro e w1 ⟨rfl, rfl⟩
    go_wp2
    refine bodyPost_ret (v := Value.tuple #[.agg #[Value.int IntKind.i64 0, Value.int IntKind.i64 0, Value.int IntKind.i64 0, Value.int IntKind.i64 0, Value.int IntKind.i64 0, Value.slice none 0 0], .int .i64 3]) (by simp [results, Try.results36, go_sem, R]) rfl ⟨none, 0, 0, rfl, Nat.le_refl _, Nat.zero_le _, .nil_, ?_⟩
    exact ((((((BB.out.setCell (by first | (simp; done) | (simp; omega)) _).setCell (by first | (simp; done) | (simp; omega)) _).setCell (by first | (simp; done) | (simp; omega)) _).setCell (by first | (simp; done) | (simp; omega)) _).setCell (by first | (simp; done) | (simp; omega)) _).setCell (by first | (simp; done) | (simp; omega)) _)
  · simp only [kp_t, kp_f, lsK_t, lsK_f, advE_t, advE_f, okT_3, okT_0, okE_t, okE_f, Bool.false_and, Bool.true_and, Bool.and_false, Bool.and_true] at *
    go_enter Try.func36, Try.ntmps36
    go_wp2_with fail
    obtain ⟨W0, hW, hs0, K0, B0⟩ := start2 w 32 32 #[Value.int IntKind.i64 v, Value.int IntKind.i64 k, Value.int IntKind.i64 p, Value.int IntKind.i64 m, Value.int IntKind.i64 o, Value.slice A n c] #[Value.int IntKind.i64 0, Value.int IntKind.i64 0, Value.int IntKind.i64 0, Value.int IntKind.i64 0, Value.int IntKind.i64 0, Value.slice none 0 0]
    rw [hW]
    clear hW
    have KK := Lib.hid K0
    have BB := Lib.hid B0
    have sz : w.heap.size + 1 + 1 ≤ W0.heap.size := by omega
    have R := K0.rules
    simp only [Rules] at R
    clear K0 B0 hs0
    (with_reducible refine (HV.out _ BB.out).mono ?_)
    rintro e wv ⟨rfl, hbv⟩
    replace BB := Lib.hid (BB.out.trans (hbv.mono BB.out.size))
    replace KK := Lib.hid (KK.out.below hbv)
    replace sz := Nat.le_trans sz hbv.size
    replace R := KK.out.rules
    simp only [Rules] at R
    clear hbv
    go_wp2_with fail
    (with_reducible refine (HB.out _).mono ?_)
    rintro e w1 ⟨rfl, rfl⟩
    go_wp2_with fail
    replace KK := Lib.hid KK.out.swap
    (refine gro.wp_region_keep 7 5 11 (gro.Two (w.heap.size) 5 (Value.int .i64 v) (Value.slice A n c)) gro.lasts_two (by kernel_rfl) (by kernel_rfl) (by intro _ _ _ _ _ h; exact h) (by kernel_rfl) (by kernel_rfl) (by kernel_rfl) (by kernel_rfl) (gro.two_bx KK.out.drew rfl rfl) ?_; apply Exists.intro; refine ⟨fun w0 hb0 => ?_, ?_⟩; focus (obtain ⟨_, RZ1, RZ2⟩ := hb0; simp only [List.take_succ_cons, List.take_zero]; (repeat (go_big_quiet_step (((go_at_call 64; exact call_same (HF.out _)))))); exact wpQuiet_nil rfl))
    refine gro.anyK_two 7 8 (by kernel_rfl) rfl rfl ?_ ?_
    · intro y1 hz1 K' hK'
      have KY1 := KK.out.drew.below hz1
      have BY1 := BB.out.drew.trans (hz1.mono BB.out.drew.size)
      go_simp
      refine (HE.out _ BY1).mono ?_
      rintro e y2 ⟨A6, l6, c6, rfl, r1, r2, hr, rfl⟩
      have hrw : PRead w w.heap.size A6 l6 (expireL fi xs) := Reads.keep hr (fun p hp => (BY1.cell hp).symm)
      refine hK' _ _ ⟨fun _ => gro.two_bx KY1 rfl rfl, ?_⟩
      clear hK' K' hr
      refine gro.anyK_one 8 (by kernel_rfl) rfl ?_
      intro y3 hz3 K' hK'
      have KY3 := KY1.below hz3
      have BY3 := BY1.trans (hz3.mono BY1.size)
      go_simp
      refine hK' _ _ ⟨fun _ => gro.two_bx KY3 rfl rfl, ?_⟩
      clear hK' K'
      refine gro.anyK_one 9 (by kernel_rfl) rfl ?_
      intro y5 hz5 K' hK'
      have KY5 := KY3.below hz5
      have BY5 := BY3.trans (hz5.mono BY3.size)
      have RY := KY5.rules
      simp only [gro.Rules] at RY
      go_simp
      have KX := Bx.one (d := #[Value.int IntKind.i64 v, Value.int IntKind.i64 k, Value.int IntKind.i64 p, Value.int IntKind.i64 m, Value.int IntKind.i64 tt, Value.slice A n c]) 4 (.int .i64 tt) KY5 (by simp) (by simp)
      refine hK' _ _ ⟨fun _ => gro.two_bx KX rfl rfl, ?_⟩
      clear hK' K' RY
      obtain ⟨y6, hy6, KY6, BY6, sY6⟩ := name_world KX (BY5.setCell (p := ⟨w.heap.size, 4, none⟩) (by simp) (.int .i64 tt)) (s := 0) (by omega)
      rw [hy6]
      clear hy6 KX
      refine gro.anyK_one 10 (by kernel_rfl) rfl ?_
      intro y7 hz7 K' hK'
      have KY7 := KY6.below hz7
      have BY7 := BY6.trans (hz7.mono BY6.size)
      go_simp
      refine hK' _ _ ⟨fun _ => gro.two_bx KY7 rfl rfl, ?_⟩
      clear hK' K'
      refine gro.anyK_one 11 (by kernel_rfl) rfl ?_
      intro y8 hz8 K' hK'
      have KY8 := KY7.below hz8
      have BY8 := BY7.trans (hz8.mono BY7.size)
      have RY := KY8.rules
      simp only [gro.Rules] at RY
      go_simp
      refine hK' _ _ ⟨fun h => absurd rfl h, ?_⟩
      clear hK' K' RY
      obtain ⟨y9, hy9, KY9, BY9, sY9⟩ := name_world (Bx.one (d := #[Value.int IntKind.i64 v, Value.int IntKind.i64 k, Value.int IntKind.i64 p, Value.int IntKind.i64 m, Value.int IntKind.i64 tt, Value.slice A6 l6 c6]) 5 (.slice A6 l6 c6) KY8 (by simp) (by simp)) (BY8.setCell (p := ⟨w.heap.size, 5, none⟩) (by simp) (.slice A6 l6 c6)) (s := 0) (by omega)
      rw [hy9]
      clear hy9
      refine gro.anyK_done (by kernel_rfl) ?_
      intro y10 hz10
      replace KK := Lib.hid (KY9.below hz10)
      replace BB := Lib.hid (BY9.trans (hz10.mono BY9.size))
      have R := KK.out.rules
      simp only [gro.Rules] at R
      clear KY1 KY3 KY5 KY6 KY7 KY8 KY9 BY1 BY3 BY5 BY6 BY7 BY8 BY9 hz1 hz3 hz5 hz7 hz8 hz10
      go_wp2
      refine bodyPost_ret (v := Value.tuple #[.agg #[Value.int IntKind.i64 v, Value.int IntKind.i64 k, Value.int IntKind.i64 p, Value.int IntKind.i64 m, Value.int IntKind.i64 tt, Value.slice A6 l6 c6], .int .i64 0]) (by simp [results, Try.results36, go_sem, R]) rfl (NewSst.of rfl r1 r2 hrw ?_)
      exact ((((((BB.out.setCell (by first | (simp; done) | (simp; omega)) _).setCell (by first | (simp; done) | (simp; omega)) _).setCell (by first | (simp; done) | (simp; omega)) _).setCell (by first | (simp; done) | (simp; omega)) _).setCell (by first | (simp; done) | (simp; omega)) _).setCell (by first | (simp; done) | (simp; omega)) _)
    · intro y1 hz1 K' hK'
      have KY1 := KK.out.drew.below hz1
      have BY1 := BB.out.drew.trans (hz1.mono BB.out.drew.size)
      go_simp
      refine hK' _ _ ⟨fun _ => gro.two_bx KY1 rfl rfl, ?_⟩
      clear hK' K'
      refine gro.anyK_one 7 (by kernel_rfl) rfl ?_
      intro y3 hz3 K' hK'
      have KY3 := KY1.below hz3
      have BY3 := BY1.trans (hz3.mono BY1.size)
      go_simp
      refine (HE.out _ BY3).mono ?_
      rintro e y2 ⟨A6, l6, c6, rfl, r1, r2, hr, rfl⟩
      have hrw : PRead w w.heap.size A6 l6 (expireL fi xs) := Reads.keep hr (fun p hp => (BY3.cell hp).symm)
      refine hK' _ _ ⟨fun _ => gro.two_bx KY3 rfl rfl, ?_⟩
      clear hK' K' hr
      refine gro.anyK_one 9 (by kernel_rfl) rfl ?_
      intro y5 hz5 K' hK'
      have KY5 := KY3.below hz5
      have BY5 := BY3.trans (hz5.mono BY3.size)
      have RY := KY5.rules
      simp only [gro.Rules] at RY
      go_simp
      have KX := Bx.one (d := #[Value.int IntKind.i64 v, Value.int IntKind.i64 k, Value.int IntKind.i64 p, Value.int IntKind.i64 m, Value.int IntKind.i64 tt, Value.slice A n c]) 4 (.int .i64 tt) KY5 (by simp) (by simp)
      refine hK' _ _ ⟨fun _ => gro.two_bx KX rfl rfl, ?_⟩
      clear hK' K' RY
      obtain ⟨y6, hy6, KY6, BY6, sY6⟩ := name_world KX (BY5.setCell (p := ⟨w.heap.size, 4, none⟩) (by simp) (.int .i64 tt)) (s := 0) (by omega)
      rw [hy6]
      clear hy6 KX
      refine gro.anyK_one 10 (by kernel_rfl) rfl ?_
      intro y7 hz7 K' hK'
      have KY7 := KY6.below hz7
      have BY7 := BY6.trans (hz7.mono BY6.size)
      go_simp
      refine hK' _ _ ⟨fun _ => gro.two_bx KY7 rfl rfl, ?_⟩
      clear hK' K'
      refine gro.anyK_one 11 (by kernel_rfl) rfl ?_
      intro y8 hz8 K' hK'
      have KY8 := KY7.below hz8
      have BY8 := BY7.trans (hz8.mono BY7.size)
      have RY := KY8.rules
      simp only [gro.Rules] at RY
      go_simp
      refine hK' _ _ ⟨fun h => absurd rfl h, ?_⟩
      clear hK' K' RY
      obtain ⟨y9, hy9, KY9, BY9, sY9⟩ := name_world (Bx.one (d := #[Value.int IntKind.i64 v, Value.int IntKind.i64 k, Value.int IntKind.i64 p, Value.int IntKind.i64 m, Value.int IntKind.i64 tt, Value.slice A6 l6 c6]) 5 (.slice A6 l6 c6) KY8 (by simp) (by simp)) (BY8.setCell (p := ⟨w.heap.size, 5, none⟩) (by simp) (.slice A6 l6 c6)) (s := 0) (by omega)
      rw [hy9]
      clear hy9
      refine gro.anyK_done (by kernel_rfl) ?_
      intro y10 hz10
      replace KK := Lib.hid (KY9.below hz10)
      replace BB := Lib.hid (BY9.trans (hz10.mono BY9.size))
      have R := KK.out.rules
      simp only [gro.Rules] at R
      clear KY1 KY3 KY5 KY6 KY7 KY8 KY9 BY1 BY3 BY5 BY6 BY7 BY8 BY9 hz1 hz3 hz5 hz7 hz8 hz10
      go_wp2
      refine bodyPost_ret (v := Value.tuple #[.agg #[Value.int IntKind.i64 v, Value.int IntKind.i64 k, Value.int IntKind.i64 p, Value.int IntKind.i64 m, Value.int IntKind.i64 tt, Value.slice A6 l6 c6], .int .i64 0]) (by simp [results, Try.results36, go_sem, R]) rfl (NewSst.of rfl r1 r2 hrw ?_)
      exact ((((((BB.out.setCell (by first | (simp; done) | (simp; omega)) _).setCell (by first | (simp; done) | (simp; omega)) _).setCell (by first | (simp; done) | (simp; omega)) _).setCell (by first | (simp; done) | (simp; omega)) _).setCell (by first | (simp; done) | (simp; omega)) _).setCell (by first | (simp; done) | (simp; omega)) _)
end Go.Proofs.Ytofgjcfiinmimaa.cst
