/- Qt5: proved here in one text, no conditions beyond those that each theorem states. -/
import Derived.LoopN
import Derived.Deep.DeepCutAuto
import Derived.Deep.CutBlock
import Derived.StillTailTactics
import Derived.Test.YtjapjfcennemeaaZ34
import Derived.Test.YtjapjfcennemeaaZ33
import Derived.Test.YtjapjfcennemeaaZ32
import Derived.Test.YtjapjfcennemeaaZ23
import Derived.Test.YtjapjfcennemeaaZ7
set_option linter.unusedVariables false
set_option linter.unusedSimpArgs false
namespace Go.Proofs.Ytjapjfcennemeaa.qtl
open Go.RowKit Go.Proofs.Ytjapjfcennemeaa.mem Go.Proofs.Ytjapjfcennemeaa.gro Go.Proofs.Ytjapjfcennemeaa.rnk Go.Proofs.Ytjapjfcennemeaa.blk
set_option linter.unusedVariables false
set_option linter.unusedSimpArgs false
set_option pp.maxSteps 200000
def expQ (f : Int) (xs : List K5) : List K5 := xs.dropWhile (fun x => decide (x.1 < f))
theorem expQ_key (f : Int) : ∀ xs : List BlkM, (expireB f xs).map bkey = expQ f (xs.map bkey)
  | [] => rfl
  | x :: r => by
    have h1 : (bkey x).1 = x.t := rfl
    by_cases h : x.t < f
    · rw [expB_yes h, expQ_key f r]
      unfold expQ
      rw [List.map_cons, List.dropWhile_cons, if_pos (by rw [h1]; simpa using h)]
    · rw [expB_no h]
      unfold expQ
      rw [List.map_cons, List.dropWhile_cons, if_neg (by rw [h1]; simpa using h)]
noncomputable def advQ (xs : List K5) (v k p o t : Int) : Q5 × Int :=
  if fitQ xs v k p o = true then (if timeE o t = 0 then ((v, k, p, t, expQ (clk.firstI t v) xs), 0) else ((0, 0, 0, 0, []), timeE o t)) else ((0, 0, 0, 0, []), 2)
set_option maxHeartbeats 8000000 in
set_option maxRecDepth 100000 in
theorem AdvanceQ_any (P : Nat → Prop) (v k p o t : Int) (A : Option Addr) (n c : Nat) (xs : List BlkM) (w : World) (h1 : BRead w w.heap.size A n xs) (hnc : n ≤ c) (hcm : c ≤ maxLen) (hs : n ≤ 64000) (hp : p ≤ 9223372036854775807) (hA : ∀ y ∈ xs, 0 < y.en → ∀ ad, y.adr = some ad → P ad.block) :
    Calls Try.prog 53 #[(Value.agg #[.int .i64 v, .int .i64 k, .int .i64 p, .int .i64 o, .slice A n c]), .int .i64 t] w (NewQ P (advQ (xs.map bkey) v k p o t) w) := by
  have HV := Lib.hid (fun W (hb : Below w.heap.size w W) => ValidateQ_any v k p o A n c xs W ((h1.below hb).more hb.size) (by omega) hp)
  have HF := Lib.hid (fun W => clk.first_any t v W)
  have HE := Lib.hid (fun W (hb : Below w.heap.size w W) => Expire_b A n c xs (clk.firstI t v) W ((h1.below hb).more hb.size) hnc hcm (by omega))
  have HEn := Lib.hid (fun y (hy : y ∈ expireB (clk.firstI t v) xs) (h0 : 0 < y.en) ad (e : y.adr = some ad) => And.intro (hA y ((List.dropWhile_sublist _).mem hy) h0 ad e) (rnk.Reads.blk (h1.2 y ((List.dropWhile_sublist _).mem hy)).1 h0 ad e))
  have HK1 := Lib.hid (expQ_key (clk.firstI t v) xs)
  clear h1 hA
  unfold advQ
  cases hf : fitQ (xs.map bkey) v k p o
  case false =>
    rw [if_neg Bool.false_ne_true]
    rw [hf, okE_f] at HV
    clear hf HF HE HEn HK1
    go_enter Try.func53, Try.ntmps53
    go_wp2_with fail
    obtain ⟨W0, hW, hs0, K0, B0⟩ := start2 w 70 70 #[Value.int IntKind.i64 v, Value.int IntKind.i64 k, Value.int IntKind.i64 p, Value.int IntKind.i64 o, Value.slice A n c] #[Value.int IntKind.i64 0, Value.int IntKind.i64 0, Value.int IntKind.i64 0, Value.int IntKind.i64 0, Value.slice none 0 0]
    rw [hW]
    clear hW
    have KK := Lib.hid K0
    have BB := Lib.hid B0
    have R := K0.rules
    simp only [Rules] at R
    clear K0 B0
    have sz : w.heap.size + 1 + 1 ≤ W0.heap.size := by omega
    clear hs0
    (with_reducible refine (HV.out _ BB.out).mono ?_)
    rintro e wv ⟨rfl, hbv⟩
    replace BB := Lib.hid (BB.out.trans (hbv.mono BB.out.size))
    replace KK := Lib.hid (KK.out.below hbv)
    replace sz := Nat.le_trans sz hbv.size
    replace R := KK.out.rules
    simp only [Rules] at R
    clear hbv
    go_wp2
    refine bodyPost_ret (v := Value.tuple #[.agg #[Value.int IntKind.i64 0, Value.int IntKind.i64 0, Value.int IntKind.i64 0, Value.int IntKind.i64 0, Value.slice none 0 0], .int .i64 2]) (by simp [results, Try.results53, go_sem, R]) rfl (newQ_nil 2 ?_)
    exact (((((BB.out.setCell (by first | (simp; done) | (simp; omega)) _).setCell (by first | (simp; done) | (simp; omega)) _).setCell (by first | (simp; done) | (simp; omega)) _).setCell (by first | (simp; done) | (simp; omega)) _).setCell (by first | (simp; done) | (simp; omega)) _)
  have ho := (goodC_iff.1 (fitQ_iff.1 hf).1).2.2.2
  rw [if_pos rfl]
  rw [hf, okE_t] at HV
  clear hf
  have HB := Lib.hid (fun W => ClkAdv_any o t ho W)
  generalize timeE o t = er at *
  by_cases he : er = 0
  case neg =>
    rw [if_neg he]
    clear HF HE HEn HK1
    go_enter Try.func53, Try.ntmps53
    go_wp2_with fail
    obtain ⟨W0, hW, hs0, K0, B0⟩ := start2 w 70 70 #[Value.int IntKind.i64 v, Value.int IntKind.i64 k, Value.int IntKind.i64 p, Value.int IntKind.i64 o, Value.slice A n c] #[Value.int IntKind.i64 0, Value.int IntKind.i64 0, Value.int IntKind.i64 0, Value.int IntKind.i64 0, Value.slice none 0 0]
    rw [hW]
    clear hW
    have KK := Lib.hid K0
    have BB := Lib.hid B0
    have R := K0.rules
    simp only [Rules] at R
    clear K0 B0
    have sz : w.heap.size + 1 + 1 ≤ W0.heap.size := by omega
    clear hs0
    (with_reducible refine (HV.out _ BB.out).mono ?_)
    rintro e wv ⟨rfl, hbv⟩
    replace BB := Lib.hid (BB.out.trans (hbv.mono BB.out.size))
    replace KK := Lib.hid (KK.out.below hbv)
    replace sz := Nat.le_trans sz hbv.size
    replace R := KK.out.rules
    simp only [Rules] at R
    clear hbv
    go_wp2_with fail
    (with_reducible refine (HB.out _).mono ?_)
    rintro e wq ⟨⟨rr, rfl⟩, rfl⟩
    go_wp2
    refine bodyPost_ret (v := Value.tuple #[.agg #[Value.int IntKind.i64 0, Value.int IntKind.i64 0, Value.int IntKind.i64 0, Value.int IntKind.i64 0, Value.slice none 0 0], .int .i64 er]) (by simp [results, Try.results53, go_sem, R]) rfl (newQ_nil er ?_)
    exact (((((BB.out.setCell (by first | (simp; done) | (simp; omega)) _).setCell (by first | (simp; done) | (simp; omega)) _).setCell (by first | (simp; done) | (simp; omega)) _).setCell (by first | (simp; done) | (simp; omega)) _).setCell (by first | (simp; done) | (simp; omega)) _)
  rw [if_pos he]
  subst he
  rw [← HK1.out]
  clear HK1
  generalize expireB (clk.firstI t v) xs = ys at *
  generalize clk.firstI t v = fi at *
  go_enter Try.func53, Try.ntmps53
  go_wp2_with fail
  obtain ⟨W0, hW, hs0, K0, B0⟩ := start2 w 70 70 #[Value.int IntKind.i64 v, Value.int IntKind.i64 k, Value.int IntKind.i64 p, Value.int IntKind.i64 o, Value.slice A n c] #[Value.int IntKind.i64 0, Value.int IntKind.i64 0, Value.int IntKind.i64 0, Value.int IntKind.i64 0, Value.slice none 0 0]
  rw [hW]
  clear hW
  have KK := Lib.hid K0
  have BB := Lib.hid B0
  have R := K0.rules
  simp only [Rules] at R
  clear K0 B0
  have sz : w.heap.size + 1 + 1 ≤ W0.heap.size := by omega
  clear hs0
  (with_reducible refine (HV.out _ BB.out).mono ?_)
  rintro e wv ⟨rfl, hbv⟩
  replace BB := Lib.hid (BB.out.trans (hbv.mono BB.out.size))
  replace KK := Lib.hid (KK.out.below hbv)
  replace sz := Nat.le_trans sz hbv.size
  replace R := KK.out.rules
  simp only [Rules] at R
  clear hbv
  go_wp2_with fail
  (with_reducible refine (HB.out _).mono ?_)
  rintro e wq ⟨⟨rr, rfl⟩, rfl⟩
  go_upto_region 8 with fail
  have K5 := KK.out.swap.puti (by simp) 3 (.int .i64 t)
  have K6 : Bx (wv.setCell ⟨w.heap.size, 3, none⟩ (.int .i64 t)) [(w.heap.size, 70, #[Value.int IntKind.i64 v, Value.int IntKind.i64 k, Value.int IntKind.i64 p, Value.int IntKind.i64 t, Value.slice A n c]), (w.heap.size + 1, 70, #[Value.int IntKind.i64 0, Value.int IntKind.i64 0, Value.int IntKind.i64 0, Value.int IntKind.i64 0, Value.slice none 0 0])] := by simpa using K5
  have B6 := BB.out.setCell (p := ⟨w.heap.size, 3, none⟩) (Nat.le_refl _) (.int .i64 t)
  replace KK := Lib.hid K6
  replace BB := Lib.hid B6
  replace sz : w.heap.size + 1 + 1 ≤ (wv.setCell ⟨w.heap.size, 3, none⟩ (.int .i64 t)).heap.size := by simpa [World.setCell] using sz
  clear K5 K6 B6 R
  generalize wv.setCell ⟨w.heap.size, 3, none⟩ (.int .i64 t) = W7 at *
  (refine gro.wp_region_heldA [0, 1, 2, 3, 4, 5] 3 8 _ (gro.lasts_bx _) (by kernel_rfl) (by kernel_rfl) (by intro _ _ _ _ _ h; exact h) (by kernel_rfl) (by kernel_rfl) (by kernel_rfl) (by kernel_rfl) (by kernel_rfl) (by decide) (KK.out).drew ?_; apply Exists.intro; refine ⟨fun w0 hb0 => ?_, ?_⟩; focus (have RZ := gro.Bx.rules hb0; simp only [gro.Rules] at RZ; simp only [gro.pickA, List.filterMap_cons, List.filterMap_nil, List.getElem?_toArray, List.getElem?_cons_succ, List.getElem?_cons_zero]; change wpQuiet _ _ _ _ (_ :: _ :: _ :: _ :: _ :: _ ::  []) _; (repeat (go_big_quiet_step (((go_at_call 105; exact call_same (HF.out _)))))); exact wpQuiet_nil rfl))
  replace BB := Lib.hid BB.out.drew
  replace KK := Lib.hid KK.out.drew
  replace sz := (show _ ≤ (W7.drew).heap.size from sz)
  generalize W7.drew = v1 at *
  refine gro.anyM_one 6 (by kernel_rfl) rfl ?_
  intro v2 hz K' hK'
  replace BB := Lib.hid (BB.out.trans (hz.mono BB.out.size))
  replace KK := Lib.hid (KK.out.below hz)
  replace sz := Nat.le_trans sz hz.size
  clear hz
  go_simp
  refine (HE.out _ BB.out).mono ?_
  rintro e v3 ⟨A6, m6, c6, rfl, p1, ⟨p2, fr⟩, p3, hb⟩
  have HY := Lib.hid p3
  have HHr : Hid (∀ ad, A6 = some ad → w.heap.size + 1 + 1 ≤ ad.block) := fun ad h => Nat.le_trans sz (fr ad h)
  replace BB := Lib.hid (BB.out.trans (hb.mono BB.out.size))
  replace KK := Lib.hid (KK.out.below hb)
  replace sz := Nat.le_trans sz hb.size
  clear hb p3 HE fr
  refine hK' _ _ ⟨fun _ => KK.out, ?_⟩
  clear hK' K'
  refine gro.anyM_one 7 (by kernel_rfl) rfl ?_
  intro v3b hz K' hK'
  replace BB := Lib.hid (BB.out.trans (hz.mono BB.out.size))
  replace KK := Lib.hid (KK.out.below hz)
  replace sz := Nat.le_trans sz hz.size
  replace HY := Lib.hid ((HY.out.below hz).more hz.size)
  clear hz
  go_simp
  refine hK' _ _ ⟨fun _ => KK.out, ?_⟩
  clear hK' K'
  refine gro.anyM_one 8 (by kernel_rfl) rfl ?_
  intro v4 hz K' hK'
  replace BB := Lib.hid (BB.out.trans (hz.mono BB.out.size))
  replace KK := Lib.hid (KK.out.below hz)
  replace sz := Nat.le_trans sz hz.size
  replace HY := Lib.hid ((HY.out.below hz).more hz.size)
  clear hz
  have R := KK.out.rules
  simp only [Rules] at R
  go_simp
  refine hK' _ _ ⟨fun h => absurd (show true = false from h) (by decide), ?_⟩
  clear hK' K' R
  have K5 := KK.out.puti (by simp) 4 (.slice A6 m6 c6)
  have K6 : Bx (v4.setCell ⟨w.heap.size, 4, none⟩ (.slice A6 m6 c6)) [(w.heap.size, 70, #[Value.int IntKind.i64 v, Value.int IntKind.i64 k, Value.int IntKind.i64 p, Value.int IntKind.i64 t, Value.slice A6 m6 c6]), (w.heap.size + 1, 70, #[Value.int IntKind.i64 0, Value.int IntKind.i64 0, Value.int IntKind.i64 0, Value.int IntKind.i64 0, Value.slice none 0 0])] := by simpa using K5
  have B6 := BB.out.setCell (p := ⟨w.heap.size, 4, none⟩) (Nat.le_refl _) (.slice A6 m6 c6)
  have Y6 : BRead (v4.setCell ⟨w.heap.size, 4, none⟩ (.slice A6 m6 c6)) (v4.setCell ⟨w.heap.size, 4, none⟩ (.slice A6 m6 c6)).heap.size A6 m6 ys := (BRead.far HY.out ⟨w.heap.size, 4, none⟩ (fun _ ad h => by have := HHr.out ad h; show ad.block ≠ w.heap.size; omega) (fun y hy h0 ad h => by have := (HEn.out y hy h0 ad h).2; show ad.block ≠ w.heap.size; omega) _).more (by simp [World.setCell])
  replace KK := Lib.hid K6
  replace BB := Lib.hid B6
  replace HY := Lib.hid Y6
  clear K5 K6 B6 Y6 sz
  generalize v4.setCell ⟨w.heap.size, 4, none⟩ (.slice A6 m6 c6) = v5 at *
  refine gro.anyM_done (by kernel_rfl) ?_
  intro v6 hz
  replace BB := Lib.hid (BB.out.trans (hz.mono BB.out.size))
  replace KK := Lib.hid (KK.out.below hz)
  replace HY := Lib.hid ((HY.out.below hz).more hz.size)
  clear hz
  have R := KK.out.rules
  simp only [Rules] at R
  have hq : 0 < m6 → ∀ ad, A6 = some ad → ad.block ≠ w.heap.size + 1 := fun _ ad h => by have := HHr.out ad h; omega
  have hq2 : ∀ y ∈ ys, 0 < y.en → ∀ ad, y.adr = some ad → ad.block ≠ w.heap.size + 1 := fun y hy h0 ad h => by have := (HEn.out y hy h0 ad h).2; omega
  have Y8 := Lib.hid (BRead.far (BRead.far (BRead.far (BRead.far (BRead.far HY.out ⟨w.heap.size + 1, 0, none⟩ hq hq2 (.int .i64 v)) ⟨w.heap.size + 1, 1, none⟩ hq hq2 (.int .i64 k)) ⟨w.heap.size + 1, 2, none⟩ hq hq2 (.int .i64 p)) ⟨w.heap.size + 1, 3, none⟩ hq hq2 (.int .i64 t)) ⟨w.heap.size + 1, 4, none⟩ hq hq2 (.slice A6 m6 c6))
  clear hq hq2
  go_wp2
  refine bodyPost_ret (v := Value.tuple #[.agg #[Value.int IntKind.i64 v, Value.int IntKind.i64 k, Value.int IntKind.i64 p, Value.int IntKind.i64 t, Value.slice A6 m6 c6], .int .i64 0]) (by simp [results, Try.results53, go_sem, R]) rfl ⟨A6, m6, c6, ys, rfl, p1, p2, Y8.out.more (by simp [World.setCell]), rfl, ?_, fun ad h => .inr (by have := HHr.out ad h; omega), fun y hy h0 ad h => .inl (HEn.out y hy h0 ad h).1⟩
  exact (((((BB.out.setCell (by first | (simp; done) | (simp; omega)) _).setCell (by first | (simp; done) | (simp; omega)) _).setCell (by first | (simp; done) | (simp; omega)) _).setCell (by first | (simp; done) | (simp; omega)) _).setCell (by first | (simp; done) | (simp; omega)) _)
end Go.Proofs.Ytjapjfcennemeaa.qtl
