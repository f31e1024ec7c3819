/- Qt3: proved here in one text, no conditions beyond those that each theorem states. -/
import Derived.Deep.DeepCutAuto
import Derived.Deep.CutBlock
import Derived.Test.YtjapjfcennemeaaGreatZ34
import Derived.Test.YtjapjfcennemeaaGreatZ35
import Derived.Test.YtjapjfcennemeaaGreatZ22
set_option linter.unusedVariables false
set_option linter.unusedSimpArgs false
namespace Go.Proofs.YtjapjfcennemeaaGreat.qtl
open Go.RowKit Go.Proofs.YtjapjfcennemeaaGreat.mem Go.Proofs.YtjapjfcennemeaaGreat.gro Go.Proofs.YtjapjfcennemeaaGreat.rnk Go.Proofs.YtjapjfcennemeaaGreat.blk
set_option linter.unusedVariables false
set_option linter.unusedSimpArgs false
set_option pp.maxSteps 200000
abbrev Q5 := Int × Int × Int × Int × List K5
def inV (x : Int) : Bool := decide (-4096 ≤ x ∧ x ≤ 4096)
theorem inV_iff {x : Int} : inV x = true ↔ -4096 ≤ x ∧ x ≤ 4096 := decide_eq_true_iff
theorem inV_iff0 {x : Int} : inV x = false ↔ ¬ (-4096 ≤ x ∧ x ≤ 4096) := decide_eq_false_iff_not
noncomputable def addQ (xs : List K5) (v k p o x : Int) : Q5 × Int :=
  if fitQ xs v k p o = true then (if inV x = true then (if (totalK xs : Int) = p then ((0, 0, 0, 0, []), 5) else ((v, k, p, o, insK xs (2 * k) (sizeQ k p) o x), 0)) else ((0, 0, 0, 0, []), 4)) else ((0, 0, 0, 0, []), 2)
def NewQ (P : Nat → Prop) (r : Q5 × Int) (w : World) (e : Ending) (w' : World) : Prop :=
  ∃ A m c ys, e = .returned (.tuple #[.agg #[.int .i64 r.1.1, .int .i64 r.1.2.1, .int .i64 r.1.2.2.1, .int .i64 r.1.2.2.2.1, .slice A m c], .int .i64 r.2]) ∧ m ≤ c ∧ c ≤ maxLen ∧ BRead w' w'.heap.size A m ys ∧ ys.map bkey = r.1.2.2.2.2 ∧ Below w.heap.size w w' ∧ (∀ ad, A = some ad → P ad.block ∨ w.heap.size ≤ ad.block) ∧ Apt P w.heap.size ys
theorem BRead.nil_ {w : World} {B : Nat} : BRead w B none 0 [] := ⟨Reads.none_, fun b hb => by cases hb⟩
theorem newQ_nil {P : Nat → Prop} {w w' : World} (er : Int) (h : Below w.heap.size w w') : NewQ P ((0, 0, 0, 0, []), er) w (.returned (.tuple #[.agg #[.int .i64 0, .int .i64 0, .int .i64 0, .int .i64 0, .slice none 0 0], .int .i64 er])) w' :=
  ⟨none, 0, 0, [], rfl, Nat.le_refl _, Nat.zero_le _, BRead.nil_, rfl, h, fun _ h => (by cases h), fun y hy => by cases hy⟩
theorem BRead.far {W : World} {B n : Nat} {A : Option Addr} {ys : List BlkM} (h : BRead W B A n ys) (q : Addr) (hr : 0 < n → ∀ ad, A = some ad → ad.block ≠ q.block) (he : ∀ y ∈ ys, 0 < y.en → ∀ ad, y.adr = some ad → ad.block ≠ q.block) (u : Value) : BRead (W.setCell q u) B A n ys :=
  ⟨rnk.Reads.far h.1 q hr u, fun y hy => ⟨rnk.Reads.far (h.2 y hy).1 q (he y hy) u, (h.2 y hy).2⟩⟩
theorem BRead.far6 {W : World} {n g1 g2 : Nat} {A : Option Addr} {ys : List BlkM} {a1 a2 a3 a4 a5 a6 : Nat} (h : BRead W W.heap.size A n ys) (hr : 0 < n → ∀ ad, A = some ad → ad.block ≠ g1 ∧ ad.block ≠ g2) (he : ∀ y ∈ ys, 0 < y.en → ∀ ad, y.adr = some ad → ad.block ≠ g1 ∧ ad.block ≠ g2) (u1 u2 u3 u4 u5 u6 : Value) :
    BRead ((((((W.setCell ⟨g1, a1, none⟩ u1).setCell ⟨g2, a2, none⟩ u2).setCell ⟨g2, a3, none⟩ u3).setCell ⟨g2, a4, none⟩ u4).setCell ⟨g2, a5, none⟩ u5).setCell ⟨g2, a6, none⟩ u6) ((((((W.setCell ⟨g1, a1, none⟩ u1).setCell ⟨g2, a2, none⟩ u2).setCell ⟨g2, a3, none⟩ u3).setCell ⟨g2, a4, none⟩ u4).setCell ⟨g2, a5, none⟩ u5).setCell ⟨g2, a6, none⟩ u6).heap.size A n ys := by
  have h1 : ∀ q : Addr, (q.block = g1 ∨ q.block = g2) → 0 < n → ∀ ad, A = some ad → ad.block ≠ q.block := fun q hq h0 ad e => by have := hr h0 ad e; rcases hq with hq | hq <;> omega
  have h2 : ∀ q : Addr, (q.block = g1 ∨ q.block = g2) → ∀ y ∈ ys, 0 < y.en → ∀ ad, y.adr = some ad → ad.block ≠ q.block := fun q hq y hy h0 ad e => by have := he y hy h0 ad e; rcases hq with hq | hq <;> omega
  have key := BRead.far (BRead.far (BRead.far (BRead.far (BRead.far (BRead.far h ⟨g1, a1, none⟩ (h1 _ (.inl rfl)) (h2 _ (.inl rfl)) u1) ⟨g2, a2, none⟩ (h1 _ (.inr rfl)) (h2 _ (.inr rfl)) u2) ⟨g2, a3, none⟩ (h1 _ (.inr rfl)) (h2 _ (.inr rfl)) u3) ⟨g2, a4, none⟩ (h1 _ (.inr rfl)) (h2 _ (.inr rfl)) u4) ⟨g2, a5, none⟩ (h1 _ (.inr rfl)) (h2 _ (.inr rfl)) u5) ⟨g2, a6, none⟩ (h1 _ (.inr rfl)) (h2 _ (.inr rfl)) u6
  exact key.more (by simp [World.setCell])
set_option maxHeartbeats 8000000 in
set_option maxRecDepth 100000 in
theorem AddQ_any (P : Nat → Prop) (v k p o x : Int) (A : Option Addr) (n c : Nat) (xs : List BlkM) (w : World) (h1 : BRead w w.heap.size A n xs) (hs : n ≤ 64000) (hp : p ≤ 9223372036854775807) (hent : validK (xs.map bkey) (2 * k) (sizeQ k p) = true → entsK (xs.map bkey) ≤ 4000000) (hA : ∀ y ∈ xs, 0 < y.en → ∀ ad, y.adr = some ad → P ad.block) :
    Calls Tryz.prog 11 #[(Value.agg #[.int .i64 v, .int .i64 k, .int .i64 p, .int .i64 o, .slice A n c]), .int .i64 x] w (NewQ P (addQ (xs.map bkey) v k p o x) w) := by
  have HV := Lib.hid (fun W (hb : Below w.heap.size w W) => ValidateQ_any v k p o A n c xs W ((h1.below hb).more hb.size) (by omega) hp)
  have HT := Lib.hid (fun W (hb : Below w.heap.size w W) => blk.TotalB_any A n c xs W ((h1.below hb).more hb.size) (by omega))
  have HZ := Lib.hid (fun W => SizeQ_any k p hp W)
  have HI := Lib.hid (fun W (hb : Below w.heap.size w W) => InsertB_anyA (fun b => P b ∧ b < w.heap.size) A n c xs (2 * k) (sizeQ k p) o x W ((h1.below hb).more hb.size) hs hent (fun y hy h0 ad e => ⟨hA y hy h0 ad e, rnk.Reads.blk (h1.2 y hy).1 h0 ad e⟩))
  clear h1 hA
  unfold addQ
  cases hf : fitQ (xs.map bkey) v k p o
  case false =>
    rw [if_neg Bool.false_ne_true]
    rw [hf, okE_f] at HV
    clear hf HT HI HZ hent
    go_enter Tryz.func11, Tryz.ntmps11
    go_wp2_with fail
    obtain ⟨W0, hW, hs0, K0, B0⟩ := start2 w 24 24 #[Value.int IntKind.i64 v, Value.int IntKind.i64 k, Value.int IntKind.i64 p, Value.int IntKind.i64 o, Value.slice A n c] #[Value.int IntKind.i64 0, Value.int IntKind.i64 0, Value.int IntKind.i64 0, Value.int IntKind.i64 0, Value.slice none 0 0]
    rw [hW]
    clear hW
    have KK := Lib.hid K0
    have BB := Lib.hid B0
    have R := K0.rules
    simp only [Rules] at R
    clear K0 B0
    have sz : w.heap.size + 1 + 1 ≤ W0.heap.size := by omega
    clear hs0
    (with_reducible refine (HV.out _ BB.out).mono ?_)
    rintro e wv ⟨rfl, hbv⟩
    replace BB := Lib.hid (BB.out.trans (hbv.mono BB.out.size))
    replace KK := Lib.hid (KK.out.below hbv)
    replace sz := Nat.le_trans sz hbv.size
    replace R := KK.out.rules
    simp only [Rules] at R
    clear hbv
    go_wp2
    refine bodyPost_ret (v := Value.tuple #[.agg #[Value.int IntKind.i64 0, Value.int IntKind.i64 0, Value.int IntKind.i64 0, Value.int IntKind.i64 0, Value.slice none 0 0], .int .i64 2]) (by simp [results, Tryz.results11, go_sem, R]) rfl (newQ_nil 2 ?_)
    exact (((((BB.out.setCell (by first | (simp; done) | (simp; omega)) _).setCell (by first | (simp; done) | (simp; omega)) _).setCell (by first | (simp; done) | (simp; omega)) _).setCell (by first | (simp; done) | (simp; omega)) _).setCell (by first | (simp; done) | (simp; omega)) _)
  have hk := (goodC_iff.1 (fitQ_iff.1 hf).1).2.1
  rw [if_pos rfl]
  rw [hf, okE_t] at HV
  clear hf hent
  have s1 : IntKind.i64.wrap (2 * k) = 2 * k := IntWalk.i64_in _ (by omega)
  cases hr : inV x
  case false =>
    rw [if_neg Bool.false_ne_true]
    rw [inV_iff0] at hr
    clear HT HI HZ
    have hno : x < -4096 ∨ 4096 < x := by omega
    clear hr
    rcases hno with hc | hc
    all_goals
      go_enter Tryz.func11, Tryz.ntmps11
      go_wp2_with fail
      obtain ⟨W0, hW, hs0, K0, B0⟩ := start2 w 24 24 #[Value.int IntKind.i64 v, Value.int IntKind.i64 k, Value.int IntKind.i64 p, Value.int IntKind.i64 o, Value.slice A n c] #[Value.int IntKind.i64 0, Value.int IntKind.i64 0, Value.int IntKind.i64 0, Value.int IntKind.i64 0, Value.slice none 0 0]
      rw [hW]
      clear hW
      have KK := Lib.hid K0
      have BB := Lib.hid B0
      have R := K0.rules
      simp only [Rules] at R
      clear K0 B0
      have sz : w.heap.size + 1 + 1 ≤ W0.heap.size := by omega
      clear hs0
      (with_reducible refine (HV.out _ BB.out).mono ?_)
      rintro e wv ⟨rfl, hbv⟩
      replace BB := Lib.hid (BB.out.trans (hbv.mono BB.out.size))
      replace KK := Lib.hid (KK.out.below hbv)
      replace sz := Nat.le_trans sz hbv.size
      replace R := KK.out.rules
      simp only [Rules] at R
      clear hbv
      go_wp2
      refine bodyPost_ret (v := Value.tuple #[.agg #[Value.int IntKind.i64 0, Value.int IntKind.i64 0, Value.int IntKind.i64 0, Value.int IntKind.i64 0, Value.slice none 0 0], .int .i64 4]) (by simp [results, Tryz.results11, go_sem, R]) rfl (newQ_nil 4 ?_)
      exact (((((BB.out.setCell (by first | (simp; done) | (simp; omega)) _).setCell (by first | (simp; done) | (simp; omega)) _).setCell (by first | (simp; done) | (simp; omega)) _).setCell (by first | (simp; done) | (simp; omega)) _).setCell (by first | (simp; done) | (simp; omega)) _)
  rw [if_pos rfl]
  rw [inV_iff] at hr
  have r1 : ¬ x < -4096 := by omega
  have r2 : ¬ 4096 < x := by omega
  clear hr
  generalize ((totalK (xs.map bkey) : Nat) : Int) = tn at *
  by_cases hf : tn = p
  case pos =>
    rw [if_pos hf]
    have q1 : (tn == p) = true := by simpa using hf
    clear HI HZ hf
    go_enter Tryz.func11, Tryz.ntmps11
    go_wp2_with fail
    obtain ⟨W0, hW, hs0, K0, B0⟩ := start2 w 24 24 #[Value.int IntKind.i64 v, Value.int IntKind.i64 k, Value.int IntKind.i64 p, Value.int IntKind.i64 o, Value.slice A n c] #[Value.int IntKind.i64 0, Value.int IntKind.i64 0, Value.int IntKind.i64 0, Value.int IntKind.i64 0, Value.slice none 0 0]
    rw [hW]
    clear hW
    have KK := Lib.hid K0
    have BB := Lib.hid B0
    have R := K0.rules
    simp only [Rules] at R
    clear K0 B0
    have sz : w.heap.size + 1 + 1 ≤ W0.heap.size := by omega
    clear hs0
    (with_reducible refine (HV.out _ BB.out).mono ?_)
    rintro e wv ⟨rfl, hbv⟩
    replace BB := Lib.hid (BB.out.trans (hbv.mono BB.out.size))
    replace KK := Lib.hid (KK.out.below hbv)
    replace sz := Nat.le_trans sz hbv.size
    replace R := KK.out.rules
    simp only [Rules] at R
    clear hbv
    go_wp2_with fail
    (refine gro.wp_region_grown (by kernel_rfl) (by kernel_rfl) ?_; (repeat (go_big_quiet_step (((go_at_call 20; exact call_grown (HT.out _ (BB.out.trans ((below_grown _ _).mono BB.out.size)))))))); refine wpQuiet_nil ?_; intro _ hw'; obtain ⟨nx, hw''⟩ := hw'; subst hw'')
    replace BB := Lib.hid (BB.out.trans ((below_grown _ nx).mono BB.out.size))
    replace KK := Lib.hid (KK.out.below (below_grown _ nx))
    replace sz := Nat.le_trans sz (below_grown _ nx).size
    clear R
    generalize grown _ nx = W7 at *
    have R := KK.out.rules
    simp only [Rules] at R
    go_wp2
    refine bodyPost_ret (v := Value.tuple #[.agg #[Value.int IntKind.i64 0, Value.int IntKind.i64 0, Value.int IntKind.i64 0, Value.int IntKind.i64 0, Value.slice none 0 0], .int .i64 5]) (by simp [results, Tryz.results11, go_sem, R]) rfl (newQ_nil 5 ?_)
    exact (((((BB.out.setCell (by first | (simp; done) | (simp; omega)) _).setCell (by first | (simp; done) | (simp; omega)) _).setCell (by first | (simp; done) | (simp; omega)) _).setCell (by first | (simp; done) | (simp; omega)) _).setCell (by first | (simp; done) | (simp; omega)) _)
  rw [if_neg hf]
  have q1 : (tn == p) = false := by simpa using hf
  clear hf
  generalize insK (xs.map bkey) (2 * k) (sizeQ k p) o x = ks at *
  generalize sizeQ k p = z at *
  go_enter Tryz.func11, Tryz.ntmps11
  go_wp2_with fail
  obtain ⟨W0, hW, hs0, K0, B0⟩ := start2 w 24 24 #[Value.int IntKind.i64 v, Value.int IntKind.i64 k, Value.int IntKind.i64 p, Value.int IntKind.i64 o, Value.slice A n c] #[Value.int IntKind.i64 0, Value.int IntKind.i64 0, Value.int IntKind.i64 0, Value.int IntKind.i64 0, Value.slice none 0 0]
  rw [hW]
  clear hW
  have KK := Lib.hid K0
  have BB := Lib.hid B0
  have R := K0.rules
  simp only [Rules] at R
  clear K0 B0
  have sz : w.heap.size + 1 + 1 ≤ W0.heap.size := by omega
  clear hs0
  (with_reducible refine (HV.out _ BB.out).mono ?_)
  rintro e wv ⟨rfl, hbv⟩
  replace BB := Lib.hid (BB.out.trans (hbv.mono BB.out.size))
  replace KK := Lib.hid (KK.out.below hbv)
  replace sz := Nat.le_trans sz hbv.size
  replace R := KK.out.rules
  simp only [Rules] at R
  clear hbv
  go_wp2_with fail
  (refine gro.wp_region_grown (by kernel_rfl) (by kernel_rfl) ?_; (repeat (go_big_quiet_step (((go_at_call 20; exact call_grown (HT.out _ (BB.out.trans ((below_grown _ _).mono BB.out.size)))))))); refine wpQuiet_nil ?_; intro _ hw'; obtain ⟨nx, hw''⟩ := hw'; subst hw'')
  replace BB := Lib.hid (BB.out.trans ((below_grown _ nx).mono BB.out.size))
  replace KK := Lib.hid (KK.out.below (below_grown _ nx))
  replace sz := Nat.le_trans sz (below_grown _ nx).size
  clear R
  generalize grown _ nx = W7 at *
  have R := KK.out.rules
  simp only [Rules] at R
  go_upto_region 8 with fail
  (refine gro.wp_region_heldA [0, 1, 2, 3, 4, 5, 6, 7, 8, 9, 10, 11, 12] 3 15 _ (gro.lasts_bx _) (by kernel_rfl) (by kernel_rfl) (by intro _ _ _ _ _ h; exact h) (by kernel_rfl) (by kernel_rfl) (by kernel_rfl) (by kernel_rfl) (by kernel_rfl) (by decide) (KK.out).drew ?_; apply Exists.intro; refine ⟨fun w0 hb0 => ?_, ?_⟩; focus (have RZ := gro.Bx.rules hb0; simp only [gro.Rules] at RZ; simp only [gro.pickA, List.filterMap_cons, List.filterMap_nil, List.getElem?_toArray, List.getElem?_cons_succ, List.getElem?_cons_zero]; change wpQuiet _ _ _ _ (_ :: _ :: _ :: _ :: _ :: _ :: _ :: _ :: _ :: _ :: _ :: _ :: _ ::  []) _; (repeat (go_big_quiet_step (((go_at_call 22; exact call_same (HZ.out _)))))); exact wpQuiet_nil rfl))
  replace BB := Lib.hid BB.out.drew
  replace KK := Lib.hid KK.out.drew
  replace sz := (show _ ≤ (W7.drew).heap.size from sz)
  generalize W7.drew = v1 at *
  refine gro.anyM_one 13 (by kernel_rfl) rfl ?_
  intro v2 hz K' hK'
  clear R
  replace BB := Lib.hid (BB.out.trans (hz.mono BB.out.size))
  replace KK := Lib.hid (KK.out.below hz)
  replace sz := Nat.le_trans sz hz.size
  clear hz
  go_simp
  refine (HI.out _ BB.out).mono ?_
  rintro e v3 ⟨A6, m6, c6, ys, rfl, p1, p2, p3, k1, hb, fr, hap⟩
  have HY := Lib.hid p3
  have hr : 0 < m6 → ∀ ad, A6 = some ad → w.heap.size + 1 + 1 ≤ ad.block := fun _ ad h => Nat.le_trans sz (fr ad h)
  have he : ∀ y ∈ ys, 0 < y.en → ∀ ad, y.adr = some ad → (P ad.block ∧ ad.block < w.heap.size) ∨ w.heap.size + 1 + 1 ≤ ad.block := fun y hy h0 ad e => by
    rcases hap y hy h0 ad e with h | h
    · exact .inl h
    · exact .inr (Nat.le_trans sz h)
  have fr2 : ∀ ad, A6 = some ad → w.heap.size + 1 + 1 ≤ ad.block := fun ad h => Nat.le_trans sz (fr ad h)
  have HHr := Lib.hid hr
  have HHe := Lib.hid he
  have HHf := Lib.hid fr2
  have HK1 := Lib.hid k1
  replace BB := Lib.hid (BB.out.trans (hb.mono BB.out.size))
  replace KK := Lib.hid (KK.out.below hb)
  replace sz := Nat.le_trans sz hb.size
  clear hb p3 HI fr hap hr he fr2 k1
  refine hK' _ _ ⟨fun _ => KK.out, ?_⟩
  clear hK' K'
  refine gro.anyM_one 14 (by kernel_rfl) rfl ?_
  intro v3b hz K' hK'
  replace BB := Lib.hid (BB.out.trans (hz.mono BB.out.size))
  replace KK := Lib.hid (KK.out.below hz)
  replace HY := Lib.hid ((HY.out.below hz).more hz.size)
  replace sz := Nat.le_trans sz hz.size
  clear hz
  go_simp
  refine hK' _ _ ⟨fun _ => KK.out, ?_⟩
  clear hK' K'
  refine gro.anyM_one 15 (by kernel_rfl) rfl ?_
  intro v4 hz K' hK'
  replace BB := Lib.hid (BB.out.trans (hz.mono BB.out.size))
  replace KK := Lib.hid (KK.out.below hz)
  replace HY := Lib.hid ((HY.out.below hz).more hz.size)
  replace sz := Nat.le_trans sz hz.size
  clear hz
  have R := KK.out.rules
  simp only [Rules] at R
  go_simp
  refine hK' _ _ ⟨fun h => absurd (show true = false from h) (by decide), ?_⟩
  clear hK' K' R
  have K5 := KK.out.swap.puti (by simp) 4 (.slice A6 m6 c6)
  have K6 : Bx (v4.setCell ⟨w.heap.size, 4, none⟩ (.slice A6 m6 c6)) [(w.heap.size, 24, #[Value.int IntKind.i64 v, Value.int IntKind.i64 k, Value.int IntKind.i64 p, Value.int IntKind.i64 o, Value.slice A6 m6 c6]), (w.heap.size + 1, 24, #[Value.int IntKind.i64 0, Value.int IntKind.i64 0, Value.int IntKind.i64 0, Value.int IntKind.i64 0, Value.slice none 0 0])] := by simpa using K5
  have B6 := BB.out.setCell (p := ⟨w.heap.size, 4, none⟩) (Nat.le_refl _) (.slice A6 m6 c6)
  have Y6 : BRead (v4.setCell ⟨w.heap.size, 4, none⟩ (.slice A6 m6 c6)) (v4.setCell ⟨w.heap.size, 4, none⟩ (.slice A6 m6 c6)).heap.size A6 m6 ys := (BRead.far HY.out ⟨w.heap.size, 4, none⟩ (fun h0 ad h => by have := HHr.out h0 ad h; show ad.block ≠ w.heap.size; omega) (fun y hy h0 ad h => by have := HHe.out y hy h0 ad h; show ad.block ≠ w.heap.size; omega) _).more (by simp [World.setCell])
  replace KK := Lib.hid K6
  replace BB := Lib.hid B6
  replace HY := Lib.hid Y6
  clear K5 K6 B6 Y6 sz
  generalize v4.setCell ⟨w.heap.size, 4, none⟩ (.slice A6 m6 c6) = v5 at *
  refine gro.anyM_done (by kernel_rfl) ?_
  intro v6 hz
  replace BB := Lib.hid (BB.out.trans (hz.mono BB.out.size))
  replace KK := Lib.hid (KK.out.below hz)
  replace HY := Lib.hid ((HY.out.below hz).more hz.size)
  clear hz
  have R := KK.out.rules
  simp only [Rules] at R
  have Y7 := Lib.hid (fun u1 u2 u3 u4 u5 u6 => BRead.far6 (g1 := w.heap.size + 1) (g2 := w.heap.size + 1) (a1 := 0) (a2 := 0) (a3 := 1) (a4 := 2) (a5 := 3) (a6 := 4) HY.out (fun h0 ad h => by have := HHr.out h0 ad h; omega) (fun y hy h0 ad h => by have := HHe.out y hy h0 ad h; omega) u1 u2 u3 u4 u5 u6)
  have Y8 : Hid (BRead (((((v6.setCell ⟨w.heap.size + 1, 0, none⟩ (.int .i64 v)).setCell ⟨w.heap.size + 1, 1, none⟩ (.int .i64 k)).setCell ⟨w.heap.size + 1, 2, none⟩ (.int .i64 p)).setCell ⟨w.heap.size + 1, 3, none⟩ (.int .i64 o)).setCell ⟨w.heap.size + 1, 4, none⟩ (.slice A6 m6 c6)) v6.heap.size A6 m6 ys) := by
    have hq : 0 < m6 → ∀ ad, A6 = some ad → ad.block ≠ w.heap.size + 1 := fun h0 ad h => by have := HHr.out h0 ad h; omega
    have hq2 : ∀ y ∈ ys, 0 < y.en → ∀ ad, y.adr = some ad → ad.block ≠ w.heap.size + 1 := fun y hy h0 ad h => by have := HHe.out y hy h0 ad h; omega
    exact BRead.far (BRead.far (BRead.far (BRead.far (BRead.far HY.out ⟨w.heap.size + 1, 0, none⟩ hq hq2 _) ⟨w.heap.size + 1, 1, none⟩ hq hq2 _) ⟨w.heap.size + 1, 2, none⟩ hq hq2 _) ⟨w.heap.size + 1, 3, none⟩ hq hq2 _) ⟨w.heap.size + 1, 4, none⟩ hq hq2 _
  clear Y7
  go_wp2
  refine bodyPost_ret (v := Value.tuple #[.agg #[Value.int IntKind.i64 v, Value.int IntKind.i64 k, Value.int IntKind.i64 p, Value.int IntKind.i64 o, Value.slice A6 m6 c6], .int .i64 0]) (by simp [results, Tryz.results11, go_sem, R]) rfl ⟨A6, m6, c6, ys, rfl, p1, p2, Y8.out.more (by simp [World.setCell]), HK1.out, ?_, fun ad h => .inr (by have := HHf.out ad h; omega), fun y hy h0 ad h => by
    rcases HHe.out y hy h0 ad h with h | h
    · exact .inl h.1
    · exact .inr (by omega)⟩
  exact (((((BB.out.setCell (by first | (simp; done) | (simp; omega)) _).setCell (by first | (simp; done) | (simp; omega)) _).setCell (by first | (simp; done) | (simp; omega)) _).setCell (by first | (simp; done) | (simp; omega)) _).setCell (by first | (simp; done) | (simp; omega)) _)
end Go.Proofs.YtjapjfcennemeaaGreat.qtl
