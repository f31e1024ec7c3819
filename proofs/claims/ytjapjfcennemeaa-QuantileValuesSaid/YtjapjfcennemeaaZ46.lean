/- TruP, QRnkN, QRun, Qt4, QValN: proved here in one text, no conditions beyond those that each theorem states. -/
import Derived.Deep.DeepCutAuto
import Derived.Deep.CutBlock
import Derived.Test.YtjapjfcennemeaaZ25
import Derived.Test.YtjapjfcennemeaaZ44
import Derived.Test.YtjapjfcennemeaaZ7
import Derived.Test.YtjapjfcennemeaaZ32
import Derived.Test.YtjapjfcennemeaaZ45
import Derived.Test.YtjapjfcennemeaaZ23
import Derived.Test.YtjapjfcennemeaaZ22
import Derived.Test.YtjapjfcennemeaaZ20
set_option linter.unusedVariables false
set_option linter.unusedSimpArgs false
section
namespace Go.Proofs.Ytjapjfcennemeaa.rnk
open Go.RowKit Go.Proofs.Ytjapjfcennemeaa.mem Go.Proofs.Ytjapjfcennemeaa.gro Go.Proofs.Ytjapjfcennemeaa.blk
set_option linter.unusedVariables false
theorem quK_nil {p q : Int} (h : asksQ p q) : quK [] p q = (0, 7) := by
  have h1 : sureK [] = ((0, []), 0) := rfl
  unfold quK
  rw [h1, if_pos rfl]
  exact quaV_7 val_nil h rfl
theorem rkK_cons {x : K5} {r : List K5} {N : Int} {es : L3} (h : sureK (x :: r) = ((N, es), 0)) (v : Int) : rkK (x :: r) v = bnd6 (lw es (cutV es v)) (up es N (cutV es v) + 2 ^ x.2.2.1.toNat - 1) := by
  unfold rkK rkLo rkHi
  rw [h, if_pos rfl, if_neg (by simp)]
  rfl
theorem quK_cons {x : K5} {r : List K5} {N : Int} {es : L3} (h : sureK (x :: r) = ((N, es), 0)) (p q : Int) : quK (x :: r) p q = quaV N es p q := by
  unfold quK
  rw [h, if_pos rfl]
section
variable {xs : List K5} {k b w now : Int} {its : Its}
theorem RunB.step (h : RunB xs k b w now its) {T V : Int} (hT : now ≤ T) (hw : 1 ≤ w) (hn : T ≤ 16777216) (hv : -4096 ≤ V ∧ V ≤ 4096) (hl : its.length ≤ 1000) : mayK (expK (T - w + 1) xs) k b T V = true ∧ RunB (insKC (expK (T - w + 1) xs) k.toNat b T V) k b w T (its ++ [(T, V)]) :=
  ⟨(h.adv hT).may hn hv (by omega), (h.adv hT).ins hw hn hv (by omega)⟩
end
end Go.Proofs.Ytjapjfcennemeaa.rnk
end
section
namespace Go.Proofs.Ytjapjfcennemeaa.qtl
open Go.Proofs.Ytjapjfcennemeaa.mem Go.Proofs.Ytjapjfcennemeaa.rnk Go.Proofs.Ytjapjfcennemeaa.buk Go.Proofs.Ytjapjfcennemeaa.blk
set_option linter.unusedVariables false
section
variable {xs : List K5} {k p w now : Int} {its : Its}
theorem RunQ.rank (h : RunQ xs k p w now its) (hl : its.length ≤ 1000000) (y : Int) :
    ∃ lo hi, rkK xs y = bnd6 lo hi ∧ (sureK xs).2 = 0 ∧ lo ≤ rk (liveV now w its) y ∧ rk (liveV now w its) y ≤ hi ∧ k * (hi - lo) ≤ ((liveV now w its).length : Int) := by
  match xs, h with
  | [], h =>
    have e : liveV now w its = [] := h.run.empty
    refine ⟨0, 0, rfl, rfl, ?_, ?_, ?_⟩ <;> rw [e] <;> simp [rk]
  | x :: r, h =>
    obtain ⟨N, es, u, f1, f2, f3, f4, f5, f6, f7, f8, f9, f10⟩ := truth_near h.run hl (p := 0) (q := 1) ⟨by omega, by omega, by omega⟩
    obtain ⟨N', es', g1, g2, g3, g4⟩ := rank_narrow h.hk h.hp h.run hl h.tot
    rw [f1] at g1
    injection g1 with g1 _
    injection g1 with e1 e2
    subst e1 e2
    refine ⟨_, _, rkK_cons f1 y, by rw [f1], (f7 y).1, (f7 y).2, ?_⟩
    have := g4 y
    omega
end
end Go.Proofs.Ytjapjfcennemeaa.qtl
end
section
namespace Go.Proofs.Ytjapjfcennemeaa.qtl
open Go.RowKit Go.Proofs.Ytjapjfcennemeaa.mem Go.Proofs.Ytjapjfcennemeaa.gro Go.Proofs.Ytjapjfcennemeaa.rnk Go.Proofs.Ytjapjfcennemeaa.buk Go.Proofs.Ytjapjfcennemeaa.blk
set_option linter.unusedVariables false
set_option linter.unusedSimpArgs false
set_option pp.maxSteps 200000
def StQ (k p v now : Int) (er : Int) (its : Its) (gx : Nat) (row : Option Nat) (w : World) (e : Ending) (w' : World) : Prop :=
  ∃ A m c ys, e = .returned (.tuple #[.agg #[.int .i64 v, .int .i64 k, .int .i64 p, .int .i64 now, .slice A m c], .int .i64 er]) ∧ m ≤ c ∧ c ≤ 9223372036854775807 ∧ BRead w' w'.heap.size A m ys ∧ RunQ (ys.map bkey) k p v now its ∧ Clr gx row m A ys ∧ Below w.heap.size w w'
section
variable {W : World} {A : Option Addr} {n c gx : Nat} {row : Option Nat} {ys : List BlkM} {k p v now : Int} {its : Its}
theorem run_len (HR : RunQ (ys.map bkey) k p v now its) (hl : its.length ≤ 400) (h1 : BRead W W.heap.size A n ys) : n ≤ 400 ∧ entsK (ys.map bkey) ≤ 4000000 := by
  have h := HR.small hl
  have h2 := h1.len
  rw [List.length_map] at h
  exact ⟨by omega, h.2⟩
theorem adv_run (T : Int) (HR : RunQ (ys.map bkey) k p v now its) (hl : its.length ≤ 400) (h1 : BRead W W.heap.size A n ys) (hnc : n ≤ c) (hcm : c ≤ 9223372036854775807) (hc : Clr gx row n A ys) (hg : gx < W.heap.size) (hr : ∀ b, row = some b → b < W.heap.size) (hT : now ≤ T ∧ T ≤ 16777216) :
    Calls Try.prog 53 #[.agg #[.int .i64 v, .int .i64 k, .int .i64 p, .int .i64 now, .slice A n c], .int .i64 T] W (StQ k p v T 0 its gx row W) := by
  obtain ⟨e1, h2⟩ := HR.adv hT.1 hT.2
  have h3 := run_len HR hl h1
  refine (AdvanceQ_any (fun b => gx < b ∧ some b ≠ row) v k p now T A n c ys W h1 hnc hcm (by omega) (by have := HR.hp; omega) hc.p).mono ?_
  rintro e w' ⟨A', m, c', zs, e2, q1, q2, q3, q4, q5, q6, q7⟩
  rw [e1] at e2 q4
  refine ⟨A', m, c', zs, e2, q1, q2, q3, ?_, clr_new hg hr q6 q7, q5⟩
  rw [q4]; exact h2
theorem addq_full (V : Int) (HR : RunQ (ys.map bkey) k p v now its) (hl : its.length ≤ 400) (h1 : BRead W W.heap.size A n ys) (hV : -4096 ≤ V ∧ V ≤ 4096) (hf : (totalK (ys.map bkey) : Int) = p) :
    Calls Try.prog 55 #[.agg #[.int .i64 v, .int .i64 k, .int .i64 p, .int .i64 now, .slice A n c], .int .i64 V] W (fun e w' => ∃ A m c, e = .returned (.tuple #[.agg #[.int .i64 0, .int .i64 0, .int .i64 0, .int .i64 0, .slice A m c], .int .i64 5]) ∧ Below W.heap.size W w') := by
  have h3 := run_len HR hl h1
  refine (AddQ_any (fun _ => True) v k p now V A n c ys W h1 (by omega) (by have := HR.hp; omega) (fun _ => h3.2) (fun _ _ _ _ _ => trivial)).mono ?_
  rintro e w' ⟨A', m, c', zs, e2, q1, q2, q3, q4, q5, q6, q7⟩
  rw [HR.full hV hf] at e2
  exact ⟨A', m, c', e2, q5⟩
theorem addq_ok (V : Int) (HR : RunQ (ys.map bkey) k p v now its) (hl : its.length ≤ 400) (h1 : BRead W W.heap.size A n ys) (hV : -4096 ≤ V ∧ V ≤ 4096) (hf : ¬ (totalK (ys.map bkey) : Int) = p) (hc : Clr gx row n A ys) (hg : gx < W.heap.size) (hr : ∀ b, row = some b → b < W.heap.size) :
    Calls Try.prog 55 #[.agg #[.int .i64 v, .int .i64 k, .int .i64 p, .int .i64 now, .slice A n c], .int .i64 V] W (StQ k p v now 0 (its ++ [(now, V)]) gx row W) := by
  obtain ⟨e1, h2⟩ := HR.add hV (by omega) hf
  have h3 := run_len HR hl h1
  refine (AddQ_any (fun b => gx < b ∧ some b ≠ row) v k p now V A n c ys W h1 (by omega) (by have := HR.hp; omega) (fun _ => h3.2) hc.p).mono ?_
  rintro e w' ⟨A', m, c', zs, e2, q1, q2, q3, q4, q5, q6, q7⟩
  rw [e1] at e2 q4
  refine ⟨A', m, c', zs, e2, q1, q2, q3, ?_, clr_new hg hr q6 q7, q5⟩
  rw [q4]; exact h2
theorem newq_run (hk : 1 ≤ k ∧ k ≤ 64) (hp : 1 ≤ p ∧ p ≤ 65536) (hv : 1 ≤ v ∧ v ≤ 1048576) : Calls Try.prog 44 #[.int .i64 v, .int .i64 k, .int .i64 p, .int .i64 0] W fun e w' => e = .returned (.tuple #[.agg #[.int .i64 v, .int .i64 k, .int .i64 p, .int .i64 0, .slice none 0 0], .int .i64 0]) ∧ Below W.heap.size W w' := by
  have hg : goodC v k p 0 = true := goodC_iff.2 ⟨hv, hk, hp, by omega, by omega⟩
  have := NewQ_any v k p 0 W
  rw [hg] at this
  exact this
theorem most_run (HR : RunQ (ys.map bkey) k p v now its) (h1 : BRead W W.heap.size A n ys) : ((sumN ys n : Nat) : Int) ≤ mostQ k p := by
  have h := HR.most
  have h2 := h1.len
  subst h2
  rw [sumN_all]
  have : entsK (ys.map bkey) = (ys.map BlkM.en).sum := by
    unfold entsK
    rw [List.map_map]
    congr 1
    refine List.map_congr_left (fun y hy => ?_)
    have := ERead.len (h1.2 y hy).1
    show y.es.length = y.en
    omega
  rw [← this]; exact h
theorem sumN_mono' {xs : List BlkM} {i n : Nat} (h : i ≤ n) (hn : xs.length = n) : sumN xs i ≤ sumN xs n := by
  subst hn
  rw [sumN_all]
  unfold sumN
  conv => rhs; rw [← List.take_append_drop i xs]
  rw [List.map_append, List.sum_append]
  omega
theorem most_le (HR : RunQ (ys.map bkey) k p v now its) (hl : its.length ≤ 400) (h1 : BRead W W.heap.size A n ys) : sumN ys n ≤ 4000000 := by
  have h := (run_len HR hl h1).2
  have h2 := h1.len
  subst h2
  rw [sumN_all]
  have : entsK (ys.map bkey) = (ys.map BlkM.en).sum := by
    unfold entsK
    rw [List.map_map]
    congr 1
    refine List.map_congr_left (fun y hy => ?_)
    have := ERead.len (h1.2 y hy).1
    show y.es.length = y.en
    omega
  omega
end
end Go.Proofs.Ytjapjfcennemeaa.qtl
end
section
namespace Go.Proofs.Ytjapjfcennemeaa.qtl
open Go.RowKit Go.Proofs.Ytjapjfcennemeaa.mem Go.Proofs.Ytjapjfcennemeaa.gro Go.Proofs.Ytjapjfcennemeaa.rnk Go.Proofs.Ytjapjfcennemeaa.blk
set_option linter.unusedVariables false
set_option linter.unusedSimpArgs false
set_option pp.maxSteps 200000
noncomputable def valQ (xs : List K5) (v k p o a b : Int) : Int × Int := if fitQ xs v k p o = true then quK xs a b else (0, 2)
set_option maxHeartbeats 8000000 in
set_option maxRecDepth 100000 in
theorem ValueQ_any (v k p o a b : Int) (A : Option Addr) (n c : Nat) (xs : List BlkM) (w : World) (h1 : BRead w w.heap.size A n xs) (hs : n ≤ 64000) (hnc : n ≤ c) (hcm : c ≤ maxLen) (hp : p ≤ 9223372036854775807) (ha : a ≤ 9223372036854775807) (hb : b ≤ 9223372036854775807) (hent : okTo (xs.map bkey) n = true → entsK (xs.map bkey) ≤ 4000000) :
    Calls Try.prog 61 #[(Value.agg #[.int .i64 v, .int .i64 k, .int .i64 p, .int .i64 o, .slice A n c]), .int .i64 a, .int .i64 b] w fun e w' => e = .returned (.tuple #[.int .i64 (valQ (xs.map bkey) v k p o a b).1, .int .i64 (valQ (xs.map bkey) v k p o a b).2]) ∧ Below w.heap.size w w' := by
  have HV := Lib.hid (fun W (hb : Below w.heap.size w W) => ValidateQ_any v k p o A n c xs W ((h1.below hb).more hb.size) (by omega) hp)
  have HQ := Lib.hid (fun W (hbl : Below w.heap.size w W) => QuaB_any A n c xs a b ha hb W ((h1.below hbl).more hbl.size) (by omega) hnc hcm hent)
  clear h1 hent
  unfold valQ
  cases hf : fitQ (xs.map bkey) v k p o
  all_goals
    rw [hf] at HV
    simp only [okE_t, okE_f, if_true, if_false, Bool.false_eq_true] at *
    try generalize quK (xs.map bkey) a b = qv at *
    go_enter Try.func61, Try.ntmps61
    go_wp2_with fail
    obtain ⟨W0, hW, hs0, K0, B0⟩ := start1 w 70 #[Value.int IntKind.i64 v, Value.int IntKind.i64 k, Value.int IntKind.i64 p, Value.int IntKind.i64 o, Value.slice A n c]
    rw [hW]
    clear hW
    have KK := Lib.hid K0
    have BB := Lib.hid B0
    have R := K0.rules
    simp only [Rules] at R
    clear K0 B0 hs0
    (with_reducible refine (HV.out _ BB.out).mono ?_)
    rintro e wv ⟨rfl, hbv⟩; replace BB := Lib.hid (BB.out.trans (hbv.mono BB.out.size)); replace KK := Lib.hid (KK.out.below hbv); replace R := KK.out.rules; simp only [gro.Rules] at R; clear hbv
  · go_wp2
    refine bodyPost_ret (v := Value.tuple #[.int .i64 0, .int .i64 2]) (by simp [results, Try.results61, go_sem]) rfl ⟨rfl, BB.out⟩
  · go_wp2_with fail
    refine (HQ.out _ BB.out).mono ?_
    rintro e wv ⟨rfl, hbv⟩; replace BB := Lib.hid (BB.out.trans (hbv.mono BB.out.size)); replace KK := Lib.hid (KK.out.below hbv); replace R := KK.out.rules; simp only [gro.Rules] at R; clear hbv
    go_wp2
    refine bodyPost_ret (v := Value.tuple #[.int .i64 qv.1, .int .i64 qv.2]) (by simp [results, Try.results61, go_sem]) rfl ⟨rfl, BB.out⟩
theorem LL_okTo {j : Nat} (hj : j ≤ 5) {ys : List BlkM} (h : ys.map bkey = LL j) : entsK (ys.map bkey) ≤ 4000000 ∧ ys.length ≤ 4 := by
  have h1 := LL_len j
  rw [← h, List.length_map] at h1
  refine ⟨?_, h1⟩
  have h2 := (LL_all.2 j hj).1
  rw [← h] at h2
  exact ents_few (by rw [List.length_map]; omega) h2
set_option maxHeartbeats 8000000 in
set_option maxRecDepth 100000 in
theorem awake23_any (w : World) : Calls Try.prog 51 #[] w fun e w' => e = .returned (.bool true) ∧ Below w.heap.size w w' := by
  have HN := Lib.hid (NewQ_any 10 1 100 0 w)
  rw [show goodC 10 1 100 0 = true from goodC_iff.2 ⟨by omega, by omega, by omega, by omega⟩] at HN
  simp only [kp_t, if_true] at HN
  go_enter Try.func51, Try.ntmps51
  go_wp2_with fail
  refine HN.out.mono ?_
  rintro e w1 ⟨rfl, hb⟩
  have BB := Lib.hid hb
  clear hb HN
  have hw1 := BB.out.size
  obtain ⟨g, hg⟩ : ∃ s, w1.heap.size = s := ⟨_, rfl⟩
  have BZ := Lib.hid (BB.out.alloc BB.out.size (.cells #[Value.int IntKind.i64 10, Value.int IntKind.i64 1, Value.int IntKind.i64 100, Value.int IntKind.i64 0, Value.slice none 0 0] 70))
  have KZ := Lib.hid ((Bx.nil_ (W := w1)).new (t := 70) (c := #[Value.int IntKind.i64 10, Value.int IntKind.i64 1, Value.int IntKind.i64 100, Value.int IntKind.i64 0, Value.slice none 0 0]) hg)
  have hwg : w.heap.size ≤ g := by omega
  go_upto_region 3 with fail
  obtain ⟨W3, hW, K3, B3, z3⟩ := name_world KZ.out BZ.out (s := 0) (Nat.zero_le _)
  rw [hW]
  clear hW BZ KZ BB z3 hg hw1
  have KK := Lib.hid K3
  have BB := Lib.hid B3
  clear K3 B3
  go_loopg [2, 3] 5 (fun kx s2 s3 wr => ∃ (j : Nat) (z : Int) (A : Option Addr) (m c : Nat) (ys : List BlkM), s2 = .int .i64 0 ∧ s3 = .int .i64 z ∧ Hid (z = (j : Int) + 1) ∧ j ≤ 5 ∧ 5 - j ≤ kx ∧ m ≤ c ∧ c ≤ maxLen ∧ Hid (BRead wr wr.heap.size A m ys) ∧ Hid (ys.map bkey = LL j) ∧ Hid (∀ y ∈ ys, 0 < y.en → ∀ ad, y.adr = some ad → ad.block ≠ g) ∧ Hid (Bx wr [(g, 70, #[Value.int IntKind.i64 10, Value.int IntKind.i64 1, Value.int IntKind.i64 100, Value.int IntKind.i64 0, Value.slice A m c])]) ∧ Hid (Below w.heap.size w wr))
  case atStart => exact ⟨0, 1, none, 0, 0, [], rfl, rfl, rfl, Nat.zero_le _, Nat.le_refl _, Nat.le_refl _, Nat.zero_le _, BRead.nil_, rfl, fun y hy => (by cases hy), KK, BB⟩
  case round =>
    clear KK BB
    obtain ⟨j, z, A, m, c, ys, rfl, rfl, hz, hj, hjk, hmc, hcm, HY, HE, HA, KK, BB⟩ := hrel
    have R := KK.out.rules
    simp only [Rules] at R
    have hgl : g < wr.heap.size := (KK.out _ (List.mem_cons_self ..)).lt
    have hent := (LL_okTo hj HE.out)
    have hml : ys.length = m := HY.out.len
    by_cases hlt : j < 5
    case neg =>
      obtain rfl : j = 5 := by omega
      have hz6 : ¬ z ≤ 5 := by have := hz.out; omega
      have HV := Lib.hid (ValueQ_any 10 1 100 0 1 2 A m c ys wr HY.out (by omega) hmc hcm (by omega) (by omega) (by omega) (fun _ => hent.1))
      have hv : valQ (ys.map bkey) 10 1 100 0 1 2 = (3, 0) := by rw [HE.out]; unfold valQ; rw [if_pos (LL_fit (by omega))]; exact LL_val
      rw [hv] at HV
      clear hv hz HE HA
      go_wp2_with fail
      refine HV.out.mono ?_
      rintro e w2 ⟨rfl, hb⟩
      replace BB := Lib.hid (BB.out.trans (hb.mono BB.out.size))
      clear hb HV
      go_wp2
      go_ret
      exact ⟨rfl, BB.out⟩
    have hz5 : z ≤ 5 := by have := hz.out; omega
    have hz1 := hz.out
    have HD := Lib.hid (AddQ_any (fun b => b ≠ g) 10 1 100 0 z A m c ys wr HY.out (by omega) (by omega) (fun _ => hent.1) HA.out)
    rw [HE.out, hz1, LL_add hlt] at HD
    rw [← hz1] at HD
    have s1 : IntKind.i64.wrap (z + 1) = z + 1 := IntWalk.i64_in _ (by omega)
    have HZ2 : Hid (z + 1 = ((j + 1 : Nat) : Int) + 1) := by rw [Hid, hz1]; simp
    clear hz hz1 HY HE HA hent hml
    go_wp2_with fail
    refine HD.out.mono ?_
    rintro e w2 ⟨A6, m6, c6, y6, rfl, p1, p2, p3, k1, hb, fr, hap⟩
    have hq : 0 < m6 → ∀ ad, A6 = some ad → ad.block ≠ g := fun _ ad h => by
      rcases fr ad h with h | h
      · exact h
      · omega
    have hq2 : ∀ y ∈ y6, 0 < y.en → ∀ ad, y.adr = some ad → ad.block ≠ g := fun y hy h0 ad e => by
      rcases hap y hy h0 ad e with h | h
      · exact h
      · omega
    have Y8 : Hid (BRead (((((w2.setCell ⟨g, 0, none⟩ (.int .i64 10)).setCell ⟨g, 1, none⟩ (.int .i64 1)).setCell ⟨g, 2, none⟩ (.int .i64 100)).setCell ⟨g, 3, none⟩ (.int .i64 0)).setCell ⟨g, 4, none⟩ (.slice A6 m6 c6)) (((((w2.setCell ⟨g, 0, none⟩ (.int .i64 10)).setCell ⟨g, 1, none⟩ (.int .i64 1)).setCell ⟨g, 2, none⟩ (.int .i64 100)).setCell ⟨g, 3, none⟩ (.int .i64 0)).setCell ⟨g, 4, none⟩ (.slice A6 m6 c6)).heap.size A6 m6 y6) :=
      (BRead.far (BRead.far (BRead.far (BRead.far (BRead.far p3 ⟨g, 0, none⟩ hq hq2 _) ⟨g, 1, none⟩ hq hq2 _) ⟨g, 2, none⟩ hq hq2 _) ⟨g, 3, none⟩ hq hq2 _) ⟨g, 4, none⟩ hq hq2 _).more (by simp [World.setCell])
    have HQ2 := Lib.hid hq2
    have HK1 := Lib.hid k1
    replace BB := Lib.hid (BB.out.trans (hb.mono BB.out.size))
    replace KK := Lib.hid (KK.out.below hb)
    have KP := Lib.hid (blk.Bx.put5 (u0 := .int .i64 10) (u1 := .int .i64 1) (u2 := .int .i64 100) (u3 := .int .i64 0) (u4 := .slice A6 m6 c6) KK.out (by simp))
    have BP := Lib.hid (((((BB.out.setCell (p := ⟨g, 0, none⟩) hwg (.int .i64 10)).setCell (p := ⟨g, 1, none⟩) hwg (.int .i64 1)).setCell (p := ⟨g, 2, none⟩) hwg (.int .i64 100)).setCell (p := ⟨g, 3, none⟩) hwg (.int .i64 0)).setCell (p := ⟨g, 4, none⟩) hwg (.slice A6 m6 c6))
    replace R := KK.out.rules
    simp only [Rules] at R
    clear hb p3 fr hap hq hq2 k1 HD KK BB
    go_wp2_with fail
    go_roundg (5 - (j + 1))
    case measure => omega
    case rel => exact ⟨j + 1, z + 1, A6, m6, c6, y6, rfl, by first | rfl | go_num, HZ2, by omega, Nat.le_refl _, p1, p2, Y8, HK1, HQ2, KP, BP⟩
end Go.Proofs.Ytjapjfcennemeaa.qtl
end
section
namespace Go.Proofs.Ytjapjfcennemeaa.qtl
open Go.Proofs.Ytjapjfcennemeaa.mem Go.Proofs.Ytjapjfcennemeaa.rnk Go.Proofs.Ytjapjfcennemeaa.buk Go.Proofs.Ytjapjfcennemeaa.blk
set_option linter.unusedVariables false
section
variable {xs : List K5} {k p w now : Int} {its : Its}
theorem RunQ.none_ (h : RunQ [] k p w now its) {a b : Int} (ha : asksQ a b) : valQ [] w k p now a b = (0, 7) ∧ liveV now w its = [] := by
  refine ⟨?_, h.run.empty⟩
  unfold valQ
  rw [if_pos h.fit, quK_nil ha]
theorem RunQ.val {x : K5} {r : List K5} (h : RunQ (x :: r) k p w now its) (hl : its.length ≤ 1000000) {a b : Int} (ha : asksQ a b) :
    ∃ u, valQ (x :: r) w k p now a b = (u, 0) ∧ 1 ≤ ((liveV now w its).length : Int) ∧ bl (liveV now w its) u + 1 ≤ rk (liveV now w its) u ∧
      k * (bl (liveV now w its) u + 1 - wantT a b (liveV now w its).length - 1) ≤ (liveV now w its).length ∧ k * (wantT a b (liveV now w its).length - 1 - rk (liveV now w its) u) ≤ (liveV now w its).length := by
  obtain ⟨N, es, u, f1, f2, f3, f4, f5, f6, f7, f8, f9, f10⟩ := truth_near h.run hl ha
  obtain ⟨N', es', g1, g2⟩ := quant_narrow h.hk h.hp h.run hl h.tot
  rw [f1] at g1
  injection g1 with g1 _
  injection g1 with e1 e2
  subst e1 e2
  refine ⟨u, ?_, by omega, f8, ?_, ?_⟩
  · unfold valQ
    rw [if_pos h.fit, quK_cons f1]; exact f6
  · exact Int.le_trans (Int.mul_le_mul_of_nonneg_left (by omega) (by have := h.hk; omega)) g2
  · exact Int.le_trans (Int.mul_le_mul_of_nonneg_left (by omega) (by have := h.hk; omega)) g2
end
end Go.Proofs.Ytjapjfcennemeaa.qtl
end
