/- QtE, Qt4, TruP, QAskL, AskL: proved here in one text, no conditions beyond those that each theorem states. -/
import Derived.Deep.DeepCutAuto
import Derived.Deep.CutBlock
import Derived.LoopN
import Derived.Deep.QuietTactic
import Derived.BigQuiet
import Derived.Deep.LoopGhost
import Derived.LoopTactic
import Derived.Outline
import Derived.StillTailTactics
import Derived.Deep.RegionHeld3
import Derived.Deep.DrawnRows
import Derived.Test.YtjapjfcennemeaaGreatZ36
import Derived.Test.YtjapjfcennemeaaGreatZ50
import Derived.Test.YtjapjfcennemeaaGreatZ18
import Derived.Test.YtjapjfcennemeaaGreatZ37
import Derived.Test.YtjapjfcennemeaaGreatZ41
import Derived.Test.YtjapjfcennemeaaGreatZ13
import Derived.Test.YtjapjfcennemeaaGreatZ15
import Derived.Test.YtjapjfcennemeaaGreatZ5
import Derived.Test.YtjapjfcennemeaaGreatZ1
import Derived.Test.YtjapjfcennemeaaGreatZ7
import Derived.Test.YtjapjfcennemeaaGreatZ6
import Derived.Test.YtjapjfcennemeaaGreatZ24
import Derived.Test.YtjapjfcennemeaaGreatZ16
import Derived.Test.YtjapjfcennemeaaGreatZ33
import Derived.Test.YtjapjfcennemeaaGreatZ47
set_option linter.unusedVariables false
set_option linter.unusedSimpArgs false
section
namespace Go.Proofs.YtjapjfcennemeaaGreat.qtl
open Go.Proofs.YtjapjfcennemeaaGreat.mem Go.Proofs.YtjapjfcennemeaaGreat.rnk Go.Proofs.YtjapjfcennemeaaGreat.blk
set_option linter.unusedVariables false
def LL : Nat → List K5
  | 0 => []
  | 1 => [(0, 1, 0, 1, [(1, 1, 1)])]
  | 2 => [(0, 1, 0, 1, [(1, 1, 1)]), (0, 2, 0, 1, [(2, 1, 1)])]
  | 3 => [(0, 1, 0, 1, [(1, 1, 1)]), (0, 2, 0, 1, [(2, 1, 1)]), (0, 3, 0, 1, [(3, 1, 1)])]
  | 4 => [(0, 2, 1, 2, [(1, 1, 1), (2, 2, 2)]), (0, 3, 0, 1, [(3, 1, 1)]), (0, 4, 0, 1, [(4, 1, 1)])]
  | _ => [(0, 2, 1, 2, [(1, 1, 1), (2, 2, 2)]), (0, 3, 0, 1, [(3, 1, 1)]), (0, 4, 0, 1, [(4, 1, 1)]), (0, 5, 0, 1, [(5, 1, 1)])]
theorem LL_1 : insKC (LL 0) 2 18 0 1 = LL 1 := by rfl
theorem LL_2 : insKC (LL 1) 2 18 0 2 = LL 2 := by rfl
theorem LL_3 : insKC (LL 2) 2 18 0 3 = LL 3 := by rfl
theorem LL_4 : insKC (LL 3) 2 18 0 4 = LL 4 := by rfl
theorem LL_5 : insKC (LL 4) 2 18 0 5 = LL 5 := by rfl
theorem size_ex : sizeQ 1 100 = 18 := by rfl
theorem step_ex {xs ys : List K5} {j : Nat} {v : Int} (h : validK xs 2 18 = true ∧ totalK xs = j) (hj : j ≤ 10) (hl : lastK xs ≤ 0) (hv : -4096 ≤ v ∧ v ≤ 4096) (e : insKC xs 2 18 0 v = ys) : insK xs 2 18 0 v = ys ∧ validK ys 2 18 = true ∧ totalK ys = j + 1 := by
  have hm : mayK xs 2 18 0 v = true := mayK_iff2.2 ⟨h.1, by omega, hl, hv, by omega⟩
  obtain ⟨g1, g2, g3, _⟩ := insKC_ok hm
  have h1 : insK xs 2 18 0 v = insKC xs (2 : Int).toNat 18 0 v := insK_t hm
  have h2 : insKC xs (2 : Int).toNat 18 0 v = ys := e
  rw [h2] at h1 g1 g2
  exact ⟨h1, g1, by omega⟩
theorem LL_all : (insK (LL 0) 2 18 0 1 = LL 1 ∧ insK (LL 1) 2 18 0 2 = LL 2 ∧ insK (LL 2) 2 18 0 3 = LL 3 ∧ insK (LL 3) 2 18 0 4 = LL 4 ∧ insK (LL 4) 2 18 0 5 = LL 5) ∧ ∀ j, j ≤ 5 → validK (LL j) 2 18 = true ∧ totalK (LL j) = j := by
  have v0 : validK (LL 0) 2 18 = true ∧ totalK (LL 0) = 0 := ⟨validK_nil (by omega) (by omega), rfl⟩
  obtain ⟨a1, v1⟩ := step_ex v0 (by omega) (by decide) (by omega) LL_1
  obtain ⟨a2, v2⟩ := step_ex v1 (by omega) (by decide) (by omega) LL_2
  obtain ⟨a3, v3⟩ := step_ex v2 (by omega) (by decide) (by omega) LL_3
  obtain ⟨a4, v4⟩ := step_ex v3 (by omega) (by decide) (by omega) LL_4
  obtain ⟨a5, v5⟩ := step_ex v4 (by omega) (by decide) (by omega) LL_5
  refine ⟨⟨a1, a2, a3, a4, a5⟩, fun j hj => ?_⟩
  match j, hj with
  | 0, _ => exact v0
  | 1, _ => exact v1
  | 2, _ => exact v2
  | 3, _ => exact v3
  | 4, _ => exact v4
  | 5, _ => exact v5
theorem LL_len (j : Nat) : (LL j).length ≤ 4 := by
  match j with
  | 0 | 1 | 2 | 3 | 4 => decide
  | n + 5 => exact Nat.le_refl 4
theorem LL_live : ∀ j, j ≤ 5 → liveK (LL j) 0 10 = true := fun j hj => by
  match j, hj with
  | 0, _ => rfl
  | 1, _ => rfl
  | 2, _ => rfl
  | 3, _ => rfl
  | 4, _ => rfl
  | 5, _ => rfl
theorem LL_fit {j : Nat} (hj : j ≤ 5) : fitQ (LL j) 10 1 100 0 = true := by
  obtain ⟨h1, h2⟩ := LL_all.2 j hj
  unfold fitQ
  rw [show goodC 10 1 100 0 = true from goodC_iff.2 ⟨by omega, by omega, by omega, by omega⟩, size_ex, show (2 * 1 : Int) = 2 from rfl, h1, LL_live j hj, decide_eq_true (by omega)]
  rfl
theorem LL_add {j : Nat} (hj : j < 5) : addQ (LL j) 10 1 100 0 ((j : Int) + 1) = ((10, 1, 100, 0, LL (j + 1)), 0) := by
  obtain ⟨h1, h2⟩ := LL_all.2 j (by omega)
  unfold addQ
  rw [if_pos (LL_fit (by omega)), if_pos (inV_iff.2 (by omega)), if_neg (by omega), size_ex, show (2 * 1 : Int) = 2 from rfl]
  obtain ⟨a1, a2, a3, a4, a5⟩ := LL_all.1
  match j, hj with
  | 0, _ => rw [show ((0 : Nat) : Int) + 1 = 1 from rfl, a1]
  | 1, _ => rw [show ((1 : Nat) : Int) + 1 = 2 from rfl, a2]
  | 2, _ => rw [show ((2 : Nat) : Int) + 1 = 3 from rfl, a3]
  | 3, _ => rw [show ((3 : Nat) : Int) + 1 = 4 from rfl, a4]
  | 4, _ => rw [show ((4 : Nat) : Int) + 1 = 5 from rfl, a5]
theorem LL_val : quK (LL 5) 1 2 = (3, 0) := by rfl
end Go.Proofs.YtjapjfcennemeaaGreat.qtl
end
section
namespace Go.Proofs.YtjapjfcennemeaaGreat.qtl
open Go.RowKit Go.Proofs.YtjapjfcennemeaaGreat.mem Go.Proofs.YtjapjfcennemeaaGreat.gro Go.Proofs.YtjapjfcennemeaaGreat.rnk Go.Proofs.YtjapjfcennemeaaGreat.blk
set_option linter.unusedVariables false
set_option linter.unusedSimpArgs false
set_option pp.maxSteps 200000
noncomputable def valQ (xs : List K5) (v k p o a b : Int) : Int × Int := if fitQ xs v k p o = true then quK xs a b else (0, 2)
set_option maxHeartbeats 8000000 in
set_option maxRecDepth 100000 in
theorem ValueQ_any (v k p o a b : Int) (A : Option Addr) (n c : Nat) (xs : List BlkM) (w : World) (h1 : BRead w w.heap.size A n xs) (hs : n ≤ 64000) (hnc : n ≤ c) (hcm : c ≤ maxLen) (hp : p ≤ 9223372036854775807) (ha : a ≤ 9223372036854775807) (hb : b ≤ 9223372036854775807) (hent : okTo (xs.map bkey) n = true → entsK (xs.map bkey) ≤ 4000000) :
    Calls Tryz.prog 6 #[(Value.agg #[.int .i64 v, .int .i64 k, .int .i64 p, .int .i64 o, .slice A n c]), .int .i64 a, .int .i64 b] w fun e w' => e = .returned (.tuple #[.int .i64 (valQ (xs.map bkey) v k p o a b).1, .int .i64 (valQ (xs.map bkey) v k p o a b).2]) ∧ Below w.heap.size w w' := by
  have HV := Lib.hid (fun W (hb : Below w.heap.size w W) => ValidateQ_any v k p o A n c xs W ((h1.below hb).more hb.size) (by omega) hp)
  have HQ := Lib.hid (fun W (hbl : Below w.heap.size w W) => QuaB_any A n c xs a b ha hb W ((h1.below hbl).more hbl.size) (by omega) hnc hcm hent)
  clear h1 hent
  unfold valQ
  cases hf : fitQ (xs.map bkey) v k p o
  all_goals
    rw [hf] at HV
    simp only [okE_t, okE_f, if_true, if_false, Bool.false_eq_true] at *
    try generalize quK (xs.map bkey) a b = qv at *
    go_enter Tryz.func6, Tryz.ntmps6
    go_wp2_with fail
    obtain ⟨W0, hW, hs0, K0, B0⟩ := start1 w 24 #[Value.int IntKind.i64 v, Value.int IntKind.i64 k, Value.int IntKind.i64 p, Value.int IntKind.i64 o, Value.slice A n c]
    rw [hW]
    clear hW
    have KK := Lib.hid K0
    have BB := Lib.hid B0
    have R := K0.rules
    simp only [Rules] at R
    clear K0 B0 hs0
    (with_reducible refine (HV.out _ BB.out).mono ?_)
    rintro e wv ⟨rfl, hbv⟩; replace BB := Lib.hid (BB.out.trans (hbv.mono BB.out.size)); replace KK := Lib.hid (KK.out.below hbv); replace R := KK.out.rules; simp only [gro.Rules] at R; clear hbv
  · go_wp2
    refine bodyPost_ret (v := Value.tuple #[.int .i64 0, .int .i64 2]) (by simp [results, Tryz.results6, go_sem]) rfl ⟨rfl, BB.out⟩
  · go_wp2_with fail
    refine (HQ.out _ BB.out).mono ?_
    rintro e wv ⟨rfl, hbv⟩; replace BB := Lib.hid (BB.out.trans (hbv.mono BB.out.size)); replace KK := Lib.hid (KK.out.below hbv); replace R := KK.out.rules; simp only [gro.Rules] at R; clear hbv
    go_wp2
    refine bodyPost_ret (v := Value.tuple #[.int .i64 qv.1, .int .i64 qv.2]) (by simp [results, Tryz.results6, go_sem]) rfl ⟨rfl, BB.out⟩
theorem LL_okTo {j : Nat} (hj : j ≤ 5) {ys : List BlkM} (h : ys.map bkey = LL j) : entsK (ys.map bkey) ≤ 4000000 ∧ ys.length ≤ 4 := by
  have h1 := LL_len j
  rw [← h, List.length_map] at h1
  refine ⟨?_, h1⟩
  have h2 := (LL_all.2 j hj).1
  rw [← h] at h2
  exact ents_few (by rw [List.length_map]; omega) h2
set_option maxHeartbeats 8000000 in
set_option maxRecDepth 100000 in
theorem awake23_any (w : World) : Calls Tryz.prog 5 #[] w fun e w' => e = .returned (.bool true) ∧ Below w.heap.size w w' := by
  have HN := Lib.hid (NewQ_any 10 1 100 0 w)
  rw [show goodC 10 1 100 0 = true from goodC_iff.2 ⟨by omega, by omega, by omega, by omega⟩] at HN
  simp only [kp_t, if_true] at HN
  go_enter Tryz.func5, Tryz.ntmps5
  go_wp2_with fail
  refine HN.out.mono ?_
  rintro e w1 ⟨rfl, hb⟩
  have BB := Lib.hid hb
  clear hb HN
  have hw1 := BB.out.size
  obtain ⟨g, hg⟩ : ∃ s, w1.heap.size = s := ⟨_, rfl⟩
  have BZ := Lib.hid (BB.out.alloc BB.out.size (.cells #[Value.int IntKind.i64 10, Value.int IntKind.i64 1, Value.int IntKind.i64 100, Value.int IntKind.i64 0, Value.slice none 0 0] 24))
  have KZ := Lib.hid ((Bx.nil_ (W := w1)).new (t := 24) (c := #[Value.int IntKind.i64 10, Value.int IntKind.i64 1, Value.int IntKind.i64 100, Value.int IntKind.i64 0, Value.slice none 0 0]) hg)
  have hwg : w.heap.size ≤ g := by omega
  go_upto_region 3 with fail
  obtain ⟨W3, hW, K3, B3, z3⟩ := name_world KZ.out BZ.out (s := 0) (Nat.zero_le _)
  rw [hW]
  clear hW BZ KZ BB z3 hg hw1
  have KK := Lib.hid K3
  have BB := Lib.hid B3
  clear K3 B3
  go_loopg [2, 3] 5 (fun kx s2 s3 wr => ∃ (j : Nat) (z : Int) (A : Option Addr) (m c : Nat) (ys : List BlkM), s2 = .int .i64 0 ∧ s3 = .int .i64 z ∧ Hid (z = (j : Int) + 1) ∧ j ≤ 5 ∧ 5 - j ≤ kx ∧ m ≤ c ∧ c ≤ maxLen ∧ Hid (BRead wr wr.heap.size A m ys) ∧ Hid (ys.map bkey = LL j) ∧ Hid (∀ y ∈ ys, 0 < y.en → ∀ ad, y.adr = some ad → ad.block ≠ g) ∧ Hid (Bx wr [(g, 24, #[Value.int IntKind.i64 10, Value.int IntKind.i64 1, Value.int IntKind.i64 100, Value.int IntKind.i64 0, Value.slice A m c])]) ∧ Hid (Below w.heap.size w wr))
  case atStart => exact ⟨0, 1, none, 0, 0, [], rfl, rfl, rfl, Nat.zero_le _, Nat.le_refl _, Nat.le_refl _, Nat.zero_le _, BRead.nil_, rfl, fun y hy => (by cases hy), KK, BB⟩
  case round =>
    clear KK BB
    obtain ⟨j, z, A, m, c, ys, rfl, rfl, hz, hj, hjk, hmc, hcm, HY, HE, HA, KK, BB⟩ := hrel
    have R := KK.out.rules
    simp only [Rules] at R
    have hgl : g < wr.heap.size := (KK.out _ (List.mem_cons_self ..)).lt
    have hent := (LL_okTo hj HE.out)
    have hml : ys.length = m := HY.out.len
    by_cases hlt : j < 5
    case neg =>
      obtain rfl : j = 5 := by omega
      have hz6 : ¬ z ≤ 5 := by have := hz.out; omega
      have HV := Lib.hid (ValueQ_any 10 1 100 0 1 2 A m c ys wr HY.out (by omega) hmc hcm (by omega) (by omega) (by omega) (fun _ => hent.1))
      have hv : valQ (ys.map bkey) 10 1 100 0 1 2 = (3, 0) := by rw [HE.out]; unfold valQ; rw [if_pos (LL_fit (by omega))]; exact LL_val
      rw [hv] at HV
      clear hv hz HE HA
      go_wp2_with fail
      refine HV.out.mono ?_
      rintro e w2 ⟨rfl, hb⟩
      replace BB := Lib.hid (BB.out.trans (hb.mono BB.out.size))
      clear hb HV
      go_wp2
      go_ret
      exact ⟨rfl, BB.out⟩
    have hz5 : z ≤ 5 := by have := hz.out; omega
    have hz1 := hz.out
    have HD := Lib.hid (AddQ_any (fun b => b ≠ g) 10 1 100 0 z A m c ys wr HY.out (by omega) (by omega) (fun _ => hent.1) HA.out)
    rw [HE.out, hz1, LL_add hlt] at HD
    rw [← hz1] at HD
    have s1 : IntKind.i64.wrap (z + 1) = z + 1 := IntWalk.i64_in _ (by omega)
    have HZ2 : Hid (z + 1 = ((j + 1 : Nat) : Int) + 1) := by rw [Hid, hz1]; simp
    clear hz hz1 HY HE HA hent hml
    go_wp2_with fail
    refine HD.out.mono ?_
    rintro e w2 ⟨A6, m6, c6, y6, rfl, p1, p2, p3, k1, hb, fr, hap⟩
    have hq : 0 < m6 → ∀ ad, A6 = some ad → ad.block ≠ g := fun _ ad h => by
      rcases fr ad h with h | h
      · exact h
      · omega
    have hq2 : ∀ y ∈ y6, 0 < y.en → ∀ ad, y.adr = some ad → ad.block ≠ g := fun y hy h0 ad e => by
      rcases hap y hy h0 ad e with h | h
      · exact h
      · omega
    have Y8 : Hid (BRead (((((w2.setCell ⟨g, 0, none⟩ (.int .i64 10)).setCell ⟨g, 1, none⟩ (.int .i64 1)).setCell ⟨g, 2, none⟩ (.int .i64 100)).setCell ⟨g, 3, none⟩ (.int .i64 0)).setCell ⟨g, 4, none⟩ (.slice A6 m6 c6)) (((((w2.setCell ⟨g, 0, none⟩ (.int .i64 10)).setCell ⟨g, 1, none⟩ (.int .i64 1)).setCell ⟨g, 2, none⟩ (.int .i64 100)).setCell ⟨g, 3, none⟩ (.int .i64 0)).setCell ⟨g, 4, none⟩ (.slice A6 m6 c6)).heap.size A6 m6 y6) :=
      (BRead.far (BRead.far (BRead.far (BRead.far (BRead.far p3 ⟨g, 0, none⟩ hq hq2 _) ⟨g, 1, none⟩ hq hq2 _) ⟨g, 2, none⟩ hq hq2 _) ⟨g, 3, none⟩ hq hq2 _) ⟨g, 4, none⟩ hq hq2 _).more (by simp [World.setCell])
    have HQ2 := Lib.hid hq2
    have HK1 := Lib.hid k1
    replace BB := Lib.hid (BB.out.trans (hb.mono BB.out.size))
    replace KK := Lib.hid (KK.out.below hb)
    have KP := Lib.hid (blk.Bx.put5 (u0 := .int .i64 10) (u1 := .int .i64 1) (u2 := .int .i64 100) (u3 := .int .i64 0) (u4 := .slice A6 m6 c6) KK.out (by simp))
    have BP := Lib.hid (((((BB.out.setCell (p := ⟨g, 0, none⟩) hwg (.int .i64 10)).setCell (p := ⟨g, 1, none⟩) hwg (.int .i64 1)).setCell (p := ⟨g, 2, none⟩) hwg (.int .i64 100)).setCell (p := ⟨g, 3, none⟩) hwg (.int .i64 0)).setCell (p := ⟨g, 4, none⟩) hwg (.slice A6 m6 c6))
    replace R := KK.out.rules
    simp only [Rules] at R
    clear hb p3 fr hap hq hq2 k1 HD KK BB
    go_wp2_with fail
    go_roundg (5 - (j + 1))
    case measure => omega
    case rel => exact ⟨j + 1, z + 1, A6, m6, c6, y6, rfl, by first | rfl | go_num, HZ2, by omega, Nat.le_refl _, p1, p2, Y8, HK1, HQ2, KP, BP⟩
end Go.Proofs.YtjapjfcennemeaaGreat.qtl
end
section
namespace Go.Proofs.YtjapjfcennemeaaGreat.rnk
open Go.RowKit Go.Proofs.YtjapjfcennemeaaGreat.mem Go.Proofs.YtjapjfcennemeaaGreat.gro Go.Proofs.YtjapjfcennemeaaGreat.blk
set_option linter.unusedVariables false
theorem quK_nil {p q : Int} (h : asksQ p q) : quK [] p q = (0, 7) := by
  have h1 : sureK [] = ((0, []), 0) := rfl
  unfold quK
  rw [h1, if_pos rfl]
  exact quaV_7 val_nil h rfl
theorem quK_cons {x : K5} {r : List K5} {N : Int} {es : L3} (h : sureK (x :: r) = ((N, es), 0)) (p q : Int) : quK (x :: r) p q = quaV N es p q := by
  unfold quK
  rw [h, if_pos rfl]
section
variable {xs : List K5} {k b w now : Int} {its : Its}
theorem RunB.step (h : RunB xs k b w now its) {T V : Int} (hT : now ≤ T) (hw : 1 ≤ w) (hn : T ≤ 16777216) (hv : -4096 ≤ V ∧ V ≤ 4096) (hl : its.length ≤ 1000) : mayK (expK (T - w + 1) xs) k b T V = true ∧ RunB (insKC (expK (T - w + 1) xs) k.toNat b T V) k b w T (its ++ [(T, V)]) :=
  ⟨(h.adv hT).may hn hv (by omega), (h.adv hT).ins hw hn hv (by omega)⟩
end
end Go.Proofs.YtjapjfcennemeaaGreat.rnk
end
section
namespace Go.Proofs.YtjapjfcennemeaaGreat.qtl
open Go.Proofs.YtjapjfcennemeaaGreat.mem Go.Proofs.YtjapjfcennemeaaGreat.rnk Go.Proofs.YtjapjfcennemeaaGreat.buk Go.Proofs.YtjapjfcennemeaaGreat.blk
set_option linter.unusedVariables false
theorem numK_bd {b : Int} : ∀ (xs : List K5), (∀ x ∈ xs, BOkP b x ∧ 0 ≤ x.2.2.1 ∧ x.2.2.1 ≤ 30) → 0 ≤ numK xs ∧ numK xs ≤ 1073741824 * (xs.length : Int)
  | [], _ => by simp [numK]
  | x :: r, h => by
    have h1 := numK_bd r (fun y hy => h y (List.mem_cons_of_mem _ hy))
    obtain ⟨hb, h0, h30⟩ := h x (List.mem_cons_self ..)
    have hn := hb.num
    have h2 : (2 : Int) ^ x.2.2.1.toNat ≤ 2 ^ 30 := by exact_mod_cast Nat.pow_le_pow_right (by omega) (show x.2.2.1.toNat ≤ 30 by omega)
    have h3 : (0 : Int) < 2 ^ x.2.2.1.toNat := Int.pow_pos (by omega)
    have e1 : numK (x :: r) = x.2.2.2.1 + numK r := rfl
    rw [e1, hn, List.length_cons]
    rw [show (2 : Int) ^ 30 = 1073741824 from rfl] at h2
    generalize (2 : Int) ^ x.2.2.1.toNat = z at *
    omega
theorem sureF_val : ∀ (xs : List K5) (N : Int) (es : L3), (∀ x ∈ xs, valR x.2.2.2.1 x.2.2.2.2 = true) → valR N es = true → N + numK xs ≤ 1099511627776 →
    ∃ es', sureF (N, es) xs = ((N + numK xs, es'), 0) ∧ valR (N + numK xs) es' = true
  | [], N, es, _, hv, _ => ⟨es, by simp [sureF, numK], by simpa [numK] using hv⟩
  | x :: r, N, es, ha, hv, hN => by
    have hx := ha x (List.mem_cons_self ..)
    have e1 : numK (x :: r) = x.2.2.2.1 + numK r := rfl
    have hnn : ∀ r : List K5, (∀ x ∈ r, valR x.2.2.2.1 x.2.2.2.2 = true) → 0 ≤ numK r := by
      intro r
      induction r with
      | nil => intro _; exact Int.le_refl _
      | cons y r ih => intro h; have := ih (fun z hz => h z (List.mem_cons_of_mem _ hz)); have := (valR_iff.1 (h y (List.mem_cons_self ..))).1.1; show 0 ≤ y.2.2.2.1 + numK r; omega
    have hr0 := hnn r (fun z hz => ha z (List.mem_cons_of_mem _ hz))
    have hle : N + x.2.2.2.1 ≤ 1099511627776 := by omega
    have hm := merge_valid hv hx hle
    obtain ⟨es', f1, f2⟩ := sureF_val r (N + x.2.2.2.1) (mergeL es x.2.2.2.2 N x.2.2.2.1) (fun z hz => ha z (List.mem_cons_of_mem _ hz)) hm (by omega)
    refine ⟨es', ?_, ?_⟩
    · show (if mrgE N es x.2.2.2.1 x.2.2.2.2 = 0 then sureF (mrgP N es x.2.2.2.1 x.2.2.2.2) r else _) = _
      rw [mrgE_t' hv hx, if_pos hle, if_pos rfl, mrgP_t' hv hx hle, f1, e1, Int.add_assoc]
    · rw [e1, ← Int.add_assoc]; exact f2
theorem sure_fit {x : K5} {r : List K5} {k b : Int} (h : validK (x :: r) k b = true) (hl : r.length ≤ 900) :
    ∃ N es, sureK (x :: r) = ((N, es), 0) ∧ valR N es = true ∧ 1 ≤ N := by
  have hv := validK_iff.1 h
  have hB := validB_iff.1 hv.2.1
  have hall : ∀ y ∈ x :: r, BOkP b y ∧ 0 ≤ y.2.2.1 ∧ y.2.2.1 ≤ 30 := by
    intro y hy
    obtain ⟨i, hi, rfl⟩ := List.mem_iff_getElem.1 hy
    rw [← atK_eq hi]
    refine ⟨blkOk_iff.1 (hv.2.2 i hi), ?_⟩
    have h1 := (hB.2.1 i (by rw [plainK_length]; exact hi))
    unfold ordAt at h1
    rw [at_plainK] at h1
    exact ⟨h1.2.1.1, h1.2.1.2⟩
  have hok : okTo (x :: r) (x :: r).length = true := (okTo_iff _).2 fun i hi => by
    have h1 := hall (atK (x :: r) i) (by rw [atK_eq hi]; exact List.getElem_mem hi)
    unfold okS
    rw [h1.1.val, Bool.true_and, decide_eq_true_eq]
    exact h1.2
  have hx := hall x (List.mem_cons_self ..)
  have hr := numK_bd r (fun y hy => hall y (List.mem_cons_of_mem _ hy))
  have hf : valR (first1 x).1 (first1 x).2 = true ∧ 1 ≤ (first1 x).1 ∧ (first1 x).1 ≤ 1 := by
    unfold first1
    by_cases h0 : x.2.2.1 = 0
    · rw [if_pos h0]
      refine ⟨hx.1.val, ?_⟩
      have hn := hx.1.num
      rw [h0] at hn
      have : x.2.2.2.1 = 1 := hn
      show 1 ≤ x.2.2.2.1 ∧ x.2.2.2.1 ≤ 1
      omega
    · rw [if_neg h0]; exact ⟨val_one _, Int.le_refl _, Int.le_refl _⟩
  obtain ⟨es', f1, f2⟩ := sureF_val r (first1 x).1 (first1 x).2 (fun y hy => (hall y (List.mem_cons_of_mem _ hy)).1.val) hf.1 (by omega)
  refine ⟨_, es', ?_, f2, by omega⟩
  rw [sureK_yes hok]
  exact f1
theorem quK_no {xs : List K5} {k b : Int} (h : validK xs k b = true) (hl : xs.length ≤ 900) {p q : Int} (hn : ¬ asksQ p q) : quK xs p q = (0, 1) := by
  match xs, h with
  | [], _ =>
    have h1 : sureK [] = ((0, []), 0) := rfl
    unfold quK
    rw [h1, if_pos rfl]
    show quaV 0 [] p q = _
    unfold quaV
    rw [if_pos val_nil, if_neg hn]
  | x :: r, h =>
    obtain ⟨N, es, h1, h2, _⟩ := sure_fit h (by simp at hl; omega)
    rw [quK_cons h1]
    unfold quaV
    rw [if_pos h2, if_neg hn]
end Go.Proofs.YtjapjfcennemeaaGreat.qtl
end
section
namespace Go.Proofs.YtjapjfcennemeaaGreat.rnk
open Go.RowKit Go.Proofs.YtjapjfcennemeaaGreat.mem Go.Proofs.YtjapjfcennemeaaGreat.gro Go.Proofs.YtjapjfcennemeaaGreat.blk
set_option linter.unusedVariables false
theorem ents_en {w : World} {B n : Nat} {A : Option Addr} {xs : List BlkM} (h : BRead w B A n xs) : entsK (xs.map bkey) = (xs.map BlkM.en).sum := by
  unfold entsK
  rw [List.map_map]
  congr 1
  exact List.map_congr_left fun b hb => (h.2 b hb).1.len
theorem few_ents {w : World} {B n : Nat} {A : Option Addr} {xs : List BlkM} (h : BRead w B A n xs) (hs : (∀ b ∈ xs, b.en ≤ 1099511627776) → (xs.map BlkM.en).sum ≤ 200) (ho : okTo (xs.map bkey) n = true) : entsK (xs.map bkey) ≤ 4000000 := by
  rw [ents_en h]
  refine Nat.le_trans (hs fun b hb => ?_) (by omega)
  obtain ⟨i, hi, rfl⟩ := List.mem_iff_getElem.1 hb
  have h1 := okTo_at ho (i := i) (by rw [← h.len]; exact hi)
  rw [atK_key (List.getElem?_eq_getElem hi)] at h1
  have h2 := (okS_iff.1 h1).1
  have h3 := val_len h2
  have h4 := (valR_iff.1 h2).1.2.1
  have h5 := (h.2 _ hb).1.len
  omega
end Go.Proofs.YtjapjfcennemeaaGreat.rnk
end
