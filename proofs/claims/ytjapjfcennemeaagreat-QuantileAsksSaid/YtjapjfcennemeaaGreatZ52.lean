/- QAsk: proved here in one text, no conditions beyond those that each theorem states. -/
import Derived.Test.YtjapjfcennemeaaGreatZ51
import Derived.Test.YtjapjfcennemeaaGreatZ48
set_option linter.unusedVariables false
set_option linter.unusedSimpArgs false
namespace Go.Proofs.YtjapjfcennemeaaGreat.qtl
open Go.RowKit Go.Proofs.YtjapjfcennemeaaGreat.mem Go.Proofs.YtjapjfcennemeaaGreat.gro Go.Proofs.YtjapjfcennemeaaGreat.rnk Go.Proofs.YtjapjfcennemeaaGreat.buk Go.Proofs.YtjapjfcennemeaaGreat.blk
set_option linter.unusedVariables false
set_option linter.unusedSimpArgs false
set_option pp.maxSteps 200000
noncomputable def rankQ (xs : List K5) (v k p o y : Int) : Array Value × Int := if fitQ xs v k p o = true then (rkK xs y, (sureK xs).2) else (zer6, 2)
theorem rkK_six (xs : List K5) (y : Int) : ∃ l1 l2 l3 l4 l5 l6 : Int, rkK xs y = #[.int .i64 l1, .int .i64 l2, .int .i64 l3, .int .i64 l4, .int .i64 l5, .int .i64 l6] := by
  unfold rkK
  split
  · split <;> exact ⟨_, _, _, _, _, _, rfl⟩
  · exact ⟨_, _, _, _, _, _, rfl⟩
theorem rankQ_six (xs : List K5) (v k p o y : Int) : ∃ l1 l2 l3 l4 l5 l6 : Int, (rankQ xs v k p o y).1 = #[.int .i64 l1, .int .i64 l2, .int .i64 l3, .int .i64 l4, .int .i64 l5, .int .i64 l6] := by
  unfold rankQ
  split
  · exact rkK_six xs y
  · exact ⟨_, _, _, _, _, _, rfl⟩
set_option maxHeartbeats 8000000 in
set_option maxRecDepth 100000 in
theorem RankQ_any (v k p o y : Int) (A : Option Addr) (n c : Nat) (xs : List BlkM) (w : World) (h1 : BRead w w.heap.size A n xs) (hs : n ≤ 64000) (hnc : n ≤ c) (hcm : c ≤ maxLen) (hp : p ≤ 9223372036854775807) (hent : okTo (xs.map bkey) n = true → entsK (xs.map bkey) ≤ 4000000) :
    Calls Tryz.prog 8 #[(Value.agg #[.int .i64 v, .int .i64 k, .int .i64 p, .int .i64 o, .slice A n c]), .int .i64 y] w fun e w' => e = .returned (.tuple #[.agg (rankQ (xs.map bkey) v k p o y).1, .int .i64 (rankQ (xs.map bkey) v k p o y).2]) ∧ Below w.heap.size w w' := by
  have HV := Lib.hid (fun W (hb : Below w.heap.size w W) => ValidateQ_any v k p o A n c xs W ((h1.below hb).more hb.size) (by omega) hp)
  have HQ := Lib.hid (fun W (hbl : Below w.heap.size w W) => RkB_any A n c xs y W ((h1.below hbl).more hbl.size) (by omega) hnc hcm hent)
  clear h1 hent
  obtain ⟨l1, l2, l3, l4, l5, l6, h6⟩ := rkK_six (xs.map bkey) y
  unfold rankQ
  cases hf : fitQ (xs.map bkey) v k p o
  all_goals
    rw [hf] at HV
    simp only [okE_t, okE_f, if_true, if_false, Bool.false_eq_true, h6, zer6] at *
    generalize (sureK (xs.map bkey)).2 = er at *
    clear h6 hf
    go_enter Tryz.func8, Tryz.ntmps8
    go_wp2_with fail
    obtain ⟨W0, hW, hs0, K0, B0⟩ := start2 w 24 33 #[Value.int IntKind.i64 v, Value.int IntKind.i64 k, Value.int IntKind.i64 p, Value.int IntKind.i64 o, Value.slice A n c] #[Value.int IntKind.i64 0, Value.int IntKind.i64 0, Value.int IntKind.i64 0, Value.int IntKind.i64 0, Value.int IntKind.i64 0, Value.int IntKind.i64 0]
    rw [hW]
    clear hW
    have KK := Lib.hid K0
    have BB := Lib.hid B0
    have R := K0.rules
    simp only [Rules] at R
    clear K0 B0 hs0
    (with_reducible refine (HV.out _ BB.out).mono ?_)
    rintro e wv ⟨rfl, hbv⟩; replace BB := Lib.hid (BB.out.trans (hbv.mono BB.out.size)); replace KK := Lib.hid (KK.out.below hbv); replace R := KK.out.rules; simp only [gro.Rules] at R; clear hbv
  · go_wp2
    refine bodyPost_ret (v := Value.tuple #[.agg #[.int .i64 0, .int .i64 0, .int .i64 0, .int .i64 0, .int .i64 0, .int .i64 0], .int .i64 2]) (by simp [results, Tryz.results8, go_sem, R]) rfl ⟨rfl, ?_⟩
    exact Below.set6 BB.out (by omega) _ _ _ _ _ _
  · go_wp2_with fail
    refine (HQ.out _ BB.out).mono ?_
    rintro e wv ⟨rfl, hbv⟩; replace BB := Lib.hid (BB.out.trans (hbv.mono BB.out.size)); replace KK := Lib.hid (KK.out.below hbv); replace R := KK.out.rules; simp only [gro.Rules] at R; clear hbv
    go_wp2
    refine bodyPost_ret (v := Value.tuple #[.agg #[.int .i64 l1, .int .i64 l2, .int .i64 l3, .int .i64 l4, .int .i64 l5, .int .i64 l6], .int .i64 er]) (by simp [results, Tryz.results8, go_sem, R]) rfl ⟨rfl, ?_⟩
    exact Below.set6 BB.out (by omega) _ _ _ _ _ _
set_option maxHeartbeats 8000000 in
set_option maxRecDepth 100000 in
theorem RankQR_any (v k p o y : Int) (A : Option Addr) (n c : Nat) (xs : List BlkM) (w : World) (h1 : BRead w w.heap.size A n xs) (hs : n ≤ 64000) (hnc : n ≤ c) (hcm : c ≤ maxLen) (hp : p ≤ 9223372036854775807) (hent : okTo (xs.map bkey) n = true → entsK (xs.map bkey) ≤ 4000000) :
    Calls Tryz.prog 9 #[(Value.agg #[.int .i64 v, .int .i64 k, .int .i64 p, .int .i64 o, .slice A n c]), .int .i64 y] w fun e w' => e = .returned (.tuple #[.agg (rankQ (xs.map bkey) v k p o y).1, .int .i64 (rankQ (xs.map bkey) v k p o y).2]) ∧ Below w.heap.size w w' := by
  have HV := Lib.hid (fun W (hb : Below w.heap.size w W) => ValidateQR_any v k p o A n c xs W ((h1.below hb).more hb.size) (by omega) hp)
  have HQ := Lib.hid (fun W (hbl : Below w.heap.size w W) => RkBR_any A n c xs y W ((h1.below hbl).more hbl.size) (by omega) hnc hcm hent)
  clear h1 hent
  obtain ⟨l1, l2, l3, l4, l5, l6, h6⟩ := rkK_six (xs.map bkey) y
  unfold rankQ
  cases hf : fitQ (xs.map bkey) v k p o
  all_goals
    rw [hf] at HV
    simp only [okE_t, okE_f, if_true, if_false, Bool.false_eq_true, h6, zer6] at *
    generalize (sureK (xs.map bkey)).2 = er at *
    clear h6 hf
    go_enter Tryz.func9, Tryz.ntmps9
    go_wp2_with fail
    obtain ⟨W0, hW, hs0, K0, B0⟩ := start2 w 24 33 #[Value.int IntKind.i64 v, Value.int IntKind.i64 k, Value.int IntKind.i64 p, Value.int IntKind.i64 o, Value.slice A n c] #[Value.int IntKind.i64 0, Value.int IntKind.i64 0, Value.int IntKind.i64 0, Value.int IntKind.i64 0, Value.int IntKind.i64 0, Value.int IntKind.i64 0]
    rw [hW]
    clear hW
    have KK := Lib.hid K0
    have BB := Lib.hid B0
    have R := K0.rules
    simp only [Rules] at R
    clear K0 B0 hs0
    (with_reducible refine (HV.out _ BB.out).mono ?_)
    rintro e wv ⟨rfl, hbv⟩; replace BB := Lib.hid (BB.out.trans (hbv.mono BB.out.size)); replace KK := Lib.hid (KK.out.below hbv); replace R := KK.out.rules; simp only [gro.Rules] at R; clear hbv
  · go_wp2
    refine bodyPost_ret (v := Value.tuple #[.agg #[.int .i64 0, .int .i64 0, .int .i64 0, .int .i64 0, .int .i64 0, .int .i64 0], .int .i64 2]) (by simp [results, Tryz.results9, go_sem, R]) rfl ⟨rfl, ?_⟩
    exact Below.set6 BB.out (by omega) _ _ _ _ _ _
  · go_wp2_with fail
    refine (HQ.out _ BB.out).mono ?_
    rintro e wv ⟨rfl, hbv⟩; replace BB := Lib.hid (BB.out.trans (hbv.mono BB.out.size)); replace KK := Lib.hid (KK.out.below hbv); replace R := KK.out.rules; simp only [gro.Rules] at R; clear hbv
    go_wp2
    refine bodyPost_ret (v := Value.tuple #[.agg #[.int .i64 l1, .int .i64 l2, .int .i64 l3, .int .i64 l4, .int .i64 l5, .int .i64 l6], .int .i64 er]) (by simp [results, Tryz.results9, go_sem, R]) rfl ⟨rfl, ?_⟩
    exact Below.set6 BB.out (by omega) _ _ _ _ _ _
set_option maxHeartbeats 8000000 in
set_option maxRecDepth 100000 in
theorem ValueQR_any (v k p o a b : Int) (A : Option Addr) (n c : Nat) (xs : List BlkM) (w : World) (h1 : BRead w w.heap.size A n xs) (hs : n ≤ 900) (hnc : n ≤ c) (hcm : c ≤ maxLen) (hp : p ≤ 9223372036854775807) (ha : a ≤ 9223372036854775807) (hb : b ≤ 9223372036854775807) (hent : okTo (xs.map bkey) n = true → entsK (xs.map bkey) ≤ 4000000) :
    Calls Tryz.prog 7 #[(Value.agg #[.int .i64 v, .int .i64 k, .int .i64 p, .int .i64 o, .slice A n c]), .int .i64 a, .int .i64 b] w fun e w' => e = .returned (.tuple #[.int .i64 (valQ (xs.map bkey) v k p o a b).1, .int .i64 (valQ (xs.map bkey) v k p o a b).2]) ∧ Below w.heap.size w w' := by
  have HV := Lib.hid (fun W (hb : Below w.heap.size w W) => ValidateQR_any v k p o A n c xs W ((h1.below hb).more hb.size) (by omega) hp)
  have HQ := Lib.hid (fun W (hbl : Below w.heap.size w W) => QuaBR_any A n c xs a b ha hb W ((h1.below hbl).more hbl.size) (by omega) hnc hcm hent)
  have HA := Lib.hid (fun W => rnk.Asks_any a b W)
  have hln : (xs.map bkey).length = n := by rw [List.length_map]; exact h1.len
  clear h1 hent
  have hno : fitQ (xs.map bkey) v k p o = true → ¬ asksQ a b → quK (xs.map bkey) a b = (0, 1) := fun h h2 => quK_no (fitQ_iff.1 h).2.1 (by omega) h2
  have hem : n = 0 → asksQ a b → quK (xs.map bkey) a b = (0, 7) := fun h h2 => by rw [List.eq_nil_of_length_eq_zero (show (xs.map bkey).length = 0 by omega)]; exact quK_nil h2
  unfold valQ
  cases hf : fitQ (xs.map bkey) v k p o
  case' true => have hno2 := hno hf
  all_goals
    rw [hf] at HV
    clear hno hf hln
    simp only [okE_t, okE_f, if_true, if_false, Bool.false_eq_true] at *
    generalize quK (xs.map bkey) a b = qv at *
    by_cases hq : asksQ a b
    all_goals
      first | rw [decide_eq_true hq] at HA | rw [decide_eq_false hq] at HA
      go_enter Tryz.func7, Tryz.ntmps7
      go_wp2_with fail
      obtain ⟨W0, hW, hs0, K0, B0⟩ := start1 w 24 #[Value.int IntKind.i64 v, Value.int IntKind.i64 k, Value.int IntKind.i64 p, Value.int IntKind.i64 o, Value.slice A n c]
      rw [hW]
      clear hW
      have KK := Lib.hid K0
      have BB := Lib.hid B0
      have R := K0.rules
      simp only [Rules] at R
      clear K0 B0 hs0
      (with_reducible refine (HV.out _ BB.out).mono ?_)
      rintro e wv ⟨rfl, hbv⟩; replace BB := Lib.hid (BB.out.trans (hbv.mono BB.out.size)); replace KK := Lib.hid (KK.out.below hbv); replace R := KK.out.rules; simp only [gro.Rules] at R; clear hbv
  · clear hno2
    by_cases h0 : n = 0
    · have E9 := Lib.hid (hem h0 hq)
      subst h0
      clear HQ hem
      go_wp2_with fail
      refine (HA.out _).mono ?_
      rintro e w1 ⟨rfl, rfl⟩
      go_wp2
      refine bodyPost_ret (v := Value.tuple #[.int .i64 0, .int .i64 7]) (by simp [results, Tryz.results7, go_sem]) rfl ⟨by rw [E9.out], BB.out⟩
    · clear hem
      have hz : (((n : Int)) == 0) = false := by simp; omega
      have hz2 : ¬ ((n : Int) = 0) := by omega
      go_wp2_with fail
      refine (HA.out _).mono ?_
      rintro e w1 ⟨rfl, rfl⟩
      go_wp2_with fail
      refine (HQ.out _ BB.out).mono ?_
      rintro e wv ⟨rfl, hbv⟩; replace BB := Lib.hid (BB.out.trans (hbv.mono BB.out.size)); replace KK := Lib.hid (KK.out.below hbv); replace R := KK.out.rules; simp only [gro.Rules] at R; clear hbv
      go_wp2
      refine bodyPost_ret (v := Value.tuple #[.int .i64 qv.1, .int .i64 qv.2]) (by simp [results, Tryz.results7, go_sem]) rfl ⟨rfl, BB.out⟩
  · have E9 := Lib.hid (hno2 hq)
    clear HQ hno2 hem
    go_wp2_with fail
    refine (HA.out _).mono ?_
    rintro e w1 ⟨rfl, rfl⟩
    go_wp2
    refine bodyPost_ret (v := Value.tuple #[.int .i64 0, .int .i64 1]) (by simp [results, Tryz.results7, go_sem]) rfl ⟨by rw [E9.out], BB.out⟩
  · go_wp2
    refine bodyPost_ret (v := Value.tuple #[.int .i64 0, .int .i64 2]) (by simp [results, Tryz.results7, go_sem]) rfl ⟨rfl, BB.out⟩
  · go_wp2
    refine bodyPost_ret (v := Value.tuple #[.int .i64 0, .int .i64 2]) (by simp [results, Tryz.results7, go_sem]) rfl ⟨rfl, BB.out⟩
end Go.Proofs.YtjapjfcennemeaaGreat.qtl
