/- BSurR: proved here in one text, no conditions beyond those that each theorem states. -/
import Derived.Deep.DeepCutAuto
import Derived.Deep.CutBlock
import Derived.Test.YtjapjfcennemeaaGreatZ41
import Derived.Test.YtjapjfcennemeaaGreatZ32
import Derived.Test.YtjapjfcennemeaaGreatZ20
set_option linter.unusedVariables false
set_option linter.unusedSimpArgs false
namespace Go.Proofs.YtjapjfcennemeaaGreat.rnk
open Go.RowKit Go.Proofs.YtjapjfcennemeaaGreat.mem Go.Proofs.YtjapjfcennemeaaGreat.gro Go.Proofs.YtjapjfcennemeaaGreat.blk
set_option linter.unusedVariables false
set_option linter.unusedSimpArgs false
set_option pp.maxSteps 200000
set_option maxHeartbeats 16000000 in
set_option maxRecDepth 100000 in
theorem SureBR_any (A : Option Addr) (n c : Nat) (xs : List BlkM) (w : World) (h1 : BRead w w.heap.size A n xs) (hs : n ≤ 65000) (hnc : n ≤ c) (hcm : c ≤ maxLen) (hE : okTo (xs.map bkey) n = true → entsK (xs.map bkey) ≤ 4000000) : Calls Tryz.prog 33 #[.slice A n c] w (NewRE (sureK (xs.map bkey)).1 (sureK (xs.map bkey)).2 w) := by
  have hcm9 : c ≤ 9223372036854775807 := hcm
  clear hcm
  have H1 := Lib.hid h1
  have HL := Lib.hid h1.len
  have HLk := Lib.hid (BRead.key_len h1)
  have HEn := Lib.hid hE
  clear h1 hE
  obtain ⟨S, hS⟩ : ∃ S, sureK (xs.map bkey) = S := ⟨_, rfl⟩
  have HNo := Lib.hid (fun i (hi : i < n) (h : okS (atK (xs.map bkey) i) = false) => hS.symm.trans (sureK_no (xs := xs.map bkey) (by rw [HLk.out]; exact hi) h))
  rw [hS]
  have HS := Lib.hid hS
  clear hS
  go_enter Tryz.func33, Tryz.ntmps33
  go_upto_region 2 with fail
  obtain ⟨W0, hW, hs0, K0, B0⟩ := start1 w 39 #[Value.int IntKind.i64 0, Value.slice none 0 0]
  rw [hW]
  clear hW
  have KK := Lib.hid K0
  have BB := Lib.hid B0
  clear K0 B0 hs0
  go_loopg [13] n (fun kx s13 wr => ∃ i : Nat, i ≤ n ∧ s13 = .int .i64 i ∧ n - i ≤ kx ∧ Hid (okTo (xs.map bkey) i = true) ∧ Hid (Bx wr [(w.heap.size, 39, #[Value.int IntKind.i64 0, Value.slice none 0 0])]) ∧ Hid (Below w.heap.size w wr))
  case atStart => exact ⟨0, Nat.zero_le _, rfl, by omega, (rfl : okTo (xs.map bkey) 0 = true), KK, BB⟩
  case round =>
    clear KK BB
    obtain ⟨i, hi, rfl, hik, HO, KK, BB⟩ := hrel
    by_cases hlt : i < n
    case pos =>
      obtain ⟨ad, x, rfl, hbl, hx, hc1, hc2, hc3, hc4, hc5, _, hq1, hq2⟩ := BRead.at_ (H1.out.below BB.out) hlt
      have hmem := List.mem_of_getElem? hx
      have hen : x.en ≤ 9223372036854775807 := Nat.le_trans hq1 hq2
      have HR0 := Lib.hid (H1.out.2 x hmem).1
      have HVd := Lib.hid (fun W (hb : Below w.heap.size w W) => rnk.ValidateR_any x.num x.adr x.en x.ec x.es W ((HR0.out.below hb).more hb.size) hen)
      have hK := atK_key hx
      have HNi := Lib.hid (fun h => HNo.out i hlt (by rw [hK]; exact h))
      have HSu := Lib.hid (fun h => okTo_succ HO.out (by rw [hK]; exact h))
      have HIf := Lib.hid (okS_iff (t := x.t) (l := x.last) (v := x.level) (n := x.num) (es := x.es))
      clear hK hx hmem HO HNo HS HEn HR0
      generalize x.t = bt at *
      generalize x.last = bl at *
      generalize x.level = bv at *
      generalize x.num = bn at *
      generalize x.adr = ba at *
      generalize x.en = be at *
      generalize x.ec = bq at *
      generalize x.es = es at *
      clear x
      have hbl2 : ad.block < wr.heap.size := by have := BB.out.size; omega
      have hwr : w.heap.size < wr.heap.size := (KK.out _ (List.mem_cons_self ..)).lt
      obtain ⟨g5, hg5⟩ : ∃ s, wr.heap.size = s := ⟨_, rfl⟩
      have BZ := Lib.hid (BB.out.alloc BB.out.size (.cells #[Value.int IntKind.i64 bt, Value.int IntKind.i64 bl, Value.int IntKind.i64 bv, Value.int IntKind.i64 bn, Value.slice ba be bq] 41))
      have KZ := Lib.hid (KK.out.new (t := 41) (c := #[Value.int IntKind.i64 bt, Value.int IntKind.i64 bl, Value.int IntKind.i64 bv, Value.int IntKind.i64 bn, Value.slice ba be bq]) hg5)
      have hbl3 : ad.block < g5 := by omega
      go_upto_region 4 with fail
      obtain ⟨W3, hW, K3, B3, z3⟩ := name_world KZ.out BZ.out (s := g5 + 1) (by simp; omega)
      rw [hW]
      clear hW KK BB KZ BZ hc1 hc2 hc3 hc4 hc5
      have KK := Lib.hid K3
      have BB := Lib.hid B3
      have R := KK.out.rules
      simp only [Rules] at R
      clear K3 B3 z3
      have hwg : w.heap.size < g5 := by omega
      clear hwr hbl2 hg5
      go_wp2_with fail
      rcases Bool.eq_false_or_eq_true (valR bn es) with hv | hv
      case inr =>
        have HF := Lib.hid (HNi.out (by rw [Bool.eq_false_iff]; intro h; have := (HIf.out.1 h).1; rw [hv] at this; cases this))
        rw [hv, erS_f] at HVd
        clear HIf hv HNi HSu
        (with_reducible refine (HVd.out _ BB.out).mono ?_)
        rintro e wv ⟨rfl, hbv⟩; replace BB := Lib.hid (BB.out.trans (hbv.mono BB.out.size)); replace KK := Lib.hid (KK.out.below hbv); replace R := KK.out.rules; simp only [gro.Rules] at R; clear hbv
        go_wp2
        refine bodyPost_ret (v := Value.tuple #[.agg #[.int .i64 0, .slice none 0 0], .int .i64 2]) (by simp [results, Tryz.results33, go_sem, R]) rfl ?_
        rw [HF.out]
        exact newRE_nil 2 BB.out (Nat.le_refl _) _ _
      rw [hv, erS_t] at HVd
      by_cases hl : 0 ≤ bv ∧ bv ≤ 30
      case neg =>
        have HF := Lib.hid (HNi.out (by rw [Bool.eq_false_iff]; intro h; exact hl (HIf.out.1 h).2))
        clear HIf hv HNi HSu
        (with_reducible refine (HVd.out _ BB.out).mono ?_)
        rintro e wv ⟨rfl, hbv⟩; replace BB := Lib.hid (BB.out.trans (hbv.mono BB.out.size)); replace KK := Lib.hid (KK.out.below hbv); replace R := KK.out.rules; simp only [gro.Rules] at R; clear hbv
        by_cases h0 : bv < 0
        · go_wp2
          refine bodyPost_ret (v := Value.tuple #[.agg #[.int .i64 0, .slice none 0 0], .int .i64 2]) (by simp [results, Tryz.results33, go_sem, R]) rfl ?_
          rw [HF.out]
          exact newRE_nil 2 BB.out (Nat.le_refl _) _ _
        · have h30 : 30 < bv := by omega
          clear hl
          go_wp2
          refine bodyPost_ret (v := Value.tuple #[.agg #[.int .i64 0, .slice none 0 0], .int .i64 2]) (by simp [results, Tryz.results33, go_sem, R]) rfl ?_
          rw [HF.out]
          exact newRE_nil 2 BB.out (Nat.le_refl _) _ _
      have HT := Lib.hid (HSu.out (HIf.out.2 ⟨hv, hl⟩))
      have hl1 : ¬ bv < 0 := by omega
      have hl2 : ¬ 30 < bv := by omega
      clear HIf hv HNi HSu hl
      (with_reducible refine (HVd.out _ BB.out).mono ?_)
      rintro e wv ⟨rfl, hbv⟩; replace BB := Lib.hid (BB.out.trans (hbv.mono BB.out.size)); replace KK := Lib.hid (KK.out.below hbv); replace R := KK.out.rules; simp only [gro.Rules] at R; clear hbv
      clear HVd
      go_wp2_with fail
      go_roundg (n - (i + 1))
      case measure => omega
      case rel => exact ⟨i + 1, by omega, by go_num, by omega, HT, Lib.hid KK.out.tail, BB⟩
    obtain rfl : i = n := by omega
    have hE := HEn.out HO.out
    have hst := sure_start (xs := xs.map bkey) (by rw [HLk.out]; exact HO.out)
    have HS2 := Lib.hid (hst.trans HS.out)
    have HLv := Lib.hid (fun j (hj : j < i) => okTo_at HO.out hj)
    have HE2 : Hid ((([] : L3)).length + entsK ((xs.map bkey).drop 0) ≤ 4000000 + 0) := by rw [Hid, List.drop_zero]; exact (Nat.zero_add _).symm ▸ hE
    have hwi : w.heap.size < wr.heap.size := (KK.out _ (List.mem_cons_self ..)).lt
    obtain ⟨g6, hg6⟩ : ∃ s, wr.heap.size = s := ⟨_, rfl⟩
    have BZ := Lib.hid (BB.out.alloc BB.out.size (.cells #[Value.int IntKind.i64 0, Value.slice none 0 0] 39))
    have KZ := Lib.hid (KK.out.new (t := 39) (c := #[Value.int IntKind.i64 0, Value.slice none 0 0]) hg6)
    clear HEn HNo HS HO hE hst
    go_upto_region 9 with fail
    obtain ⟨W3, hW, K3, B3, z3⟩ := name_world KZ.out BZ.out (s := g6 + 1) (by simp; omega)
    rw [hW]
    clear hW KK BB KZ BZ
    have KK := Lib.hid K3
    have BB := Lib.hid B3
    clear K3 B3 z3
    have hwg : w.heap.size < g6 := by omega
    have hi9 : i ≤ 65000 := hs
    clear hwi hg6
    have HR1 : Hid (ERead W3 W3.heap.size none 0 []) := ERead.nil_
    go_loopg [35] i (fun kx s35 wr => ∃ (j : Nat) (N1 : Int) (A1 : Option Addr) (m1 c1 : Nat) (e1 : L3), s35 = .int .i64 j ∧ j ≤ i ∧ i - j ≤ kx ∧ m1 ≤ c1 ∧ c1 ≤ maxLen ∧ Hid (sureF (N1, e1) (tailR (xs.map bkey) j) = S) ∧ Hid (e1.length + entsK ((xs.map bkey).drop j) ≤ 4000000 + j) ∧ Hid (ERead wr wr.heap.size A1 m1 e1) ∧ Hid (Bx wr [(g6, 39, #[Value.int IntKind.i64 N1, Value.slice A1 m1 c1]), (w.heap.size, 39, #[Value.int IntKind.i64 0, Value.slice none 0 0])]) ∧ Hid (Below w.heap.size w wr))
    case atStart => exact ⟨0, 0, none, 0, 0, [], rfl, Nat.zero_le _, by omega, Nat.le_refl _, Nat.zero_le _, HS2, HE2, HR1, KK, BB⟩
    case round =>
      clear KK BB HR1 HS2 HE2
      obtain ⟨j, N1, A1, m1, c1, e1, rfl, hj, hjk, p3, p4, HS2, HE2, HR1, KK, BB⟩ := hrel
      by_cases hlt : j < i
      case neg =>
        obtain rfl : j = i := by omega
        have HF : Hid (S = ((N1, e1), 0)) := by
          have h := HS2.out
          rw [tailR_end (by rw [HLk.out]; exact Nat.le_refl _), sureF_nil] at h
          exact h.symm
        have R := KK.out.rules
        simp only [Rules] at R
        obtain ⟨q1, q2⟩ := put_out (g := w.heap.size) BB.out (Nat.le_refl _) HR1.out (ERead.apart HR1.out (KK.out.tail.head)) (Value.int IntKind.i64 N1) (.slice A1 m1 c1)
        have Q1 := Lib.hid q1
        have Q2 := Lib.hid q2
        clear q1 q2 HR1 HS2 HE2
        go_wp2
        refine bodyPost_ret (v := Value.tuple #[.agg #[.int .i64 N1, .slice A1 m1 c1], .int .i64 0]) (by simp [results, Tryz.results33, go_sem, R]) rfl ?_
        rw [HF.out]
        exact ⟨A1, m1, c1, rfl, p3, p4, Q1.out, Q2.out⟩
      obtain ⟨ad2, x, rfl, hbl, hx, hc1, hc2, hc3, hc4, hc5, _, hq1, hq2⟩ := BRead.at_ (H1.out.below BB.out) hlt
      have hmem := List.mem_of_getElem? hx
      have HR0 := Lib.hid (H1.out.2 x hmem).1
      have hK := atK_key hx
      have hjl : j < (xs.map bkey).length := by rw [HLk.out]; exact hlt
      have he := ents_drop hjl
      have hrl := rK_len (atK (xs.map bkey) j) j
      have HEr := Lib.hid (fun h => (sureT_err (N := N1) (es := e1) hjl h).symm.trans HS2.out)
      have HOk := Lib.hid (fun h => (sureT_ok (N := N1) (es := e1) hjl h).symm.trans HS2.out)
      have hml := mrgP_len N1 (rK (atK (xs.map bkey) j) j).1 e1 (rK (atK (xs.map bkey) j) j).2
      have hlv := HLv.out j hlt
      rw [hK] at he hrl HEr HOk hml hlv
      have hlv0 := (okS_iff.1 hlv).2.1
      have hE2 := HE2.out
      have he' : entsK ((xs.map bkey).drop j) = x.es.length + entsK ((xs.map bkey).drop (j + 1)) := he
      have hrl' : (rK (x.t, x.last, x.level, x.num, x.es) j).2.length ≤ x.es.length + (if j = 0 then 1 else 0) := hrl
      have hif : (if j = 0 then 1 else 0) + j ≤ j + 1 := by split <;> omega
      have hln1 : m1 ≤ 8388608 := by have := HR1.out.len; omega
      have hln2 : x.en ≤ 4065001 := by have := HR0.out.len; omega
      have HNl := Lib.hid (show (mrgP N1 e1 (rK (x.t, x.last, x.level, x.num, x.es) j).1 (rK (x.t, x.last, x.level, x.num, x.es) j).2).2.length + entsK ((xs.map bkey).drop (j + 1)) ≤ 4000000 + (j + 1) by omega)
      have HM := Lib.hid (fun W Nr Ar mr cr er (hm : mr ≤ 8388608) (hr : ERead W W.heap.size A1 m1 e1) (hr2 : ERead W W.heap.size Ar mr er) => MergeR_any N1 A1 m1 c1 e1 Nr Ar mr cr er W hr hr2 hln1 hm)
      have HSn := Lib.hid (fun W => singleR_any x.last W)
      clear hK hx hmem he he' hE2 hml hrl hrl' hif HS2 HE2 hlv
      generalize x.t = bt at *
      generalize x.last = bl at *
      generalize x.level = bv at *
      generalize x.num = bn at *
      generalize x.adr = ba at *
      generalize x.en = be at *
      generalize x.ec = bq at *
      generalize x.es = es at *
      clear x
      have hbl2 : ad2.block < wr.heap.size := by have := BB.out.size; omega
      have hwr : g6 < wr.heap.size := (KK.out _ (List.mem_cons_self ..)).lt
      obtain ⟨g8, hg8⟩ : ∃ s, wr.heap.size = s := ⟨_, rfl⟩
      have BZ := Lib.hid ((BB.out.alloc BB.out.size (.cells #[Value.int IntKind.i64 bt, Value.int IntKind.i64 bl, Value.int IntKind.i64 bv, Value.int IntKind.i64 bn, Value.slice ba be bq] 41)).alloc (by have := BB.out.size; simp; omega) (.cells #[Value.int IntKind.i64 bn, Value.slice ba be bq] 39))
      have KZ := Lib.hid ((KK.out.new (t := 41) (c := #[Value.int IntKind.i64 bt, Value.int IntKind.i64 bl, Value.int IntKind.i64 bv, Value.int IntKind.i64 bn, Value.slice ba be bq]) hg8).new (t := 39) (c := #[Value.int IntKind.i64 bn, Value.slice ba be bq]) (g := g8 + 1) (by simp [hg8]))
      have hba : Below wr.heap.size wr ((wr.alloc (.cells #[Value.int IntKind.i64 bt, Value.int IntKind.i64 bl, Value.int IntKind.i64 bv, Value.int IntKind.i64 bn, Value.slice ba be bq] 41)).alloc (.cells #[Value.int IntKind.i64 bn, Value.slice ba be bq] 39)) := ((Below.refl _ _).alloc (Nat.le_refl _) _).alloc (by simp) _
      have HZ := Lib.hid ((HR1.out.below hba).more hba.size)
      have hbl3 : ad2.block < g8 := by omega
      clear hba
      go_upto_region 12 with fail
      obtain ⟨W4, hW, K3, B3, z3⟩ := name_world KZ.out BZ.out (s := g8 + 1 + 1) (by simp; omega)
      rw [hW] at HZ
      rw [hW]
      clear hW KK BB KZ BZ HR1 hc1 hc2 hc3 hc4 hc5
      have KK := Lib.hid K3
      have BB := Lib.hid B3
      have R := KK.out.rules
      simp only [Rules] at R
      clear K3 B3 z3
      have hg68 : g6 < g8 := by omega
      clear hwr hbl2 hg8
      obtain ⟨g9, hg9⟩ : ∃ s, g8 + 1 = s := ⟨_, rfl⟩
      rw [hg9] at KK R ⊢
      have hg89 : g8 < g9 := by omega
      clear hg9
      go_cut [48] (fun s48 wx => s48 = .bool (decide (j = 0 ∧ 0 < bv)) ∧ W4 = wx)
      case first =>
        clear HM HEr HOk HNl HSn HR0 HZ
        by_cases hj0 : j = 0
        case neg =>
          have HD : Hid (decide (j = 0 ∧ 0 < bv) = false) := decide_eq_false (fun h => hj0 h.1)
          have hjb : ((j : Int) == 0) = false := by simpa using hj0
          clear hj0
          go_wp2
          go_meet
          exact ⟨congrArg Value.bool HD.out.symm, rfl⟩
        have hjb : ((j : Int) == 0) = true := by simpa using hj0
        by_cases hb0 : 0 < bv
        · have HD : Hid (decide (j = 0 ∧ 0 < bv) = true) := decide_eq_true ⟨hj0, hb0⟩
          clear hj0
          go_wp2
          go_meet
          exact ⟨congrArg Value.bool HD.out.symm, rfl⟩
        · have HD : Hid (decide (j = 0 ∧ 0 < bv) = false) := decide_eq_false (fun h => hb0 h.2)
          clear hj0
          go_wp2
          go_meet
          exact ⟨congrArg Value.bool HD.out.symm, rfl⟩
      case rest =>
      obtain ⟨rfl, rfl⟩ := hcut
      obtain ⟨bz, hbz⟩ : ∃ b : Bool, decide (j = 0 ∧ 0 < bv) = b := ⟨_, rfl⟩
      rw [hbz]
      have HBz := Lib.hid hbz
      clear hbz
      go_upto_if 48 with fail
      clear R
      go_cut [] (fun wx => ∃ (Nr : Int) (Ar : Option Addr) (mr cr : Nat) (er : L3), Hid (rK (bt, bl, bv, bn, es) j = (Nr, er)) ∧ mr ≤ 8388608 ∧ Hid (ERead wx wx.heap.size Ar mr er) ∧ Hid (ERead wx wx.heap.size A1 m1 e1) ∧ Hid (Bx wx [(g9, 39, #[Value.int IntKind.i64 Nr, Value.slice Ar mr cr]), (g8, 41, #[Value.int IntKind.i64 bt, Value.int IntKind.i64 bl, Value.int IntKind.i64 bv, Value.int IntKind.i64 bn, Value.slice ba be bq]), (g6, 39, #[Value.int IntKind.i64 N1, Value.slice A1 m1 c1]), (w.heap.size, 39, #[Value.int IntKind.i64 0, Value.slice none 0 0])]) ∧ Hid (Below w.heap.size w wx))
      case first =>
        clear HM HEr HOk HNl
        have R := KK.out.rules
        simp only [Rules] at R
        have HE0 := Lib.hid ((HR0.out.below BB.out).more BB.out.size)
        by_cases hj0 : j = 0
        case neg =>
          obtain rfl : false = bz := by have := HBz.out; rwa [decide_eq_false (fun h => hj0 h.1)] at this
          have HK := Lib.hid (rK_s (x := (bt, bl, bv, bn, es)) hj0)
          clear hj0
          go_wp2
          go_meet
          exact ⟨bn, ba, be, bq, es, HK, by omega, HE0, HZ, KK, BB⟩
        by_cases hb0 : 0 < bv
        case neg =>
          obtain rfl : false = bz := by have := HBz.out; rwa [decide_eq_false (fun h => hb0 h.2)] at this
          have HK : Hid (rK (bt, bl, bv, bn, es) j = (bn, es)) := by
            obtain rfl : bv = 0 := by omega
            rw [Hid, hj0]; rfl
          clear hj0
          go_wp2
          go_meet
          exact ⟨bn, ba, be, bq, es, HK, by omega, HE0, HZ, KK, BB⟩
        obtain rfl : true = bz := by have := HBz.out; rwa [decide_eq_true (show j = 0 ∧ 0 < bv from ⟨hj0, hb0⟩)] at this
        have HK : Hid (rK (bt, bl, bv, bn, es) j = (1, [(bl, 1, 1)])) := by rw [Hid, hj0, rK_0]; exact first1_1 (by omega)
        clear hj0
        go_wp2_with fail
        refine (HSn.out _).mono ?_
        rintro e w6 ⟨A6, m6, c6, rfl, q1, q2, q3, hb, hfr⟩
        have hm6 : m6 ≤ 8388608 := by have := ERead.len q3; simp at this; omega
        have HR6 := Lib.hid q3
        replace BB := Lib.hid (BB.out.trans (hb.mono BB.out.size))
        replace KK := Lib.hid (KK.out.below hb)
        replace HZ := Lib.hid ((HZ.out.below hb).more hb.size)
        clear R q3 hb hfr HSn HE0
        have R := KK.out.rules
        simp only [Rules] at R
        obtain ⟨t1, t2⟩ := put_out (g := g9) BB.out (by omega) HR6.out (ERead.apart HR6.out KK.out.head) (Value.int IntKind.i64 1) (.slice A6 m6 c6)
        obtain ⟨t3, _⟩ := put_out (g := g9) BB.out (by omega) HZ.out (ERead.apart HZ.out KK.out.head) (Value.int IntKind.i64 1) (.slice A6 m6 c6)
        have T1 := Lib.hid t1
        have T2 := Lib.hid t2
        have T3 := Lib.hid t3
        have T4 := Lib.hid (Bx.put2 (u := Value.int IntKind.i64 1) (v := Value.slice A6 m6 c6) KK.out (by simp; omega))
        clear t1 t2 t3
        go_wp2
        go_meet
        exact ⟨1, A6, m6, c6, _, HK, hm6, T1, T3, T4, T2⟩
      case rest =>
      obtain ⟨Nr, Ar, mr, cr, rr, HRk, hmr, HRr, HR1, KK, BB⟩ := hcut
      rw [HRk.out] at HEr HOk HNl
      simp only [] at HEr HOk HNl
      clear HRk HSn HR0
      have HM2 := Lib.hid (fun W hr hr2 => HM.out W Nr Ar mr cr rr hmr hr hr2)
      clear HM
      generalize mrgE N1 e1 Nr rr = er at *
      generalize mrgP N1 e1 Nr rr = P at *
      obtain ⟨N9, e9⟩ := P
      have R := KK.out.rules
      simp only [Rules] at R
      go_wp2_with fail
      refine (HM2.out _ HR1.out HRr.out).mono ?_
      rintro e w9 ⟨A9, m9, c9, rfl, r1, r2, r3, hb⟩
      have HR9 := Lib.hid r3
      replace BB := Lib.hid (BB.out.trans (hb.mono BB.out.size))
      replace KK := Lib.hid (KK.out.below hb)
      clear R r3 hb HM2 HR1 HRr
      have K6 := KK.out.perm (L' := [(g6, 39, #[Value.int IntKind.i64 N1, Value.slice A1 m1 c1]), (w.heap.size, 39, #[Value.int IntKind.i64 0, Value.slice none 0 0])]) (by simp)
      obtain ⟨t1, t2⟩ := put_out (g := g6) BB.out (by omega) HR9.out (ERead.apart HR9.out K6.head) (Value.int IntKind.i64 N9) (.slice A9 m9 c9)
      have Q1 := Lib.hid t1
      have Q2 := Lib.hid t2
      have Q3 := Lib.hid (Bx.put2 (u := Value.int IntKind.i64 N9) (v := Value.slice A9 m9 c9) K6 (by simp; omega))
      have R := K6.rules
      simp only [Rules] at R
      clear t1 t2 K6 HR9 KK BB
      go_upto_region 16 with fail
      generalize (w9.setCell { block := g6, off := 0 } (Value.int IntKind.i64 N9)).setCell { block := g6, off := 1 } (Value.slice A9 m9 c9) = W5 at *
      clear R
      have R := Q3.out.rules
      simp only [Rules] at R
      by_cases her : er = 0
      case neg =>
        have HF := Lib.hid (HEr.out her)
        clear HEr HOk
        go_wp2
        refine bodyPost_ret (v := Value.tuple #[.agg #[.int .i64 0, .slice none 0 0], .int .i64 er]) (by simp [results, Tryz.results33, go_sem, R]) rfl ?_
        rw [← HF.out]
        exact newRE_nil er Q2.out (Nat.le_refl _) _ _
      have HN := Lib.hid (HOk.out her)
      subst her
      clear HEr HOk
      go_wp2_with fail
      go_roundg (i - (j + 1))
      case measure => omega
      case rel => exact ⟨j + 1, N9, A9, m9, c9, e9, by go_num, by omega, by omega, r1, r2, HN, HNl, Q1, Q3, Q2⟩
end Go.Proofs.YtjapjfcennemeaaGreat.rnk
