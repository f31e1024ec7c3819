/- BSur: proved here in one text, no conditions beyond those that each theorem states. -/
import Derived.Deep.DeepCutAuto
import Derived.Deep.CutBlock
import Derived.Test.YtjapjfcennemeaaGreatZ41
import Derived.Test.YtjapjfcennemeaaGreatZ28
set_option linter.unusedVariables false
set_option linter.unusedSimpArgs false
namespace Go.Proofs.YtjapjfcennemeaaGreat.rnk
open Go.RowKit Go.Proofs.YtjapjfcennemeaaGreat.mem Go.Proofs.YtjapjfcennemeaaGreat.gro Go.Proofs.YtjapjfcennemeaaGreat.blk
set_option linter.unusedVariables false
set_option linter.unusedSimpArgs false
set_option pp.maxSteps 200000
set_option maxHeartbeats 16000000 in
set_option maxRecDepth 100000 in
theorem SureB_any (A : Option Addr) (n c : Nat) (xs : List BlkM) (w : World) (h1 : BRead w w.heap.size A n xs) (hs : n ≤ 65000) (hnc : n ≤ c) (hcm : c ≤ maxLen) (hE : okTo (xs.map bkey) n = true → entsK (xs.map bkey) ≤ 4000000) : Calls Tryz.prog 25 #[.slice A n c] w (NewRE (sureK (xs.map bkey)).1 (sureK (xs.map bkey)).2 w) := by
  have hcm9 : c ≤ 9223372036854775807 := hcm
  clear hcm
  have H1 := Lib.hid h1
  have HL := Lib.hid h1.len
  have HLk := Lib.hid (BRead.key_len h1)
  have HEn := Lib.hid hE
  clear h1 hE
  obtain ⟨S, hS⟩ : ∃ S, sureK (xs.map bkey) = S := ⟨_, rfl⟩
  have HNo := Lib.hid (fun i (hi : i < n) (h : okS (atK (xs.map bkey) i) = false) => hS.symm.trans (sureK_no (xs := xs.map bkey) (by rw [HLk.out]; exact hi) h))
  rw [hS]
  have HS := Lib.hid hS
  clear hS
  go_enter Tryz.func25, Tryz.ntmps25
  go_upto_region 2 with fail
  obtain ⟨W0, hW, hs0, K0, B0⟩ := start1 w 39 #[Value.int IntKind.i64 0, Value.slice none 0 0]
  rw [hW]
  clear hW
  have KK := Lib.hid K0
  have BB := Lib.hid B0
  clear K0 B0 hs0
  go_loopg [13] n (fun kx s13 wr => ∃ i : Nat, i ≤ n ∧ s13 = .int .i64 i ∧ n - i ≤ kx ∧ Hid (okTo (xs.map bkey) i = true) ∧ Hid (Bx wr [(w.heap.size, 39, #[Value.int IntKind.i64 0, Value.slice none 0 0])]) ∧ Hid (Below w.heap.size w wr))
  case atStart => exact ⟨0, Nat.zero_le _, rfl, by omega, (rfl : okTo (xs.map bkey) 0 = true), KK, BB⟩
  case round =>
    clear KK BB
    obtain ⟨i, hi, rfl, hik, HO, KK, BB⟩ := hrel
    by_cases hlt : i < n
    case pos =>
      obtain ⟨ad, x, rfl, hbl, hx, hc1, hc2, hc3, hc4, hc5, _, hq1, hq2⟩ := BRead.at_ (H1.out.below BB.out) hlt
      have hmem := List.mem_of_getElem? hx
      have hen : x.en ≤ 9223372036854775807 := Nat.le_trans hq1 hq2
      have HR0 := Lib.hid (H1.out.2 x hmem).1
      have HVd := Lib.hid (fun W (hb : Below w.heap.size w W) => rnk.Validate_any x.num x.adr x.en x.ec x.es W ((HR0.out.below hb).more hb.size) hen)
      have hK := atK_key hx
      have HNi := Lib.hid (fun h => HNo.out i hlt (by rw [hK]; exact h))
      have HSu := Lib.hid (fun h => okTo_succ HO.out (by rw [hK]; exact h))
      have HIf := Lib.hid (okS_iff (t := x.t) (l := x.last) (v := x.level) (n := x.num) (es := x.es))
      clear hK hx hmem HO HNo HS HEn HR0
      generalize x.t = bt at *
      generalize x.last = bl at *
      generalize x.level = bv at *
      generalize x.num = bn at *
      generalize x.adr = ba at *
      generalize x.en = be at *
      generalize x.ec = bq at *
      generalize x.es = es at *
      clear x
      have hbl2 : ad.block < wr.heap.size := by have := BB.out.size; omega
      have hwr : w.heap.size < wr.heap.size := (KK.out _ (List.mem_cons_self ..)).lt
      obtain ⟨g5, hg5⟩ : ∃ s, wr.heap.size = s := ⟨_, rfl⟩
      have BZ := Lib.hid (BB.out.alloc BB.out.size (.cells #[Value.int IntKind.i64 bt, Value.int IntKind.i64 bl, Value.int IntKind.i64 bv, Value.int IntKind.i64 bn, Value.slice ba be bq] 41))
      have KZ := Lib.hid (KK.out.new (t := 41) (c := #[Value.int IntKind.i64 bt, Value.int IntKind.i64 bl, Value.int IntKind.i64 bv, Value.int IntKind.i64 bn, Value.slice ba be bq]) hg5)
      have hbl3 : ad.block < g5 := by omega
      go_upto_region 4 with fail
      obtain ⟨W3, hW, K3, B3, z3⟩ := name_world KZ.out BZ.out (s := g5 + 1) (by simp; omega)
      rw [hW]
      clear hW KK BB KZ BZ hc1 hc2 hc3 hc4 hc5
      have KK := Lib.hid K3
      have BB := Lib.hid B3
      have R := KK.out.rules
      simp only [Rules] at R
      clear K3 B3 z3
      have hwg : w.heap.size < g5 := by omega
      clear hwr hbl2 hg5
      go_wp2_with fail
      rcases Bool.eq_false_or_eq_true (valR bn es) with hv | hv
      case inr =>
        have HF := Lib.hid (HNi.out (by rw [Bool.eq_false_iff]; intro h; have := (HIf.out.1 h).1; rw [hv] at this; cases this))
        rw [hv, erS_f] at HVd
        clear HIf hv HNi HSu
        (with_reducible refine (HVd.out _ BB.out).mono ?_)
        rintro e wv ⟨rfl, hbv⟩; replace BB := Lib.hid (BB.out.trans (hbv.mono BB.out.size)); replace KK := Lib.hid (KK.out.below hbv); replace R := KK.out.rules; simp only [gro.Rules] at R; clear hbv
        go_wp2
        refine bodyPost_ret (v := Value.tuple #[.agg #[.int .i64 0, .slice none 0 0], .int .i64 2]) (by simp [results, Tryz.results25, go_sem, R]) rfl ?_
        rw [HF.out]
        exact newRE_nil 2 BB.out (Nat.le_refl _) _ _
      rw [hv, erS_t] at HVd
      by_cases hl : 0 ≤ bv ∧ bv ≤ 30
      case neg =>
        have HF := Lib.hid (HNi.out (by rw [Bool.eq_false_iff]; intro h; exact hl (HIf.out.1 h).2))
        clear HIf hv HNi HSu
        (with_reducible refine (HVd.out _ BB.out).mono ?_)
        rintro e wv ⟨rfl, hbv⟩; replace BB := Lib.hid (BB.out.trans (hbv.mono BB.out.size)); replace KK := Lib.hid (KK.out.below hbv); replace R := KK.out.rules; simp only [gro.Rules] at R; clear hbv
        by_cases h0 : bv < 0
        · go_wp2
          refine bodyPost_ret (v := Value.tuple #[.agg #[.int .i64 0, .slice none 0 0], .int .i64 2]) (by simp [results, Tryz.results25, go_sem, R]) rfl ?_
          rw [HF.out]
          exact newRE_nil 2 BB.out (Nat.le_refl _) _ _
        · have h30 : 30 < bv := by omega
          clear hl
          go_wp2
          refine bodyPost_ret (v := Value.tuple #[.agg #[.int .i64 0, .slice none 0 0], .int .i64 2]) (by simp [results, Tryz.results25, go_sem, R]) rfl ?_
          rw [HF.out]
          exact newRE_nil 2 BB.out (Nat.le_refl _) _ _
      have HT := Lib.hid (HSu.out (HIf.out.2 ⟨hv, hl⟩))
      have hl1 : ¬ bv < 0 := by omega
      have hl2 : ¬ 30 < bv := by omega
      clear HIf hv HNi HSu hl
      (with_reducible refine (HVd.out _ BB.out).mono ?_)
      rintro e wv ⟨rfl, hbv⟩; replace BB := Lib.hid (BB.out.trans (hbv.mono BB.out.size)); replace KK := Lib.hid (KK.out.below hbv); replace R := KK.out.rules; simp only [gro.Rules] at R; clear hbv
      clear HVd
      go_wp2_with fail
      go_roundg (n - (i + 1))
      case measure => omega
      case rel => exact ⟨i + 1, by omega, by go_num, by omega, HT, Lib.hid KK.out.tail, BB⟩
    obtain rfl : i = n := by omega
    have R := KK.out.rules
    simp only [Rules] at R
    have hE := HEn.out HO.out
    clear HEn HNo
    rcases Nat.eq_zero_or_pos i with h0 | h0
    case inl =>
      subst h0
      have e0 : xs.map bkey = [] := List.eq_nil_of_length_eq_zero HLk.out
      have HF : Hid (S = ((0, []), 0)) := by rw [Hid, ← HS.out, e0]; rfl
      clear HS e0 HO
      go_wp2
      refine bodyPost_ret (v := Value.tuple #[.agg #[.int .i64 0, .slice none 0 0], .int .i64 0]) (by simp [results, Tryz.results25, go_sem, R]) rfl ?_
      rw [HF.out]
      exact newRE_nil 0 BB.out (Nat.le_refl _) _ _
    obtain ⟨ad, x, rfl, hbl, hx, HC, hx1, hq1, hq2⟩ := BRead.zero H1.out h0
    have HX := Lib.hid hx1
    have hK := atK_key hx
    have hd0 := drop_atK (xs := xs.map bkey) (i := 0) (by rw [HLk.out]; exact h0)
    have he0 := ents_drop (xs := xs.map bkey) (i := 0) (by rw [HLk.out]; exact h0)
    rw [hK] at hd0 he0
    rw [List.drop_zero] at hd0 he0
    have hx9 : x.en ≤ x.ec := hq1
    have HSF := Lib.hid ((sureK_yes (x := (x.t, x.last, x.level, x.num, x.es)) (r := (xs.map bkey).drop 1) (by rw [← hd0, HLk.out]; exact HO.out)).symm.trans ((congrArg sureK hd0).symm.trans HS.out))
    have HTl := Lib.hid (H1.out.tail h0 hnc)
    have HEl := Lib.hid hx1.len
    have he1 : x.es.length + entsK ((xs.map bkey).drop 1) ≤ 4000000 := by
      have h : entsK (xs.map bkey) = x.es.length + entsK ((xs.map bkey).drop 1) := he0
      omega
    have HSn := Lib.hid (fun W => single_any x.last W)
    clear hx hK hd0 he0 hx1 HS
    generalize x.t = bt at *
    generalize x.last = bl at *
    generalize x.level = bv at *
    generalize x.num = bn at *
    generalize x.adr = ba at *
    generalize x.en = be at *
    generalize x.ec = bq at *
    generalize x.es = es at *
    clear x
    obtain ⟨f1, f2, f3, f4, f5⟩ := HC.out _ BB.out
    go_wp2_with fail
    refine (HSn.out _).mono ?_
    rintro e w6 ⟨A6, m6, c6, rfl, p1, p2, p3, hb, hfr⟩
    have HR6 := Lib.hid p3
    replace BB := Lib.hid (BB.out.trans (hb.mono BB.out.size))
    replace KK := Lib.hid (KK.out.below hb)
    clear R f1 f2 f3 f4 f5 p3 hb hfr HSn
    have hw6 : w.heap.size < w6.heap.size := (KK.out _ (List.mem_cons_self ..)).lt
    obtain ⟨g6, hg6⟩ : ∃ s, w6.heap.size = s := ⟨_, rfl⟩
    have BZ := Lib.hid (BB.out.alloc BB.out.size (.cells #[Value.int IntKind.i64 1, Value.slice A6 m6 c6] 39))
    have KZ := Lib.hid (KK.out.new (t := 39) (c := #[Value.int IntKind.i64 1, Value.slice A6 m6 c6]) hg6)
    have hba : Below w6.heap.size w6 (w6.alloc (.cells #[Value.int IntKind.i64 1, Value.slice A6 m6 c6] 39)) := (Below.refl _ _).alloc (Nat.le_refl _) _
    have HZ := Lib.hid ((HR6.out.below hba).more hba.size)
    clear hba
    go_upto_region 10 with fail
    obtain ⟨W3, hW, K3, B3, z3⟩ := name_world KZ.out BZ.out (s := g6 + 1) (by simp; omega)
    rw [hW] at HZ
    rw [hW]
    clear hW KK BB KZ BZ HR6
    have KK := Lib.hid K3
    have BB := Lib.hid B3
    clear K3 B3 z3
    have hwg : w.heap.size < g6 := by omega
    clear hw6 hg6
    obtain ⟨f1, f2, f3, f4, f5⟩ := HC.out _ BB.out
    have R := KK.out.rules
    simp only [Rules] at R
    go_upto_if 46 with fail
    clear R
    go_cut [] (fun wx => ∃ (N1 : Int) (A1 : Option Addr) (m1 c1 : Nat) (e1 : L3), Hid (first1 (bt, bl, bv, bn, es) = (N1, e1)) ∧ m1 ≤ c1 ∧ c1 ≤ maxLen ∧ Hid (ERead wx wx.heap.size A1 m1 e1) ∧ Hid (Bx wx [(g6, 39, #[Value.int IntKind.i64 N1, Value.slice A1 m1 c1]), (w.heap.size, 39, #[Value.int IntKind.i64 0, Value.slice none 0 0])]) ∧ Hid (Below w.heap.size w wx))
    case first =>
      have R := KK.out.rules
      simp only [Rules] at R
      by_cases hz : bv = 0
      case neg =>
        have hF := Lib.hid (first1_1 (t := bt) (l := bl) (n := bn) (es := es) hz)
        go_wp2
        go_meet
        exact ⟨1, A6, m6, c6, _, hF, p1, p2, HZ, KK, BB⟩
      subst hz
      go_wp2
      go_meet
      have HE := (HX.out.below BB.out).more BB.out.size
      have hap : 0 < be → ∀ ad, ba = some ad → ad.block ≠ g6 := fun h ad e => by have := Reads.blk HX.out h ad e; omega
      obtain ⟨q1, q2⟩ := put_out (g := g6) BB.out (by omega) HE hap (Value.int IntKind.i64 bn) (.slice ba be bq)
      exact ⟨bn, ba, be, bq, es, rfl, hq1, hq2, q1, Bx.put2 KK.out (by simp; omega), q2⟩
    case rest =>
    obtain ⟨N1, A1, m1, c1, e1, HF1, p3, p4, HR1, KK, BB⟩ := hcut
    have HS2 := Lib.hid (show sureF (N1, e1) ((xs.map bkey).drop 1) = S by rw [← HF1.out]; exact HSF.out)
    have hl1 : e1.length ≤ 1 + es.length := by have h := first1_len (bt, bl, bv, bn, es); rw [HF1.out] at h; exact h
    have hl2 : e1.length + entsK ((xs.map bkey).drop 1) ≤ 4000001 := by omega
    rw [← List.map_drop] at HS2 hl2
    clear HF1 HSF HX hl1 he1 HC f1 f2 f3 f4 f5 HEl hx9 HZ p1 p2 hE HO hq1 hq2
    obtain ⟨ys, hys⟩ : ∃ ys, xs.drop 1 = ys := ⟨_, rfl⟩
    rw [hys] at HS2 hl2 HTl
    clear hys HL HLk H1
    obtain ⟨m, hm⟩ : ∃ m, i - 1 = m := ⟨_, rfl⟩
    have HL2 := Lib.hid (BRead.key_len HTl.out)
    have s0 : (i : Int) - 1 = (m : Int) := by omega
    rw [hm] at HTl HL2
    generalize hA2 : (if c = 1 then some ad else some ⟨ad.block, ad.off + 5, none⟩) = A2 at *
    have HE2 := Lib.hid hl2
    clear hl2
    have hi9 : i ≤ c := hnc
    have R := KK.out.rules
    simp only [Rules] at R
    go_upto_region 13 with fail
    clear R
    go_loopg [54] m (fun kx s54 wr => ∃ (j : Nat) (N1 : Int) (A1 : Option Addr) (m1 c1 : Nat) (e1 : L3), s54 = .int .i64 j ∧ j ≤ m ∧ m - j ≤ kx ∧ m1 ≤ c1 ∧ c1 ≤ maxLen ∧ Hid (sureF (N1, e1) ((ys.map bkey).drop j) = S) ∧ Hid (e1.length + entsK ((ys.map bkey).drop j) ≤ 4000001) ∧ Hid (ERead wr wr.heap.size A1 m1 e1) ∧ Hid (Bx wr [(g6, 39, #[Value.int IntKind.i64 N1, Value.slice A1 m1 c1]), (w.heap.size, 39, #[Value.int IntKind.i64 0, Value.slice none 0 0])]) ∧ Hid (Below w.heap.size w wr))
    case atStart => exact ⟨0, N1, A1, m1, c1, e1, rfl, Nat.zero_le _, by omega, p3, p4, HS2, HE2, HR1, KK, BB⟩
    case round =>
      clear KK BB HR1 HS2 HE2 p3 p4
      clear A1 m1 c1 e1 N1
      obtain ⟨j, N1, A1, m1, c1, e1, rfl, hj, hjk, p3, p4, HS2, HE2, HR1, KK, BB⟩ := hrel
      by_cases hlt : j < m
      case neg =>
        obtain rfl : j = m := by omega
        have HF : Hid (S = ((N1, e1), 0)) := by
          have h := HS2.out
          rw [List.drop_eq_nil_of_le (by rw [HL2.out]; exact Nat.le_refl _), sureF_nil] at h
          exact h.symm
        have R := KK.out.rules
        simp only [Rules] at R
        obtain ⟨q1, q2⟩ := put_out (g := w.heap.size) BB.out (Nat.le_refl _) HR1.out (ERead.apart HR1.out (KK.out.tail.head)) (Value.int IntKind.i64 N1) (.slice A1 m1 c1)
        have Q1 := Lib.hid q1
        have Q2 := Lib.hid q2
        clear q1 q2 HR1 HS2 HE2
        go_wp2
        refine bodyPost_ret (v := Value.tuple #[.agg #[.int .i64 N1, .slice A1 m1 c1], .int .i64 0]) (by simp [results, Tryz.results25, go_sem, R]) rfl ?_
        rw [HF.out]
        exact ⟨A1, m1, c1, rfl, p3, p4, Q1.out, Q2.out⟩
      obtain ⟨ad2, x, rfl, hbl, hx, hc1, hc2, hc3, hc4, hc5, _, hq1, hq2⟩ := BRead.at_ (HTl.out.below BB.out) hlt
      have hmem := List.mem_of_getElem? hx
      have HR0 := Lib.hid (HTl.out.2 x hmem).1
      have hK := atK_key hx
      have hd := drop_atK (xs := ys.map bkey) (i := j) (by rw [HL2.out]; exact hlt)
      have he := ents_drop (xs := ys.map bkey) (i := j) (by rw [HL2.out]; exact hlt)
      rw [hK] at hd he
      have hE2 := HE2.out
      have hs2 := HS2.out
      rw [hd] at hs2
      have he' : entsK ((ys.map bkey).drop j) = x.es.length + entsK ((ys.map bkey).drop (j + 1)) := he
      have hln1 : m1 ≤ 8388608 := by have := HR1.out.len; omega
      have hln2 : x.en ≤ 8388608 := by have := HR0.out.len; omega
      have HEr := Lib.hid (fun h => (sureF_err (x := (x.t, x.last, x.level, x.num, x.es)) h).symm.trans hs2)
      have HOk := Lib.hid (fun h => (sureF_ok (x := (x.t, x.last, x.level, x.num, x.es)) h).symm.trans hs2)
      have hml := mrgP_len N1 x.num e1 x.es
      have hnl : (mrgP N1 e1 x.num x.es).2.length + entsK ((ys.map bkey).drop (j + 1)) ≤ 4000001 := by omega
      have HNl := Lib.hid hnl
      have HM := Lib.hid (fun W (hb : Below w.heap.size w W) (hr : ERead W W.heap.size A1 m1 e1) => Merge_any N1 A1 m1 c1 e1 x.num x.adr x.en x.ec x.es W hr ((HR0.out.below hb).more hb.size) hln1 hln2)
      clear hK hx hmem hd he he' hE2 hs2 hml hnl HR0 HS2 HE2
      simp only [] at HEr HOk
      generalize mrgE N1 e1 x.num x.es = er at *
      generalize mrgP N1 e1 x.num x.es = P at *
      generalize x.t = bt at *
      generalize x.last = bl at *
      generalize x.level = bv at *
      generalize x.num = bn at *
      generalize x.adr = ba at *
      generalize x.en = be at *
      generalize x.ec = bq at *
      generalize x.es = es at *
      clear x
      obtain ⟨N9, e9⟩ := P
      have hbl2 : ad2.block < wr.heap.size := by have := BB.out.size; omega
      have hwr : g6 < wr.heap.size := (KK.out _ (List.mem_cons_self ..)).lt
      obtain ⟨g8, hg8⟩ : ∃ s, wr.heap.size = s := ⟨_, rfl⟩
      have BZ := Lib.hid (BB.out.alloc BB.out.size (.cells #[Value.int IntKind.i64 bt, Value.int IntKind.i64 bl, Value.int IntKind.i64 bv, Value.int IntKind.i64 bn, Value.slice ba be bq] 41))
      have KZ := Lib.hid (KK.out.new (t := 41) (c := #[Value.int IntKind.i64 bt, Value.int IntKind.i64 bl, Value.int IntKind.i64 bv, Value.int IntKind.i64 bn, Value.slice ba be bq]) hg8)
      have hba : Below wr.heap.size wr (wr.alloc (.cells #[Value.int IntKind.i64 bt, Value.int IntKind.i64 bl, Value.int IntKind.i64 bv, Value.int IntKind.i64 bn, Value.slice ba be bq] 41)) := (Below.refl _ _).alloc (Nat.le_refl _) _
      have HZ := Lib.hid ((HR1.out.below hba).more hba.size)
      have hbl3 : ad2.block < g8 := by omega
      clear hba
      go_upto_region 15 with fail
      obtain ⟨W3, hW, K3, B3, z3⟩ := name_world KZ.out BZ.out (s := g8 + 1) (by simp; omega)
      rw [hW] at HZ
      rw [hW]
      clear hW KK BB KZ BZ HR1 hc1 hc2 hc3 hc4 hc5
      have KK := Lib.hid K3
      have BB := Lib.hid B3
      have R := KK.out.rules
      simp only [Rules] at R
      clear K3 B3 z3
      have hg68 : g6 < g8 := by omega
      clear hwr hbl2 hg8
      go_wp2_with fail
      refine (HM.out _ BB.out HZ.out).mono ?_
      rintro e w9 ⟨A9, m9, c9, rfl, r1, r2, r3, hb, hfr⟩
      have HR9 := Lib.hid r3
      replace BB := Lib.hid (BB.out.trans (hb.mono BB.out.size))
      replace KK := Lib.hid (KK.out.below hb)
      clear R r3 hb hfr HM HZ
      have hw9 : g8 < w9.heap.size := (KK.out _ (List.mem_cons_self ..)).lt
      obtain ⟨g9, hg9⟩ : ∃ s, w9.heap.size = s := ⟨_, rfl⟩
      have BZ := Lib.hid (BB.out.alloc BB.out.size (.cells #[Value.int IntKind.i64 N9, Value.slice A9 m9 c9] 39))
      have KZ := Lib.hid (KK.out.new (t := 39) (c := #[Value.int IntKind.i64 N9, Value.slice A9 m9 c9]) hg9)
      have hba : Below w9.heap.size w9 (w9.alloc (.cells #[Value.int IntKind.i64 N9, Value.slice A9 m9 c9] 39)) := (Below.refl _ _).alloc (Nat.le_refl _) _
      have HZ := Lib.hid ((HR9.out.below hba).more hba.size)
      clear hba
      go_upto_region 16 with fail
      obtain ⟨W4, hW, K3, B3, z3⟩ := name_world KZ.out BZ.out (s := g9 + 1) (by simp; omega)
      rw [hW] at HZ
      rw [hW]
      clear hW KK BB KZ BZ HR9
      have KK := Lib.hid K3
      have BB := Lib.hid B3
      have R := KK.out.rules
      simp only [Rules] at R
      clear K3 B3 z3
      have hg89 : g8 < g9 := by omega
      clear hw9 hg9
      by_cases her : er = 0
      case neg =>
        have HF := Lib.hid (HEr.out her)
        clear HEr HOk
        go_wp2
        refine bodyPost_ret (v := Value.tuple #[.agg #[.int .i64 0, .slice none 0 0], .int .i64 er]) (by simp [results, Tryz.results25, go_sem, R]) rfl ?_
        rw [← HF.out]
        exact newRE_nil er BB.out (Nat.le_refl _) _ _
      have HN := Lib.hid (HOk.out her)
      subst her
      clear HEr HOk
      have K6 := KK.out.perm (L' := [(g6, 39, #[Value.int IntKind.i64 N1, Value.slice A1 m1 c1]), (w.heap.size, 39, #[Value.int IntKind.i64 0, Value.slice none 0 0])]) (by simp)
      obtain ⟨q1, q2⟩ := put_out (g := g6) BB.out (by omega) HZ.out (ERead.apart HZ.out K6.head) (Value.int IntKind.i64 N9) (.slice A9 m9 c9)
      have Q1 := Lib.hid q1
      have Q2 := Lib.hid q2
      have Q3 := Lib.hid (Bx.put2 (u := Value.int IntKind.i64 N9) (v := Value.slice A9 m9 c9) K6 (by simp; omega))
      clear q1 q2 K6 HZ
      go_wp2_with fail
      go_roundg (m - (j + 1))
      case measure => omega
      case rel => exact ⟨j + 1, N9, A9, m9, c9, e9, by go_num, by omega, by omega, r1, r2, HN, HNl, Q1, Q3, Q2⟩
end Go.Proofs.YtjapjfcennemeaaGreat.rnk
