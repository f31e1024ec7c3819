/- Contract of reduced in the reference. -/
import Derived.Test.YtofgjcfiinmimaaMgRed
import Derived.Deep.Cut
namespace Go.Proofs.Ytofgjcfiinmimaa.wid
open Go.RowKit Go.Proofs.Ytofgjcfiinmimaa.mem Go.Proofs.Ytofgjcfiinmimaa.gro
set_option linter.unusedVariables false
set_option maxHeartbeats 4000000 in
set_option maxRecDepth 100000 in
theorem reducedR_any (neg : Bool) (n d : Nat) (hn : n < 340282366920938463463374607431768211456) (hd : d < 340282366920938463463374607431768211456) (h0 : 0 < d) (w : World) :
    Calls Try.prog 124 #[.bool neg, (Value.agg #[Value.int IntKind.u64 (hi (n)), Value.int IntKind.u64 (lo (n))]), (Value.agg #[Value.int IntKind.u64 (hi (d)), Value.int IntKind.u64 (lo (d))])] w fun e w' => e = .returned (.tuple #[(Value.agg #[Value.int IntKind.i64 (redN neg n d), Value.int IntKind.i64 ( redD neg n d)]), .bool (redOk neg n d)]) ∧ Below w.heap.size w w' := by
  have hg := gcd_lt (a := n) h0 hd
  have hg0 : 0 < Nat.gcd n d := Nat.gcd_pos_of_pos_right _ h0
  have HG := Lib.hid (fun W => GcdR_any n d hn hd W)
  have h1 := fun W => DivR_any n (Nat.gcd n d) W hn hg
  have h2 := fun W => DivR_any d (Nat.gcd n d) W hd hg
  rw [show divq n (Nat.gcd n d) = rp n d by unfold divq rp; rw [if_neg (by omega)]] at h1
  rw [show divq d (Nat.gcd n d) = rq n d by unfold divq rq; rw [if_neg (by omega)]] at h2
  have hp : rp n d < 340282366920938463463374607431768211456 := Nat.lt_of_le_of_lt (Nat.div_le_self _ _) hn
  have hq : rq n d < 340282366920938463463374607431768211456 := Nat.lt_of_le_of_lt (Nat.div_le_self _ _) hd
  have hok : redOk neg n d = fitsP neg (rp n d) (rq n d) := rfl
  have HN := Lib.hid (@red_no neg n d)
  have HY := Lib.hid (@red_yes neg n d)
  have H1 := Lib.hid h1
  have H2 := Lib.hid h2
  have HOK := Lib.hid hok
  clear h1 h2 hok hn hd h0 hg hg0
  generalize decide (Nat.gcd n d ≠ 0) = bb at *
  generalize Nat.gcd n d = g at *
  generalize divr n g = r1 at *
  generalize divr d g = r2 at *
  generalize redOk neg n d = ok at *
  generalize redN neg n d = rn at *
  generalize redD neg n d = rd at *
  generalize rp n d = p at *
  generalize rq n d = q at *
  go_enter Try.func124, Try.ntmps124
  go_wp2_with fail
  obtain ⟨W0, hW, hs0, K0, B0⟩ := start3 w 99 99 41 #[Value.int IntKind.u64 (hi n), Value.int IntKind.u64 (lo n)] #[Value.int IntKind.u64 (hi d), Value.int IntKind.u64 (lo d)] #[Value.int IntKind.i64 0, Value.int IntKind.i64 0]
  rw [hW]
  clear hW
  refine (HG.out _).mono ?_
  rintro e w1 ⟨rfl, hb1⟩
  obtain ⟨K1, B1, z1⟩ := K0.call B0 (by omega) hb1
  obtain ⟨s1, hs1⟩ : ∃ s1, w1.heap.size = s1 := ⟨_, rfl⟩
  have R := K1.rules
  simp only [Rules] at R
  have HK1 := Lib.hid K1
  have HB1 := Lib.hid B1
  clear K0 B0 K1 B1 hb1
  go_wp2_with fail
  obtain ⟨W2, hW2, K2, B2, z2⟩ := name_world (HK1.out.new (t := 99) (c := #[Value.int IntKind.u64 (hi g), Value.int IntKind.u64 (lo g)]) hs1) (HB1.out.alloc (by omega) _) (s := s1 + 1) (by simp; omega)
  rw [hW2]
  clear hW2 R HK1 HB1
  refine (H1.out _).mono ?_
  rintro e w3 ⟨rfl, hb3⟩
  obtain ⟨K3, B3, z3⟩ := K2.call B2 (by omega) hb3
  obtain ⟨s3, hs3⟩ : ∃ s3, w3.heap.size = s3 := ⟨_, rfl⟩
  have R := K3.rules
  simp only [Rules] at R
  have HK3 := Lib.hid K3
  have HB3 := Lib.hid B3
  clear K2 B2 K3 B3 hb3
  go_wp2_with fail
  obtain ⟨W4, hW4, K4, B4, z4⟩ := name_world ((HK3.out.new (t := 99) (c := #[Value.int IntKind.u64 (hi p), Value.int IntKind.u64 (lo p)]) hs3).new (g := s3 + 1) (t := 99) (c := #[Value.int IntKind.u64 (hi r1), Value.int IntKind.u64 (lo r1)]) (by simp; omega)) ((HB3.out.alloc (by omega) _).alloc (by simp; omega) _) (s := s3 + 1 + 1) (by simp; omega)
  rw [hW4]
  clear hW4 R HK3 HB3
  refine (H2.out _).mono ?_
  rintro e w5 ⟨rfl, hb5⟩
  obtain ⟨K5, B5, z5⟩ := K4.call B4 (by omega) hb5
  obtain ⟨s5, hs5⟩ : ∃ s5, w5.heap.size = s5 := ⟨_, rfl⟩
  have R := K5.rules
  simp only [Rules] at R
  clear K4 B4 hb5
  go_upto_region 4 with fail
  obtain ⟨W6, hW6, K6, B6, z6⟩ := name_world ((K5.new (t := 99) (c := #[Value.int IntKind.u64 (hi q), Value.int IntKind.u64 (lo q)]) hs5).new (g := s5 + 1) (t := 99) (c := #[Value.int IntKind.u64 (hi r2), Value.int IntKind.u64 (lo r2)]) (by simp; omega)) ((B5.alloc (by omega) _).alloc (by simp; omega) _) (s := s5 + 1 + 1) (by simp; omega)
  rw [hW6]
  clear hW6 R
  have R := K6.rules
  simp only [Rules] at R
  have HK6 := Lib.hid K6
  have HB6 := Lib.hid B6
  clear K5 B5 K6 B6
  have hh1 := hi_bd hp
  have hh2 := lo_bd p
  have hh3 := hi_bd hq
  have hh4 := lo_bd q
  have hps := hi_lo p
  have hqs := hi_lo q
  have HPS := Lib.hid hps
  have HQS := Lib.hid hqs
  clear hps hqs hp hq
  generalize hi p = hp at *
  generalize lo p = lp at *
  generalize hi q = hq at *
  generalize lo q = lq at *
  by_cases c1 : hp = 0
  · by_cases c2 : hq = 0
    · subst c1 c2
      by_cases c3 : lq < 9223372036854775808
      · by_cases c4 : lp ≤ 9223372036854775808
        · cases neg
          · by_cases c5 : lp = 9223372036854775808
            · have hk : ok = false := by have h1 := HPS.out; have h2 := HQS.out; rw [HOK.out]; unfold fitsP; simp; omega
              have c6 : (lp == 9223372036854775808) = true := by simpa using c5
              clear c5
              have HK := Lib.hid hk
              clear hk
              go_wp2
              refine bodyPost_ret (v := Value.tuple #[(Value.agg #[Value.int IntKind.i64 (0), Value.int IntKind.i64 ( 0)]), Value.bool false]) (by simp [results, Try.results124, go_sem, R]) rfl ⟨?_, ?_⟩
              · obtain ⟨e1, e2⟩ := HN.out HK.out
                exact ret_red e1.symm e2.symm HK.out.symm
              · exact (HB6.out.setCell (by first | (simp; done) | (simp; omega)) _).setCell (by first | (simp; done) | (simp; omega)) _
            · have hk : ok = true := by have h1 := HPS.out; have h2 := HQS.out; rw [HOK.out]; unfold fitsP; simp; omega
              have c6 : (lp == 9223372036854775808) = false := by simpa using c5
              have c7 : lp ≤ 9223372036854775807 := by omega
              clear c5
              have HK := Lib.hid hk
              clear hk
              go_wp2
              refine bodyPost_ret (v := Value.tuple #[(Value.agg #[Value.int IntKind.i64 (lp), Value.int IntKind.i64 ( lq)]), Value.bool true]) (by simp [results, Try.results124, go_sem, R]) rfl ⟨?_, ?_⟩
              · obtain ⟨e1, e2⟩ := HY.out HK.out
                have h1 := HPS.out
                have h2 := HQS.out
                exact ret_red (by rw [e1]; simp; omega) (by rw [e2]; omega) HK.out.symm
              · exact (HB6.out.setCell (by first | (simp; done) | (simp; omega)) _).setCell (by first | (simp; done) | (simp; omega)) _
          · have hk : ok = true := by have h1 := HPS.out; have h2 := HQS.out; rw [HOK.out]; unfold fitsP; simp; omega
            by_cases c5 : lp = 9223372036854775808
            · subst c5
              have HK := Lib.hid hk
              clear hk
              go_wp2
              refine bodyPost_ret (v := Value.tuple #[(Value.agg #[Value.int IntKind.i64 (-9223372036854775808), Value.int IntKind.i64 ( lq)]), Value.bool true]) (by simp [results, Try.results124, go_sem, R]) rfl ⟨?_, ?_⟩
              · obtain ⟨e1, e2⟩ := HY.out HK.out
                have h1 := HPS.out
                have h2 := HQS.out
                exact ret_red (by rw [e1]; simp; omega) (by rw [e2]; omega) HK.out.symm
              · exact (HB6.out.setCell (by first | (simp; done) | (simp; omega)) _).setCell (by first | (simp; done) | (simp; omega)) _
            · have c6 : (lp == 9223372036854775808) = false := by simpa using c5
              have c7 : lp ≤ 9223372036854775807 := by omega
              clear c5
              have HK := Lib.hid hk
              clear hk
              go_wp2
              refine bodyPost_ret (v := Value.tuple #[(Value.agg #[Value.int IntKind.i64 (-lp), Value.int IntKind.i64 ( lq)]), Value.bool true]) (by simp [results, Try.results124, go_sem, R]) rfl ⟨?_, ?_⟩
              · obtain ⟨e1, e2⟩ := HY.out HK.out
                have h1 := HPS.out
                have h2 := HQS.out
                exact ret_red (by rw [e1]; simp; omega) (by rw [e2]; omega) HK.out.symm
              · exact (HB6.out.setCell (by first | (simp; done) | (simp; omega)) _).setCell (by first | (simp; done) | (simp; omega)) _
        · have hk : ok = false := by have h1 := HPS.out; have h2 := HQS.out; rw [HOK.out]; unfold fitsP; simp; omega
          have HK := Lib.hid hk
          clear hk
          go_wp2
          refine bodyPost_ret (v := Value.tuple #[(Value.agg #[Value.int IntKind.i64 (0), Value.int IntKind.i64 ( 0)]), Value.bool false]) (by simp [results, Try.results124, go_sem, R]) rfl ⟨?_, ?_⟩
          · obtain ⟨e1, e2⟩ := HN.out HK.out
            exact ret_red e1.symm e2.symm HK.out.symm
          · exact (HB6.out.setCell (by first | (simp; done) | (simp; omega)) _).setCell (by first | (simp; done) | (simp; omega)) _
      · have hk : ok = false := by have h1 := HPS.out; have h2 := HQS.out; rw [HOK.out]; unfold fitsP; simp; omega
        have HK := Lib.hid hk
        clear hk
        go_wp2
        refine bodyPost_ret (v := Value.tuple #[(Value.agg #[Value.int IntKind.i64 (0), Value.int IntKind.i64 ( 0)]), Value.bool false]) (by simp [results, Try.results124, go_sem, R]) rfl ⟨?_, ?_⟩
        · obtain ⟨e1, e2⟩ := HN.out HK.out
          exact ret_red e1.symm e2.symm HK.out.symm
        · exact (HB6.out.setCell (by first | (simp; done) | (simp; omega)) _).setCell (by first | (simp; done) | (simp; omega)) _
    · have hk : ok = false := by have h1 := HPS.out; have h2 := HQS.out; rw [HOK.out]; unfold fitsP; simp; omega
      have HK := Lib.hid hk
      clear hk
      go_wp2
      refine bodyPost_ret (v := Value.tuple #[(Value.agg #[Value.int IntKind.i64 (0), Value.int IntKind.i64 ( 0)]), Value.bool false]) (by simp [results, Try.results124, go_sem, R]) rfl ⟨?_, ?_⟩
      · obtain ⟨e1, e2⟩ := HN.out HK.out
        exact ret_red e1.symm e2.symm HK.out.symm
      · exact (HB6.out.setCell (by first | (simp; done) | (simp; omega)) _).setCell (by first | (simp; done) | (simp; omega)) _
  · have hk : ok = false := by have h1 := HPS.out; have h2 := HQS.out; rw [HOK.out]; unfold fitsP; simp; omega
    have HK := Lib.hid hk
    clear hk
    go_wp2
    refine bodyPost_ret (v := Value.tuple #[(Value.agg #[Value.int IntKind.i64 (0), Value.int IntKind.i64 ( 0)]), Value.bool false]) (by simp [results, Try.results124, go_sem, R]) rfl ⟨?_, ?_⟩
    · obtain ⟨e1, e2⟩ := HN.out HK.out
      exact ret_red e1.symm e2.symm HK.out.symm
    · exact (HB6.out.setCell (by first | (simp; done) | (simp; omega)) _).setCell (by first | (simp; done) | (simp; omega)) _
end Go.Proofs.Ytofgjcfiinmimaa.wid
