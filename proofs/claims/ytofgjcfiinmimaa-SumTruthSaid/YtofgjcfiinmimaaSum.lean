/- Contracts of the sums of rational numbers. -/
import Derived.Test.YtofgjcfiinmimaaMgFloor
import Derived.Test.YtofgjcfiinmimaaSteady
import Derived.Deep.DeepCutAuto
namespace Go.Proofs.Ytofgjcfiinmimaa.wid
open Go.RowKit Go.Proofs.Ytofgjcfiinmimaa.mem Go.Proofs.Ytofgjcfiinmimaa.gro
set_option linter.unusedVariables false
def sumN (n d m e : Int) (minus : Bool) : Int := if validQ n d = true ∧ validQ m e = true then rN (n * e + sg minus m * d) (d * e) else 0
def sumD (n d m e : Int) (minus : Bool) : Int := if validQ n d = true ∧ validQ m e = true then rD (n * e + sg minus m * d) (d * e) else 0
def sumOk (n d m e : Int) (minus : Bool) : Bool := validQ n d && validQ m e && rOk (n * e + sg minus m * d) (d * e)
theorem sum_yes {n d m e : Int} {minus : Bool} (hv : validQ n d = true) (hu : validQ m e = true) : sumN n d m e minus = rN (n * e + sg minus m * d) (d * e) ∧ sumD n d m e minus = rD (n * e + sg minus m * d) (d * e) ∧ sumOk n d m e minus = rOk (n * e + sg minus m * d) (d * e) := by
  unfold sumN sumD sumOk
  rw [if_pos ⟨hv, hu⟩, if_pos ⟨hv, hu⟩, hv, hu]
  exact ⟨rfl, rfl, rfl⟩
theorem sum_no {n d m e : Int} {minus : Bool} (h : ¬ (validQ n d = true ∧ validQ m e = true)) : sumN n d m e minus = 0 ∧ sumD n d m e minus = 0 ∧ sumOk n d m e minus = false := by
  unfold sumN sumD sumOk
  rw [if_neg h, if_neg h]
  refine ⟨rfl, rfl, ?_⟩
  cases h1 : validQ n d <;> cases h2 : validQ m e <;> simp_all
theorem prod_at {F : FuncId} (hP : ∀ (x y : Int), 0 ≤ x → x ≤ 18446744073709551615 → 0 ≤ y → y ≤ 18446744073709551615 → ∀ W : World, Calls Try.prog F #[.int .u64 x, .int .u64 y] W fun e w' => e = .returned (Value.agg #[Value.int IntKind.u64 (hi (x.toNat * y.toNat)), Value.int IntKind.u64 (lo (x.toNat * y.toNat))]) ∧ Below W.heap.size W w')
    (n e : Int) (hn : I64 n) (he : I64 e) (he1 : 1 ≤ e) (W : World) : Calls Try.prog F #[.int .u64 n.natAbs, .int .u64 e] W fun x w' => x = .returned (Value.agg #[Value.int IntKind.u64 (hi (n.natAbs * e.natAbs)), Value.int IntKind.u64 (lo (n.natAbs * e.natAbs))]) ∧ Below W.heap.size W w' := by
  have := hP n.natAbs e (by omega) (by unfold I64 at hn; omega) (by omega) (by unfold I64 at he; omega) W
  rwa [Int.toNat_natCast, show e.toNat = e.natAbs by omega] at this
theorem prod_pos {F : FuncId} (hP : ∀ (x y : Int), 0 ≤ x → x ≤ 18446744073709551615 → 0 ≤ y → y ≤ 18446744073709551615 → ∀ W : World, Calls Try.prog F #[.int .u64 x, .int .u64 y] W fun e w' => e = .returned (Value.agg #[Value.int IntKind.u64 (hi (x.toNat * y.toNat)), Value.int IntKind.u64 (lo (x.toNat * y.toNat))]) ∧ Below W.heap.size W w')
    (d e : Int) (hd : I64 d) (he : I64 e) (hd1 : 1 ≤ d) (he1 : 1 ≤ e) (W : World) : Calls Try.prog F #[.int .u64 d, .int .u64 e] W fun x w' => x = .returned (Value.agg #[Value.int IntKind.u64 (hi ((d * e).natAbs)), Value.int IntKind.u64 (lo ((d * e).natAbs))]) ∧ Below W.heap.size W w' := by
  have := hP d e (by omega) (by unfold I64 at hd; omega) (by omega) (by unfold I64 at he; omega) W
  rwa [show d.toNat = d.natAbs by omega, show e.toNat = e.natAbs by omega, ← Int.natAbs_mul] at this
set_option maxHeartbeats 8000000 in
set_option maxRecDepth 100000 in
theorem sum_any (n d m e : Int) (minus : Bool) (hn : I64 n) (hd : I64 d) (hm : I64 m) (he : I64 e) (w : World) :
    Calls Try.prog 118 #[(Value.agg #[Value.int IntKind.i64 (n), Value.int IntKind.i64 ( d)]), (Value.agg #[Value.int IntKind.i64 (m), Value.int IntKind.i64 ( e)]), .bool minus] w fun x w' => x = .returned (.tuple #[(Value.agg #[Value.int IntKind.i64 (sumN n d m e minus), Value.int IntKind.i64 ( sumD n d m e minus)]), .bool (sumOk n d m e minus)]) ∧ Below w.heap.size w w' := by
  have HV := Lib.hid (fun W => Valid_any n d hn hd W)
  have HU := Lib.hid (fun W => Valid_any m e hm he W)
  by_cases hv : validQ n d = true
  · by_cases hu : validQ m e = true
    · rw [hv] at HV
      rw [hu] at HU
      have hd1 := (validQ_iff.1 hv).1
      have he1 := (validQ_iff.1 hu).1
      have HE := Lib.hid (@sum_yes n d m e minus hv hu)
      have HS1 := Lib.hid (fun W => sizeQ_any n W hn.1 hn.2)
      have HS2 := Lib.hid (fun W => sizeQ_any m W hm.1 hm.2)
      have HP1 := Lib.hid (prod_at (F := 85) (fun x y a b c d W => Product_any x y a b c d W) n e hn he he1)
      have HP2 := Lib.hid (prod_at (F := 85) (fun x y a b c d W => Product_any x y a b c d W) m d hm hd hd1)
      have HP3 := Lib.hid (prod_pos (F := 85) (fun x y a b c d W => Product_any x y a b c d W) d e hd he hd1 he1)
      have bX : n.natAbs * e.natAbs ≤ 85070591730234615865843651857942052864 := Nat.mul_le_mul (show n.natAbs ≤ 9223372036854775808 by unfold I64 at hn; omega) (show e.natAbs ≤ 9223372036854775808 by unfold I64 at he; omega)
      have bY : m.natAbs * d.natAbs ≤ 85070591730234615865843651857942052864 := Nat.mul_le_mul (show m.natAbs ≤ 9223372036854775808 by unfold I64 at hm; omega) (show d.natAbs ≤ 9223372036854775808 by unfold I64 at hd; omega)
      have bD : (d * e).natAbs < 340282366920938463463374607431768211456 ∧ 0 < (d * e).natAbs := by
        rw [Int.natAbs_mul]
        have := Nat.mul_le_mul (show d.natAbs ≤ 9223372036854775808 by unfold I64 at hd; omega) (show e.natAbs ≤ 9223372036854775808 by unfold I64 at he; omega)
        have := Nat.mul_pos (show 0 < d.natAbs by omega) (show 0 < e.natAbs by omega)
        omega
      obtain ⟨N, hN⟩ : ∃ N, N = n * e + sg minus m * d := ⟨_, rfl⟩
      have HC := sum_cases (minus := minus) hd1 he1 N hN
      rw [← hN] at HE
      simp only [] at HC
      have hed : d ≤ 9223372036854775807 := hd.2
      have hee : e ≤ 9223372036854775807 := he.2
      obtain ⟨fm, hfm⟩ : ∃ fm, decide (n < 0) = fm := ⟨_, rfl⟩
      obtain ⟨fn, hfn⟩ : ∃ fn, (!(decide (m < 0) == minus)) = fn := ⟨_, rfl⟩
      rw [hfm, hfn] at HC
      clear hN hv hu hn hd hm he
      obtain ⟨D, hD⟩ : ∃ D, d * e = D := ⟨_, rfl⟩
      rw [hD] at HE HP3 bD
      clear hD
      generalize n.natAbs * e.natAbs = X at *
      generalize m.natAbs * d.natAbs = Y at *
      replace HC := Lib.hid HC
      have HRed : Hid (∀ (f : Bool), (N ≠ 0 → f = decide (N < 0)) → ∀ W, Calls Try.prog 133 #[.bool f, (Value.agg #[Value.int IntKind.u64 (hi (N.natAbs)), Value.int IntKind.u64 (lo (N.natAbs))]), (Value.agg #[Value.int IntKind.u64 (hi (D.natAbs)), Value.int IntKind.u64 (lo (D.natAbs))])] W fun x w' => x = .returned (.tuple #[(Value.agg #[Value.int IntKind.i64 (rN N D), Value.int IntKind.i64 ( rD N D)]), .bool (rOk N D)]) ∧ Below W.heap.size W w') := fun f hf W => by
        have h1 := HC.out
        have := reduced_any f N.natAbs D.natAbs (by by_cases h2 : fm = fn <;> by_cases h3 : Y ≤ X <;> simp only [h2, true_implies, ne_eq, not_true_eq_false, false_implies, not_false_eq_true] at h1 <;> omega) bD.1 bD.2 W
        rwa [(red_sign (D := D) hf).1, (red_sign (D := D) hf).2.1, (red_sign (D := D) hf).2.2] at this
      rw [HE.out.1, HE.out.2.1, HE.out.2.2]
      clear HE
      have HNs : Hid (N ≠ 0 → N.natAbs ≠ 0) := fun h => by omega
      generalize rN N D = yn at *
      generalize rD N D = yd at *
      generalize rOk N D = yk at *
      generalize N.natAbs = sN at *
      generalize D.natAbs = sD at *
      generalize n.natAbs = an at *
      generalize m.natAbs = am at *
      go_enter Try.func118, Try.ntmps118
      go_wp2_with fail
      obtain ⟨W0, hW, hs0, K0, B0⟩ := start3 w 41 41 41 #[Value.int IntKind.i64 (n), Value.int IntKind.i64 (d)] #[Value.int IntKind.i64 (m), Value.int IntKind.i64 (e)] #[Value.int IntKind.i64 (0), Value.int IntKind.i64 (0)]
      rw [hW]
      clear hW
      have KK := Lib.hid K0
      have BB := Lib.hid B0
      have sz : w.heap.size + 1 + 1 + 1 ≤ W0.heap.size := by omega
      have R := K0.rules
      simp only [Rules] at R
      clear K0 B0 hs0
      refine (HV.out _).mono ?_
      rintro x w1 ⟨rfl, hb1⟩
      replace BB := Lib.hid (BB.out.trans (hb1.mono BB.out.size))
      replace KK := Lib.hid (KK.out.below hb1)
      replace sz := Nat.le_trans sz hb1.size
      replace R := KK.out.rules
      simp only [Rules] at R
      clear hb1
      go_wp2_with fail
      refine (HU.out _).mono ?_
      rintro x w2 ⟨rfl, hb2⟩
      replace BB := Lib.hid (BB.out.trans (hb2.mono BB.out.size))
      replace KK := Lib.hid (KK.out.below hb2)
      replace sz := Nat.le_trans sz hb2.size
      replace R := KK.out.rules
      simp only [Rules] at R
      clear hb2 HV HU
      go_wp2_with fail
      go_cut [8, 9] (fun s8 s9 wx => ∃ p q : Nat, s8 = .pointer (some ⟨p, 0, none⟩) ∧ s9 = .pointer (some ⟨q, 0, none⟩) ∧ p ≠ q ∧ w.heap.size + 1 + 1 + 1 ≤ p ∧ w.heap.size + 1 + 1 + 1 ≤ q ∧ p < wx.heap.size ∧ q < wx.heap.size ∧ Hid (Below w.heap.size w wx) ∧
        Hid (Bx wx [(q, 99, #[Value.int IntKind.u64 (hi Y), Value.int IntKind.u64 (lo Y)]), (p, 99, #[Value.int IntKind.u64 (hi X), Value.int IntKind.u64 (lo X)]), (w.heap.size + 1 + 1, 41, #[Value.int IntKind.i64 (0), Value.int IntKind.i64 (0)]), (w.heap.size + 1, 41, #[Value.int IntKind.i64 (m), Value.int IntKind.i64 (e)]), (w.heap.size, 41, #[Value.int IntKind.i64 (n), Value.int IntKind.i64 (d)])]))
      case first =>
        (refine gro.wp_region_steady_n 14 4 (by kernel_rfl) (by kernel_rfl) (by intro _ _ _ _ _ h; exact h) (by kernel_rfl) (by kernel_rfl) (by kernel_rfl) ?_; apply Exists.intro; refine ⟨fun w0 hb0 => ?_, ?_⟩; focus (have KZ := (KK.out).below hb0; have RZ := KZ.rules; simp only [gro.Rules] at RZ; simp only [List.take_succ_cons, List.take_zero]; (repeat (go_big_quiet_step ((first | (go_at_call 109; first | (with_reducible exact call_same (HS1.out _)) | (with_reducible exact call_same (HS2.out _))) | (go_at_call 85; first | (with_reducible exact call_grown (HP1.out _)) | (with_reducible exact call_grown (HP2.out _))))))); exact wpQuiet_nil rfl))
        have hBn : w.heap.size + 1 + 1 + 1 ≤ w2.drew.heap.size := sz
        refine gro.anyG_two 14 15 (by kernel_rfl) rfl rfl ?_ ?_
        · intro y1 hz1 K' hK'
          have KY1 := (KK.out).drew.below hz1
          have BY1 := hz1
          go_simp
          refine hK' _ _ ⟨BY1.alloc BY1.size _, ?_⟩
          clear hK' K'
          obtain ⟨p, hp⟩ : ∃ p, y1.heap.size = p := ⟨_, rfl⟩
          have KY2 := KY1.new (t := 99) (c := #[Value.int IntKind.u64 0, Value.int IntKind.u64 0]) hp
          have BY2 := BY1.alloc BY1.size (.cells #[Value.int IntKind.u64 0, Value.int IntKind.u64 0] 99)
          have sY2 : (y1.alloc (.cells #[Value.int IntKind.u64 0, Value.int IntKind.u64 0] 99)).heap.size = p + 1 := by simp [hp]
          have hlp := hz1.size
          rw [hp] at hlp ⊢
          have hmp := hlp
          try simp at hmp
          generalize y1.alloc (.cells #[Value.int IntKind.u64 0, Value.int IntKind.u64 0] 99) = y2 at *
          refine gro.anyG_one 15 (by kernel_rfl) rfl ?_
          intro y3 hz3 K' hK'
          have KY3 := KY2.below hz3
          have BY3 := BY2.trans (hz3.mono BY2.size)
          go_simp
          refine hK' _ _ ⟨BY3.alloc BY3.size _, ?_⟩
          clear hK' K'
          obtain ⟨q, hq⟩ : ∃ q, y3.heap.size = q := ⟨_, rfl⟩
          have hlq := hz3.size
          rw [sY2, hq] at hlq
          rw [hq]
          have KY4 := KY3.new (t := 99) (c := #[Value.int IntKind.u64 0, Value.int IntKind.u64 0]) hq
          have BY4 := BY3.alloc BY3.size (.cells #[Value.int IntKind.u64 0, Value.int IntKind.u64 0] 99)
          have sY4 : (y3.alloc (.cells #[Value.int IntKind.u64 0, Value.int IntKind.u64 0] 99)).heap.size = q + 1 := by simp [hq]
          generalize y3.alloc (.cells #[Value.int IntKind.u64 0, Value.int IntKind.u64 0] 99) = y4 at *
          replace KY4 := KY4.swap
          clear hz1 hz3 KY1 KY2 KY3 BY1 BY2 BY3
          refine gro.anyG_one 16 (by kernel_rfl) rfl ?_
          intro y5 hz5 K' hK'
          have KY5 := KY4.below hz5
          have BY5 := BY4.trans (hz5.mono BY4.size)
          have sY5 := hz5.size
          have RY := KY5.rules
          simp only [gro.Rules] at RY
          go_simp
          refine hK' _ _ ⟨(BY5.setCell (by first | (simp; done) | (simp; omega)) _).setCell (by first | (simp; done) | (simp; omega)) _, ?_⟩
          clear hK' K' RY
          obtain ⟨y6, hy6, KY6, BY6, sY6⟩ := gro.name_world (gro.Bx.put2 (u := .int .u64 (hi X)) (v := .int .u64 (lo X)) KY5 (by first | (simp; done) | (simp; omega))).swap ((BY5.setCell (by first | (simp; done) | (simp; omega)) _).setCell (by first | (simp; done) | (simp; omega)) _) (s := q + 1) (by simp only [gro.set2_size]; omega)
          rw [hy6]
          clear hy6
          refine gro.anyG_one 17 (by kernel_rfl) rfl ?_
          intro y7 hz7 K' hK'
          have KY7 := KY6.below hz7
          have BY7 := BY6.trans (hz7.mono BY6.size)
          have sY7 := hz7.size
          have RY := KY7.rules
          simp only [gro.Rules] at RY
          go_simp
          refine hK' _ _ ⟨(BY7.setCell (by first | (simp; done) | (simp; omega)) _).setCell (by first | (simp; done) | (simp; omega)) _, ?_⟩
          clear hK' K' RY
          obtain ⟨y8, hy8, KY8, BY8, sY8⟩ := gro.name_world (gro.Bx.put2 (u := .int .u64 (hi Y)) (v := .int .u64 (lo Y)) KY7 (by first | (simp; done) | (simp; omega))) ((BY7.setCell (by first | (simp; done) | (simp; omega)) _).setCell (by first | (simp; done) | (simp; omega)) _) (s := q + 1) (by simp only [gro.set2_size]; omega)
          rw [hy8]
          clear hy8
          refine gro.anyG_done (by kernel_rfl) ?_
          intro y9 hz9
          have KP := KY8.below hz9
          have BP := (BB.out).drew.trans ((BY8.trans (hz9.mono BY8.size)).mono (BB.out).size)
          have sP := hz9.size
          clear KY4 BY4 KY5 BY5 KY6 BY6 KY7 BY7 KY8 BY8 hz5 hz7 hz9
          go_wp2_with fail; go_meet; case rel => exact ⟨p, q, rfl, rfl, by omega, by omega, by omega, by omega, by omega, BP, KP⟩
        · intro y1 hz1 K' hK'
          have KY1 := (KK.out).drew.below hz1
          have BY1 := hz1
          go_simp
          refine hK' _ _ ⟨BY1.alloc BY1.size _, ?_⟩
          clear hK' K'
          obtain ⟨q, hq⟩ : ∃ q, y1.heap.size = q := ⟨_, rfl⟩
          have KY2 := KY1.new (t := 99) (c := #[Value.int IntKind.u64 0, Value.int IntKind.u64 0]) hq
          have BY2 := BY1.alloc BY1.size (.cells #[Value.int IntKind.u64 0, Value.int IntKind.u64 0] 99)
          have sY2 : (y1.alloc (.cells #[Value.int IntKind.u64 0, Value.int IntKind.u64 0] 99)).heap.size = q + 1 := by simp [hq]
          have hlq := hz1.size
          rw [hq] at hlq ⊢
          have hmq := hlq
          try simp at hmq
          generalize y1.alloc (.cells #[Value.int IntKind.u64 0, Value.int IntKind.u64 0] 99) = y2 at *
          refine gro.anyG_one 14 (by kernel_rfl) rfl ?_
          intro y3 hz3 K' hK'
          have KY3 := KY2.below hz3
          have BY3 := BY2.trans (hz3.mono BY2.size)
          go_simp
          refine hK' _ _ ⟨BY3.alloc BY3.size _, ?_⟩
          clear hK' K'
          obtain ⟨p, hp⟩ : ∃ p, y3.heap.size = p := ⟨_, rfl⟩
          have hlp := hz3.size
          rw [sY2, hp] at hlp
          rw [hp]
          have KY4 := KY3.new (t := 99) (c := #[Value.int IntKind.u64 0, Value.int IntKind.u64 0]) hp
          have BY4 := BY3.alloc BY3.size (.cells #[Value.int IntKind.u64 0, Value.int IntKind.u64 0] 99)
          have sY4 : (y3.alloc (.cells #[Value.int IntKind.u64 0, Value.int IntKind.u64 0] 99)).heap.size = p + 1 := by simp [hp]
          generalize y3.alloc (.cells #[Value.int IntKind.u64 0, Value.int IntKind.u64 0] 99) = y4 at *
          clear hz1 hz3 KY1 KY2 KY3 BY1 BY2 BY3
          refine gro.anyG_one 16 (by kernel_rfl) rfl ?_
          intro y5 hz5 K' hK'
          have KY5 := KY4.below hz5
          have BY5 := BY4.trans (hz5.mono BY4.size)
          have sY5 := hz5.size
          have RY := KY5.rules
          simp only [gro.Rules] at RY
          go_simp
          refine hK' _ _ ⟨(BY5.setCell (by first | (simp; done) | (simp; omega)) _).setCell (by first | (simp; done) | (simp; omega)) _, ?_⟩
          clear hK' K' RY
          obtain ⟨y6, hy6, KY6, BY6, sY6⟩ := gro.name_world (gro.Bx.put2 (u := .int .u64 (hi X)) (v := .int .u64 (lo X)) KY5 (by first | (simp; done) | (simp; omega))).swap ((BY5.setCell (by first | (simp; done) | (simp; omega)) _).setCell (by first | (simp; done) | (simp; omega)) _) (s := p + 1) (by simp only [gro.set2_size]; omega)
          rw [hy6]
          clear hy6
          refine gro.anyG_one 17 (by kernel_rfl) rfl ?_
          intro y7 hz7 K' hK'
          have KY7 := KY6.below hz7
          have BY7 := BY6.trans (hz7.mono BY6.size)
          have sY7 := hz7.size
          have RY := KY7.rules
          simp only [gro.Rules] at RY
          go_simp
          refine hK' _ _ ⟨(BY7.setCell (by first | (simp; done) | (simp; omega)) _).setCell (by first | (simp; done) | (simp; omega)) _, ?_⟩
          clear hK' K' RY
          obtain ⟨y8, hy8, KY8, BY8, sY8⟩ := gro.name_world (gro.Bx.put2 (u := .int .u64 (hi Y)) (v := .int .u64 (lo Y)) KY7 (by first | (simp; done) | (simp; omega))) ((BY7.setCell (by first | (simp; done) | (simp; omega)) _).setCell (by first | (simp; done) | (simp; omega)) _) (s := p + 1) (by simp only [gro.set2_size]; omega)
          rw [hy8]
          clear hy8
          refine gro.anyG_done (by kernel_rfl) ?_
          intro y9 hz9
          have KP := KY8.below hz9
          have BP := (BB.out).drew.trans ((BY8.trans (hz9.mono BY8.size)).mono (BB.out).size)
          have sP := hz9.size
          clear KY4 BY4 KY5 BY5 KY6 BY6 KY7 BY7 KY8 BY8 hz5 hz7 hz9
          go_wp2_with fail; go_meet; case rel => exact ⟨p, q, rfl, rfl, by omega, by omega, by omega, by omega, by omega, BP, KP⟩
      case rest =>
        obtain ⟨p, q, rfl, rfl, hpq, hp, hq, hpl, hql, HBc, HKc⟩ := hcut
        clear R sz KK BB HS1 HS2 HP1 HP2
        have R := HKc.out.rules
        simp only [Rules] at R
        go_wp2_with fail
        (refine gro.wp_region_grown (by kernel_rfl) (by kernel_rfl) ?_; (repeat (go_big_quiet_step ((fail)))); refine wpQuiet_nil ?_; intro _ hw'; obtain ⟨nx, hw''⟩ := hw'; subst hw'')
        have KK := Lib.hid (HKc.out.below (below_grown wc nx))
        have BB := Lib.hid (HBc.out.trans ((below_grown wc nx).mono HBc.out.size))
        have sz := grown_size wc nx
        clear R HKc HBc
        generalize grown wc nx = W4 at *
        have R := KK.out.rules
        simp only [Rules] at R
        go_wp2_with fail
        (with_reducible refine (HP3.out _).mono ?_)
        rintro x w5 ⟨rfl, hb5⟩
        replace KK := Lib.hid (KK.out.below hb5)
        replace BB := Lib.hid (BB.out.trans (hb5.mono BB.out.size))
        have sz5 := hb5.size
        replace R := KK.out.rules
        simp only [Rules] at R
        obtain ⟨s5, hs5⟩ : ∃ s5, w5.heap.size = s5 := ⟨_, rfl⟩
        rw [hs5] at sz5
        have KD := Lib.hid (KK.out.new (t := 99) (c := #[Value.int IntKind.u64 (hi sD), Value.int IntKind.u64 (lo sD)]) hs5)
        have BD := Lib.hid (BB.out.alloc BB.out.size (.cells #[Value.int IntKind.u64 (hi sD), Value.int IntKind.u64 (lo sD)] 99))
        have szD : s5 + 1 ≤ (w5.alloc (.cells #[Value.int IntKind.u64 (hi sD), Value.int IntKind.u64 (lo sD)] 99)).heap.size := by simp; omega
        clear hb5
        obtain rfl | rfl : fm = fn ∨ fn = !fm := by cases fn <;> cases fm <;> simp
        · obtain ⟨hS, hsg⟩ := HC.out.1 rfl
          have HA : Hid (∀ W, Calls Try.prog 113 #[(Value.agg #[Value.int IntKind.u64 (hi (X)), Value.int IntKind.u64 (lo (X))]), (Value.agg #[Value.int IntKind.u64 (hi (Y)), Value.int IntKind.u64 (lo (Y))])] W fun e w' => e = .returned (.tuple #[(Value.agg #[Value.int IntKind.u64 (hi (sN)), Value.int IntKind.u64 (lo (sN))]), .bool true]) ∧ Below W.heap.size W w') := fun W => by
            have := Add_any X Y (by omega) (by omega) (by omega) W
            rwa [← hS] at this
          have HR := Lib.hid (HRed.out fm hsg)
          clear hS hsg
          go_wp2_with fail
          replace KK := KD
          replace BB := BD
          clear KD BD
          (with_reducible refine (HA.out _).mono ?_)
          rintro x w6 ⟨rfl, hb6⟩
          replace KK := Lib.hid (KK.out.below hb6)
          replace BB := Lib.hid (BB.out.trans (hb6.mono BB.out.size))
          have sz6 := hb6.size
          replace R := KK.out.rules
          simp only [Rules] at R
          obtain ⟨s6, hs6⟩ : ∃ s6, w6.heap.size = s6 := ⟨_, rfl⟩
          clear hb6
          go_wp2_with fail
          replace KK := Lib.hid (KK.out.new (t := 99) (c := #[Value.int IntKind.u64 (hi sN), Value.int IntKind.u64 (lo sN)]) hs6)
          replace BB := Lib.hid (BB.out.alloc BB.out.size (.cells #[Value.int IntKind.u64 (hi sN), Value.int IntKind.u64 (lo sN)] 99))
          (with_reducible refine (HR.out _).mono ?_)
          rintro x w7 ⟨rfl, hb7⟩
          replace KK := Lib.hid (KK.out.below hb7)
          replace BB := Lib.hid (BB.out.trans (hb7.mono BB.out.size))
          replace R := KK.out.rules
          simp only [Rules] at R
          clear hb7
          go_wp2
          refine bodyPost_ret (v := Value.tuple #[(Value.agg #[Value.int IntKind.i64 (yn), Value.int IntKind.i64 ( yd)]), Value.bool yk]) (by simp [results, Try.results118, go_sem, R]) rfl ⟨?_, ?_⟩
          · rfl
          · exact (BB.out.setCell (by first | (simp; done) | (simp; omega)) _).setCell (by first | (simp; done) | (simp; omega)) _
        · have HCm := Lib.hid (fun W => Compare_any X Y W)
          by_cases hle : Y ≤ X
          · have hcm : 0 ≤ cmpN X Y := by unfold cmpN; rw [if_neg (by omega)]; split <;> omega
            generalize cmpN X Y = cm at *
            obtain ⟨hS, hsg⟩ := HC.out.2.1 (by cases fm <;> simp) hle
            have HA : Hid (∀ W, Calls Try.prog 112 #[(Value.agg #[Value.int IntKind.u64 (hi (X)), Value.int IntKind.u64 (lo (X))]), (Value.agg #[Value.int IntKind.u64 (hi (Y)), Value.int IntKind.u64 (lo (Y))])] W fun e w' => e = .returned (.tuple #[(Value.agg #[Value.int IntKind.u64 (hi (sN)), Value.int IntKind.u64 (lo (sN))]), .bool true]) ∧ Below W.heap.size W w') := fun W => by
              have := Sub_any X Y (by omega) hle W
              rwa [← hS] at this
            have HR := Lib.hid (HRed.out fm hsg)
            clear hS hsg
            go_wp2_with fail
            (with_reducible refine (HCm.out _).mono ?_)
            rintro x w8 ⟨rfl, hb8⟩
            replace KK := Lib.hid (KD.out.below hb8)
            replace BB := Lib.hid (BD.out.trans (hb8.mono BD.out.size))
            have sz8 := hb8.size
            replace R := KK.out.rules
            simp only [Rules] at R
            clear hb8 KD BD
            go_wp2_with fail
            (with_reducible refine (HA.out _).mono ?_)
            rintro x w6 ⟨rfl, hb6⟩
            replace KK := Lib.hid (KK.out.below hb6)
            replace BB := Lib.hid (BB.out.trans (hb6.mono BB.out.size))
            have sz6 := hb6.size
            replace R := KK.out.rules
            simp only [Rules] at R
            obtain ⟨s6, hs6⟩ : ∃ s6, w6.heap.size = s6 := ⟨_, rfl⟩
            clear hb6
            go_wp2_with fail
            replace KK := Lib.hid (KK.out.new (t := 99) (c := #[Value.int IntKind.u64 (hi sN), Value.int IntKind.u64 (lo sN)]) hs6)
            replace BB := Lib.hid (BB.out.alloc BB.out.size (.cells #[Value.int IntKind.u64 (hi sN), Value.int IntKind.u64 (lo sN)] 99))
            (with_reducible refine (HR.out _).mono ?_)
            rintro x w7 ⟨rfl, hb7⟩
            replace KK := Lib.hid (KK.out.below hb7)
            replace BB := Lib.hid (BB.out.trans (hb7.mono BB.out.size))
            replace R := KK.out.rules
            simp only [Rules] at R
            clear hb7
            go_wp2
            refine bodyPost_ret (v := Value.tuple #[(Value.agg #[Value.int IntKind.i64 (yn), Value.int IntKind.i64 ( yd)]), Value.bool yk]) (by simp [results, Try.results118, go_sem, R]) rfl ⟨?_, ?_⟩
            · rfl
            · exact (BB.out.setCell (by first | (simp; done) | (simp; omega)) _).setCell (by first | (simp; done) | (simp; omega)) _
          · have hcm : cmpN X Y < 0 := by unfold cmpN; rw [if_pos (by omega)]; omega
            generalize cmpN X Y = cm at *
            obtain ⟨hS, hsg⟩ := HC.out.2.2 (by cases fm <;> simp) (by omega)
            have HA : Hid (∀ W, Calls Try.prog 112 #[(Value.agg #[Value.int IntKind.u64 (hi (Y)), Value.int IntKind.u64 (lo (Y))]), (Value.agg #[Value.int IntKind.u64 (hi (X)), Value.int IntKind.u64 (lo (X))])] W fun e w' => e = .returned (.tuple #[(Value.agg #[Value.int IntKind.u64 (hi (sN)), Value.int IntKind.u64 (lo (sN))]), .bool true]) ∧ Below W.heap.size W w') := fun W => by
              have := Sub_any Y X (by omega) (by omega) W
              rwa [← hS] at this
            have HR := Lib.hid (HRed.out (!fm) hsg)
            clear hS hsg
            go_wp2_with fail
            (with_reducible refine (HCm.out _).mono ?_)
            rintro x w8 ⟨rfl, hb8⟩
            replace KK := Lib.hid (KD.out.below hb8)
            replace BB := Lib.hid (BD.out.trans (hb8.mono BD.out.size))
            have sz8 := hb8.size
            replace R := KK.out.rules
            simp only [Rules] at R
            clear hb8 KD BD
            go_wp2_with fail
            (with_reducible refine (HA.out _).mono ?_)
            rintro x w6 ⟨rfl, hb6⟩
            replace KK := Lib.hid (KK.out.below hb6)
            replace BB := Lib.hid (BB.out.trans (hb6.mono BB.out.size))
            have sz6 := hb6.size
            replace R := KK.out.rules
            simp only [Rules] at R
            obtain ⟨s6, hs6⟩ : ∃ s6, w6.heap.size = s6 := ⟨_, rfl⟩
            clear hb6
            go_wp2_with fail
            replace KK := Lib.hid (KK.out.new (t := 99) (c := #[Value.int IntKind.u64 (hi sN), Value.int IntKind.u64 (lo sN)]) hs6)
            replace BB := Lib.hid (BB.out.alloc BB.out.size (.cells #[Value.int IntKind.u64 (hi sN), Value.int IntKind.u64 (lo sN)] 99))
            (with_reducible refine (HR.out _).mono ?_)
            rintro x w7 ⟨rfl, hb7⟩
            replace KK := Lib.hid (KK.out.below hb7)
            replace BB := Lib.hid (BB.out.trans (hb7.mono BB.out.size))
            replace R := KK.out.rules
            simp only [Rules] at R
            clear hb7
            go_wp2
            refine bodyPost_ret (v := Value.tuple #[(Value.agg #[Value.int IntKind.i64 (yn), Value.int IntKind.i64 ( yd)]), Value.bool yk]) (by simp [results, Try.results118, go_sem, R]) rfl ⟨?_, ?_⟩
            · rfl
            · exact (BB.out.setCell (by first | (simp; done) | (simp; omega)) _).setCell (by first | (simp; done) | (simp; omega)) _
    · have HNo := Lib.hid (@sum_no n d m e minus (by simp [*]))
      rw [HNo.out.1, HNo.out.2.1, HNo.out.2.2]
      clear hn hd hm he
      go_enter Try.func118, Try.ntmps118
      go_wp2_with fail
      obtain ⟨W0, hW, hs0, K0, B0⟩ := start3 w 41 41 41 #[Value.int IntKind.i64 (n), Value.int IntKind.i64 (d)] #[Value.int IntKind.i64 (m), Value.int IntKind.i64 (e)] #[Value.int IntKind.i64 (0), Value.int IntKind.i64 (0)]
      rw [hW]
      clear hW
      have KK := Lib.hid K0
      have BB := Lib.hid B0
      have R := K0.rules
      simp only [Rules] at R
      clear K0 B0 hs0
      rw [hv] at HV
      rw [show validQ m e = false by simpa using hu] at HU
      go_wp2_with (go_at_call 81; first | ((with_reducible refine (HV.out _).mono ?_); rintro e wv ⟨rfl, hbv⟩; replace BB := Lib.hid (BB.out.trans (hbv.mono BB.out.size)); replace KK := Lib.hid (KK.out.below hbv); replace R := KK.out.rules; simp only [gro.Rules] at R; clear hbv) | ((with_reducible refine (HU.out _).mono ?_); rintro e wv ⟨rfl, hbv⟩; replace BB := Lib.hid (BB.out.trans (hbv.mono BB.out.size)); replace KK := Lib.hid (KK.out.below hbv); replace R := KK.out.rules; simp only [gro.Rules] at R; clear hbv))
      refine bodyPost_ret (v := Value.tuple #[(Value.agg #[Value.int IntKind.i64 (0), Value.int IntKind.i64 ( 0)]), Value.bool false]) (by simp [results, Try.results118, go_sem, R]) rfl ⟨?_, ?_⟩
      · rfl
      · exact (BB.out.setCell (by first | (simp; done) | (simp; omega)) _).setCell (by first | (simp; done) | (simp; omega)) _
  · have HNo := Lib.hid (@sum_no n d m e minus (by simp [*]))
    rw [HNo.out.1, HNo.out.2.1, HNo.out.2.2]
    clear hn hd hm he
    go_enter Try.func118, Try.ntmps118
    go_wp2_with fail
    obtain ⟨W0, hW, hs0, K0, B0⟩ := start3 w 41 41 41 #[Value.int IntKind.i64 (n), Value.int IntKind.i64 (d)] #[Value.int IntKind.i64 (m), Value.int IntKind.i64 (e)] #[Value.int IntKind.i64 (0), Value.int IntKind.i64 (0)]
    rw [hW]
    clear hW
    have KK := Lib.hid K0
    have BB := Lib.hid B0
    have R := K0.rules
    simp only [Rules] at R
    clear K0 B0 hs0
    rw [show validQ n d = false by simpa using hv] at HV
    go_wp2_with (go_at_call 81; ((with_reducible refine (HV.out _).mono ?_); rintro e wv ⟨rfl, hbv⟩; replace BB := Lib.hid (BB.out.trans (hbv.mono BB.out.size)); replace KK := Lib.hid (KK.out.below hbv); replace R := KK.out.rules; simp only [gro.Rules] at R; clear hbv))
    refine bodyPost_ret (v := Value.tuple #[(Value.agg #[Value.int IntKind.i64 (0), Value.int IntKind.i64 ( 0)]), Value.bool false]) (by simp [results, Try.results118, go_sem, R]) rfl ⟨?_, ?_⟩
    · rfl
    · exact (BB.out.setCell (by first | (simp; done) | (simp; omega)) _).setCell (by first | (simp; done) | (simp; omega)) _
end Go.Proofs.Ytofgjcfiinmimaa.wid
