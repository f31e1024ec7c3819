/- Contract of width of bounds in the code. -/
import Derived.Test.YtofgjcfiinmimaaMgHold
import Derived.Test.YtofgjcfiinmimaaSum
namespace Go.Proofs.Ytofgjcfiinmimaa.wid
open Go.RowKit Go.Proofs.Ytofgjcfiinmimaa.mem Go.Proofs.Ytofgjcfiinmimaa.gro
set_option linter.unusedVariables false
set_option linter.unusedSimpArgs false
def wdN (a0 a1 c0 c1 : Int) : Nat := (c0 * a1 - a0 * c1).toNat
theorem wd_facts {a0 a1 c0 c1 : Int} (h1 : 1 ≤ a1) (h2 : 1 ≤ c1) (h : a0 * c1 ≤ c0 * a1) :
    (c0 < 0 → c0.natAbs * a1.natAbs ≤ a0.natAbs * c1.natAbs ∧ wdN a0 a1 c0 c1 = a0.natAbs * c1.natAbs - c0.natAbs * a1.natAbs) ∧
    (¬ c0 < 0 → a0 < 0 → wdN a0 a1 c0 c1 = c0.natAbs * a1.natAbs + a0.natAbs * c1.natAbs) ∧
    (¬ c0 < 0 → ¬ a0 < 0 → a0.natAbs * c1.natAbs ≤ c0.natAbs * a1.natAbs ∧ wdN a0 a1 c0 c1 = c0.natAbs * a1.natAbs - a0.natAbs * c1.natAbs) := by
  unfold wdN
  obtain ⟨p1, p2⟩ := @sign_mul_pos c0 a1 h1
  obtain ⟨r1, r2⟩ := @sign_mul_pos a0 c1 h2
  rw [← Int.natAbs_mul, ← Int.natAbs_mul]
  generalize c0 * a1 = P at *
  generalize a0 * c1 = Q at *
  omega
set_option maxHeartbeats 4000000 in
set_option maxRecDepth 100000 in
theorem width_any (a0 a1 b0 b1 c0 c1 : Int) (ha0 : I64 a0) (ha1 : I64 a1) (hc0 : I64 c0) (hc1 : I64 c1) (hd1 : 1 ≤ a1) (he1 : 1 ≤ c1) (hle : a0 * c1 ≤ c0 * a1) (w : World) :
    Calls Try.prog 83 #[Value.agg #[Value.int IntKind.i64 a0, Value.int IntKind.i64 a1, Value.int IntKind.i64 b0, Value.int IntKind.i64 b1, Value.int IntKind.i64 c0, Value.int IntKind.i64 c1]] w fun x w' => x = .returned (Value.agg #[Value.int IntKind.u64 (hi (wdN a0 a1 c0 c1)), Value.int IntKind.u64 (lo (wdN a0 a1 c0 c1))]) ∧ Below w.heap.size w w' := by
  have HF := wd_facts hd1 he1 hle
  have HS1 := Lib.hid (fun W => sizeB_any c0 W hc0.1 hc0.2)
  have HS2 := Lib.hid (fun W => sizeB_any a0 W ha0.1 ha0.2)
  have HP1 := Lib.hid (prod_at (F := 85) (fun x y a b c d W => Product_any x y a b c d W) c0 a1 hc0 ha1 hd1)
  have HP2 := Lib.hid (prod_at (F := 85) (fun x y a b c d W => Product_any x y a b c d W) a0 c1 ha0 hc1 he1)
  have bX : c0.natAbs * a1.natAbs ≤ 85070591730234615865843651857942052864 := Nat.mul_le_mul (show c0.natAbs ≤ 9223372036854775808 by unfold I64 at hc0; omega) (show a1.natAbs ≤ 9223372036854775808 by unfold I64 at ha1; omega)
  have bY : a0.natAbs * c1.natAbs ≤ 85070591730234615865843651857942052864 := Nat.mul_le_mul (show a0.natAbs ≤ 9223372036854775808 by unfold I64 at ha0; omega) (show c1.natAbs ≤ 9223372036854775808 by unfold I64 at hc1; omega)
  have hed : a1 ≤ 9223372036854775807 := ha1.2
  have hee : c1 ≤ 9223372036854775807 := hc1.2
  clear ha0 ha1 hc0 hc1 hle
  generalize wdN a0 a1 c0 c1 = N at *
  generalize c0.natAbs * a1.natAbs = X at *
  generalize a0.natAbs * c1.natAbs = Y at *
  generalize c0.natAbs = an at *
  generalize a0.natAbs = am at *
  obtain ⟨F, hFn, hF⟩ : ∃ F : Hid (∀ W, (c0 < 0 → Calls Try.prog 112 #[(Value.agg #[Value.int IntKind.u64 (hi (Y)), Value.int IntKind.u64 (lo (Y))]), (Value.agg #[Value.int IntKind.u64 (hi (X)), Value.int IntKind.u64 (lo (X))])] W fun e w' => e = .returned (.tuple #[(Value.agg #[Value.int IntKind.u64 (hi (N)), Value.int IntKind.u64 (lo (N))]), .bool true]) ∧ Below W.heap.size W w') ∧
      (¬ c0 < 0 → a0 < 0 → Calls Try.prog 113 #[(Value.agg #[Value.int IntKind.u64 (hi (X)), Value.int IntKind.u64 (lo (X))]), (Value.agg #[Value.int IntKind.u64 (hi (Y)), Value.int IntKind.u64 (lo (Y))])] W fun e w' => e = .returned (.tuple #[(Value.agg #[Value.int IntKind.u64 (hi (N)), Value.int IntKind.u64 (lo (N))]), .bool true]) ∧ Below W.heap.size W w') ∧
      (¬ c0 < 0 → ¬ a0 < 0 → Calls Try.prog 112 #[(Value.agg #[Value.int IntKind.u64 (hi (X)), Value.int IntKind.u64 (lo (X))]), (Value.agg #[Value.int IntKind.u64 (hi (Y)), Value.int IntKind.u64 (lo (Y))])] W fun e w' => e = .returned (.tuple #[(Value.agg #[Value.int IntKind.u64 (hi (N)), Value.int IntKind.u64 (lo (N))]), .bool true]) ∧ Below W.heap.size W w')), True ∧ True := by
    refine ⟨fun W => ⟨fun h => ?_, fun h h2 => ?_, fun h h2 => ?_⟩, trivial, trivial⟩
    · obtain ⟨e1, e2⟩ := HF.1 h
      rw [e2]; exact Sub_any Y X (by omega) e1 W
    · rw [HF.2.1 h h2]; exact Add_any X Y (by omega) (by omega) (by omega) W
    · obtain ⟨e1, e2⟩ := HF.2.2 h h2
      rw [e2]; exact Sub_any X Y (by omega) e1 W
  clear hFn hF HF bX bY
  go_enter Try.func83, Try.ntmps83
  go_wp2_with fail
  obtain ⟨W0, hW, hs0, K0, B0⟩ := start2 w 43 99 #[Value.int IntKind.i64 a0, Value.int IntKind.i64 a1, Value.int IntKind.i64 b0, Value.int IntKind.i64 b1, Value.int IntKind.i64 c0, Value.int IntKind.i64 c1] #[Value.int IntKind.u64 0, Value.int IntKind.u64 0]
  rw [hW]
  clear hW
  have KK := Lib.hid K0
  have BB := Lib.hid B0
  have sz : w.heap.size + 1 + 1 ≤ W0.heap.size := by omega
  have R := K0.rules
  simp only [Rules] at R
  clear K0 B0 hs0
  go_cut [3, 4] (fun s8 s9 wx => ∃ p q : Nat, s8 = .pointer (some ⟨p, 0, none⟩) ∧ s9 = .pointer (some ⟨q, 0, none⟩) ∧ p ≠ q ∧ w.heap.size + 1 + 1 ≤ p ∧ w.heap.size + 1 + 1 ≤ q ∧ p < wx.heap.size ∧ q < wx.heap.size ∧ Hid (Below w.heap.size w wx) ∧
    Hid (Bx wx [(q, 99, #[Value.int IntKind.u64 (hi Y), Value.int IntKind.u64 (lo Y)]), (p, 99, #[Value.int IntKind.u64 (hi X), Value.int IntKind.u64 (lo X)]), (w.heap.size + 1, 99, #[Value.int IntKind.u64 0, Value.int IntKind.u64 0]), (w.heap.size, 43, #[Value.int IntKind.i64 a0, Value.int IntKind.i64 a1, Value.int IntKind.i64 b0, Value.int IntKind.i64 b1, Value.int IntKind.i64 c0, Value.int IntKind.i64 c1])]))
  case first =>
    (refine gro.wp_region_steady_n 18 4 (by kernel_rfl) (by kernel_rfl) (by intro _ _ _ _ _ h; exact h) (by kernel_rfl) (by kernel_rfl) (by kernel_rfl) ?_; apply Exists.intro; refine ⟨fun w0 hb0 => ?_, ?_⟩; focus (have KZ := (KK.out).below hb0; have RZ := KZ.rules; simp only [gro.Rules] at RZ; simp only [List.take_succ_cons, List.take_zero]; (repeat (go_big_quiet_step ((first | (go_at_call 111; first | (with_reducible exact call_same (HS1.out _)) | (with_reducible exact call_same (HS2.out _))) | (go_at_call 85; first | (with_reducible exact call_grown (HP1.out _)) | (with_reducible exact call_grown (HP2.out _))))))); exact wpQuiet_nil rfl))
    have hBn : w.heap.size + 1 + 1 ≤ W0.drew.heap.size := sz
    refine gro.anyG_two 18 19 (by kernel_rfl) rfl rfl ?_ ?_
    · intro y1 hz1 K' hK'
      have KY1 := (KK.out).drew.below hz1
      have BY1 := hz1
      go_simp
      refine hK' _ _ ⟨BY1.alloc BY1.size _, ?_⟩
      clear hK' K'
      obtain ⟨p, hp⟩ : ∃ p, y1.heap.size = p := ⟨_, rfl⟩
      have KY2 := KY1.new (t := 99) (c := #[Value.int IntKind.u64 0, Value.int IntKind.u64 0]) hp
      have BY2 := BY1.alloc BY1.size (.cells #[Value.int IntKind.u64 0, Value.int IntKind.u64 0] 99)
      have sY2 : (y1.alloc (.cells #[Value.int IntKind.u64 0, Value.int IntKind.u64 0] 99)).heap.size = p + 1 := by simp [hp]
      have hlp := hz1.size
      rw [hp] at hlp ⊢
      have hmp := hlp
      try simp at hmp
      generalize y1.alloc (.cells #[Value.int IntKind.u64 0, Value.int IntKind.u64 0] 99) = y2 at *
      refine gro.anyG_one 19 (by kernel_rfl) rfl ?_
      intro y3 hz3 K' hK'
      have KY3 := KY2.below hz3
      have BY3 := BY2.trans (hz3.mono BY2.size)
      go_simp
      refine hK' _ _ ⟨BY3.alloc BY3.size _, ?_⟩
      clear hK' K'
      obtain ⟨q, hq⟩ : ∃ q, y3.heap.size = q := ⟨_, rfl⟩
      have hlq := hz3.size
      rw [sY2, hq] at hlq
      rw [hq]
      have KY4 := KY3.new (t := 99) (c := #[Value.int IntKind.u64 0, Value.int IntKind.u64 0]) hq
      have BY4 := BY3.alloc BY3.size (.cells #[Value.int IntKind.u64 0, Value.int IntKind.u64 0] 99)
      have sY4 : (y3.alloc (.cells #[Value.int IntKind.u64 0, Value.int IntKind.u64 0] 99)).heap.size = q + 1 := by simp [hq]
      generalize y3.alloc (.cells #[Value.int IntKind.u64 0, Value.int IntKind.u64 0] 99) = y4 at *
      replace KY4 := KY4.swap
      clear hz1 hz3 KY1 KY2 KY3 BY1 BY2 BY3
      refine gro.anyG_one 20 (by kernel_rfl) rfl ?_
      intro y5 hz5 K' hK'
      have KY5 := KY4.below hz5
      have BY5 := BY4.trans (hz5.mono BY4.size)
      have sY5 := hz5.size
      have RY := KY5.rules
      simp only [gro.Rules] at RY
      go_simp
      refine hK' _ _ ⟨(BY5.setCell (by first | (simp; done) | (simp; omega)) _).setCell (by first | (simp; done) | (simp; omega)) _, ?_⟩
      clear hK' K' RY
      obtain ⟨y6, hy6, KY6, BY6, sY6⟩ := gro.name_world (gro.Bx.put2 (u := .int .u64 (hi X)) (v := .int .u64 (lo X)) KY5 (by first | (simp; done) | (simp; omega))).swap ((BY5.setCell (by first | (simp; done) | (simp; omega)) _).setCell (by first | (simp; done) | (simp; omega)) _) (s := q + 1) (by simp only [gro.set2_size]; omega)
      rw [hy6]
      clear hy6
      refine gro.anyG_one 21 (by kernel_rfl) rfl ?_
      intro y7 hz7 K' hK'
      have KY7 := KY6.below hz7
      have BY7 := BY6.trans (hz7.mono BY6.size)
      have sY7 := hz7.size
      have RY := KY7.rules
      simp only [gro.Rules] at RY
      go_simp
      refine hK' _ _ ⟨(BY7.setCell (by first | (simp; done) | (simp; omega)) _).setCell (by first | (simp; done) | (simp; omega)) _, ?_⟩
      clear hK' K' RY
      obtain ⟨y8, hy8, KY8, BY8, sY8⟩ := gro.name_world (gro.Bx.put2 (u := .int .u64 (hi Y)) (v := .int .u64 (lo Y)) KY7 (by first | (simp; done) | (simp; omega))) ((BY7.setCell (by first | (simp; done) | (simp; omega)) _).setCell (by first | (simp; done) | (simp; omega)) _) (s := q + 1) (by simp only [gro.set2_size]; omega)
      rw [hy8]
      clear hy8
      refine gro.anyG_done (by kernel_rfl) ?_
      intro y9 hz9
      have KP := KY8.below hz9
      have BP := (BB.out).drew.trans ((BY8.trans (hz9.mono BY8.size)).mono (BB.out).size)
      have sP := hz9.size
      clear KY4 BY4 KY5 BY5 KY6 BY6 KY7 BY7 KY8 BY8 hz5 hz7 hz9
      go_wp2_with fail; go_meet; case rel => exact ⟨p, q, rfl, rfl, by omega, by omega, by omega, by omega, by omega, BP, KP⟩
    · intro y1 hz1 K' hK'
      have KY1 := (KK.out).drew.below hz1
      have BY1 := hz1
      go_simp
      refine hK' _ _ ⟨BY1.alloc BY1.size _, ?_⟩
      clear hK' K'
      obtain ⟨q, hq⟩ : ∃ q, y1.heap.size = q := ⟨_, rfl⟩
      have KY2 := KY1.new (t := 99) (c := #[Value.int IntKind.u64 0, Value.int IntKind.u64 0]) hq
      have BY2 := BY1.alloc BY1.size (.cells #[Value.int IntKind.u64 0, Value.int IntKind.u64 0] 99)
      have sY2 : (y1.alloc (.cells #[Value.int IntKind.u64 0, Value.int IntKind.u64 0] 99)).heap.size = q + 1 := by simp [hq]
      have hlq := hz1.size
      rw [hq] at hlq ⊢
      have hmq := hlq
      try simp at hmq
      generalize y1.alloc (.cells #[Value.int IntKind.u64 0, Value.int IntKind.u64 0] 99) = y2 at *
      refine gro.anyG_one 18 (by kernel_rfl) rfl ?_
      intro y3 hz3 K' hK'
      have KY3 := KY2.below hz3
      have BY3 := BY2.trans (hz3.mono BY2.size)
      go_simp
      refine hK' _ _ ⟨BY3.alloc BY3.size _, ?_⟩
      clear hK' K'
      obtain ⟨p, hp⟩ : ∃ p, y3.heap.size = p := ⟨_, rfl⟩
      have hlp := hz3.size
      rw [sY2, hp] at hlp
      rw [hp]
      have KY4 := KY3.new (t := 99) (c := #[Value.int IntKind.u64 0, Value.int IntKind.u64 0]) hp
      have BY4 := BY3.alloc BY3.size (.cells #[Value.int IntKind.u64 0, Value.int IntKind.u64 0] 99)
      have sY4 : (y3.alloc (.cells #[Value.int IntKind.u64 0, Value.int IntKind.u64 0] 99)).heap.size = p + 1 := by simp [hp]
      generalize y3.alloc (.cells #[Value.int IntKind.u64 0, Value.int IntKind.u64 0] 99) = y4 at *
      clear hz1 hz3 KY1 KY2 KY3 BY1 BY2 BY3
      refine gro.anyG_one 20 (by kernel_rfl) rfl ?_
      intro y5 hz5 K' hK'
      have KY5 := KY4.below hz5
      have BY5 := BY4.trans (hz5.mono BY4.size)
      have sY5 := hz5.size
      have RY := KY5.rules
      simp only [gro.Rules] at RY
      go_simp
      refine hK' _ _ ⟨(BY5.setCell (by first | (simp; done) | (simp; omega)) _).setCell (by first | (simp; done) | (simp; omega)) _, ?_⟩
      clear hK' K' RY
      obtain ⟨y6, hy6, KY6, BY6, sY6⟩ := gro.name_world (gro.Bx.put2 (u := .int .u64 (hi X)) (v := .int .u64 (lo X)) KY5 (by first | (simp; done) | (simp; omega))).swap ((BY5.setCell (by first | (simp; done) | (simp; omega)) _).setCell (by first | (simp; done) | (simp; omega)) _) (s := p + 1) (by simp only [gro.set2_size]; omega)
      rw [hy6]
      clear hy6
      refine gro.anyG_one 21 (by kernel_rfl) rfl ?_
      intro y7 hz7 K' hK'
      have KY7 := KY6.below hz7
      have BY7 := BY6.trans (hz7.mono BY6.size)
      have sY7 := hz7.size
      have RY := KY7.rules
      simp only [gro.Rules] at RY
      go_simp
      refine hK' _ _ ⟨(BY7.setCell (by first | (simp; done) | (simp; omega)) _).setCell (by first | (simp; done) | (simp; omega)) _, ?_⟩
      clear hK' K' RY
      obtain ⟨y8, hy8, KY8, BY8, sY8⟩ := gro.name_world (gro.Bx.put2 (u := .int .u64 (hi Y)) (v := .int .u64 (lo Y)) KY7 (by first | (simp; done) | (simp; omega))) ((BY7.setCell (by first | (simp; done) | (simp; omega)) _).setCell (by first | (simp; done) | (simp; omega)) _) (s := p + 1) (by simp only [gro.set2_size]; omega)
      rw [hy8]
      clear hy8
      refine gro.anyG_done (by kernel_rfl) ?_
      intro y9 hz9
      have KP := KY8.below hz9
      have BP := (BB.out).drew.trans ((BY8.trans (hz9.mono BY8.size)).mono (BB.out).size)
      have sP := hz9.size
      clear KY4 BY4 KY5 BY5 KY6 BY6 KY7 BY7 KY8 BY8 hz5 hz7 hz9
      go_wp2_with fail; go_meet; case rel => exact ⟨p, q, rfl, rfl, by omega, by omega, by omega, by omega, by omega, BP, KP⟩
  case rest =>
    obtain ⟨p, q, rfl, rfl, hpq, hp, hq, hpl, hql, HBc, HKc⟩ := hcut
    clear R sz KK BB HS1 HS2 HP1 HP2
    obtain ⟨s5, hs5⟩ : ∃ s5, wc.heap.size = s5 := ⟨_, rfl⟩
    have KK := Lib.hid (HKc.out.new (t := 99) (c := #[Value.int IntKind.u64 0, Value.int IntKind.u64 0]) hs5)
    have BB := Lib.hid (HBc.out.alloc HBc.out.size (.cells #[Value.int IntKind.u64 0, Value.int IntKind.u64 0] 99))
    have R := KK.out.rules
    simp only [Rules] at R
    clear HKc HBc
    by_cases c1n : c0 < 0
    · have HA : Hid (∀ W, Calls Try.prog 112 #[(Value.agg #[Value.int IntKind.u64 (hi (Y)), Value.int IntKind.u64 (lo (Y))]), (Value.agg #[Value.int IntKind.u64 (hi (X)), Value.int IntKind.u64 (lo (X))])] W fun e w' => e = .returned (.tuple #[(Value.agg #[Value.int IntKind.u64 (hi (N)), Value.int IntKind.u64 (lo (N))]), .bool true]) ∧ Below W.heap.size W w') := fun W => (F.out W).1 (by omega)
      clear F
      go_wp2_with fail
      (with_reducible refine (HA.out _).mono ?_)
      rintro e wv ⟨rfl, hbv⟩; replace BB := Lib.hid (BB.out.trans (hbv.mono BB.out.size)); replace KK := Lib.hid (KK.out.below hbv); replace R := KK.out.rules; simp only [gro.Rules] at R; clear hbv
      go_wp2
      refine bodyPost_ret (v := (Value.agg #[Value.int IntKind.u64 (hi (N)), Value.int IntKind.u64 (lo (N))])) (by simp [results, Try.results83, go_sem, R]) rfl ⟨rfl, ?_⟩
      exact (((BB.out.setCell (by first | (simp; done) | (simp; omega)) _).setCell (by first | (simp; done) | (simp; omega)) _).setCell (by first | (simp; done) | (simp; omega)) _).setCell (by first | (simp; done) | (simp; omega)) _
    · by_cases c2n : a0 < 0
      · have HA : Hid (∀ W, Calls Try.prog 113 #[(Value.agg #[Value.int IntKind.u64 (hi (X)), Value.int IntKind.u64 (lo (X))]), (Value.agg #[Value.int IntKind.u64 (hi (Y)), Value.int IntKind.u64 (lo (Y))])] W fun e w' => e = .returned (.tuple #[(Value.agg #[Value.int IntKind.u64 (hi (N)), Value.int IntKind.u64 (lo (N))]), .bool true]) ∧ Below W.heap.size W w') := fun W => (F.out W).2.1 (by omega) (by omega)
        clear F
        go_wp2_with fail
        (with_reducible refine (HA.out _).mono ?_)
        rintro e wv ⟨rfl, hbv⟩; replace BB := Lib.hid (BB.out.trans (hbv.mono BB.out.size)); replace KK := Lib.hid (KK.out.below hbv); replace R := KK.out.rules; simp only [gro.Rules] at R; clear hbv
        go_wp2
        refine bodyPost_ret (v := (Value.agg #[Value.int IntKind.u64 (hi (N)), Value.int IntKind.u64 (lo (N))])) (by simp [results, Try.results83, go_sem, R]) rfl ⟨rfl, ?_⟩
        exact (((BB.out.setCell (by first | (simp; done) | (simp; omega)) _).setCell (by first | (simp; done) | (simp; omega)) _).setCell (by first | (simp; done) | (simp; omega)) _).setCell (by first | (simp; done) | (simp; omega)) _
      · have HA : Hid (∀ W, Calls Try.prog 112 #[(Value.agg #[Value.int IntKind.u64 (hi (X)), Value.int IntKind.u64 (lo (X))]), (Value.agg #[Value.int IntKind.u64 (hi (Y)), Value.int IntKind.u64 (lo (Y))])] W fun e w' => e = .returned (.tuple #[(Value.agg #[Value.int IntKind.u64 (hi (N)), Value.int IntKind.u64 (lo (N))]), .bool true]) ∧ Below W.heap.size W w') := fun W => (F.out W).2.2 (by omega) (by omega)
        clear F
        go_wp2_with fail
        (with_reducible refine (HA.out _).mono ?_)
        rintro e wv ⟨rfl, hbv⟩; replace BB := Lib.hid (BB.out.trans (hbv.mono BB.out.size)); replace KK := Lib.hid (KK.out.below hbv); replace R := KK.out.rules; simp only [gro.Rules] at R; clear hbv
        go_wp2
        refine bodyPost_ret (v := (Value.agg #[Value.int IntKind.u64 (hi (N)), Value.int IntKind.u64 (lo (N))])) (by simp [results, Try.results83, go_sem, R]) rfl ⟨rfl, ?_⟩
        exact (((BB.out.setCell (by first | (simp; done) | (simp; omega)) _).setCell (by first | (simp; done) | (simp; omega)) _).setCell (by first | (simp; done) | (simp; omega)) _).setCell (by first | (simp; done) | (simp; omega)) _
end Go.Proofs.Ytofgjcfiinmimaa.wid
