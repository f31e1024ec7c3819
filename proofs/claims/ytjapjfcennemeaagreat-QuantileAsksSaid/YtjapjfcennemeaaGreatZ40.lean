/- Div: proved here in one text, no conditions beyond those that each theorem states. -/
import Derived.Test.YtjapjfcennemeaaGreatZ39
import Derived.Test.YtjapjfcennemeaaGreatZ15
set_option linter.unusedVariables false
set_option linter.unusedSimpArgs false
namespace Go.Proofs.YtjapjfcennemeaaGreat.wid
open Go.RowKit Go.Proofs.YtjapjfcennemeaaGreat.mem Go.Proofs.YtjapjfcennemeaaGreat.gro
set_option linter.unusedVariables false
set_option linter.unusedSimpArgs false
def bitsW (a : Nat) : Nat := if 18446744073709551616 ≤ a then 64 + Lib.bitLen (a / 18446744073709551616) else Lib.bitLen a
theorem bitsW_lt {a : Nat} (h : a < 340282366920938463463374607431768211456) : bitsW a ≤ 128 ∧ a < 2 ^ bitsW a := by
  unfold bitsW
  split
  · have h1 := num.bitLen_le64 (a / 18446744073709551616)
    have h2 : a / 18446744073709551616 < 2 ^ Lib.bitLen (a / 18446744073709551616) := bits_spec _ 64 (by omega)
    refine ⟨by omega, ?_⟩
    rw [Nat.pow_add]
    omega
  · have h1 := num.bitLen_le64 a
    exact ⟨by omega, bits_spec _ 64 (by omega)⟩
set_option maxHeartbeats 1000000 in
theorem Bits_any (a : Nat) (w : World) (ha : a < 340282366920938463463374607431768211456) :
    Calls Tryz.prog 84 #[(Value.agg #[Value.int IntKind.u64 (hi (a)), Value.int IntKind.u64 (lo (a))])] w fun e w' => e = .returned (.int .i64 (bitsW a)) ∧ Below w.heap.size w w' := by
  have hb1 := hi_bd ha
  have hb2 := lo_bd a
  have HB : Hid (∀ o : Obj, Below w.heap.size w (w.alloc o)) := fun o => (Below.refl _ _).alloc (Nat.le_refl _) _
  by_cases hc : 18446744073709551616 ≤ a
  · have hN : hi a = ((a / 18446744073709551616 : Nat) : Int) := rfl
    have h0 : 1 ≤ hi a := by omega
    have hr : Hid (bitsW a = 64 + Lib.bitLen (a / 18446744073709551616)) := by unfold bitsW; rw [Hid, if_pos hc]
    have hl := num.bitLen_le64 (a / 18446744073709551616)
    have HC := Lib.hid (fun W => num.Len64_any (hi a) W hb1.1 hb1.2)
    rw [show (hi a).toNat = a / 18446744073709551616 by omega] at HC
    generalize Lib.bitLen (a / 18446744073709551616) = m at *
    clear hN hc
    generalize hi a = h at *
    generalize lo a = l at *
    go_enter Tryz.func84, Tryz.ntmps84
    go_wp2_with (go_at_call 80; refine (HC.out _).mono ?_; rintro e w' ⟨rfl, rfl⟩)
    go_ret
    exact ⟨ret_int (by rw [hr.out]; omega), HB.out _⟩
  · have hN : lo a = (a : Int) := lo_small (by omega)
    have h0 : hi a = 0 := hi_small (by omega)
    have hr : Hid (bitsW a = Lib.bitLen a) := by unfold bitsW; rw [Hid, if_neg hc]
    have HC := Lib.hid (fun W => num.Len64_any (lo a) W hb2.1 hb2.2)
    rw [show (lo a).toNat = a by omega] at HC
    rw [h0]
    generalize Lib.bitLen a = m at *
    clear hN hc h0
    generalize lo a = l at *
    go_enter Tryz.func84, Tryz.ntmps84
    go_wp2_with (go_at_call 80; refine (HC.out _).mono ?_; rintro e w' ⟨rfl, rfl⟩)
    go_ret
    exact ⟨ret_int (by rw [hr.out]), HB.out _⟩
def divq (a b : Nat) : Nat := if b = 0 then 0 else a / b
def divr (a b : Nat) : Nat := if b = 0 then 0 else a % b
set_option maxHeartbeats 4000000 in
set_option maxRecDepth 100000 in
theorem Div_any (a b : Nat) (w : World) (ha : a < 340282366920938463463374607431768211456) (hb : b < 340282366920938463463374607431768211456) :
    Calls Tryz.prog 54 #[(Value.agg #[Value.int IntKind.u64 (hi (a)), Value.int IntKind.u64 (lo (a))]), (Value.agg #[Value.int IntKind.u64 (hi (b)), Value.int IntKind.u64 (lo (b))])] w fun e w' => e = .returned (.tuple #[(Value.agg #[Value.int IntKind.u64 (hi (divq a b)), Value.int IntKind.u64 (lo (divq a b))]), (Value.agg #[Value.int IntKind.u64 (hi (divr a b)), Value.int IntKind.u64 (lo (divr a b))]), .bool (decide (b ≠ 0))]) ∧ Below w.heap.size w w' := by
  have HZ := Lib.hid (fun W => zero_any b W)
  have HB := Lib.hid (fun W => Bits_any a W ha)
  by_cases h0 : b = 0
  · subst h0
    rw [decide_eq_true rfl] at HZ
    go_enter Tryz.func54, Tryz.ntmps54
    go_wp2_with fail
    obtain ⟨W0, hW, hs0, K0, B0⟩ := start4 w 84 84 84 84 #[Value.int IntKind.u64 (hi a), Value.int IntKind.u64 (lo a)] #[Value.int IntKind.u64 (hi 0), Value.int IntKind.u64 (lo 0)] #[Value.int IntKind.u64 0, Value.int IntKind.u64 0] #[Value.int IntKind.u64 0, Value.int IntKind.u64 0]
    rw [hW]
    clear hW
    refine (HZ.out _).mono ?_
    rintro e w1 ⟨rfl, hb1⟩
    obtain ⟨K1, B1, z1⟩ := K0.call B0 (by omega) hb1
    rw [hs0] at z1
    have R := K1.rules
    simp only [Rules] at R
    have HK := Lib.hid K1
    have HBl := Lib.hid B1
    clear K0 K1 B0 B1 hb1 hs0
    go_wp2
    refine bodyPost_ret (v := Value.tuple #[Value.agg #[Value.int IntKind.u64 0, Value.int IntKind.u64 0], Value.agg #[Value.int IntKind.u64 0, Value.int IntKind.u64 0], Value.bool false]) (by simp [results, Tryz.results54, go_sem, R]) rfl ⟨?_, ?_⟩
    · rw [show divq a 0 = 0 from rfl, show divr a 0 = 0 from rfl]; rfl
    · exact (((HBl.out.setCell (by first | (simp; done) | (simp; omega)) _).setCell (by first | (simp; done) | (simp; omega)) _).setCell (by first | (simp; done) | (simp; omega)) _).setCell (by first | (simp; done) | (simp; omega)) _
  · rw [decide_eq_false h0] at HZ
    have hbl := bitsW_lt ha
    go_enter Tryz.func54, Tryz.ntmps54
    go_wp2_with fail
    obtain ⟨W0, hW, hs0, K0, B0⟩ := start4 w 84 84 84 84 #[Value.int IntKind.u64 (hi a), Value.int IntKind.u64 (lo a)] #[Value.int IntKind.u64 (hi b), Value.int IntKind.u64 (lo b)] #[Value.int IntKind.u64 0, Value.int IntKind.u64 0] #[Value.int IntKind.u64 0, Value.int IntKind.u64 0]
    rw [hW]
    clear hW
    refine (HZ.out _).mono ?_
    rintro e w1 ⟨rfl, hb1⟩
    obtain ⟨K1, B1, z1⟩ := K0.call B0 (by omega) hb1
    rw [hs0] at z1
    have R := K1.rules
    simp only [Rules] at R
    have HK := Lib.hid K1
    have HBl := Lib.hid B1
    clear K0 K1 B0 B1 hb1 hs0
    go_wp2_with fail
    obtain ⟨s1, hs1⟩ : ∃ s1, w1.heap.size = s1 := ⟨_, rfl⟩
    have K2 : Bx ((w1.alloc (Obj.cells #[Value.int IntKind.u64 0, Value.int IntKind.u64 0] 84)).alloc (Obj.cells #[Value.int IntKind.u64 0, Value.int IntKind.u64 0] 84)) _ := (HK.out.new (t := 84) (c := #[Value.int IntKind.u64 0, Value.int IntKind.u64 0]) hs1).new (g := s1 + 1) (t := 84) (c := #[Value.int IntKind.u64 0, Value.int IntKind.u64 0]) (by simp; omega)
    have B2 : Below w.heap.size w ((w1.alloc (Obj.cells #[Value.int IntKind.u64 0, Value.int IntKind.u64 0] 84)).alloc (Obj.cells #[Value.int IntKind.u64 0, Value.int IntKind.u64 0] 84)) := (HBl.out.alloc (by omega) _).alloc (by simp; omega) _
    have hs2 : ((w1.alloc (Obj.cells #[Value.int IntKind.u64 0, Value.int IntKind.u64 0] 84)).alloc (Obj.cells #[Value.int IntKind.u64 0, Value.int IntKind.u64 0] 84)).heap.size = s1 + 1 + 1 := by simp; omega
    rw [hs1]
    generalize (w1.alloc (Obj.cells #[Value.int IntKind.u64 0, Value.int IntKind.u64 0] 84)).alloc (Obj.cells #[Value.int IntKind.u64 0, Value.int IntKind.u64 0] 84) = W2 at *
    refine (HB.out _).mono ?_
    rintro e w3 ⟨rfl, hb3⟩
    obtain ⟨K3, B3, z3⟩ := K2.call B2 (by omega) hb3
    rw [hs2] at z3
    rw [hs1] at z1
    have HK3 := Lib.hid K3
    have HB3 := Lib.hid B3
    clear K2 B2 K3 B3 HK HBl hb3 hs1 hs2 R
    go_wp2_with fail
    go_loopg [9] (bitsW a) (fun kx s9 wr => ∃ (z : Int), s9 = .int .i64 z ∧ -1 ≤ z ∧ z < 128 ∧ z + 1 ≤ kx ∧ s1 + 1 + 1 ≤ wr.heap.size ∧ Hid (Below w.heap.size w wr) ∧
      Hid (Bx wr [(s1 + 1, 84, #[Value.int IntKind.u64 (hi (a / 2 ^ (z + 1).toNat % b)), Value.int IntKind.u64 (lo (a / 2 ^ (z + 1).toNat % b))]),
        (s1, 84, #[Value.int IntKind.u64 (hi (a / 2 ^ (z + 1).toNat / b)), Value.int IntKind.u64 (lo (a / 2 ^ (z + 1).toNat / b))]),
        (w.heap.size + 1 + 1 + 1, 84, #[Value.int IntKind.u64 0, Value.int IntKind.u64 0]), (w.heap.size + 1 + 1, 84, #[Value.int IntKind.u64 0, Value.int IntKind.u64 0]),
        (w.heap.size + 1, 84, #[Value.int IntKind.u64 (hi b), Value.int IntKind.u64 (lo b)]), (w.heap.size, 84, #[Value.int IntKind.u64 (hi a), Value.int IntKind.u64 (lo a)])]))
    case atStart =>
      refine ⟨_, rfl, by omega, by omega, by omega, z3, HB3, ?_⟩
      rw [show ((bitsW a : Int) - 1 + 1).toNat = bitsW a by omega, Nat.div_eq_of_lt hbl.2, Nat.zero_mod, Nat.zero_div]
      exact HK3
    case round =>
      obtain ⟨z, rfl, hy1, hy2, hyk, hsz, HBw, HKw⟩ := hrel
      clear HB3 HK3 z3
      by_cases hz0 : 0 ≤ z
      · obtain ⟨i, rfl⟩ := Int.eq_ofNat_of_zero_le hz0
        rw [show ((i : Int) + 1).toNat = i + 1 by omega] at HKw
        have hst := div_step (A := a / 2 ^ (i + 1)) (b := b) (t := a / 2 ^ i % 2) (by omega) (by omega)
        have hsb := shift_bit a i
        rw [hsb] at hst
        have hr := Nat.mod_lt (a / 2 ^ (i + 1)) (show b > 0 by omega)
        have hq := Nat.div_le_self (a / 2 ^ (i + 1)) b
        have hq2 := Nat.div_le_self a (2 ^ i)
        have HBit := Lib.hid (fun W => bit_any a i W (by omega) ha)
        have ht : a / 2 ^ i % 2 < 2 := by omega
        have hq5 : 2 * (a / 2 ^ (i + 1) / b) + 1 < 340282366920938463463374607431768211456 := by omega
        clear hq hq2 hsb
        have hh5 := hi_bd hb
        have hh6 := lo_bd b
        generalize a / 2 ^ (i + 1) % b = r at *
        generalize a / 2 ^ (i + 1) / b = q at *
        generalize a / 2 ^ i % 2 = t at *
        have HST := Lib.hid hst
        clear hst
        have hh1 := hi_bd (n := r) (by omega)
        have hh2 := lo_bd r
        have hh3 : 0 ≤ hi q ∧ hi q ≤ 9223372036854775807 := by unfold hi; omega
        have hh4 := lo_bd q
        have hq6 : 2 * q < 340282366920938463463374607431768211456 := by omega
        have e3 : bits BinOp.or IntKind.u64 (hi q * 2) (lo q / 9223372036854775808) = hi (2 * q) := dbl_hi' hq6 0 (by omega)
        have e4 : IntKind.u64.wrap (lo q * 2) = lo (2 * q) := dbl_lo0'
        have e7 : bits BinOp.or IntKind.u64 (lo (2 * q)) 1 = lo (2 * q + 1) := lo_odd q hq6
        have HO := Lib.hid (hi_odd q)
        have hh7 := hi_bd hq6
        have hh8 := lo_bd (2 * q)
        clear hq6 hq5
        have R := HKw.out.rules
        simp only [Rules] at R
        by_cases hbig : 340282366920938463463374607431768211456 ≤ 2 * r + t
        · obtain ⟨D, hD⟩ : ∃ D, D = (2 * r + t) % 340282366920938463463374607431768211456 := ⟨_, rfl⟩
          have e1 : bits BinOp.or IntKind.u64 (IntKind.u64.wrap (hi r * 2)) (lo r / 9223372036854775808) = hi D := by rw [hD]; exact dbl_hi (by omega) t ht
          have e2 : bits BinOp.or IntKind.u64 (IntKind.u64.wrap (lo r * 2)) (t : Int) = lo D := by rw [hD]; exact dbl_lo t ht
          have e0 : hi r / 9223372036854775808 = 1 := by unfold hi; omega
          have hh9 := hi_bd (n := D) (by omega)
          have hh10 := lo_bd D
          have hle : b ≤ 2 * r + t := by omega
          have hlt : 2 * r + t - b < 340282366920938463463374607431768211456 := by omega
          have e5 := dif_lo hD hle
          have e6 := dif_hi hD hle hlt
          have HQ := Lib.hid (HST.out.1 hle)
          have hh11 := hi_bd hlt
          have hh12 := lo_bd (2 * r + t - b)
          clear hD hle hlt hbig HST hr
          generalize 2 * r + t - b = F at *
          generalize 2 * q + 1 = E at *
          generalize 2 * q = E0 at *
          by_cases hl : lo D < lo b
          · have e8 := e6.1 hl
            have e9 : bor (lo D) (lo b) 0 = 1 := by unfold bor; rw [if_pos (by omega)]
            clear e6 hl
            go_wp2_with fail
            (refine gro.wp_region_grown_tail 15 (by kernel_rfl) (by kernel_rfl) ?_; simp only [List.take_succ_cons, List.take_zero, List.drop_succ_cons, List.drop_zero]; (repeat (go_big_quiet_step ((go_at_call 85; exact call_grown (HBit.out _))))); refine wpQuiet_nil ?_; intro _ hw'; obtain ⟨nx, hw''⟩ := hw'; subst hw'')
            have K4 := HKw.out.below (below_grown wr nx)
            have B4 := HBw.out.trans ((below_grown wr nx).mono (by omega))
            have hs4 := grown_size wr nx
            have HK4 := Lib.hid K4
            have HB4 := Lib.hid B4
            clear R
            generalize grown wr nx = W4 at *
            have R := K4.rules
            simp only [Rules] at R
            clear K4 B4
            go_wp2_with fail
            go_roundg i
            case measure => omega
            case rel =>
              refine ⟨_, rfl, by omega, by omega, by omega, by simp only [set2_size, set1_size]; omega, ?_, ?_⟩
              · exact ((((((HB4.out.setCell (by simp; omega) _).setCell (by simp; omega) _).setCell (by simp; omega) _).setCell (by simp; omega) _).setCell (by simp; omega) _).setCell (by simp; omega) _).setCell (by simp; omega) _
              · rw [show ((i : Int) - 1 + 1).toNat = i by omega, HQ.out.1, HQ.out.2, ← HO.out]
                exact Bx.swap (Bx.put1 (Bx.swap (Bx.put2 (Bx.swap (Bx.put2 (Bx.swap (Bx.put2 HK4.out (by simp; omega))) (by simp; omega))) (by simp; omega))) (by simp; omega))
          · have e8 := e6.2 hl
            have e9 : bor (lo D) (lo b) 0 = 0 := by unfold bor; rw [if_neg (by omega)]
            clear e6 hl
            go_wp2_with fail
            (refine gro.wp_region_grown_tail 15 (by kernel_rfl) (by kernel_rfl) ?_; simp only [List.take_succ_cons, List.take_zero, List.drop_succ_cons, List.drop_zero]; (repeat (go_big_quiet_step ((go_at_call 85; exact call_grown (HBit.out _))))); refine wpQuiet_nil ?_; intro _ hw'; obtain ⟨nx, hw''⟩ := hw'; subst hw'')
            have K4 := HKw.out.below (below_grown wr nx)
            have B4 := HBw.out.trans ((below_grown wr nx).mono (by omega))
            have hs4 := grown_size wr nx
            have HK4 := Lib.hid K4
            have HB4 := Lib.hid B4
            clear R
            generalize grown wr nx = W4 at *
            have R := K4.rules
            simp only [Rules] at R
            clear K4 B4
            go_wp2_with fail
            go_roundg i
            case measure => omega
            case rel =>
              refine ⟨_, rfl, by omega, by omega, by omega, by simp only [set2_size, set1_size]; omega, ?_, ?_⟩
              · exact ((((((HB4.out.setCell (by simp; omega) _).setCell (by simp; omega) _).setCell (by simp; omega) _).setCell (by simp; omega) _).setCell (by simp; omega) _).setCell (by simp; omega) _).setCell (by simp; omega) _
              · rw [show ((i : Int) - 1 + 1).toNat = i by omega, HQ.out.1, HQ.out.2, ← HO.out]
                exact Bx.swap (Bx.put1 (Bx.swap (Bx.put2 (Bx.swap (Bx.put2 (Bx.swap (Bx.put2 HK4.out (by simp; omega))) (by simp; omega))) (by simp; omega))) (by simp; omega))
        · obtain ⟨D, hD⟩ : ∃ D, D = 2 * r + t := ⟨_, rfl⟩
          have e1 : bits BinOp.or IntKind.u64 (hi r * 2) (lo r / 9223372036854775808) = hi D := by rw [hD]; exact dbl_hi' (by omega) t ht
          have e2 : bits BinOp.or IntKind.u64 (IntKind.u64.wrap (lo r * 2)) (t : Int) = lo D := by rw [hD]; exact dbl_lo' t ht
          have e0 : hi r / 9223372036854775808 = 0 := by unfold hi; omega
          have hh13 : hi r ≤ 9223372036854775807 := by unfold hi; omega
          have hh9 := hi_bd (n := D) (by omega)
          have hh10 := lo_bd D
          have HCmp := Lib.hid (fun W => Compare_any D b W)
          by_cases hle : b ≤ D
          · have hD2 : D = D % 340282366920938463463374607431768211456 := by omega
            have hlt : D - b < 340282366920938463463374607431768211456 := by omega
            have e5 := dif_lo hD2 hle
            have e6 := dif_hi hD2 hle hlt
            have HQ := HST.out.1 (by omega)
            rw [← hD] at HQ
            have HQ := Lib.hid HQ
            have hh11 := hi_bd hlt
            have hh12 := lo_bd (D - b)
            have hcm : 0 ≤ cmpN D b := by unfold cmpN; rw [if_neg (by omega)]; split <;> omega
            clear hD hle hlt hbig HST hr hD2
            generalize cmpN D b = cm at *
            generalize D - b = F at *
            generalize 2 * q + 1 = E at *
            generalize 2 * q = E0 at *
            by_cases hl : lo D < lo b
            · have e8 := e6.1 hl
              have e9 : bor (lo D) (lo b) 0 = 1 := by unfold bor; rw [if_pos (by omega)]
              clear e6 hl
              go_wp2_with fail
              (refine gro.wp_region_grown_tail 15 (by kernel_rfl) (by kernel_rfl) ?_; simp only [List.take_succ_cons, List.take_zero, List.drop_succ_cons, List.drop_zero]; (repeat (go_big_quiet_step ((go_at_call 85; exact call_grown (HBit.out _))))); refine wpQuiet_nil ?_; intro _ hw'; obtain ⟨nx, hw''⟩ := hw'; subst hw'')
              have K4 := HKw.out.below (below_grown wr nx)
              have B4 := HBw.out.trans ((below_grown wr nx).mono (by omega))
              have hs4 := grown_size wr nx
              have HK4 := Lib.hid K4
              have HB4 := Lib.hid B4
              clear R
              generalize grown wr nx = W4 at *
              have R := K4.rules
              simp only [Rules] at R
              clear K4 B4
              go_wp2_with fail
              obtain ⟨W5, hW5, K5, B5, s5⟩ := name_world (Bx.swap (Bx.put2 (u := .int .u64 (hi E0)) (v := .int .u64 (lo E0)) (Bx.swap (Bx.put2 (u := .int .u64 (hi D)) (v := .int .u64 (lo D)) HK4.out (by simp; omega))) (by simp; omega))) ((((HB4.out.setCell (by simp; omega) _).setCell (by simp; omega) _).setCell (by simp; omega) _).setCell (by simp; omega) _) (s := s1 + 1 + 1) (by simp only [set2_size]; omega)
              rw [hW5]
              clear hW5 R HK4 HB4
              refine (HCmp.out _).mono ?_
              rintro e W6 ⟨rfl, hb6⟩
              obtain ⟨K6, B6, z6⟩ := K5.call B5 (by omega) hb6
              have R := K6.rules
              simp only [Rules] at R
              have HK6 := Lib.hid K6
              have HB6 := Lib.hid B6
              clear K5 B5 K6 B6 hb6
              go_wp2_with fail
              go_roundg i
              case measure => omega
              case rel =>
                refine ⟨_, rfl, by omega, by omega, by omega, by simp only [set2_size, set1_size]; omega, ?_, ?_⟩
                · exact ((HB6.out.setCell (by simp; omega) _).setCell (by simp; omega) _).setCell (by simp; omega) _
                · rw [show ((i : Int) - 1 + 1).toNat = i by omega, HQ.out.1, HQ.out.2, ← HO.out]
                  exact Bx.swap (Bx.put1 (Bx.swap (Bx.put2 HK6.out (by simp; omega))) (by simp; omega))
            · have e8 := e6.2 hl
              have e9 : bor (lo D) (lo b) 0 = 0 := by unfold bor; rw [if_neg (by omega)]
              clear e6 hl
              go_wp2_with fail
              (refine gro.wp_region_grown_tail 15 (by kernel_rfl) (by kernel_rfl) ?_; simp only [List.take_succ_cons, List.take_zero, List.drop_succ_cons, List.drop_zero]; (repeat (go_big_quiet_step ((go_at_call 85; exact call_grown (HBit.out _))))); refine wpQuiet_nil ?_; intro _ hw'; obtain ⟨nx, hw''⟩ := hw'; subst hw'')
              have K4 := HKw.out.below (below_grown wr nx)
              have B4 := HBw.out.trans ((below_grown wr nx).mono (by omega))
              have hs4 := grown_size wr nx
              have HK4 := Lib.hid K4
              have HB4 := Lib.hid B4
              clear R
              generalize grown wr nx = W4 at *
              have R := K4.rules
              simp only [Rules] at R
              clear K4 B4
              go_wp2_with fail
              obtain ⟨W5, hW5, K5, B5, s5⟩ := name_world (Bx.swap (Bx.put2 (u := .int .u64 (hi E0)) (v := .int .u64 (lo E0)) (Bx.swap (Bx.put2 (u := .int .u64 (hi D)) (v := .int .u64 (lo D)) HK4.out (by simp; omega))) (by simp; omega))) ((((HB4.out.setCell (by simp; omega) _).setCell (by simp; omega) _).setCell (by simp; omega) _).setCell (by simp; omega) _) (s := s1 + 1 + 1) (by simp only [set2_size]; omega)
              rw [hW5]
              clear hW5 R HK4 HB4
              refine (HCmp.out _).mono ?_
              rintro e W6 ⟨rfl, hb6⟩
              obtain ⟨K6, B6, z6⟩ := K5.call B5 (by omega) hb6
              have R := K6.rules
              simp only [Rules] at R
              have HK6 := Lib.hid K6
              have HB6 := Lib.hid B6
              clear K5 B5 K6 B6 hb6
              go_wp2_with fail
              go_roundg i
              case measure => omega
              case rel =>
                refine ⟨_, rfl, by omega, by omega, by omega, by simp only [set2_size, set1_size]; omega, ?_, ?_⟩
                · exact ((HB6.out.setCell (by simp; omega) _).setCell (by simp; omega) _).setCell (by simp; omega) _
                · rw [show ((i : Int) - 1 + 1).toNat = i by omega, HQ.out.1, HQ.out.2, ← HO.out]
                  exact Bx.swap (Bx.put1 (Bx.swap (Bx.put2 HK6.out (by simp; omega))) (by simp; omega))
          · have HQ := HST.out.2 (by omega)
            rw [← hD] at HQ
            have HQ := Lib.hid HQ
            have hcm : cmpN D b < 0 := by unfold cmpN; rw [if_pos (by omega)]; omega
            clear hD hle hbig HST hr
            generalize cmpN D b = cm at *
            generalize 2 * q + 1 = E at *
            generalize 2 * q = E0 at *
            go_wp2_with fail
            (refine gro.wp_region_grown_tail 15 (by kernel_rfl) (by kernel_rfl) ?_; simp only [List.take_succ_cons, List.take_zero, List.drop_succ_cons, List.drop_zero]; (repeat (go_big_quiet_step ((go_at_call 85; exact call_grown (HBit.out _))))); refine wpQuiet_nil ?_; intro _ hw'; obtain ⟨nx, hw''⟩ := hw'; subst hw'')
            have K4 := HKw.out.below (below_grown wr nx)
            have B4 := HBw.out.trans ((below_grown wr nx).mono (by omega))
            have hs4 := grown_size wr nx
            have HK4 := Lib.hid K4
            have HB4 := Lib.hid B4
            clear R
            generalize grown wr nx = W4 at *
            have R := K4.rules
            simp only [Rules] at R
            clear K4 B4
            go_wp2_with fail
            obtain ⟨W5, hW5, K5, B5, s5⟩ := name_world (Bx.swap (Bx.put2 (u := .int .u64 (hi E0)) (v := .int .u64 (lo E0)) (Bx.swap (Bx.put2 (u := .int .u64 (hi D)) (v := .int .u64 (lo D)) HK4.out (by simp; omega))) (by simp; omega))) ((((HB4.out.setCell (by simp; omega) _).setCell (by simp; omega) _).setCell (by simp; omega) _).setCell (by simp; omega) _) (s := s1 + 1 + 1) (by simp only [set2_size]; omega)
            rw [hW5]
            clear hW5 R HK4 HB4
            refine (HCmp.out _).mono ?_
            rintro e W6 ⟨rfl, hb6⟩
            obtain ⟨K6, B6, z6⟩ := K5.call B5 (by omega) hb6
            have R := K6.rules
            simp only [Rules] at R
            have HK6 := Lib.hid K6
            have HB6 := Lib.hid B6
            clear K5 B5 K6 B6 hb6
            go_wp2_with fail
            go_roundg i
            case measure => omega
            case rel =>
              refine ⟨_, rfl, by omega, by omega, by omega, by omega, HB6.out, ?_⟩
              rw [show ((i : Int) - 1 + 1).toNat = i by omega, HQ.out.1, HQ.out.2]
              exact HK6.out
      · obtain rfl : z = -1 := by omega
        rw [show ((-1 : Int) + 1).toNat = 0 from rfl, Nat.pow_zero, Nat.div_one] at HKw
        have R := HKw.out.rules
        simp only [Rules] at R
        go_wp2_with fail
        go_region
        have KP := HKw.out.perm (L' := [(w.heap.size + 1 + 1, 84, #[Value.int IntKind.u64 0, Value.int IntKind.u64 0]), (w.heap.size + 1 + 1 + 1, 84, #[Value.int IntKind.u64 0, Value.int IntKind.u64 0])]) (by simp)
        obtain ⟨W5, hW5, K5, B5, s5⟩ := name_world (Bx.drew (Bx.swap (Bx.put2 (u := .int .u64 (hi (a % b))) (v := .int .u64 (lo (a % b))) (Bx.swap (Bx.put2 (u := .int .u64 (hi (a / b))) (v := .int .u64 (lo (a / b))) KP (by first | (simp; done) | (simp; omega)))) (by first | (simp; done) | (simp; omega))))) ((((HBw.out.setCell (by first | (simp; done) | (simp; omega)) _).setCell (by first | (simp; done) | (simp; omega)) _).setCell (by first | (simp; done) | (simp; omega)) _).setCell (by first | (simp; done) | (simp; omega)) _).drew (s := 0) (by omega)
        rw [hW5]
        clear hW5 R
        have R := K5.rules
        simp only [Rules] at R
        have HB5 := Lib.hid B5
        clear K5 B5 KP
        go_wp2
        refine bodyPost_ret (v := Value.tuple #[(Value.agg #[Value.int IntKind.u64 (hi (a / b)), Value.int IntKind.u64 (lo (a / b))]), (Value.agg #[Value.int IntKind.u64 (hi (a % b)), Value.int IntKind.u64 (lo (a % b))]), Value.bool true]) (by simp [results, Tryz.results54, go_sem, R]) rfl ⟨?_, ?_⟩
        · rw [decide_eq_true h0]; unfold divq divr; rw [if_neg h0, if_neg h0]
        · exact HB5.out
end Go.Proofs.YtjapjfcennemeaaGreat.wid
