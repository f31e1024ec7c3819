/- DivR: proved here in one text, no conditions beyond those that each theorem states. -/
import Derived.Deep.RegionWith
import Derived.Deep.DeepCutAuto
import Derived.Test.YtjapjfcennemeaaGreatZ40
import Derived.Test.YtjapjfcennemeaaGreatZ39
import Derived.Test.YtjapjfcennemeaaGreatZ38
import Derived.Test.YtjapjfcennemeaaGreatZ18
set_option linter.unusedVariables false
set_option linter.unusedSimpArgs false
namespace Go.Proofs.YtjapjfcennemeaaGreat.wid
open Go.RowKit Go.Proofs.YtjapjfcennemeaaGreat.mem Go.Proofs.YtjapjfcennemeaaGreat.gro
set_option linter.unusedVariables false
set_option maxHeartbeats 4000000 in
set_option maxRecDepth 100000 in
theorem DivR_any (a b : Nat) (w : World) (ha : a < 340282366920938463463374607431768211456) (hb : b < 340282366920938463463374607431768211456) :
    Calls Tryz.prog 93 #[(Value.agg #[Value.int IntKind.u64 (hi (a)), Value.int IntKind.u64 (lo (a))]), (Value.agg #[Value.int IntKind.u64 (hi (b)), Value.int IntKind.u64 (lo (b))])] w fun e w' => e = .returned (.tuple #[(Value.agg #[Value.int IntKind.u64 (hi (divq a b)), Value.int IntKind.u64 (lo (divq a b))]), (Value.agg #[Value.int IntKind.u64 (hi (divr a b)), Value.int IntKind.u64 (lo (divr a b))]), .bool (decide (b ≠ 0))]) ∧ Below w.heap.size w w' := by
  by_cases h0 : b = 0
  · subst h0
    rw [show hi 0 = 0 from rfl, show lo 0 = 0 from rfl]
    go_enter Tryz.func93, Tryz.ntmps93
    go_wp2
    refine bodyPost_ret (v := Value.tuple #[Value.agg #[Value.int IntKind.u64 0, Value.int IntKind.u64 0], Value.agg #[Value.int IntKind.u64 0, Value.int IntKind.u64 0], Value.bool false]) (by simp [results, Tryz.results93, go_sem]) rfl ⟨?_, ?_⟩
    · rw [show divq a 0 = 0 from rfl, show divr a 0 = 0 from rfl]; rfl
    · exact ((((Below.refl _ _).alloc (Nat.le_refl _) _).alloc (by first | (simp; done) | (simp; omega)) _).alloc (by first | (simp; done) | (simp; omega)) _).alloc (by first | (simp; done) | (simp; omega)) _
  · have hne : ∀ W, (binOp .eql 84 (Value.agg #[Value.int IntKind.u64 (hi (b)), Value.int IntKind.u64 (lo (b))]) (Value.agg #[Value.int IntKind.u64 0, Value.int IntKind.u64 0])).run Tryz.prog W = .ok (.bool false) W := fun W => by
      have := wide_eql b 0 W
      rwa [decide_eq_false h0] at this
    go_enter Tryz.func93, Tryz.ntmps93
    go_wp2_with fail
    obtain ⟨W0, hW, hs0, K0, B0⟩ := start6 w 84 84 84 84 84 84 #[Value.int IntKind.u64 (hi (a)), Value.int IntKind.u64 (lo (a))] #[Value.int IntKind.u64 (hi (b)), Value.int IntKind.u64 (lo (b))] #[Value.int IntKind.u64 0, Value.int IntKind.u64 0] #[Value.int IntKind.u64 0, Value.int IntKind.u64 0] #[Value.int IntKind.u64 0, Value.int IntKind.u64 0] #[Value.int IntKind.u64 0, Value.int IntKind.u64 0]
    rw [hW]
    clear hW hne
    have HK0 := Lib.hid K0
    have HB0 := Lib.hid B0
    have z0 : w.heap.size + 1 + 1 + 1 + 1 + 1 + 1 ≤ W0.heap.size := by omega
    clear K0 B0 hs0
    go_loopg [9] 128 (fun kx s9 wr => ∃ (z : Int), s9 = .int .i64 z ∧ -1 ≤ z ∧ z < 128 ∧ z + 1 ≤ kx ∧ w.heap.size + 1 + 1 + 1 + 1 + 1 + 1 ≤ wr.heap.size ∧ Hid (Below w.heap.size w wr) ∧
      Hid (Bx wr [(w.heap.size + 1 + 1 + 1 + 1 + 1, 84, #[Value.int IntKind.u64 (hi (a / 2 ^ (z + 1).toNat % b)), Value.int IntKind.u64 (lo (a / 2 ^ (z + 1).toNat % b))]), (w.heap.size + 1 + 1 + 1 + 1, 84, #[Value.int IntKind.u64 (hi (a / 2 ^ (z + 1).toNat / b)), Value.int IntKind.u64 (lo (a / 2 ^ (z + 1).toNat / b))]), (w.heap.size + 1 + 1 + 1, 84, #[Value.int IntKind.u64 0, Value.int IntKind.u64 0]), (w.heap.size + 1 + 1, 84, #[Value.int IntKind.u64 0, Value.int IntKind.u64 0]), (w.heap.size + 1, 84, #[Value.int IntKind.u64 (hi (b)), Value.int IntKind.u64 (lo (b))]), (w.heap.size, 84, #[Value.int IntKind.u64 (hi (a)), Value.int IntKind.u64 (lo (a))])]))
    case atStart =>
      refine ⟨_, rfl, by omega, by omega, by omega, z0, HB0, ?_⟩
      rw [show ((127 : Int) + 1).toNat = 128 from rfl, Nat.div_eq_of_lt (by rw [show (2 : Nat) ^ 128 = 340282366920938463463374607431768211456 from rfl]; exact ha), Nat.zero_mod, Nat.zero_div]
      exact HK0
    case round =>
      obtain ⟨z, rfl, hy1, hy2, hyk, hsz, HBw, HKw⟩ := hrel
      clear HB0 HK0 z0
      by_cases hz0 : 0 ≤ z
      · obtain ⟨i, rfl⟩ := Int.eq_ofNat_of_zero_le hz0
        rw [show ((i : Int) + 1).toNat = i + 1 by omega] at HKw
        have hst := div_step (A := a / 2 ^ (i + 1)) (b := b) (t := a / 2 ^ i % 2) (by omega) (by omega)
        have hsb := shift_bit a i
        rw [hsb] at hst
        have hr := Nat.mod_lt (a / 2 ^ (i + 1)) (show b > 0 by omega)
        have hq := Nat.div_le_self (a / 2 ^ (i + 1)) b
        have hq2 := Nat.div_le_self a (2 ^ i)
        have HBit := Lib.hid (fun W => bitR_any a i W (by omega) ha)
        have ht : a / 2 ^ i % 2 < 2 := by omega
        have hq5 : 2 * (a / 2 ^ (i + 1) / b) + 1 < 340282366920938463463374607431768211456 := by omega
        clear hq hq2 hsb
        have hh5 := hi_bd hb
        have hh6 := lo_bd b
        generalize a / 2 ^ (i + 1) % b = r at *
        generalize a / 2 ^ (i + 1) / b = q at *
        generalize a / 2 ^ i % 2 = t at *
        have HST := Lib.hid hst
        clear hst
        have hdr := fun W => double_any r t (by omega) ht W
        have hdq := fun (o : Nat) (ho : o < 2) W => double_any q o (by omega) ho W
        rw [Nat.div_eq_of_lt (show 2 * q < 340282366920938463463374607431768211456 by omega)] at hdq
        have hd1 := fun W => hdq 1 (by omega) W
        have hd0 := fun W => hdq 0 (by omega) W
        rw [Nat.mod_eq_of_lt (show 2 * q + 1 < 340282366920938463463374607431768211456 by omega)] at hd1
        rw [Nat.add_zero, Nat.mod_eq_of_lt (show 2 * q < 340282366920938463463374607431768211456 by omega)] at hd0
        have HD1 : Hid (∀ W, Calls Tryz.prog 100 #[(Value.agg #[Value.int IntKind.u64 (hi (q)), Value.int IntKind.u64 (lo (q))]), .int .u64 1] W fun e w' => e = .returned (.tuple #[(Value.agg #[Value.int IntKind.u64 (hi (2 * q + 1)), Value.int IntKind.u64 (lo (2 * q + 1))]), .int .u64 0]) ∧ Below W.heap.size W w') := hd1
        have HD0 : Hid (∀ W, Calls Tryz.prog 100 #[(Value.agg #[Value.int IntKind.u64 (hi (q)), Value.int IntKind.u64 (lo (q))]), .int .u64 0] W fun e w' => e = .returned (.tuple #[(Value.agg #[Value.int IntKind.u64 (hi (2 * q)), Value.int IntKind.u64 (lo (2 * q))]), .int .u64 0]) ∧ Below W.heap.size W w') := hd0
        clear hdq hd1 hd0
        have R := HKw.out.rules
        simp only [Rules] at R
        have HDR := Lib.hid hdr
        clear hdr
        obtain ⟨D, hD⟩ : ∃ D, D = (2 * r + t) % 340282366920938463463374607431768211456 := ⟨_, rfl⟩
        obtain ⟨o, ho⟩ : ∃ o, o = 2 * r / 340282366920938463463374607431768211456 := ⟨_, rfl⟩
        rw [← hD, ← ho] at HDR
        have HDd := Lib.hid hD
        have HOo := Lib.hid ho
        clear hD ho
        go_wp2_with fail
        go_cut [10] (fun s10 wx => s10 = .int .u64 (o : Int) ∧ w.heap.size + 1 + 1 + 1 + 1 + 1 + 1 ≤ wx.heap.size ∧ Hid (Below w.heap.size w wx) ∧ Hid (Bx wx [(w.heap.size + 1 + 1 + 1 + 1 + 1, 84, #[Value.int IntKind.u64 (hi (D)), Value.int IntKind.u64 (lo (D))]), (w.heap.size + 1 + 1 + 1 + 1, 84, #[Value.int IntKind.u64 (hi (q)), Value.int IntKind.u64 (lo (q))]), (w.heap.size + 1 + 1 + 1, 84, #[Value.int IntKind.u64 0, Value.int IntKind.u64 0]), (w.heap.size + 1 + 1, 84, #[Value.int IntKind.u64 0, Value.int IntKind.u64 0]), (w.heap.size + 1, 84, #[Value.int IntKind.u64 (hi (b)), Value.int IntKind.u64 (lo (b))]), (w.heap.size, 84, #[Value.int IntKind.u64 (hi (a)), Value.int IntKind.u64 (lo (a))])]))
        case first =>
          go_region_with (first | (go_at_call 101; refine (HBit.out _).mono ?_; rintro e v1 ⟨rfl, hv1⟩; have KV := HKw.out.drew.below hv1; have RV := KV.rules; simp only [Rules] at RV; have BV := Lib.hid (HBw.out.drew.trans (hv1.mono (by simp; omega))); have zv := hv1.size; simp at zv) | (go_at_call 100; refine (HDR.out _).mono ?_; rintro e v2 ⟨rfl, hv2⟩; have KV2 := KV.below hv2; have RV2 := KV2.rules; simp only [Rules] at RV2; have BV2 := Lib.hid (BV.out.trans (hv2.mono (by omega))); have zv2 := hv2.size))
          all_goals
            go_wp2_with fail
            go_meet
            case rel => exact ⟨rfl, by simp only [set2_size]; omega, (BV2.out.setCell (by first | (simp; done) | (simp; omega)) _).setCell (by first | (simp; done) | (simp; omega)) _, Bx.put2 KV2 (by first | (simp; done) | (simp; omega))⟩
        case rest =>
          obtain ⟨rfl, hsx, HB4, HK4⟩ := hcut
          clear R
          have R := HK4.out.rules
          simp only [Rules] at R
          have hD := HDd.out
          have ho := HOo.out
          clear HBit HDR HDd HOo HKw HBw
          by_cases hbig : 340282366920938463463374607431768211456 ≤ 2 * r + t
          · obtain rfl : o = 1 := by omega
            have hh9 := hi_bd (n := D) (by omega)
            have hh10 := lo_bd D
            have hle : b ≤ 2 * r + t := by omega
            have hlt : 2 * r + t - b < 340282366920938463463374607431768211456 := by omega
            have e5 := dif_lo hD hle
            have e6 := dif_hi hD hle hlt
            have HQ := Lib.hid (HST.out.1 hle)
            have hh11 := hi_bd hlt
            have hh12 := lo_bd (2 * r + t - b)
            clear hD ho hle hlt hbig HST hr hq5
            generalize 2 * r + t - b = F at *
            generalize 2 * q + 1 = E at *
            generalize 2 * q = E0 at *
            by_cases hl : lo D < lo b
            · have e8 := e6.1 hl
              have e9 : bor (lo D) (lo b) 0 = 1 := by unfold bor; rw [if_pos (by omega)]
              clear e6 hl
              go_wp2_with fail
              obtain ⟨W5, hW5, K5, B5, s5⟩ := name_world (Bx.put2 (u := .int .u64 (hi F)) (v := .int .u64 (lo F)) HK4.out (by first | (simp; done) | (simp; omega))) ((HB4.out.setCell (by first | (simp; done) | (simp; omega)) _).setCell (by first | (simp; done) | (simp; omega)) _) (s := w.heap.size + 1 + 1 + 1 + 1 + 1 + 1) (by simp only [set2_size]; omega)
              rw [hW5]
              clear hW5 R
              refine (HD1.out _).mono ?_
              rintro e W6 ⟨rfl, hb6⟩
              obtain ⟨K6, B6, z6⟩ := K5.call B5 (by omega) hb6
              have R := K6.rules
              simp only [Rules] at R
              have HK6 := Lib.hid K6
              have HB6 := Lib.hid B6
              clear K5 B5 K6 B6 hb6
              go_wp2_with fail
              go_roundg i
              case measure => omega
              case rel =>
                refine ⟨_, rfl, by omega, by omega, by omega, by simp only [set2_size]; omega, ((HB6.out.setCell (by first | (simp; done) | (simp; omega)) _).setCell (by first | (simp; done) | (simp; omega)) _), ?_⟩
                rw [show ((i : Int) - 1 + 1).toNat = i by omega, HQ.out.1, HQ.out.2]
                exact Bx.swap (Bx.put2 (Bx.swap HK6.out) (by first | (simp; done) | (simp; omega)))
            · have e8 := e6.2 hl
              have e9 : bor (lo D) (lo b) 0 = 0 := by unfold bor; rw [if_neg (by omega)]
              clear e6 hl
              go_wp2_with fail
              obtain ⟨W5, hW5, K5, B5, s5⟩ := name_world (Bx.put2 (u := .int .u64 (hi F)) (v := .int .u64 (lo F)) HK4.out (by first | (simp; done) | (simp; omega))) ((HB4.out.setCell (by first | (simp; done) | (simp; omega)) _).setCell (by first | (simp; done) | (simp; omega)) _) (s := w.heap.size + 1 + 1 + 1 + 1 + 1 + 1) (by simp only [set2_size]; omega)
              rw [hW5]
              clear hW5 R
              refine (HD1.out _).mono ?_
              rintro e W6 ⟨rfl, hb6⟩
              obtain ⟨K6, B6, z6⟩ := K5.call B5 (by omega) hb6
              have R := K6.rules
              simp only [Rules] at R
              have HK6 := Lib.hid K6
              have HB6 := Lib.hid B6
              clear K5 B5 K6 B6 hb6
              go_wp2_with fail
              go_roundg i
              case measure => omega
              case rel =>
                refine ⟨_, rfl, by omega, by omega, by omega, by simp only [set2_size]; omega, ((HB6.out.setCell (by first | (simp; done) | (simp; omega)) _).setCell (by first | (simp; done) | (simp; omega)) _), ?_⟩
                rw [show ((i : Int) - 1 + 1).toNat = i by omega, HQ.out.1, HQ.out.2]
                exact Bx.swap (Bx.put2 (Bx.swap HK6.out) (by first | (simp; done) | (simp; omega)))
          · obtain rfl : o = 0 := by omega
            have hD1 : D = 2 * r + t := by omega
            have hh9 := hi_bd (n := D) (by omega)
            have hh10 := lo_bd D
            have HCmp := Lib.hid (fun W => CompareR_any D b W)
            by_cases hle : b ≤ D
            · have hD2 : D = D % 340282366920938463463374607431768211456 := by omega
              have hlt : D - b < 340282366920938463463374607431768211456 := by omega
              have e5 := dif_lo hD2 hle
              have e6 := dif_hi hD2 hle hlt
              have HQ := HST.out.1 (by omega)
              rw [← hD1] at HQ
              have HQ := Lib.hid HQ
              have hh11 := hi_bd hlt
              have hh12 := lo_bd (D - b)
              have hcm : 0 ≤ cmpN D b := by unfold cmpN; rw [if_neg (by omega)]; split <;> omega
              clear hD ho hD1 hle hlt hbig HST hr hD2 hq5
              generalize cmpN D b = cm at *
              generalize D - b = F at *
              generalize 2 * q + 1 = E at *
              generalize 2 * q = E0 at *
              by_cases hl : lo D < lo b
              · have e8 := e6.1 hl
                have e9 : bor (lo D) (lo b) 0 = 1 := by unfold bor; rw [if_pos (by omega)]
                clear e6 hl
                go_wp2_with fail
                have K5 := HK4.out
                have B5 := HB4.out
                clear R
                refine (HCmp.out _).mono ?_
                rintro e W6 ⟨rfl, hb6⟩
                obtain ⟨K6, B6, z6⟩ := K5.call B5 (by omega) hb6
                have R := K6.rules
                simp only [Rules] at R
                have HK6 := Lib.hid K6
                have HB6 := Lib.hid B6
                clear K5 B5 K6 B6 hb6
                go_wp2_with fail
                obtain ⟨W7, hW7, K7, B7, s7⟩ := name_world (Bx.put2 (u := .int .u64 (hi F)) (v := .int .u64 (lo F)) HK6.out (by first | (simp; done) | (simp; omega))) ((HB6.out.setCell (by first | (simp; done) | (simp; omega)) _).setCell (by first | (simp; done) | (simp; omega)) _) (s := w.heap.size + 1 + 1 + 1 + 1 + 1 + 1) (by simp only [set2_size]; omega)
                rw [hW7]
                clear hW7 R
                refine (HD1.out _).mono ?_
                rintro e W8 ⟨rfl, hb8⟩
                obtain ⟨K8, B8, z8⟩ := K7.call B7 (by omega) hb8
                have R := K8.rules
                simp only [Rules] at R
                have HK8 := Lib.hid K8
                have HB8 := Lib.hid B8
                clear K7 B7 K8 B8 hb8
                go_wp2_with fail
                go_roundg i
                case measure => omega
                case rel =>
                  refine ⟨_, rfl, by omega, by omega, by omega, by simp only [set2_size]; omega, ((HB8.out.setCell (by first | (simp; done) | (simp; omega)) _).setCell (by first | (simp; done) | (simp; omega)) _), ?_⟩
                  rw [show ((i : Int) - 1 + 1).toNat = i by omega, HQ.out.1, HQ.out.2]
                  exact Bx.swap (Bx.put2 (Bx.swap HK8.out) (by first | (simp; done) | (simp; omega)))
              · have e8 := e6.2 hl
                have e9 : bor (lo D) (lo b) 0 = 0 := by unfold bor; rw [if_neg (by omega)]
                clear e6 hl
                go_wp2_with fail
                have K5 := HK4.out
                have B5 := HB4.out
                clear R
                refine (HCmp.out _).mono ?_
                rintro e W6 ⟨rfl, hb6⟩
                obtain ⟨K6, B6, z6⟩ := K5.call B5 (by omega) hb6
                have R := K6.rules
                simp only [Rules] at R
                have HK6 := Lib.hid K6
                have HB6 := Lib.hid B6
                clear K5 B5 K6 B6 hb6
                go_wp2_with fail
                obtain ⟨W7, hW7, K7, B7, s7⟩ := name_world (Bx.put2 (u := .int .u64 (hi F)) (v := .int .u64 (lo F)) HK6.out (by first | (simp; done) | (simp; omega))) ((HB6.out.setCell (by first | (simp; done) | (simp; omega)) _).setCell (by first | (simp; done) | (simp; omega)) _) (s := w.heap.size + 1 + 1 + 1 + 1 + 1 + 1) (by simp only [set2_size]; omega)
                rw [hW7]
                clear hW7 R
                refine (HD1.out _).mono ?_
                rintro e W8 ⟨rfl, hb8⟩
                obtain ⟨K8, B8, z8⟩ := K7.call B7 (by omega) hb8
                have R := K8.rules
                simp only [Rules] at R
                have HK8 := Lib.hid K8
                have HB8 := Lib.hid B8
                clear K7 B7 K8 B8 hb8
                go_wp2_with fail
                go_roundg i
                case measure => omega
                case rel =>
                  refine ⟨_, rfl, by omega, by omega, by omega, by simp only [set2_size]; omega, ((HB8.out.setCell (by first | (simp; done) | (simp; omega)) _).setCell (by first | (simp; done) | (simp; omega)) _), ?_⟩
                  rw [show ((i : Int) - 1 + 1).toNat = i by omega, HQ.out.1, HQ.out.2]
                  exact Bx.swap (Bx.put2 (Bx.swap HK8.out) (by first | (simp; done) | (simp; omega)))
            · have HQ := HST.out.2 (by omega)
              rw [← hD1] at HQ
              have HQ := Lib.hid HQ
              have hcm : cmpN D b < 0 := by unfold cmpN; rw [if_pos (by omega)]; omega
              clear hD ho hD1 hle hbig HST hr hq5
              generalize cmpN D b = cm at *
              generalize 2 * q + 1 = E at *
              generalize 2 * q = E0 at *
              go_wp2_with fail
              have K5 := HK4.out
              have B5 := HB4.out
              clear R
              refine (HCmp.out _).mono ?_
              rintro e W6 ⟨rfl, hb6⟩
              obtain ⟨K6, B6, z6⟩ := K5.call B5 (by omega) hb6
              have R := K6.rules
              simp only [Rules] at R
              have HK6 := Lib.hid K6
              have HB6 := Lib.hid B6
              clear K5 B5 K6 B6 hb6
              go_wp2_with fail
              have K7 := HK6.out
              have B7 := HB6.out
              clear R
              refine (HD0.out _).mono ?_
              rintro e W8 ⟨rfl, hb8⟩
              obtain ⟨K8, B8, z8⟩ := K7.call B7 (by omega) hb8
              have R := K8.rules
              simp only [Rules] at R
              have HK8 := Lib.hid K8
              have HB8 := Lib.hid B8
              clear K7 B7 K8 B8 hb8
              go_wp2_with fail
              go_roundg i
              case measure => omega
              case rel =>
                refine ⟨_, rfl, by omega, by omega, by omega, by simp only [set2_size]; omega, ((HB8.out.setCell (by first | (simp; done) | (simp; omega)) _).setCell (by first | (simp; done) | (simp; omega)) _), ?_⟩
                rw [show ((i : Int) - 1 + 1).toNat = i by omega, HQ.out.1, HQ.out.2]
                exact Bx.swap (Bx.put2 (Bx.swap HK8.out) (by first | (simp; done) | (simp; omega)))
      · obtain rfl : z = -1 := by omega
        rw [show ((-1 : Int) + 1).toNat = 0 from rfl, Nat.pow_zero, Nat.div_one] at HKw
        have R := HKw.out.rules
        simp only [Rules] at R
        go_wp2_with fail
        go_region
        have KP := HKw.out.perm (L' := [(w.heap.size + 1 + 1, 84, #[Value.int IntKind.u64 0, Value.int IntKind.u64 0]), (w.heap.size + 1 + 1 + 1, 84, #[Value.int IntKind.u64 0, Value.int IntKind.u64 0])]) (by simp)
        obtain ⟨W5, hW5, K5, B5, s5⟩ := name_world (Bx.drew (Bx.swap (Bx.put2 (u := .int .u64 (hi (a % b))) (v := .int .u64 (lo (a % b))) (Bx.swap (Bx.put2 (u := .int .u64 (hi (a / b))) (v := .int .u64 (lo (a / b))) KP (by first | (simp; done) | (simp; omega)))) (by first | (simp; done) | (simp; omega))))) ((((HBw.out.setCell (by first | (simp; done) | (simp; omega)) _).setCell (by first | (simp; done) | (simp; omega)) _).setCell (by first | (simp; done) | (simp; omega)) _).setCell (by first | (simp; done) | (simp; omega)) _).drew (s := 0) (by omega)
        rw [hW5]
        clear hW5 R
        have R := K5.rules
        simp only [Rules] at R
        have HB5 := Lib.hid B5
        clear K5 B5 KP
        go_wp2
        refine bodyPost_ret (v := Value.tuple #[(Value.agg #[Value.int IntKind.u64 (hi (a / b)), Value.int IntKind.u64 (lo (a / b))]), (Value.agg #[Value.int IntKind.u64 (hi (a % b)), Value.int IntKind.u64 (lo (a % b))]), Value.bool true]) (by simp [results, Tryz.results93, go_sem, R]) rfl ⟨?_, ?_⟩
        · rw [decide_eq_true h0]; unfold divq divr; rw [if_neg h0, if_neg h0]
        · exact HB5.out
end Go.Proofs.YtjapjfcennemeaaGreat.wid
