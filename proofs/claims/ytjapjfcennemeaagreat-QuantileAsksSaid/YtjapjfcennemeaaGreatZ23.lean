/- BAllow, RBtw, RPl: proved here in one text, no conditions beyond those that each theorem states. -/
import Derived.LoopN
import Derived.Test.YtjapjfcennemeaaGreatZ8
import Derived.Test.YtjapjfcennemeaaGreatZ18
import Derived.Test.YtjapjfcennemeaaGreatZ22
set_option linter.unusedVariables false
set_option linter.unusedSimpArgs false
section
namespace Go.Proofs.YtjapjfcennemeaaGreat.rnk
open Go.RowKit Go.Proofs.YtjapjfcennemeaaGreat.mem Go.Proofs.YtjapjfcennemeaaGreat.gro
set_option linter.unusedVariables false
set_option linter.unusedSimpArgs false
set_option pp.maxSteps 200000
theorem ceil_eq {a b : Int} (hb : 1 ≤ b) : -((-a) / b) = ceilD a b := by
  unfold ceilD
  have h1 := Int.emod_add_mul_ediv (-a) b
  have h2 := Int.emod_nonneg (-a) (show b ≠ 0 by omega)
  have h3 := Int.emod_lt_of_pos (-a) (show 0 < b by omega)
  have h4 : a + b - 1 = (b - 1 - (-a) % b) + -((-a) / b) * b := by
    have e : -((-a) / b) * b = -(b * ((-a) / b)) := by rw [Int.neg_mul, Int.mul_comm]
    rw [e]
    generalize b * ((-a) / b) = q at *
    generalize (-a) % b = r at *
    omega
  rw [h4, Int.add_mul_ediv_right _ _ (show b ≠ 0 by omega), Int.ediv_eq_zero_of_lt (a := b - 1 - (-a) % b) (b := b) (by omega) (by omega), Int.zero_add]
theorem allowed_f {l b : Int} (h : ¬ ((0 ≤ l ∧ l ≤ 30) ∧ 1 ≤ b ∧ b ≤ 65536)) : allowed l b = -1 := by unfold allowed; rw [if_neg h]
theorem allowTo_step {b : Int} {l : Nat} : allowTo b (l + 1) = if b + 1 < 2 ^ l then 2 * allowTo b l + ceilD (2 ^ l - 1) b else allowTo b l := rfl
theorem shl_nat {i : Nat} (h : i ≤ 30) : wrap64 (2 ^ i) = (2 : Int) ^ i := by
  have h1 : (2 : Nat) ^ i ≤ 2 ^ 30 := Nat.pow_le_pow_right (by omega) h
  have h2 : ((2 ^ i : Nat) : Int) = (2 : Int) ^ i := by simp
  rw [← h2]
  clear h2
  generalize (2 : Nat) ^ i = m at *
  exact IntWalk.wrap64_in (m : Int) (by omega)
theorem pow_bd {i : Nat} (h : i ≤ 30) : 1 ≤ (2 : Int) ^ i ∧ (2 : Int) ^ i ≤ 1073741824 := by
  have h1 : (2 : Nat) ^ i ≤ 2 ^ 30 := Nat.pow_le_pow_right (by omega) h
  have h3 : 1 ≤ 2 ^ i := Nat.pow_pos (by omega)
  have h2 : ((2 ^ i : Nat) : Int) = (2 : Int) ^ i := by simp
  rw [← h2]
  omega
theorem allow_bd {b : Int} (hb : 1 ≤ b) {i : Nat} (h : i ≤ 31) : 0 ≤ allowTo b i ∧ allowTo b i ≤ 66571993088 := by
  obtain ⟨h1, h2⟩ := allowTo_bd hb i
  refine ⟨h1, Int.le_trans h2 ?_⟩
  have h3 : (2 : Nat) ^ i ≤ 2 ^ 31 := Nat.pow_le_pow_right (by omega) h
  have h5 := Nat.mul_le_mul h h3
  have h4 : ((2 ^ i : Nat) : Int) = (2 : Int) ^ i := by simp
  rw [← h4]
  omega
theorem ceil_bd {b : Int} (hb : 1 ≤ b) {i : Nat} (h : i ≤ 30) : 0 ≤ ceilD (2 ^ i - 1) b ∧ ceilD (2 ^ i - 1) b ≤ 1073741824 := by
  have h1 := pow_bd h
  unfold ceilD
  refine ⟨Int.ediv_nonneg (by omega) (by omega), ?_⟩
  refine Int.ediv_le_of_le_mul (by omega) ?_
  have h2 := Int.mul_le_mul_of_nonneg_left hb (show (0 : Int) ≤ 1073741823 by omega)
  omega
set_option maxHeartbeats 4000000 in
set_option maxRecDepth 100000 in
theorem Allowed_any (level b : Int) (w : World) : Calls Tryz.prog 51 #[.int .i64 level, .int .i64 b] w fun e w' => e = .returned (.int .i64 (allowed level b)) ∧ w = w' := by
  by_cases h : (0 ≤ level ∧ level ≤ 30) ∧ 1 ≤ b ∧ b ≤ 65536
  case neg =>
    have HA := Lib.hid (allowed_f h)
    by_cases g1 : level < 0
    case pos =>
      clear h
      go_enter Tryz.func51, Tryz.ntmps51
      go_wp2
      go_ret
      exact ⟨ret_int (by rw [HA.out]), rfl⟩
    by_cases g2 : 30 < level
    case pos =>
      clear h
      go_enter Tryz.func51, Tryz.ntmps51
      go_wp2
      go_ret
      exact ⟨ret_int (by rw [HA.out]), rfl⟩
    by_cases g3 : b < 1
    case pos =>
      clear h
      go_enter Tryz.func51, Tryz.ntmps51
      go_wp2
      go_ret
      exact ⟨ret_int (by rw [HA.out]), rfl⟩
    have g4 : 65536 < b := by omega
    clear h
    go_enter Tryz.func51, Tryz.ntmps51
    go_wp2
    go_ret
    exact ⟨ret_int (by rw [HA.out]), rfl⟩
  have HA := Lib.hid (show allowed level b = allowTo b (level.toNat + 1) by unfold allowed; rw [if_pos h])
  obtain ⟨⟨g1, g2⟩, g3, g4⟩ := h
  obtain ⟨l, rfl⟩ := Int.eq_ofNat_of_zero_le g1
  rw [Int.toNat_natCast] at HA
  have hbz : (b == 0) = false := by simp; omega
  have hbm : (b == -1) = false := by simp; omega
  go_enter Tryz.func51, Tryz.ntmps51
  go_wp2
  go_loop [5, 6] (fun s5 s6 => ∃ i : Nat, i ≤ l + 1 ∧ s6 = .int .i64 i ∧ s5 = .int .i64 (allowTo b i)) (fun _ s6 => l + 1 - (intOf s6).toNat)
  case atStart => exact ⟨0, by omega, rfl, rfl⟩
  case round =>
    obtain ⟨i, hi, rfl, rfl⟩ := hrel
    by_cases hlt : (i : Int) ≤ l
    case neg =>
      obtain rfl : i = l + 1 := by omega
      go_wp2
      go_ret
      exact ⟨ret_int (by rw [HA.out]), rfl⟩
    have hp := pow_bd (show i ≤ 30 by omega)
    have hs := shl_nat (show i ≤ 30 by omega)
    have ha := allow_bd g3 (show i ≤ 31 by omega)
    have hc := ceil_bd g3 (show i ≤ 30 by omega)
    have HS := Lib.hid (allowTo_step (b := b) (l := i))
    have HC := Lib.hid (fun a (h0 : 0 ≤ a) (h1 : a ≤ 1073741824) W => wid.CeilDiv_any a b (by omega) (by omega) g3 (by omega) W)
    have hq := ceil_eq (a := 2 ^ i - 1) g3
    generalize allowTo b i = o at *
    rw [← hq] at hc HS
    clear hq
    by_cases hb : b + 1 < 2 ^ i
    case neg =>
      rw [if_neg hb] at HS
      go_wp2
      exact ⟨⟨i + 1, by omega, by go_num, by rw [HS.out]⟩, by simp [intOf]; omega⟩
    rw [if_pos hb] at HS
    go_wp2_with (go_at_call 82; refine (HC.out _ (by omega) (by omega) _).mono ?_; rintro e w' ⟨rfl, rfl⟩; generalize -(-((2 : Int) ^ i - 1) / b) = q at *)
    exact ⟨⟨i + 1, by omega, by go_num, by rw [HS.out]⟩, by simp [intOf]; omega⟩
set_option maxHeartbeats 4000000 in
set_option maxRecDepth 100000 in
theorem AllowedR_any (level b : Int) (w : World) : Calls Tryz.prog 65 #[.int .i64 level, .int .i64 b] w fun e w' => e = .returned (.int .i64 (allowed level b)) ∧ w = w' := by
  by_cases h : (0 ≤ level ∧ level ≤ 30) ∧ 1 ≤ b ∧ b ≤ 65536
  case neg =>
    have HA := Lib.hid (allowed_f h)
    by_cases g1 : level < 0
    case pos =>
      clear h
      go_enter Tryz.func65, Tryz.ntmps65
      go_wp2
      go_ret
      exact ⟨ret_int (by rw [HA.out]), rfl⟩
    by_cases g2 : 30 < level
    case pos =>
      clear h
      go_enter Tryz.func65, Tryz.ntmps65
      go_wp2
      go_ret
      exact ⟨ret_int (by rw [HA.out]), rfl⟩
    by_cases g3 : b < 1
    case pos =>
      clear h
      go_enter Tryz.func65, Tryz.ntmps65
      go_wp2
      go_ret
      exact ⟨ret_int (by rw [HA.out]), rfl⟩
    have g4 : 65536 < b := by omega
    clear h
    go_enter Tryz.func65, Tryz.ntmps65
    go_wp2
    go_ret
    exact ⟨ret_int (by rw [HA.out]), rfl⟩
  have HA := Lib.hid (show allowed level b = allowTo b (level.toNat + 1) by unfold allowed; rw [if_pos h])
  obtain ⟨⟨g1, g2⟩, g3, g4⟩ := h
  obtain ⟨l, rfl⟩ := Int.eq_ofNat_of_zero_le g1
  rw [Int.toNat_natCast] at HA
  have hbz : (b == 0) = false := by simp; omega
  have hbm : (b == -1) = false := by simp; omega
  go_enter Tryz.func65, Tryz.ntmps65
  go_wp2
  go_loop [5, 6] (fun s5 s6 => ∃ i : Nat, i ≤ l + 1 ∧ s6 = .int .i64 i ∧ s5 = .int .i64 (allowTo b i)) (fun _ s6 => l + 1 - (intOf s6).toNat)
  case atStart => exact ⟨0, by omega, rfl, rfl⟩
  case round =>
    obtain ⟨i, hi, rfl, rfl⟩ := hrel
    by_cases hlt : (i : Int) ≤ l
    case neg =>
      obtain rfl : i = l + 1 := by omega
      go_wp2
      go_ret
      exact ⟨ret_int (by rw [HA.out]), rfl⟩
    have hp := pow_bd (show i ≤ 30 by omega)
    have hs := shl_nat (show i ≤ 30 by omega)
    have ha := allow_bd g3 (show i ≤ 31 by omega)
    have hc := ceil_bd g3 (show i ≤ 30 by omega)
    have HS := Lib.hid (allowTo_step (b := b) (l := i))
    have ht : ceilD (2 ^ i - 1) b = (2 ^ i - 1 + b - 1).tdiv b := by unfold ceilD; rw [Int.tdiv_eq_ediv_of_nonneg (by omega)]
    generalize allowTo b i = o at *
    rw [ht] at hc HS
    clear ht
    by_cases hb : b + 1 < 2 ^ i
    case neg =>
      rw [if_neg hb] at HS
      go_wp2
      exact ⟨⟨i + 1, by omega, by go_num, by rw [HS.out]⟩, by simp [intOf]; omega⟩
    rw [if_pos hb] at HS
    go_wp2
    exact ⟨⟨i + 1, by omega, by go_num, by rw [HS.out]⟩, by simp [intOf]; omega⟩
end Go.Proofs.YtjapjfcennemeaaGreat.rnk
end
section
namespace Go.Proofs.YtjapjfcennemeaaGreat.rnk
open Go.RowKit Go.Proofs.YtjapjfcennemeaaGreat.mem Go.Proofs.YtjapjfcennemeaaGreat.gro
set_option linter.unusedVariables false
set_option linter.unusedSimpArgs false
set_option pp.maxSteps 200000
set_option maxHeartbeats 8000000 in
set_option maxRecDepth 100000 in
theorem between_any (v mn mx : Int) (A : Option Addr) (n c : Nat) (o : L3) (i : Nat) (N : Int) (w : World) (h1 : ERead w w.heap.size A n o) (hs : n ≤ 16777216) (hi : i ≤ n) (g1 : 0 ≤ mn ∧ mn ≤ 1099511627776) (g2 : 0 ≤ mx ∧ mx ≤ 1099511627776) (g3 : 0 ≤ N ∧ N ≤ 1099511627776) (hb : ∀ i < n, (0 ≤ (at3 o i).2.1 ∧ (at3 o i).2.1 ≤ 1099511627776) ∧ 0 ≤ (at3 o i).2.2 ∧ (at3 o i).2.2 ≤ 1099511627776) : Calls Tryz.prog 79 #[.agg #[.int .i64 v, .int .i64 mn, .int .i64 mx], .slice A n c, .int .i64 i, .int .i64 N] w fun e w' => e = .returned (.agg #[.int .i64 (btw (v, mn, mx) o i N).1, .int .i64 (btw (v, mn, mx) o i N).2.1, .int .i64 (btw (v, mn, mx) o i N).2.2]) ∧ Below w.heap.size w w' := by
  have H1 := Lib.hid h1
  have HL := Lib.hid h1.len
  have HBd := Lib.hid hb
  clear h1 hb
  obtain ⟨lo, hlo⟩ : ∃ lo, (if 0 < i then (at3 o (i - 1)).2.1 else 0) = lo := ⟨_, rfl⟩
  obtain ⟨up, hup⟩ : ∃ up, (if i < o.length then (at3 o i).2.2 - 1 else N) = up := ⟨_, rfl⟩
  have hbt : btw (v, mn, mx) o i N = (v, mn + lo, mx + up) := by unfold btw; rw [hlo, hup]
  rw [hbt, show (v, mn + lo, mx + up).1 = v from rfl, show (v, mn + lo, mx + up).2.1 = mn + lo from rfl, show (v, mn + lo, mx + up).2.2 = mx + up from rfl]
  clear hbt
  rw [HL.out] at hup
  by_cases hin0 : 0 < i
  case pos =>
    rw [if_pos hin0] at hlo
    go_enter Tryz.func79, Tryz.ntmps79
    go_wp2_with fail
    obtain ⟨W0, hW, hs0, K0, B0⟩ := start2 w 79 79 #[Value.int IntKind.i64 v, Value.int IntKind.i64 mn, Value.int IntKind.i64 mx] #[Value.int IntKind.i64 0, Value.int IntKind.i64 0, Value.int IntKind.i64 0]
    rw [hW]
    clear hW
    have KK := Lib.hid (K0.swap)
    have BB := Lib.hid B0
    have R := K0.rules
    simp only [Rules] at R
    clear K0 B0
    obtain ⟨ad, rfl, hbl, HC⟩ := ERead.cells H1.out (show i - 1 < n by omega)
    have b1 := HBd.out (i - 1) (by omega)
    generalize (at3 o (i - 1)).1 = xv at *
    generalize (at3 o (i - 1)).2.2 = xm at *
    generalize (at3 o (i - 1)).2.1 = x0 at *
    subst hlo
    have s1 : IntKind.i64.wrap ((i : Int) - 1) = (i : Int) - 1 := IntWalk.i64_in _ (by omega)
    have s2 : IntKind.i64.wrap (mn + x0) = mn + x0 := IntWalk.i64_in _ (by omega)
    have s3 : 0 ≤ (i : Int) - 1 := by omega
    have s4 : ((i : Int) - 1).toNat = i - 1 := by omega
    have s5 : (i : Int) - 1 < n := by omega
    go_wp2_with fail
    (refine gro.wp_region_heldA [0, 1, 2, 3, 4, 5, 6, 7, 8, 9] 1 10 _ (gro.lasts_below (W0).drew) (by kernel_rfl) (by kernel_rfl) (by intro _ _ _ _ _ h; exact h) (by kernel_rfl) (by kernel_rfl) (by kernel_rfl) (by kernel_rfl) (by kernel_rfl) (by decide) (Below.refl _ _) ?_; apply Exists.intro; refine ⟨fun w0 hb0 => ?_, ?_⟩; focus (replace hb0 := (Below.drew (Below.refl _ (W0))).trans hb0; have KZ := (KK.out).below hb0; have RZ := KZ.rules; simp only [gro.Rules] at RZ; (obtain ⟨f1, f2, f3⟩ := HC.out w0 (BB.out.trans (hb0.mono BB.out.size))); simp only [gro.pickA, List.filterMap_cons, List.filterMap_nil, List.getElem?_toArray, List.getElem?_cons_succ, List.getElem?_cons_zero]; change wpQuiet _ _ _ _ (_ :: _ :: _ :: _ :: _ :: _ :: _ :: _ :: _ :: _ ::  []) _; (repeat (go_big_quiet_step ((fail)))); exact wpQuiet_nil rfl))
    refine gro.anyM_one 10 (by kernel_rfl) rfl ?_
    intro y1 hz1 K' hK'
    have hz : Below W0.heap.size W0 y1 := ((Below.refl _ _).drew).trans hz1
    have KV := KK.out.below hz
    have RV := KV.rules
    simp only [Rules] at RV
    go_simp
    refine hK' _ _ ⟨fun h => absurd (show true = false from h) (by decide), ?_⟩
    clear hK' K'
    have KT := Bx.puti KV (by simp) 1 (Value.int IntKind.i64 (mn + x0))
    replace BB := Lib.hid ((BB.out.trans (hz.mono BB.out.size)).setCell (p := ⟨w.heap.size, 1, none⟩) (Nat.le_refl _) (Value.int IntKind.i64 (mn + x0)))
    refine gro.anyM_done (by kernel_rfl) ?_
    intro y7 hz7
    replace BB := Lib.hid (BB.out.trans (hz7.mono BB.out.size))
    clear R RV KK
    have KK := Lib.hid (show Bx y7 [(w.heap.size, 79, #[Value.int IntKind.i64 v, Value.int IntKind.i64 (mn + x0), Value.int IntKind.i64 mx]), (w.heap.size + 1, 79, #[Value.int IntKind.i64 0, Value.int IntKind.i64 0, Value.int IntKind.i64 0])] from by have := KT.below hz7; simpa using this)
    clear KT KV hz hz1 hz7
    have R := KK.out.rules
    simp only [Rules] at R
    clear s1 s2 s3 s4 s5 HC hbl b1
    by_cases hin : i < n
    case pos =>
      rw [if_pos hin] at hup
      obtain ⟨ad9, e9, hbl, HC⟩ := ERead.cells H1.out hin
      injection e9 with e9
      subst e9
      have b1 := HBd.out i hin
      generalize (at3 o i).1 = xv1 at *
      generalize (at3 o i).2.1 = xm1 at *
      generalize (at3 o i).2.2 = x1 at *
      subst hup
      have s1 : IntKind.i64.wrap (x1 - 1) = x1 - 1 := IntWalk.i64_in _ (by omega)
      have s2 : IntKind.i64.wrap (mx + (x1 - 1)) = mx + (x1 - 1) := IntWalk.i64_in _ (by omega)
      go_wp2_with fail
      (refine gro.wp_region_heldA [0, 1, 2, 3, 4, 5, 6, 7, 8, 9] 1 10 _ (gro.lasts_below (y7).drew) (by kernel_rfl) (by kernel_rfl) (by intro _ _ _ _ _ h; exact h) (by kernel_rfl) (by kernel_rfl) (by kernel_rfl) (by kernel_rfl) (by kernel_rfl) (by decide) (Below.refl _ _) ?_; apply Exists.intro; refine ⟨fun w0 hb0 => ?_, ?_⟩; focus (replace hb0 := (Below.drew (Below.refl _ (y7))).trans hb0; have KZ := (KK.out).below hb0; have RZ := KZ.rules; simp only [gro.Rules] at RZ; (obtain ⟨f1, f2, f3⟩ := HC.out w0 (BB.out.trans (hb0.mono BB.out.size))); simp only [gro.pickA, List.filterMap_cons, List.filterMap_nil, List.getElem?_toArray, List.getElem?_cons_succ, List.getElem?_cons_zero]; change wpQuiet _ _ _ _ (_ :: _ :: _ :: _ :: _ :: _ :: _ :: _ :: _ :: _ ::  []) _; (repeat (go_big_quiet_step ((fail)))); exact wpQuiet_nil rfl))
      refine gro.anyM_one 10 (by kernel_rfl) rfl ?_
      intro y1 hz1 K' hK'
      have hz : Below y7.heap.size y7 y1 := ((Below.refl _ _).drew).trans hz1
      have KV := KK.out.below hz
      have RV := KV.rules
      simp only [Rules] at RV
      go_simp
      refine hK' _ _ ⟨fun h => absurd (show true = false from h) (by decide), ?_⟩
      clear hK' K'
      have KT := Bx.puti KV (by simp) 2 (Value.int IntKind.i64 (mx + (x1 - 1)))
      replace BB := Lib.hid ((BB.out.trans (hz.mono BB.out.size)).setCell (p := ⟨w.heap.size, 2, none⟩) (Nat.le_refl _) (Value.int IntKind.i64 (mx + (x1 - 1))))
      refine gro.anyM_done (by kernel_rfl) ?_
      intro y7 hz7
      replace BB := Lib.hid (BB.out.trans (hz7.mono BB.out.size))
      clear R RV KK
      have KK := Lib.hid (show Bx y7 [(w.heap.size, 79, #[Value.int IntKind.i64 v, Value.int IntKind.i64 (mn + x0), Value.int IntKind.i64 (mx + (x1 - 1))]), (w.heap.size + 1, 79, #[Value.int IntKind.i64 0, Value.int IntKind.i64 0, Value.int IntKind.i64 0])] from by have := KT.below hz7; simpa using this)
      clear KT KV hz hz1 hz7
      have R := KK.out.rules
      simp only [Rules] at R
      go_wp2
      refine bodyPost_ret (v := Value.agg #[Value.int IntKind.i64 v, Value.int IntKind.i64 (mn + x0), Value.int IntKind.i64 (mx + (x1 - 1))]) (by simp [results, Tryz.results79, go_sem, R]) rfl ⟨rfl, ?_⟩
      exact ((BB.out.setCell (p := ⟨w.heap.size + 1, 0, none⟩) (by simp) _).setCell (p := ⟨w.heap.size + 1, 1, none⟩) (by simp) _).setCell (p := ⟨w.heap.size + 1, 2, none⟩) (by simp) _
    rw [if_neg hin] at hup
    subst hup
    have s2 : IntKind.i64.wrap (mx + N) = mx + N := IntWalk.i64_in _ (by omega)
    have hbb := BB.out.size
    go_wp2
    have KT := Bx.puti KK.out (by simp) 2 (Value.int IntKind.i64 (mx + N))
    replace BB := Lib.hid (BB.out.setCell (p := ⟨w.heap.size, 2, none⟩) (Nat.le_refl _) (Value.int IntKind.i64 (mx + N)))
    refine bodyPost_ret (v := Value.agg #[Value.int IntKind.i64 v, Value.int IntKind.i64 (mn + x0), Value.int IntKind.i64 (mx + N)]) (by simp [results, Tryz.results79, go_sem, R]) rfl ⟨rfl, ?_⟩
    exact ((BB.out.setCell (p := ⟨w.heap.size + 1, 0, none⟩) (by simp) _).setCell (p := ⟨w.heap.size + 1, 1, none⟩) (by simp) _).setCell (p := ⟨w.heap.size + 1, 2, none⟩) (by simp) _
  rw [if_neg hin0] at hlo
  subst hlo
  obtain rfl : i = 0 := by omega
  rw [Int.add_zero]
  have hin1 : ¬ (0 : Int) < 0 := by omega
  by_cases hin : 0 < n
  case pos =>
    go_enter Tryz.func79, Tryz.ntmps79
    go_wp2_with fail
    obtain ⟨W0, hW, hs0, K0, B0⟩ := start2 w 79 79 #[Value.int IntKind.i64 v, Value.int IntKind.i64 mn, Value.int IntKind.i64 mx] #[Value.int IntKind.i64 0, Value.int IntKind.i64 0, Value.int IntKind.i64 0]
    rw [hW]
    clear hW
    have KK := Lib.hid (K0.swap)
    have BB := Lib.hid B0
    have R := K0.rules
    simp only [Rules] at R
    clear K0 B0
    rw [if_pos hin] at hup
    obtain ⟨ad, rfl, hbl, HC⟩ := ERead.cells H1.out hin
    rw [show ad.add (0 * 3) = ad from by simp [Addr.add]] at HC
    have b1 := HBd.out 0 hin
    generalize (at3 o 0).1 = xv1 at *
    generalize (at3 o 0).2.1 = xm1 at *
    generalize (at3 o 0).2.2 = x1 at *
    subst hup
    have s1 : IntKind.i64.wrap (x1 - 1) = x1 - 1 := IntWalk.i64_in _ (by omega)
    have s2 : IntKind.i64.wrap (mx + (x1 - 1)) = mx + (x1 - 1) := IntWalk.i64_in _ (by omega)
    go_wp2_with fail
    (refine gro.wp_region_heldA [0, 1, 2, 3, 4, 5, 6, 7, 8, 9] 1 10 _ (gro.lasts_below (W0).drew) (by kernel_rfl) (by kernel_rfl) (by intro _ _ _ _ _ h; exact h) (by kernel_rfl) (by kernel_rfl) (by kernel_rfl) (by kernel_rfl) (by kernel_rfl) (by decide) (Below.refl _ _) ?_; apply Exists.intro; refine ⟨fun w0 hb0 => ?_, ?_⟩; focus (replace hb0 := (Below.drew (Below.refl _ (W0))).trans hb0; have KZ := (KK.out).below hb0; have RZ := KZ.rules; simp only [gro.Rules] at RZ; (obtain ⟨f1, f2, f3⟩ := HC.out w0 (BB.out.trans (hb0.mono BB.out.size))); simp only [gro.pickA, List.filterMap_cons, List.filterMap_nil, List.getElem?_toArray, List.getElem?_cons_succ, List.getElem?_cons_zero]; change wpQuiet _ _ _ _ (_ :: _ :: _ :: _ :: _ :: _ :: _ :: _ :: _ :: _ ::  []) _; (repeat (go_big_quiet_step ((fail)))); exact wpQuiet_nil rfl))
    refine gro.anyM_one 10 (by kernel_rfl) rfl ?_
    intro y1 hz1 K' hK'
    have hz : Below W0.heap.size W0 y1 := ((Below.refl _ _).drew).trans hz1
    have KV := KK.out.below hz
    have RV := KV.rules
    simp only [Rules] at RV
    go_simp
    refine hK' _ _ ⟨fun h => absurd (show true = false from h) (by decide), ?_⟩
    clear hK' K'
    have KT := Bx.puti KV (by simp) 2 (Value.int IntKind.i64 (mx + (x1 - 1)))
    replace BB := Lib.hid ((BB.out.trans (hz.mono BB.out.size)).setCell (p := ⟨w.heap.size, 2, none⟩) (Nat.le_refl _) (Value.int IntKind.i64 (mx + (x1 - 1))))
    refine gro.anyM_done (by kernel_rfl) ?_
    intro y7 hz7
    replace BB := Lib.hid (BB.out.trans (hz7.mono BB.out.size))
    clear R RV KK
    have KK := Lib.hid (show Bx y7 [(w.heap.size, 79, #[Value.int IntKind.i64 v, Value.int IntKind.i64 (mn), Value.int IntKind.i64 (mx + (x1 - 1))]), (w.heap.size + 1, 79, #[Value.int IntKind.i64 0, Value.int IntKind.i64 0, Value.int IntKind.i64 0])] from by have := KT.below hz7; simpa using this)
    clear KT KV hz hz1 hz7
    have R := KK.out.rules
    simp only [Rules] at R
    go_wp2
    refine bodyPost_ret (v := Value.agg #[Value.int IntKind.i64 v, Value.int IntKind.i64 (mn), Value.int IntKind.i64 (mx + (x1 - 1))]) (by simp [results, Tryz.results79, go_sem, R]) rfl ⟨rfl, ?_⟩
    exact ((BB.out.setCell (p := ⟨w.heap.size + 1, 0, none⟩) (by simp) _).setCell (p := ⟨w.heap.size + 1, 1, none⟩) (by simp) _).setCell (p := ⟨w.heap.size + 1, 2, none⟩) (by simp) _
  rw [if_neg hin] at hup
  subst hup
  obtain rfl : n = 0 := by omega
  have s2 : IntKind.i64.wrap (mx + N) = mx + N := IntWalk.i64_in _ (by omega)
  go_enter Tryz.func79, Tryz.ntmps79
  go_wp2
  obtain ⟨W0, hW, hs0, K0, B0⟩ := start2 w 79 79 #[Value.int IntKind.i64 v, Value.int IntKind.i64 mn, Value.int IntKind.i64 (mx + N)] #[Value.int IntKind.i64 v, Value.int IntKind.i64 mn, Value.int IntKind.i64 (mx + N)]
  rw [hW]
  have R := K0.rules
  simp only [Rules] at R
  refine bodyPost_ret (v := Value.agg #[Value.int IntKind.i64 v, Value.int IntKind.i64 mn, Value.int IntKind.i64 (mx + N)]) (by simp [results, Tryz.results79, go_sem, R]) rfl ⟨rfl, B0⟩
end Go.Proofs.YtjapjfcennemeaaGreat.rnk
end
section
namespace Go.Proofs.YtjapjfcennemeaaGreat.rnk
open Go.RowKit Go.Proofs.YtjapjfcennemeaaGreat.mem Go.Proofs.YtjapjfcennemeaaGreat.gro
set_option linter.unusedVariables false
set_option linter.unusedSimpArgs false
set_option pp.maxSteps 200000
set_option maxHeartbeats 8000000 in
set_option maxRecDepth 100000 in
theorem place_any (A : Option Addr) (n c : Nat) (es : L3) (r : Int) (s : Nat) (w : World) (h1 : ERead w w.heap.size A n es) (hs : n ≤ 16777216) (h0 : s < n) (hr : 0 ≤ r ∧ r ≤ 1099511627776) (hb : ∀ i < n, (0 ≤ (at3 es i).2.1 ∧ (at3 es i).2.1 ≤ 1099511627776) ∧ 0 ≤ (at3 es i).2.2 ∧ (at3 es i).2.2 ≤ 1099511627776) : Calls Tryz.prog 57 #[.slice A n c, .int .i64 r, .int .i64 s] w fun e w' => e = .returned (.int .i64 (place es r s)) ∧ Below w.heap.size w w' := by
  have H1 := Lib.hid h1
  have HL := Lib.hid h1.len
  have HBd := Lib.hid hb
  clear h1 hb
  go_enter Tryz.func57, Tryz.ntmps57
  go_wp2_with fail
  go_loopg [2] n (fun kx s2 wr => ∃ i : Nat, i < n ∧ s2 = .int .i64 i ∧ n - i ≤ kx ∧ Hid (Below w.heap.size w wr) ∧ Hid (place es r i = place es r s))
  case atStart => exact ⟨s, h0, rfl, by omega, Below.refl _ _, (rfl : place es r s = place es r s)⟩
  case round =>
    obtain ⟨i, hi, rfl, hik, BB, HP⟩ := hrel
    have s1 : IntKind.i64.wrap ((i : Int) + 1) = (i : Int) + 1 := IntWalk.i64_in _ (by omega)
    by_cases hl : i + 1 < n
    case neg =>
      have HS := Lib.hid (place_stop (es := es) (n := r) (s := i) (fun h => hl (by have := h.1; rw [HL.out] at this; exact this)))
      have hd1 : decide ((i : Int) + 1 < (n : Int)) = false := by simp; omega
      go_wp2_with fail
      (refine gro.wp_region_grown (by kernel_rfl) (by kernel_rfl) ?_; (repeat (go_big_quiet_step ((fail)))); refine wpQuiet_nil ?_; intro _ hw'; obtain ⟨nx, hw''⟩ := hw'; subst hw'')
      replace BB := Lib.hid (BB.out.trans ((below_grown _ nx).mono BB.out.size))
      generalize grown _ nx = W7 at *
      go_wp2
      go_ret
      exact ⟨ret_int (by rw [← HP.out, HS.out]), BB.out⟩
    have hd1 : decide ((i : Int) + 1 < (n : Int)) = true := by simp; omega
    have H2 := H1.out.below BB.out
    obtain ⟨ad, rfl, hbl, hc1, hc2, hc3⟩ := ERead.at_ H2 hi
    obtain ⟨ad', e, _, hd1', hd2', hd3'⟩ := ERead.at_ H2 hl
    injection e with e
    subst e
    have b1 := HBd.out i hi
    have b2 := HBd.out (i + 1) hl
    have HGo := Lib.hid (fun h => place_go (es := es) (n := r) (s := i) (by rw [HL.out]; exact hl) h)
    have HSt := Lib.hid (fun (h : ¬ far (at3 es (i + 1)) r < far (at3 es i) r) => place_stop (es := es) (n := r) (s := i) (fun h2 => h h2.2))
    have HF1 := Lib.hid (fun W => far_any (at3 es i).1 (at3 es i).2.1 (at3 es i).2.2 r W (by omega) (by omega) (by omega))
    have HF2 := Lib.hid (fun W => far_any (at3 es (i + 1)).1 (at3 es (i + 1)).2.1 (at3 es (i + 1)).2.2 r W (by omega) (by omega) (by omega))
    have e1 : Hid (at3 es i = ((at3 es i).1, (at3 es i).2.1, (at3 es i).2.2)) := rfl
    have e2 : Hid (at3 es (i + 1) = ((at3 es (i + 1)).1, (at3 es (i + 1)).2.1, (at3 es (i + 1)).2.2)) := rfl
    clear H2 b1 b2
    have s2 : 0 ≤ (i : Int) + 1 := by omega
    have s3 : ((i : Int) + 1).toNat = i + 1 := by omega
    have s4 : (i : Int) + 1 < n := by omega
    generalize (at3 es i).1 = v0 at *
    generalize (at3 es i).2.1 = m0 at *
    generalize (at3 es i).2.2 = x0 at *
    generalize (at3 es (i + 1)).1 = v1 at *
    generalize (at3 es (i + 1)).2.1 = m1 at *
    generalize (at3 es (i + 1)).2.2 = x1 at *
    rw [e1.out, e2.out] at HGo HSt
    clear e1 e2
    generalize far (v0, m0, x0) r = f0 at *
    generalize far (v1, m1, x1) r = f1 at *
    by_cases hf : f1 < f0
    case neg =>
      have HS := Lib.hid (HSt.out hf)
      have hd2 : decide (f1 < f0) = false := by simp; omega
      clear HGo HSt hf
      go_wp2_with fail
      (refine gro.wp_region_grown (by kernel_rfl) (by kernel_rfl) ?_; (repeat (go_big_quiet_step (((go_at_call 89; first | (with_reducible exact call_grown (HF2.out _)) | (with_reducible exact call_grown (HF1.out _))))))); refine wpQuiet_nil ?_; intro _ hw'; obtain ⟨nx, hw''⟩ := hw'; subst hw'')
      replace BB := Lib.hid (BB.out.trans ((below_grown _ nx).mono BB.out.size))
      generalize grown _ nx = W7 at *
      go_wp2
      go_ret
      exact ⟨ret_int (by rw [← HP.out, HS.out]), BB.out⟩
    have HS := Lib.hid (HGo.out hf)
    have hd2 : decide (f1 < f0) = true := by simp; omega
    clear HGo HSt hf
    go_wp2_with fail
    (refine gro.wp_region_grown (by kernel_rfl) (by kernel_rfl) ?_; (repeat (go_big_quiet_step (((go_at_call 89; first | (with_reducible exact call_grown (HF2.out _)) | (with_reducible exact call_grown (HF1.out _))))))); refine wpQuiet_nil ?_; intro _ hw'; obtain ⟨nx, hw''⟩ := hw'; subst hw'')
    replace BB := Lib.hid (BB.out.trans ((below_grown _ nx).mono BB.out.size))
    clear hc1 hc2 hc3 hd1' hd2' hd3'
    generalize grown _ nx = W7 at *
    go_wp2
    go_roundg (n - (i + 1))
    case measure => omega
    case rel => exact ⟨i + 1, hl, by go_num, by omega, BB, by rw [← HS.out]; exact HP.out⟩
end Go.Proofs.YtjapjfcennemeaaGreat.rnk
end
