/- BAllow, RVal, Box3, Steady2: proved here in one text, no conditions beyond those that each theorem states. -/
import Derived.LoopN
import Derived.Test.YtjapjfcennemeaaZ6
import Derived.Test.YtjapjfcennemeaaZ13
import Derived.Test.YtjapjfcennemeaaZ3
import Derived.Test.YtjapjfcennemeaaZ18
set_option linter.unusedVariables false
set_option linter.unusedSimpArgs false
section
namespace Go.Proofs.Ytjapjfcennemeaa.rnk
open Go.RowKit Go.Proofs.Ytjapjfcennemeaa.mem Go.Proofs.Ytjapjfcennemeaa.gro
set_option linter.unusedVariables false
set_option linter.unusedSimpArgs false
set_option pp.maxSteps 200000
theorem ceil_eq {a b : Int} (hb : 1 ≤ b) : -((-a) / b) = ceilD a b := by
  unfold ceilD
  have h1 := Int.emod_add_mul_ediv (-a) b
  have h2 := Int.emod_nonneg (-a) (show b ≠ 0 by omega)
  have h3 := Int.emod_lt_of_pos (-a) (show 0 < b by omega)
  have h4 : a + b - 1 = (b - 1 - (-a) % b) + -((-a) / b) * b := by
    have e : -((-a) / b) * b = -(b * ((-a) / b)) := by rw [Int.neg_mul, Int.mul_comm]
    rw [e]
    generalize b * ((-a) / b) = q at *
    generalize (-a) % b = r at *
    omega
  rw [h4, Int.add_mul_ediv_right _ _ (show b ≠ 0 by omega), Int.ediv_eq_zero_of_lt (a := b - 1 - (-a) % b) (b := b) (by omega) (by omega), Int.zero_add]
theorem allowed_f {l b : Int} (h : ¬ ((0 ≤ l ∧ l ≤ 30) ∧ 1 ≤ b ∧ b ≤ 65536)) : allowed l b = -1 := by unfold allowed; rw [if_neg h]
theorem allowTo_step {b : Int} {l : Nat} : allowTo b (l + 1) = if b + 1 < 2 ^ l then 2 * allowTo b l + ceilD (2 ^ l - 1) b else allowTo b l := rfl
theorem shl_nat {i : Nat} (h : i ≤ 30) : wrap64 (2 ^ i) = (2 : Int) ^ i := by
  have h1 : (2 : Nat) ^ i ≤ 2 ^ 30 := Nat.pow_le_pow_right (by omega) h
  have h2 : ((2 ^ i : Nat) : Int) = (2 : Int) ^ i := by simp
  rw [← h2]
  clear h2
  generalize (2 : Nat) ^ i = m at *
  exact IntWalk.wrap64_in (m : Int) (by omega)
theorem pow_bd {i : Nat} (h : i ≤ 30) : 1 ≤ (2 : Int) ^ i ∧ (2 : Int) ^ i ≤ 1073741824 := by
  have h1 : (2 : Nat) ^ i ≤ 2 ^ 30 := Nat.pow_le_pow_right (by omega) h
  have h3 : 1 ≤ 2 ^ i := Nat.pow_pos (by omega)
  have h2 : ((2 ^ i : Nat) : Int) = (2 : Int) ^ i := by simp
  rw [← h2]
  omega
theorem allow_bd {b : Int} (hb : 1 ≤ b) {i : Nat} (h : i ≤ 31) : 0 ≤ allowTo b i ∧ allowTo b i ≤ 66571993088 := by
  obtain ⟨h1, h2⟩ := allowTo_bd hb i
  refine ⟨h1, Int.le_trans h2 ?_⟩
  have h3 : (2 : Nat) ^ i ≤ 2 ^ 31 := Nat.pow_le_pow_right (by omega) h
  have h5 := Nat.mul_le_mul h h3
  have h4 : ((2 ^ i : Nat) : Int) = (2 : Int) ^ i := by simp
  rw [← h4]
  omega
theorem ceil_bd {b : Int} (hb : 1 ≤ b) {i : Nat} (h : i ≤ 30) : 0 ≤ ceilD (2 ^ i - 1) b ∧ ceilD (2 ^ i - 1) b ≤ 1073741824 := by
  have h1 := pow_bd h
  unfold ceilD
  refine ⟨Int.ediv_nonneg (by omega) (by omega), ?_⟩
  refine Int.ediv_le_of_le_mul (by omega) ?_
  have h2 := Int.mul_le_mul_of_nonneg_left hb (show (0 : Int) ≤ 1073741823 by omega)
  omega
set_option maxHeartbeats 4000000 in
set_option maxRecDepth 100000 in
theorem Allowed_any (level b : Int) (w : World) : Calls Try.prog 15 #[.int .i64 level, .int .i64 b] w fun e w' => e = .returned (.int .i64 (allowed level b)) ∧ w = w' := by
  by_cases h : (0 ≤ level ∧ level ≤ 30) ∧ 1 ≤ b ∧ b ≤ 65536
  case neg =>
    have HA := Lib.hid (allowed_f h)
    by_cases g1 : level < 0
    case pos =>
      clear h
      go_enter Try.func15, Try.ntmps15
      go_wp2
      go_ret
      exact ⟨ret_int (by rw [HA.out]), rfl⟩
    by_cases g2 : 30 < level
    case pos =>
      clear h
      go_enter Try.func15, Try.ntmps15
      go_wp2
      go_ret
      exact ⟨ret_int (by rw [HA.out]), rfl⟩
    by_cases g3 : b < 1
    case pos =>
      clear h
      go_enter Try.func15, Try.ntmps15
      go_wp2
      go_ret
      exact ⟨ret_int (by rw [HA.out]), rfl⟩
    have g4 : 65536 < b := by omega
    clear h
    go_enter Try.func15, Try.ntmps15
    go_wp2
    go_ret
    exact ⟨ret_int (by rw [HA.out]), rfl⟩
  have HA := Lib.hid (show allowed level b = allowTo b (level.toNat + 1) by unfold allowed; rw [if_pos h])
  obtain ⟨⟨g1, g2⟩, g3, g4⟩ := h
  obtain ⟨l, rfl⟩ := Int.eq_ofNat_of_zero_le g1
  rw [Int.toNat_natCast] at HA
  have hbz : (b == 0) = false := by simp; omega
  have hbm : (b == -1) = false := by simp; omega
  go_enter Try.func15, Try.ntmps15
  go_wp2
  go_loop [5, 6] (fun s5 s6 => ∃ i : Nat, i ≤ l + 1 ∧ s6 = .int .i64 i ∧ s5 = .int .i64 (allowTo b i)) (fun _ s6 => l + 1 - (intOf s6).toNat)
  case atStart => exact ⟨0, by omega, rfl, rfl⟩
  case round =>
    obtain ⟨i, hi, rfl, rfl⟩ := hrel
    by_cases hlt : (i : Int) ≤ l
    case neg =>
      obtain rfl : i = l + 1 := by omega
      go_wp2
      go_ret
      exact ⟨ret_int (by rw [HA.out]), rfl⟩
    have hp := pow_bd (show i ≤ 30 by omega)
    have hs := shl_nat (show i ≤ 30 by omega)
    have ha := allow_bd g3 (show i ≤ 31 by omega)
    have hc := ceil_bd g3 (show i ≤ 30 by omega)
    have HS := Lib.hid (allowTo_step (b := b) (l := i))
    have HC := Lib.hid (fun a (h0 : 0 ≤ a) (h1 : a ≤ 1073741824) W => wid.CeilDiv_any a b (by omega) (by omega) g3 (by omega) W)
    have hq := ceil_eq (a := 2 ^ i - 1) g3
    generalize allowTo b i = o at *
    rw [← hq] at hc HS
    clear hq
    by_cases hb : b + 1 < 2 ^ i
    case neg =>
      rw [if_neg hb] at HS
      go_wp2
      exact ⟨⟨i + 1, by omega, by go_num, by rw [HS.out]⟩, by simp [intOf]; omega⟩
    rw [if_pos hb] at HS
    go_wp2_with (go_at_call 66; refine (HC.out _ (by omega) (by omega) _).mono ?_; rintro e w' ⟨rfl, rfl⟩; generalize -(-((2 : Int) ^ i - 1) / b) = q at *)
    exact ⟨⟨i + 1, by omega, by go_num, by rw [HS.out]⟩, by simp [intOf]; omega⟩
end Go.Proofs.Ytjapjfcennemeaa.rnk
end
section
namespace Go.Proofs.Ytjapjfcennemeaa.rnk
open Go.RowKit Go.Proofs.Ytjapjfcennemeaa.mem Go.Proofs.Ytjapjfcennemeaa.gro
set_option linter.unusedVariables false
set_option linter.unusedSimpArgs false
set_option pp.maxSteps 200000
theorem Bx.tl {W : World} {a : Nat × TypeId × Array Value} {L : List (Nat × TypeId × Array Value)} (h : Bx W (a :: L)) : Bx W L := fun q hq => h q (List.mem_cons_of_mem _ hq)
set_option maxHeartbeats 8000000 in
set_option maxRecDepth 100000 in
theorem Validate_any (N : Int) (A : Option Addr) (n c : Nat) (es : L3) (w : World) (h1 : ERead w w.heap.size A n es) (hs : n ≤ 9223372036854775807) : Calls Try.prog 69 #[.agg #[.int .i64 N, .slice A n c]] w fun e w' => e = .returned (.int .i64 (erS (valR N es))) ∧ Below w.heap.size w w' := by
  have H1 := Lib.hid h1
  have HL := Lib.hid h1.len
  clear h1
  rcases Bool.eq_false_or_eq_true (headR N n) with hg | hg
  case inr =>
    rw [valR_head HL.out hg]
    have hg' := fun h => Bool.eq_false_iff.1 hg (headR_iff.2 h)
    clear hg
    by_cases g1 : N < 0
    case pos =>
      go_enter Try.func69, Try.ntmps69
      go_wp2
      go_ret
      exact ⟨rfl, (Below.refl _ _).alloc (Nat.le_refl _) _⟩
    by_cases g2 : 1099511627776 < N
    case pos =>
      go_enter Try.func69, Try.ntmps69
      go_wp2
      go_ret
      exact ⟨rfl, (Below.refl _ _).alloc (Nat.le_refl _) _⟩
    by_cases g3 : n = 0
    · have g4 : ¬ N = 0 := fun h => hg' ⟨by omega, by omega, by omega⟩
      subst g3
      have g5 : (N == 0) = false := by simpa using g4
      clear hg'
      go_enter Try.func69, Try.ntmps69
      go_wp2
      go_ret
      exact ⟨rfl, (Below.refl _ _).alloc (Nat.le_refl _) _⟩
    · have g4 : N = 0 := by
        by_cases h : N = 0
        · exact h
        · exact absurd ⟨by omega, by omega, by omega⟩ hg'
      subst g4
      have g5 : ((n : Int) == 0) = false := by simpa using g3
      clear hg'
      go_enter Try.func69, Try.ntmps69
      go_wp2
      go_ret
      exact ⟨rfl, (Below.refl _ _).alloc (Nat.le_refl _) _⟩
  obtain ⟨g1, g2, g3⟩ := headR_iff.1 hg
  have hYes := Lib.hid (fun h h2 => valR_yes (N := N) (es := es) HL.out hg h h2)
  have hNo := Lib.hid (fun i hi h => valR_not (N := N) (i := i) HL.out hi h)
  have hEn := Lib.hid (fun h => valR_ends (N := N) HL.out h)
  clear hg
  have hz : ((n : Int) == 0) = (N == 0) := by
    rw [Bool.eq_iff_iff]; simp; exact g3
  go_enter Try.func69, Try.ntmps69
  go_wp2_with fail
  obtain ⟨W0, hW, hs0, K0, B0⟩ := start1 w 46 #[Value.int IntKind.i64 N, Value.slice A n c]
  rw [hW]
  clear hW
  have KK := Lib.hid K0
  have BB := Lib.hid B0
  have R := K0.rules
  simp only [Rules] at R
  clear K0 B0 hs0
  go_wp2_with fail
  clear R
  have sz0 := BB.out.size
  go_loopg [29] n (fun kx s29 wr => ∃ i : Nat, i ≤ n ∧ s29 = .int .i64 i ∧ n - i ≤ kx ∧ Hid (Bx wr [(w.heap.size, 46, #[Value.int IntKind.i64 N, Value.slice A n c])]) ∧ Hid (Below w.heap.size w wr) ∧ Hid (enTo N es i = true))
  case atStart => exact ⟨0, Nat.zero_le _, rfl, by omega, KK, BB, (rfl : enTo N es 0 = true)⟩
  case round =>
    clear KK BB sz0
    obtain ⟨i, hi, rfl, hik, KK, BB, HO⟩ := hrel
    have R := KK.out.rules
    simp only [Rules] at R
    by_cases hlt : i < n
    case neg =>
      obtain rfl : i = n := by omega
      by_cases h0 : 0 < i
      case neg =>
        have HE := Lib.hid (hYes.out HO.out (endsR_iff.2 (fun h => absurd h h0)))
        have hd0 : decide ((0 : Int) < i) = false := by simp; omega
        have hd1 : decide (0 < i) = false := by simp; omega
        clear hNo hYes hEn
        go_wp2_with fail
        (refine gro.wp_region_grown (by kernel_rfl) (by kernel_rfl) ?_; (repeat (go_big_quiet_step ((fail)))); refine wpQuiet_nil ?_; intro _ hw'; obtain ⟨nx, hw''⟩ := hw'; subst hw'')
        replace BB := Lib.hid (BB.out.trans ((below_grown _ nx).mono BB.out.size))
        clear R
        generalize grown _ nx = W7 at *
        go_wp2
        go_ret
        exact ⟨ret_int (by rw [HE.out, erS_t]), BB.out⟩
      obtain ⟨ad, rfl, hbl, hc1, hc2, hc3⟩ := ERead.at_ (H1.out.below BB.out) h0
      obtain ⟨ad', e, _, hd1, hd2, hd3⟩ := ERead.at_ (H1.out.below BB.out) (show i - 1 < i by omega)
      injection e with e
      subst e
      rw [show ad.add (0 * 3) = ad from by simp [Addr.add]] at hc1 hc2 hc3
      have hE := Lib.hid (@endsR_iff N es i)
      have hE0 := Lib.hid (@endsR_iff0 N es i)
      have hYY := Lib.hid (fun h => hYes.out HO.out (hE.out.2 (fun _ => h)))
      have hNN := Lib.hid (fun (h : ¬ ((at3 es 0).2.2 = 1 ∧ (at3 es (i - 1)).2.1 = N)) => hEn.out (hE0.out.2 (fun h2 => h (h2 h0))))
      clear hNo hYes hEn hc1 hc2 hd1 hd3 hE hE0 HO
      generalize (at3 es 0).2.2 = x0 at *
      generalize (at3 es (i - 1)).2.1 = m0 at *
      have s2 : 0 ≤ (i : Int) - 1 := by omega
      have s3 : ((i : Int) - 1).toNat = i - 1 := by omega
      have s4 : (i : Int) - 1 < i := by omega
      have s6 : IntKind.i64.wrap ((i : Int) - 1) = (i : Int) - 1 := IntWalk.i64_in _ (by omega)
      have s7 : (0 : Int) < i := by omega
      by_cases e1 : x0 = 1
      case neg =>
        have e2 : (x0 == 1) = false := by simpa using e1
        have e6 : (x0 != 1) = true := by simpa using e1
        go_wp2_with fail
        (refine gro.wp_region_grown (by kernel_rfl) (by kernel_rfl) ?_; (repeat (go_big_quiet_step ((fail)))); refine wpQuiet_nil ?_; intro _ hw'; obtain ⟨nx, hw''⟩ := hw'; subst hw'')
        replace BB := Lib.hid (BB.out.trans ((below_grown _ nx).mono BB.out.size))
        clear R s2 s3 s4 s6
        generalize grown _ nx = W7 at *
        go_wp2
        go_ret
        exact ⟨ret_int (by rw [hNN.out (fun h => e1 h.1), erS_f]), BB.out⟩
      by_cases e3 : m0 = N
      case neg =>
        have e4 : (m0 == N) = false := by simpa using e3
        have e6 : (m0 != N) = true := by simpa using e3
        have e5 := Lib.hid (hNN.out (fun h => e3 h.2))
        clear hNN hYY
        subst e1
        go_wp2_with fail
        (refine gro.wp_region_grown (by kernel_rfl) (by kernel_rfl) ?_; (repeat (go_big_quiet_step ((fail)))); refine wpQuiet_nil ?_; intro _ hw'; obtain ⟨nx, hw''⟩ := hw'; subst hw'')
        replace BB := Lib.hid (BB.out.trans ((below_grown _ nx).mono BB.out.size))
        clear R s2 s3 s4 s6
        generalize grown _ nx = W7 at *
        go_wp2
        go_ret
        exact ⟨ret_int (by rw [e5.out, erS_f]), BB.out⟩
      have e5 := Lib.hid (hYY.out ⟨e1, e3⟩)
      clear hNN hYY
      subst e1
      subst e3
      go_wp2_with fail
      (refine gro.wp_region_grown (by kernel_rfl) (by kernel_rfl) ?_; (repeat (go_big_quiet_step ((fail)))); refine wpQuiet_nil ?_; intro _ hw'; obtain ⟨nx, hw''⟩ := hw'; subst hw'')
      replace BB := Lib.hid (BB.out.trans ((below_grown _ nx).mono BB.out.size))
      clear R s2 s3 s4 s6
      generalize grown _ nx = W7 at *
      go_wp2
      go_ret
      exact ⟨ret_int (by rw [e5.out, erS_t]), BB.out⟩
    have H2 := H1.out.below BB.out
    obtain ⟨ad, rfl, hbl, hc1, hc2, hc3⟩ := ERead.at_ H2 hlt
    have hsz := BB.out.size
    have hbs : ad.block < wr.heap.size := by omega
    have hp0 : 0 < i → wr.cell? (ad.add ((i - 1) * 3)) = some (.int .i64 (at3 es (i - 1)).1) ∧ wr.cell? ⟨(ad.add ((i - 1) * 3)).block, (ad.add ((i - 1) * 3)).off + 1, none⟩ = some (.int .i64 (at3 es (i - 1)).2.1) ∧ wr.cell? ⟨(ad.add ((i - 1) * 3)).block, (ad.add ((i - 1) * 3)).off + 2, none⟩ = some (.int .i64 (at3 es (i - 1)).2.2) := fun h => by
      obtain ⟨ad', e, _, hd1, hd2, hd3⟩ := ERead.at_ H2 (show i - 1 < n by omega)
      injection e with e; subst e; exact ⟨hd1, hd2, hd3⟩
    clear H2
    have hN := Lib.hid (fun h => hNo.out i hlt (enAt_iff0.2 h))
    have hY := Lib.hid (fun h => enTo_succ HO.out (enAt_iff.2 h))
    clear HO hNo hYes
    generalize (at3 es i).1 = v1 at *
    generalize (at3 es i).2.1 = m1 at *
    generalize (at3 es i).2.2 = x1 at *
    obtain ⟨sB, hsB⟩ : ∃ s, wr.heap.size = s := ⟨_, rfl⟩
    have KZ := Lib.hid (KK.out.new (t := 94) (c := #[Value.int IntKind.i64 v1, Value.int IntKind.i64 m1, Value.int IntKind.i64 x1]) hsB)
    have BZ := Lib.hid (BB.out.alloc BB.out.size (.cells #[Value.int IntKind.i64 v1, Value.int IntKind.i64 m1, Value.int IntKind.i64 x1] 94))
    have RZ := KZ.out.rules
    simp only [Rules] at RZ
    have hp5 := fun h => And.intro (cell_box (hp0 h).1 (.cells #[Value.int IntKind.i64 v1, Value.int IntKind.i64 m1, Value.int IntKind.i64 x1] 94)) (And.intro (cell_box (hp0 h).2.1 (.cells #[Value.int IntKind.i64 v1, Value.int IntKind.i64 m1, Value.int IntKind.i64 x1] 94)) (cell_box (hp0 h).2.2 (.cells #[Value.int IntKind.i64 v1, Value.int IntKind.i64 m1, Value.int IntKind.i64 x1] 94)))
    have hZ := Lib.hid (show ∃ W5, wr.alloc (.cells #[Value.int IntKind.i64 v1, Value.int IntKind.i64 m1, Value.int IntKind.i64 x1] 94) = W5 from ⟨_, rfl⟩)
    clear hp0
    by_cases h0 : 0 < i
    case neg =>
      clear hp5 hsB
      obtain rfl : i = 0 := by omega
      have hp6 : ¬ (0 : Int) < 0 := by omega
      rw [show ad.add (0 * 3) = ad from by simp [Addr.add]] at hc1 hc2 hc3
      go_wp2
      all_goals first
        | (go_ret; exact ⟨ret_int (by rw [hN.out (by omega), erS_f]), BZ.out⟩)
        | (go_roundg (n - (0 + 1)); (case measure => omega); (case rel => exact ⟨0 + 1, by omega, by go_num, by omega, Lib.hid (Bx.tl KZ.out), BZ.out, hY.out (by omega)⟩))
    obtain ⟨hd1, hd2, hd3⟩ := hp5 h0
    clear hp5 hsB
    generalize (at3 es (i - 1)).1 = v0 at *
    generalize (at3 es (i - 1)).2.1 = m0 at *
    generalize (at3 es (i - 1)).2.2 = x0 at *
    have s2 : 0 ≤ (i : Int) - 1 := by omega
    have s3 : ((i : Int) - 1).toNat = i - 1 := by omega
    have s4 : (i : Int) - 1 < n := by omega
    have s5 : 1 ≤ (i : Int) := by omega
    have BY := Lib.hid (BZ.out.alloc BZ.out.size (.cells #[Value.int IntKind.i64 v0, Value.int IntKind.i64 m0, Value.int IntKind.i64 x0] 94))
    go_wp2
    all_goals first
      | (go_ret; exact ⟨ret_int (by rw [hN.out (by omega), erS_f]), BZ.out⟩)
      | (go_ret; exact ⟨ret_int (by rw [hN.out (by omega), erS_f]), BY.out⟩)
      | (go_roundg (n - (i + 1)); (case measure => omega); (case rel => exact ⟨i + 1, by omega, by go_num, by omega, Lib.hid ((Bx.tl KZ.out).alloc _), BY.out, hY.out (by omega)⟩))
end Go.Proofs.Ytjapjfcennemeaa.rnk
end
section
namespace Go.Proofs.Ytjapjfcennemeaa.gro
open Go.RowKit Go.Proofs.Ytjapjfcennemeaa.mem
set_option linter.unusedVariables false
section
variable {W : World} {L : List (Nat × TypeId × Array Value)} {g : Nat} {t : TypeId} {x0 x1 x2 x3 x4 x5 u v u0 u1 u2 u3 u4 u5 : Value}
theorem Bx.puti {c : Array Value} (h : Bx W ((g, t, c) :: L)) (hd : ∀ q ∈ L, q.1 ≠ g) (i : Nat) (u : Value) : Bx (W.setCell ⟨g, i, none⟩ u) ((g, t, c.setIfInBounds i u) :: L) :=
  Bx.cons_ (h.head.set_ i u) (h.tail.far (p := ⟨g, i, none⟩) hd u)
theorem Bx.put01 (h : Bx W ((g, t, #[x0, x1, x2, x3, x4, x5]) :: L)) (hd : ∀ q ∈ L, q.1 ≠ g) : Bx ((W.setCell ⟨g, 0, none⟩ u).setCell ⟨g, 1, none⟩ v) ((g, t, #[u, v, x2, x3, x4, x5]) :: L) := by
  have := (h.puti hd 0 u).puti hd 1 v
  simpa using this
theorem Bx.put23 (h : Bx W ((g, t, #[x0, x1, x2, x3, x4, x5]) :: L)) (hd : ∀ q ∈ L, q.1 ≠ g) : Bx ((W.setCell ⟨g, 2, none⟩ u).setCell ⟨g, 3, none⟩ v) ((g, t, #[x0, x1, u, v, x4, x5]) :: L) := by
  have := (h.puti hd 2 u).puti hd 3 v
  simpa using this
theorem Bx.put45 (h : Bx W ((g, t, #[x0, x1, x2, x3, x4, x5]) :: L)) (hd : ∀ q ∈ L, q.1 ≠ g) : Bx ((W.setCell ⟨g, 4, none⟩ u).setCell ⟨g, 5, none⟩ v) ((g, t, #[x0, x1, x2, x3, u, v]) :: L) := by
  have := (h.puti hd 4 u).puti hd 5 v
  simpa using this
theorem Bx.put6 (h : Bx W ((g, t, #[x0, x1, x2, x3, x4, x5]) :: L)) (hd : ∀ q ∈ L, q.1 ≠ g) :
    Bx ((((((W.setCell ⟨g, 0, none⟩ u0).setCell ⟨g, 1, none⟩ u1).setCell ⟨g, 2, none⟩ u2).setCell ⟨g, 3, none⟩ u3).setCell ⟨g, 4, none⟩ u4).setCell ⟨g, 5, none⟩ u5) ((g, t, #[u0, u1, u2, u3, u4, u5]) :: L) :=
  ((h.put01 hd).put23 hd).put45 hd
theorem Bx.far6 (h : Bx W L) (hd : ∀ q ∈ L, q.1 ≠ g) :
    Bx ((((((W.setCell ⟨g, 0, none⟩ u0).setCell ⟨g, 1, none⟩ u1).setCell ⟨g, 2, none⟩ u2).setCell ⟨g, 3, none⟩ u3).setCell ⟨g, 4, none⟩ u4).setCell ⟨g, 5, none⟩ u5) L :=
  (((((h.far (p := ⟨g, 0, none⟩) hd u0).far (p := ⟨g, 1, none⟩) hd u1).far (p := ⟨g, 2, none⟩) hd u2).far (p := ⟨g, 3, none⟩) hd u3).far (p := ⟨g, 4, none⟩) hd u4).far (p := ⟨g, 5, none⟩) hd u5
end
theorem Below.set6 {B : Nat} {W0 W : World} (h : Below B W0 W) {g : Nat} (hg : B ≤ g) (u0 u1 u2 u3 u4 u5 : Value) :
    Below B W0 ((((((W.setCell ⟨g, 0, none⟩ u0).setCell ⟨g, 1, none⟩ u1).setCell ⟨g, 2, none⟩ u2).setCell ⟨g, 3, none⟩ u3).setCell ⟨g, 4, none⟩ u4).setCell ⟨g, 5, none⟩ u5) :=
  (((((h.setCell hg u0).setCell hg u1).setCell hg u2).setCell hg u3).setCell hg u4).setCell hg u5
end Go.Proofs.Ytjapjfcennemeaa.gro
end
section
namespace Go.Proofs.Ytjapjfcennemeaa.gro
open Go.RowKit Go.Proofs.Ytjapjfcennemeaa.mem
set_option linter.unusedVariables false
section
variable {P : Program} {ops : Array Oper} {md : Region.Mode} {Q : Exit → Act → World → Prop} {S : World → Prop} {s : Nat}
def waits (md : Region.Mode) (ops : Array Oper) (s i : Nat) : Bool := match ops[s]? with | some o => o.after.any (fun e => Region.binds md e && e.on == i) | none => false
theorem waits_not {i j : Nat} {listed : Array Bool} (hw : waits md ops s i = true) (hi : i ∈ Region.ready md ops listed) (hj : j ∈ Region.ready md ops listed) : j ≠ s := by
  rintro rfl
  obtain ⟨_, oj, hoj, hall⟩ := mem_ready.1 hj
  unfold waits at hw
  rw [hoj] at hw
  simp only [Array.any_eq_true, Bool.and_eq_true, beq_iff_eq] at hw
  obtain ⟨k, hk, hb, hon⟩ := hw
  have h1 := hall _ (Array.getElem_mem hk) hb
  rw [hon] at h1
  have h0 := (mem_ready.1 hi).1
  rcases Nat.lt_or_ge i listed.size with h' | h'
  · simp [h'] at h0 h1; rw [h0] at h1; cases h1
  · simp [Array.getElem?_eq_none h'] at h1
end
end Go.Proofs.Ytjapjfcennemeaa.gro
end
