/- RValR: proved here in one text, no conditions beyond those that each theorem states. -/
import Derived.LoopN
import Derived.Test.YtjapjfcennemeaaGreatZ19
import Derived.Test.YtjapjfcennemeaaGreatZ15
import Derived.Test.YtjapjfcennemeaaGreatZ17
set_option linter.unusedVariables false
set_option linter.unusedSimpArgs false
namespace Go.Proofs.YtjapjfcennemeaaGreat.rnk
open Go.RowKit Go.Proofs.YtjapjfcennemeaaGreat.mem Go.Proofs.YtjapjfcennemeaaGreat.gro
set_option linter.unusedVariables false
set_option linter.unusedSimpArgs false
set_option pp.maxSteps 200000
def stAt (N : Int) (es : L3) (n i : Nat) : Prop := (i = 0 → (at3 es i).2.2 = 1) ∧ (i = n - 1 → (at3 es i).2.1 = N)
theorem stAt_or {N : Int} {es : L3} {n i : Nat} : stAt N es n i = ((¬ i = 0 ∨ (at3 es i).2.2 = 1) ∧ (¬ i = n - 1 ∨ (at3 es i).2.1 = N)) := propext (and_congr Decidable.imp_iff_not_or Decidable.imp_iff_not_or)
def stR (N : Int) (es : L3) (n i : Nat) : Prop := ∀ j < i, stAt N es n j
theorem stR_zero {N : Int} {es : L3} {n : Nat} : stR N es n 0 := fun j h => absurd h (by omega)
theorem stR_succ {N : Int} {es : L3} {n i : Nat} (h : stR N es n i) (h2 : stAt N es n i) : stR N es n (i + 1) := fun j hj => by
  rcases Nat.lt_or_ge j i with h3 | h3
  · exact h j h3
  · obtain rfl : i = j := by omega
    exact h2
theorem stR_end {N : Int} {es : L3} {n : Nat} (h : stR N es n n) : endsR N es n = true := endsR_iff.2 fun h0 => ⟨(h 0 h0).1 rfl, (h (n - 1) (by omega)).2 rfl⟩
theorem stR_not {N : Int} {es : L3} {n i : Nat} (hi : i < n) (h : ¬ stAt N es n i) : endsR N es n = false := endsR_iff0.2 fun h2 => h (by
  obtain ⟨h3, h4⟩ := h2 (by omega)
  exact ⟨fun e => by rw [e]; exact h3, fun e => by rw [e]; exact h4⟩)
set_option maxHeartbeats 8000000 in
set_option maxRecDepth 100000 in
theorem ValidateR_any (N : Int) (A : Option Addr) (n c : Nat) (es : L3) (w : World) (h1 : ERead w w.heap.size A n es) (hs : n ≤ 9223372036854775807) : Calls Tryz.prog 62 #[.agg #[.int .i64 N, .slice A n c]] w fun e w' => e = .returned (.int .i64 (erS (valR N es))) ∧ Below w.heap.size w w' := by
  have H1 := Lib.hid h1
  have HL := Lib.hid h1.len
  clear h1
  rcases Bool.eq_false_or_eq_true (headR N n) with hg | hg
  case inr =>
    rw [valR_head HL.out hg]
    have hg' := fun h => Bool.eq_false_iff.1 hg (headR_iff.2 h)
    clear hg
    by_cases g1 : N < 0
    case pos =>
      go_enter Tryz.func62, Tryz.ntmps62
      go_wp2
      go_ret
      exact ⟨rfl, (Below.refl _ _).alloc (Nat.le_refl _) _⟩
    by_cases g2 : 1099511627776 < N
    case pos =>
      go_enter Tryz.func62, Tryz.ntmps62
      go_wp2
      go_ret
      exact ⟨rfl, (Below.refl _ _).alloc (Nat.le_refl _) _⟩
    by_cases g3 : n = 0
    · have g4 : ¬ N = 0 := fun h => hg' ⟨by omega, by omega, by omega⟩
      subst g3
      have g5 : (N == 0) = false := by simpa using g4
      clear hg'
      go_enter Tryz.func62, Tryz.ntmps62
      go_wp2
      go_ret
      exact ⟨rfl, (Below.refl _ _).alloc (Nat.le_refl _) _⟩
    · have g4 : N = 0 := by
        by_cases h : N = 0
        · exact h
        · exact absurd ⟨by omega, by omega, by omega⟩ hg'
      subst g4
      have g5 : ((n : Int) == 0) = false := by simpa using g3
      clear hg'
      go_enter Tryz.func62, Tryz.ntmps62
      go_wp2
      go_ret
      exact ⟨rfl, (Below.refl _ _).alloc (Nat.le_refl _) _⟩
  obtain ⟨g1, g2, g3⟩ := headR_iff.1 hg
  have hYes := Lib.hid (fun h h2 => valR_yes (N := N) (es := es) HL.out hg h h2)
  have hNo := Lib.hid (fun i hi h => valR_not (N := N) (i := i) HL.out hi h)
  have hEn := Lib.hid (fun h => valR_ends (N := N) HL.out h)
  clear hg
  have hz : ((n : Int) == 0) = (N == 0) := by
    rw [Bool.eq_iff_iff]; simp; exact g3
  go_enter Tryz.func62, Tryz.ntmps62
  go_wp2_with fail
  obtain ⟨W0, hW, hs0, K0, B0⟩ := start1 w 39 #[Value.int IntKind.i64 N, Value.slice A n c]
  rw [hW]
  clear hW
  have KK := Lib.hid K0
  have BB := Lib.hid B0
  have R := K0.rules
  simp only [Rules] at R
  clear K0 B0 hs0
  go_wp2_with fail
  clear R
  have sz0 := BB.out.size
  go_loopg [27] n (fun kx s27 wr => ∃ i : Nat, i ≤ n ∧ s27 = .int .i64 i ∧ n - i ≤ kx ∧ Hid (Bx wr [(w.heap.size, 39, #[Value.int IntKind.i64 N, Value.slice A n c])]) ∧ Hid (Below w.heap.size w wr) ∧ Hid (enTo N es i = true ∧ stR N es n i))
  case atStart => exact ⟨0, Nat.zero_le _, rfl, by omega, KK, BB, ⟨(rfl : enTo N es 0 = true), stR_zero⟩⟩
  case round =>
    clear KK BB sz0
    obtain ⟨i, hi, rfl, hik, KK, BB, HO⟩ := hrel
    have R := KK.out.rules
    simp only [Rules] at R
    by_cases hlt : i < n
    case neg =>
      obtain rfl : i = n := by omega
      have HE := Lib.hid (hYes.out HO.out.1 (stR_end HO.out.2))
      go_wp2
      go_ret
      exact ⟨ret_int (by rw [HE.out, erS_t]), BB.out⟩
    have H2 := H1.out.below BB.out
    obtain ⟨ad, rfl, hbl, hc1, hc2, hc3⟩ := ERead.at_ H2 hlt
    have hsz := BB.out.size
    have hbs : ad.block < wr.heap.size := by omega
    have hp0 : 0 < i → wr.cell? (ad.add ((i - 1) * 3)) = some (.int .i64 (at3 es (i - 1)).1) ∧ wr.cell? ⟨(ad.add ((i - 1) * 3)).block, (ad.add ((i - 1) * 3)).off + 1, none⟩ = some (.int .i64 (at3 es (i - 1)).2.1) ∧ wr.cell? ⟨(ad.add ((i - 1) * 3)).block, (ad.add ((i - 1) * 3)).off + 2, none⟩ = some (.int .i64 (at3 es (i - 1)).2.2) := fun h => by
      obtain ⟨ad', e, _, hd1, hd2, hd3⟩ := ERead.at_ H2 (show i - 1 < n by omega)
      injection e with e; subst e; exact ⟨hd1, hd2, hd3⟩
    clear H2
    have hN := Lib.hid (fun h => hNo.out i hlt (enAt_iff0.2 h))
    have hM := Lib.hid (fun h => hEn.out (stR_not (N := N) hlt h))
    have hY := Lib.hid (fun h h2 => And.intro (enTo_succ HO.out.1 (enAt_iff.2 h)) (stR_succ HO.out.2 h2))
    have hO := Lib.hid (stAt_or (N := N) (es := es) (n := n) (i := i))
    clear HO hNo hYes hEn
    generalize (at3 es i).1 = v1 at *
    generalize (at3 es i).2.1 = m1 at *
    generalize (at3 es i).2.2 = x1 at *
    obtain ⟨sB, hsB⟩ : ∃ s, wr.heap.size = s := ⟨_, rfl⟩
    have KZ := Lib.hid (KK.out.new (t := 79) (c := #[Value.int IntKind.i64 v1, Value.int IntKind.i64 m1, Value.int IntKind.i64 x1]) hsB)
    have BZ := Lib.hid (BB.out.alloc BB.out.size (.cells #[Value.int IntKind.i64 v1, Value.int IntKind.i64 m1, Value.int IntKind.i64 x1] 79))
    have RZ := KZ.out.rules
    simp only [Rules] at RZ
    have hp5 := fun h => And.intro (cell_box (hp0 h).1 (.cells #[Value.int IntKind.i64 v1, Value.int IntKind.i64 m1, Value.int IntKind.i64 x1] 79)) (And.intro (cell_box (hp0 h).2.1 (.cells #[Value.int IntKind.i64 v1, Value.int IntKind.i64 m1, Value.int IntKind.i64 x1] 79)) (cell_box (hp0 h).2.2 (.cells #[Value.int IntKind.i64 v1, Value.int IntKind.i64 m1, Value.int IntKind.i64 x1] 79)))
    have hZ := Lib.hid (show ∃ W5, wr.alloc (.cells #[Value.int IntKind.i64 v1, Value.int IntKind.i64 m1, Value.int IntKind.i64 x1] 79) = W5 from ⟨_, rfl⟩)
    clear hp0
    by_cases h0 : 0 < i
    case neg =>
      clear hp5 hsB
      obtain rfl : i = 0 := by omega
      have hp6 : ¬ (0 : Int) < 0 := by omega
      rw [show ad.add (0 * 3) = ad from by simp [Addr.add]] at hc1 hc2 hc3
      by_cases hx : x1 = 1
      case neg =>
        have hx2 : (x1 == 1) = false := by simpa using hx
        go_wp2
        all_goals (go_ret; exact ⟨ret_int (by rw [(show valR _ es = false from by first | exact hN.out (by omega) | exact hM.out (by rw [hO.out]; first | omega | (simp <;> omega))), erS_f]), BZ.out⟩)
      subst hx
      by_cases hl : n = 0 + 1
      case neg =>
        have hl2 : ¬ (0 : Int) = (n : Int) - 1 := by omega
        have hl3 : ((0 : Int) == (n : Int) - 1) = false := by simp; omega
        go_wp2
        all_goals first
          | (go_ret; exact ⟨ret_int (by rw [(show valR _ es = false from by first | exact hN.out (by omega) | exact hM.out (by rw [hO.out]; first | omega | (simp <;> omega))), erS_f]), BZ.out⟩)
          | (go_roundg (n - (0 + 1)); (case measure => omega); (case rel => exact ⟨0 + 1, by omega, by go_num, by omega, Lib.hid (Bx.tl KZ.out), BZ.out, hY.out (by omega) (by rw [hO.out]; first | omega | (simp <;> omega))⟩))
      subst hl
      by_cases hm : m1 = N
      case neg =>
        have hm2 : (m1 == N) = false := by simpa using hm
        have hm3 : (m1 != N) = true := by simpa using hm
        go_wp2
        all_goals first
          | (go_ret; exact ⟨ret_int (by rw [(show valR _ es = false from by first | exact hN.out (by omega) | exact hM.out (by rw [hO.out]; first | omega | (simp <;> omega))), erS_f]), BZ.out⟩)
          | (go_roundg ((0 + 1) - (0 + 1)); (case measure => omega); (case rel => exact ⟨0 + 1, by omega, by go_num, by omega, Lib.hid (Bx.tl KZ.out), BZ.out, hY.out (by omega) (by rw [hO.out]; first | omega | (simp <;> omega))⟩))
      subst hm
      go_wp2
      all_goals first
        | (go_ret; exact ⟨ret_int (by rw [(show valR _ es = false from by first | exact hN.out (by omega) | exact hM.out (by rw [hO.out]; first | omega | (simp <;> omega))), erS_f]), BZ.out⟩)
        | (go_roundg ((0 + 1) - (0 + 1)); (case measure => omega); (case rel => exact ⟨0 + 1, by omega, by go_num, by omega, Lib.hid (Bx.tl KZ.out), BZ.out, hY.out (by omega) (by rw [hO.out]; first | omega | (simp <;> omega))⟩))
    obtain ⟨hd1, hd2, hd3⟩ := hp5 h0
    clear hp5 hsB
    generalize (at3 es (i - 1)).1 = v0 at *
    generalize (at3 es (i - 1)).2.1 = m0 at *
    generalize (at3 es (i - 1)).2.2 = x0 at *
    have s2 : 0 ≤ (i : Int) - 1 := by omega
    have s3 : ((i : Int) - 1).toNat = i - 1 := by omega
    have s4 : (i : Int) - 1 < n := by omega
    have s5 : 1 ≤ (i : Int) := by omega
    have s6 : ((i : Int) == 0) = false := by simp; omega
    have BY := Lib.hid (BZ.out.alloc BZ.out.size (.cells #[Value.int IntKind.i64 v0, Value.int IntKind.i64 m0, Value.int IntKind.i64 x0] 79))
    by_cases hl : n = i + 1
    case neg =>
      have hl2 : ¬ (i : Int) = (n : Int) - 1 := by omega
      have hl3 : ((i : Int) == (n : Int) - 1) = false := by simp; omega
      go_wp2
      all_goals first
        | (go_ret; exact ⟨ret_int (by rw [(show valR _ es = false from by first | exact hN.out (by omega) | exact hM.out (by rw [hO.out]; first | omega | (simp <;> omega))), erS_f]), BZ.out⟩)
        | (go_ret; exact ⟨ret_int (by rw [(show valR _ es = false from by first | exact hN.out (by omega) | exact hM.out (by rw [hO.out]; first | omega | (simp <;> omega))), erS_f]), BY.out⟩)
        | (go_roundg (n - (i + 1)); (case measure => omega); (case rel => exact ⟨i + 1, by omega, by go_num, by omega, Lib.hid ((Bx.tl KZ.out).alloc _), BY.out, hY.out (by omega) (by rw [hO.out]; first | omega | (simp <;> omega))⟩))
    subst hl
    by_cases hm : m1 = N
    case neg =>
      have hm2 : (m1 == N) = false := by simpa using hm
      have hm3 : (m1 != N) = true := by simpa using hm
      go_wp2
      all_goals first
        | (go_ret; exact ⟨ret_int (by rw [(show valR _ es = false from by first | exact hN.out (by omega) | exact hM.out (by rw [hO.out]; first | omega | (simp <;> omega))), erS_f]), BZ.out⟩)
        | (go_ret; exact ⟨ret_int (by rw [(show valR _ es = false from by first | exact hN.out (by omega) | exact hM.out (by rw [hO.out]; first | omega | (simp <;> omega))), erS_f]), BY.out⟩)
        | (go_roundg ((i + 1) - (i + 1)); (case measure => omega); (case rel => exact ⟨i + 1, by omega, by go_num, by omega, Lib.hid ((Bx.tl KZ.out).alloc _), BY.out, hY.out (by omega) (by rw [hO.out]; first | omega | (simp <;> omega))⟩))
    subst hm
    go_wp2
    all_goals first
      | (go_ret; exact ⟨ret_int (by rw [(show valR _ es = false from by first | exact hN.out (by omega) | exact hM.out (by rw [hO.out]; first | omega | (simp <;> omega))), erS_f]), BZ.out⟩)
      | (go_ret; exact ⟨ret_int (by rw [(show valR _ es = false from by first | exact hN.out (by omega) | exact hM.out (by rw [hO.out]; first | omega | (simp <;> omega))), erS_f]), BY.out⟩)
      | (go_roundg ((i + 1) - (i + 1)); (case measure => omega); (case rel => exact ⟨i + 1, by omega, by go_num, by omega, Lib.hid ((Bx.tl KZ.out).alloc _), BY.out, hY.out (by omega) (by rw [hO.out]; first | omega | (simp <;> omega))⟩))
end Go.Proofs.YtjapjfcennemeaaGreat.rnk
