/- Contract of the reference's choice of the entry for a rank. -/
import Derived.Test.YtjapjfcennemeaaMgRHlp
import Derived.Test.YtjapjfcennemeaaPruV
import Derived.LoopN
namespace Go.Proofs.Ytjapjfcennemeaa.rnk
open Go.RowKit Go.Proofs.Ytjapjfcennemeaa.mem Go.Proofs.Ytjapjfcennemeaa.gro
set_option linter.unusedVariables false
set_option linter.unusedSimpArgs false
set_option pp.maxSteps 200000
theorem forTo_yes {es : L3} {r : Int} {i q : Nat} (h : forTo es r i = q) (h2 : far (at3 es i) r < far (at3 es q) r) : forTo es r (i + 1) = i := by unfold forTo; rw [h, if_pos h2]
theorem forTo_no {es : L3} {r : Int} {i q : Nat} (h : forTo es r i = q) (h2 : ¬ far (at3 es i) r < far (at3 es q) r) : forTo es r (i + 1) = q := by unfold forTo; rw [h, if_neg h2]
theorem far_if (e : Int × Int × Int) (n : Int) : far e n = max (n - e.2.1) (e.2.2 - n) := rfl
set_option maxHeartbeats 8000000 in
set_option maxRecDepth 100000 in
theorem For_any (A : Option Addr) (n c : Nat) (es : L3) (r : Int) (w : World) (h1 : ERead w w.heap.size A n es) (hs : n ≤ 16777216) (hr : 0 ≤ r ∧ r ≤ 1099511627776) (hb : ∀ i < n, (0 ≤ (at3 es i).2.1 ∧ (at3 es i).2.1 ≤ 1099511627776) ∧ 0 ≤ (at3 es i).2.2 ∧ (at3 es i).2.2 ≤ 1099511627776) : Calls Try.prog 123 #[.slice A n c, .int .i64 r] w fun e w' => e = .returned (.int .i64 (forN es r)) ∧ Below w.heap.size w w' := by
  have H1 := Lib.hid h1
  have HL := Lib.hid h1.len
  have HBd := Lib.hid hb
  clear h1 hb
  go_enter Try.func123, Try.ntmps123
  go_wp2_with fail
  go_loopg [5, 10] n (fun kx s5 s10 wr => ∃ (i q : Nat), s5 = .int .i64 q ∧ s10 = .int .i64 i ∧ i ≤ n ∧ n - i ≤ kx ∧ (0 < n → q < n) ∧ Hid (forTo es r i = q) ∧ Hid (Below w.heap.size w wr))
  case atStart => exact ⟨0, 0, rfl, rfl, Nat.zero_le _, by omega, id, rfl, Below.refl _ _⟩
  case round =>
    obtain ⟨i, q, rfl, rfl, hi, hik, hq, HF, BB⟩ := hrel
    by_cases hlt : i < n
    case neg =>
      obtain rfl : i = n := by omega
      go_wp2
      go_ret
      exact ⟨ret_int (by rw [show forN es r = q by unfold forN; rw [HL.out]; exact HF.out]), BB.out⟩
    have hqn := hq (by omega)
    obtain ⟨ad, rfl, hbl, HC⟩ := ERead.cells H1.out hlt
    obtain ⟨ad', e, _, HD⟩ := ERead.cells H1.out hqn
    injection e with e
    subst e
    have b1 := HBd.out i hlt
    have b2 := HBd.out q hqn
    have HY := Lib.hid (fun h => forTo_yes (es := es) (r := r) HF.out h)
    have HN := Lib.hid (fun h => forTo_no (es := es) (r := r) HF.out h)
    rw [far_if, far_if] at HY HN
    clear hq HF
    obtain ⟨gi, hgi⟩ : ∃ s, wr.heap.size = s := ⟨_, rfl⟩
    generalize (at3 es i).1 = v0 at *
    generalize (at3 es i).2.1 = m0 at *
    generalize (at3 es i).2.2 = x0 at *
    generalize (at3 es q).1 = v1 at *
    generalize (at3 es q).2.1 = m1 at *
    generalize (at3 es q).2.2 = x1 at *
    have s1 : IntKind.i64.wrap (r - m0) = r - m0 := IntWalk.i64_in _ (by omega)
    have s2 : IntKind.i64.wrap (x0 - r) = x0 - r := IntWalk.i64_in _ (by omega)
    have s3 : IntKind.i64.wrap (r - m1) = r - m1 := IntWalk.i64_in _ (by omega)
    have s4 : IntKind.i64.wrap (x1 - r) = x1 - r := IntWalk.i64_in _ (by omega)
    have BZ := Lib.hid (BB.out.alloc BB.out.size (.cells #[Value.int IntKind.i64 v0, Value.int IntKind.i64 m0, Value.int IntKind.i64 x0] 94))
    have KZ := Lib.hid ((Bx.nil_ (W := wr)).new (t := 94) (c := #[Value.int IntKind.i64 v0, Value.int IntKind.i64 m0, Value.int IntKind.i64 x0]) hgi)
    obtain ⟨g1, g2, g3⟩ := HC.out _ BB.out
    go_wp2_with fail
    obtain ⟨W3, hW, K3, B3, z3⟩ := name_world KZ.out BZ.out (s := gi + 1) (by simp; omega)
    rw [hW]
    clear hW KZ BZ g1 g2 g3
    have BB := Lib.hid B3
    have R := K3.rules
    simp only [Rules] at R
    obtain ⟨g1, g2, g3⟩ := HC.out _ BB.out
    obtain ⟨k1, k2, k3⟩ := HD.out _ BB.out
    clear K3 B3
    (refine gro.wp_region_grown (by kernel_rfl) (by kernel_rfl) ?_; (repeat (go_big_quiet_step ((fail)))); refine wpQuiet_nil ?_; intro _ hw'; obtain ⟨nx, hw''⟩ := hw'; subst hw'')
    replace BB := Lib.hid (BB.out.trans ((below_grown _ nx).mono BB.out.size))
    clear R g1 g2 g3 k1 k2 k3
    generalize grown _ nx = W7 at *
    by_cases hc : max (r - m0) (x0 - r) < max (r - m1) (x1 - r)
    · have HX := Lib.hid (HY.out (by omega))
      clear HY HN
      go_wp2
      all_goals (try (exfalso; omega))
      all_goals (go_roundg (n - (i + 1)); (case measure => omega); (case rel => exact ⟨i + 1, i, rfl, by go_num, by omega, by omega, fun _ => hlt, HX.out, BB⟩))
    · have HX := Lib.hid (HN.out (by omega))
      clear HY HN
      go_wp2
      all_goals (try (exfalso; omega))
      all_goals (go_roundg (n - (i + 1)); (case measure => omega); (case rel => exact ⟨i + 1, q, rfl, by go_num, by omega, by omega, fun _ => hqn, HX.out, BB⟩))
end Go.Proofs.Ytjapjfcennemeaa.rnk
