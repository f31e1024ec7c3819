/- Contracts of rank.place. -/
import Derived.Test.YtjapjfcennemeaaMgRHlp
import Derived.LoopN
namespace Go.Proofs.Ytjapjfcennemeaa.rnk
open Go.RowKit Go.Proofs.Ytjapjfcennemeaa.mem Go.Proofs.Ytjapjfcennemeaa.gro
set_option linter.unusedVariables false
set_option linter.unusedSimpArgs false
set_option pp.maxSteps 200000
set_option maxHeartbeats 8000000 in
set_option maxRecDepth 100000 in
theorem place_any (A : Option Addr) (n c : Nat) (es : L3) (r : Int) (s : Nat) (w : World) (h1 : ERead w w.heap.size A n es) (hs : n ≤ 16777216) (h0 : s < n) (hr : 0 ≤ r ∧ r ≤ 1099511627776) (hb : ∀ i < n, (0 ≤ (at3 es i).2.1 ∧ (at3 es i).2.1 ≤ 1099511627776) ∧ 0 ≤ (at3 es i).2.2 ∧ (at3 es i).2.2 ≤ 1099511627776) : Calls Try.prog 121 #[.slice A n c, .int .i64 r, .int .i64 s] w fun e w' => e = .returned (.int .i64 (place es r s)) ∧ Below w.heap.size w w' := by
  have H1 := Lib.hid h1
  have HL := Lib.hid h1.len
  have HBd := Lib.hid hb
  clear h1 hb
  go_enter Try.func121, Try.ntmps121
  go_wp2_with fail
  go_loopg [2] n (fun kx s2 wr => ∃ i : Nat, i < n ∧ s2 = .int .i64 i ∧ n - i ≤ kx ∧ Hid (Below w.heap.size w wr) ∧ Hid (place es r i = place es r s))
  case atStart => exact ⟨s, h0, rfl, by omega, Below.refl _ _, (rfl : place es r s = place es r s)⟩
  case round =>
    obtain ⟨i, hi, rfl, hik, BB, HP⟩ := hrel
    have s1 : IntKind.i64.wrap ((i : Int) + 1) = (i : Int) + 1 := IntWalk.i64_in _ (by omega)
    by_cases hl : i + 1 < n
    case neg =>
      have HS := Lib.hid (place_stop (es := es) (n := r) (s := i) (fun h => hl (by have := h.1; rw [HL.out] at this; exact this)))
      have hd1 : decide ((i : Int) + 1 < (n : Int)) = false := by simp; omega
      go_wp2_with fail
      (refine gro.wp_region_grown (by kernel_rfl) (by kernel_rfl) ?_; (repeat (go_big_quiet_step ((fail)))); refine wpQuiet_nil ?_; intro _ hw'; obtain ⟨nx, hw''⟩ := hw'; subst hw'')
      replace BB := Lib.hid (BB.out.trans ((below_grown _ nx).mono BB.out.size))
      generalize grown _ nx = W7 at *
      go_wp2
      go_ret
      exact ⟨ret_int (by rw [← HP.out, HS.out]), BB.out⟩
    have hd1 : decide ((i : Int) + 1 < (n : Int)) = true := by simp; omega
    have H2 := H1.out.below BB.out
    obtain ⟨ad, rfl, hbl, hc1, hc2, hc3⟩ := ERead.at_ H2 hi
    obtain ⟨ad', e, _, hd1', hd2', hd3'⟩ := ERead.at_ H2 hl
    injection e with e
    subst e
    have b1 := HBd.out i hi
    have b2 := HBd.out (i + 1) hl
    have HGo := Lib.hid (fun h => place_go (es := es) (n := r) (s := i) (by rw [HL.out]; exact hl) h)
    have HSt := Lib.hid (fun (h : ¬ far (at3 es (i + 1)) r < far (at3 es i) r) => place_stop (es := es) (n := r) (s := i) (fun h2 => h h2.2))
    have HF1 := Lib.hid (fun W => far_any (at3 es i).1 (at3 es i).2.1 (at3 es i).2.2 r W (by omega) (by omega) (by omega))
    have HF2 := Lib.hid (fun W => far_any (at3 es (i + 1)).1 (at3 es (i + 1)).2.1 (at3 es (i + 1)).2.2 r W (by omega) (by omega) (by omega))
    have e1 : Hid (at3 es i = ((at3 es i).1, (at3 es i).2.1, (at3 es i).2.2)) := rfl
    have e2 : Hid (at3 es (i + 1) = ((at3 es (i + 1)).1, (at3 es (i + 1)).2.1, (at3 es (i + 1)).2.2)) := rfl
    clear H2 b1 b2
    have s2 : 0 ≤ (i : Int) + 1 := by omega
    have s3 : ((i : Int) + 1).toNat = i + 1 := by omega
    have s4 : (i : Int) + 1 < n := by omega
    generalize (at3 es i).1 = v0 at *
    generalize (at3 es i).2.1 = m0 at *
    generalize (at3 es i).2.2 = x0 at *
    generalize (at3 es (i + 1)).1 = v1 at *
    generalize (at3 es (i + 1)).2.1 = m1 at *
    generalize (at3 es (i + 1)).2.2 = x1 at *
    rw [e1.out, e2.out] at HGo HSt
    clear e1 e2
    generalize far (v0, m0, x0) r = f0 at *
    generalize far (v1, m1, x1) r = f1 at *
    by_cases hf : f1 < f0
    case neg =>
      have HS := Lib.hid (HSt.out hf)
      have hd2 : decide (f1 < f0) = false := by simp; omega
      clear HGo HSt hf
      go_wp2_with fail
      (refine gro.wp_region_grown (by kernel_rfl) (by kernel_rfl) ?_; (repeat (go_big_quiet_step (((go_at_call 146; first | (with_reducible exact call_grown (HF2.out _)) | (with_reducible exact call_grown (HF1.out _))))))); refine wpQuiet_nil ?_; intro _ hw'; obtain ⟨nx, hw''⟩ := hw'; subst hw'')
      replace BB := Lib.hid (BB.out.trans ((below_grown _ nx).mono BB.out.size))
      generalize grown _ nx = W7 at *
      go_wp2
      go_ret
      exact ⟨ret_int (by rw [← HP.out, HS.out]), BB.out⟩
    have HS := Lib.hid (HGo.out hf)
    have hd2 : decide (f1 < f0) = true := by simp; omega
    clear HGo HSt hf
    go_wp2_with fail
    (refine gro.wp_region_grown (by kernel_rfl) (by kernel_rfl) ?_; (repeat (go_big_quiet_step (((go_at_call 146; first | (with_reducible exact call_grown (HF2.out _)) | (with_reducible exact call_grown (HF1.out _))))))); refine wpQuiet_nil ?_; intro _ hw'; obtain ⟨nx, hw''⟩ := hw'; subst hw'')
    replace BB := Lib.hid (BB.out.trans ((below_grown _ nx).mono BB.out.size))
    clear hc1 hc2 hc3 hd1' hd2' hd3'
    generalize grown _ nx = W7 at *
    go_wp2
    go_roundg (n - (i + 1))
    case measure => omega
    case rel => exact ⟨i + 1, hl, by go_num, by omega, BB, by rw [← HS.out]; exact HP.out⟩
end Go.Proofs.Ytjapjfcennemeaa.rnk
