/- Contracts of the references' Same over lists of pairs. -/
import Derived.Test.YtnohkjalglogaaaMem
import Derived.Deep.QuietTactic
import Derived.BigQuiet
import Derived.Deep.LoopGhost
import Derived.LoopTactic
import Derived.Outline
namespace Go.Proofs.Ytnohkjalglogaaa.lst
open Go.RowKit Go.Proofs.Ytnohkjalglogaaa.mem
set_option linter.unusedVariables false

theorem take_step {xs ys : List (Int × Int)} {k : Nat} (a1 : k < xs.length) (a2 : k < ys.length) (h : xs.take k = ys.take k) :
    (xs.take (k + 1) = ys.take (k + 1)) ↔ ((xs[k]?.getD (0, 0)).1 = (ys[k]?.getD (0, 0)).1 ∧ (xs[k]?.getD (0, 0)).2 = (ys[k]?.getD (0, 0)).2) := by
  rw [List.take_succ_eq_append_getElem a1, List.take_succ_eq_append_getElem a2, h, List.getElem?_eq_getElem a1, List.getElem?_eq_getElem a2, List.append_cancel_left_eq]
  simp [Prod.ext_iff]

set_option maxHeartbeats 2000000 in
theorem Same_any (A1 A2 : Option Addr) (n1 c1 n2 c2 : Nat) (xs ys : List (Int × Int)) (w : World) (B : Nat) (h1 : PRead w B A1 n1 xs) (h2 : PRead w B A2 n2 ys) (hm : n1 ≤ 4611686018427387904) :
    Calls Try.prog 14 #[.slice A1 n1 c1, .slice A2 n2 c2] w fun e w' => e = .returned (.bool (decide (xs = ys))) ∧ ∃ q, w' = w.drewN q := by
  have l1 := h1.len
  have l2 := h2.len
  by_cases hn : n1 = n2
  · subst hn
    have HL1 := Lib.hid l1
    have HL2 := Lib.hid l2
    clear l1 l2
    have H1 := Lib.hid h1
    have H2 := Lib.hid h2
    clear h1 h2
    go_enter Try.func14, Try.ntmps14
    go_wp2
    go_loopg [13] n1 (fun kx s wr => ∃ k q : Nat, k ≤ n1 ∧ s = .int .i64 k ∧ n1 - k ≤ kx ∧ wr = w.drewN q ∧ Hid (xs.take k = ys.take k))
    case atStart => exact ⟨0, 0, Nat.zero_le _, rfl, by omega, rfl, (rfl : xs.take 0 = ys.take 0)⟩
    case round =>
      obtain ⟨k, q, hk, rfl, hg, rfl, hok⟩ := hrel
      by_cases hlt : k < n1
      · obtain ⟨ad, rfl, _, hc1, hc2⟩ := (H1.out).at_ hlt
        obtain ⟨ae, rfl, _, hd1, hd2⟩ := (H2.out).at_ hlt
        have HE : Hid ((xs.take (k + 1) = ys.take (k + 1)) ↔ ((xs[k]?.getD (0, 0)).1 = (ys[k]?.getD (0, 0)).1 ∧ (xs[k]?.getD (0, 0)).2 = (ys[k]?.getD (0, 0)).2)) := by
          exact take_step (by rw [HL1.out]; exact hlt) (by rw [HL2.out]; exact hlt) hok.out
        have HN : Hid (xs.take (k + 1) ≠ ys.take (k + 1) → xs ≠ ys) := fun h e => h (by rw [e])
        clear hok
        generalize (xs[k]?.getD (0, 0)).1 = x1 at *
        generalize (xs[k]?.getD (0, 0)).2 = x2 at *
        generalize (ys[k]?.getD (0, 0)).1 = y1 at *
        generalize (ys[k]?.getD (0, 0)).2 = y2 at *
        by_cases e1 : x1 = y1
        · subst e1
          by_cases e2 : x2 = y2
          · subst e2
            have HT : Hid (xs.take (k + 1) = ys.take (k + 1)) := HE.out.2 ⟨rfl, rfl⟩
            clear HE HN
            go_wp2
            go_quiet (fail)
            go_wp2
            go_roundg (n1 - (k + 1))
            case measure => omega
            case rel => exact ⟨k + 1, _, by omega, by go_num, by omega, rfl, HT⟩
          · have HF : Hid (decide (xs = ys) = false) := by rw [Hid, decide_eq_false_iff_not]; exact HN.out (fun h => e2 (HE.out.1 h).2)
            clear HE HN
            go_wp2
            go_quiet (fail)
            go_wp2
            go_ret
            exact ⟨ret_bool HF.out.symm, _, World.drewN_drewN _ _ _⟩
        · have HF : Hid (decide (xs = ys) = false) := by rw [Hid, decide_eq_false_iff_not]; exact HN.out (fun h => e1 (HE.out.1 h).1)
          clear HE HN
          go_wp2
          go_quiet (fail)
          go_wp2
          go_ret
          exact ⟨ret_bool HF.out.symm, _, World.drewN_drewN _ _ _⟩
      · obtain rfl : k = n1 := by omega
        have HT : Hid (decide (xs = ys) = true) := by
          have h := hok.out
          rw [List.take_of_length_le (by rw [HL1.out]; exact Nat.le_refl _), List.take_of_length_le (by rw [HL2.out]; exact Nat.le_refl _)] at h
          rw [Hid, decide_eq_true_eq]
          exact h
        clear hok
        go_wp2
        go_ret
        exact ⟨ret_bool HT.out.symm, _, rfl⟩
  · have HF : Hid (decide (xs = ys) = false) := by rw [Hid, decide_eq_false_iff_not]; intro h; rw [h] at l1; omega
    clear l1 l2 h1 h2
    go_enter Try.func14, Try.ntmps14
    go_wp2
    go_ret
    exact ⟨ret_bool HF.out.symm, 0, rfl⟩
end Go.Proofs.Ytnohkjalglogaaa.lst
