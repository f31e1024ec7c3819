/- Lst; Total: texts in one. -/
import Derived.Test.YtjapjfcennemeaaMgTri
import Derived.Deep.QuietTactic
import Derived.BigQuiet
import Derived.Deep.LoopGhost
import Derived.LoopTactic
import Derived.Outline
import Derived.Test.YtjapjfcennemeaaApp
set_option linter.unusedVariables false
set_option linter.unusedSimpArgs false
/- Contracts of the references' Same over lists of pairs. -/
namespace Go.Proofs.Ytjapjfcennemeaa.lst
open Go.RowKit Go.Proofs.Ytjapjfcennemeaa.mem
set_option linter.unusedVariables false

theorem take_step {xs ys : List (Int × Int)} {k : Nat} (a1 : k < xs.length) (a2 : k < ys.length) (h : xs.take k = ys.take k) :
    (xs.take (k + 1) = ys.take (k + 1)) ↔ ((xs[k]?.getD (0, 0)).1 = (ys[k]?.getD (0, 0)).1 ∧ (xs[k]?.getD (0, 0)).2 = (ys[k]?.getD (0, 0)).2) := by
  rw [List.take_succ_eq_append_getElem a1, List.take_succ_eq_append_getElem a2, h, List.getElem?_eq_getElem a1, List.getElem?_eq_getElem a2, List.append_cancel_left_eq]
  simp [Prod.ext_iff]

set_option maxHeartbeats 2000000 in
theorem Same_any (A1 A2 : Option Addr) (n1 c1 n2 c2 : Nat) (xs ys : List (Int × Int)) (w : World) (B : Nat) (h1 : PRead w B A1 n1 xs) (h2 : PRead w B A2 n2 ys) (hm : n1 ≤ 4611686018427387904) :
    Calls Try.prog 27 #[.slice A1 n1 c1, .slice A2 n2 c2] w fun e w' => e = .returned (.bool (decide (xs = ys))) ∧ ∃ q, w' = w.drewN q := by
  have l1 := h1.len
  have l2 := h2.len
  by_cases hn : n1 = n2
  · subst hn
    have HL1 := Lib.hid l1
    have HL2 := Lib.hid l2
    clear l1 l2
    have H1 := Lib.hid h1
    have H2 := Lib.hid h2
    clear h1 h2
    go_enter Try.func27, Try.ntmps27
    go_wp2
    go_loopg [13] n1 (fun kx s wr => ∃ k q : Nat, k ≤ n1 ∧ s = .int .i64 k ∧ n1 - k ≤ kx ∧ wr = w.drewN q ∧ Hid (xs.take k = ys.take k))
    case atStart => exact ⟨0, 0, Nat.zero_le _, rfl, by omega, rfl, (rfl : xs.take 0 = ys.take 0)⟩
    case round =>
      obtain ⟨k, q, hk, rfl, hg, rfl, hok⟩ := hrel
      by_cases hlt : k < n1
      · obtain ⟨ad, rfl, _, hc1, hc2⟩ := (H1.out).at_ hlt
        obtain ⟨ae, rfl, _, hd1, hd2⟩ := (H2.out).at_ hlt
        have HE : Hid ((xs.take (k + 1) = ys.take (k + 1)) ↔ ((xs[k]?.getD (0, 0)).1 = (ys[k]?.getD (0, 0)).1 ∧ (xs[k]?.getD (0, 0)).2 = (ys[k]?.getD (0, 0)).2)) := by
          exact take_step (by rw [HL1.out]; exact hlt) (by rw [HL2.out]; exact hlt) hok.out
        have HN : Hid (xs.take (k + 1) ≠ ys.take (k + 1) → xs ≠ ys) := fun h e => h (by rw [e])
        clear hok
        generalize (xs[k]?.getD (0, 0)).1 = x1 at *
        generalize (xs[k]?.getD (0, 0)).2 = x2 at *
        generalize (ys[k]?.getD (0, 0)).1 = y1 at *
        generalize (ys[k]?.getD (0, 0)).2 = y2 at *
        by_cases e1 : x1 = y1
        · subst e1
          by_cases e2 : x2 = y2
          · subst e2
            have HT : Hid (xs.take (k + 1) = ys.take (k + 1)) := HE.out.2 ⟨rfl, rfl⟩
            clear HE HN
            go_wp2
            go_quiet (fail)
            go_wp2
            go_roundg (n1 - (k + 1))
            case measure => omega
            case rel => exact ⟨k + 1, _, by omega, by go_num, by omega, rfl, HT⟩
          · have HF : Hid (decide (xs = ys) = false) := by rw [Hid, decide_eq_false_iff_not]; exact HN.out (fun h => e2 (HE.out.1 h).2)
            clear HE HN
            go_wp2
            go_quiet (fail)
            go_wp2
            go_ret
            exact ⟨ret_bool HF.out.symm, _, World.drewN_drewN _ _ _⟩
        · have HF : Hid (decide (xs = ys) = false) := by rw [Hid, decide_eq_false_iff_not]; exact HN.out (fun h => e1 (HE.out.1 h).1)
          clear HE HN
          go_wp2
          go_quiet (fail)
          go_wp2
          go_ret
          exact ⟨ret_bool HF.out.symm, _, World.drewN_drewN _ _ _⟩
      · obtain rfl : k = n1 := by omega
        have HT : Hid (decide (xs = ys) = true) := by
          have h := hok.out
          rw [List.take_of_length_le (by rw [HL1.out]; exact Nat.le_refl _), List.take_of_length_le (by rw [HL2.out]; exact Nat.le_refl _)] at h
          rw [Hid, decide_eq_true_eq]
          exact h
        clear hok
        go_wp2
        go_ret
        exact ⟨ret_bool HT.out.symm, _, rfl⟩
  · have HF : Hid (decide (xs = ys) = false) := by rw [Hid, decide_eq_false_iff_not]; intro h; rw [h] at l1; omega
    clear l1 l2 h1 h2
    go_enter Try.func27, Try.ntmps27
    go_wp2
    go_ret
    exact ⟨ret_bool HF.out.symm, 0, rfl⟩
end Go.Proofs.Ytjapjfcennemeaa.lst

/- Contracts of buckets.Total and of its reference. -/
namespace Go.Proofs.Ytjapjfcennemeaa.lst
open Go.RowKit Go.Proofs.Ytjapjfcennemeaa.mem
set_option linter.unusedVariables false

def wt (l : Int) : Nat := if 0 ≤ l ∧ l ≤ 30 then 2 ^ l.toNat else 0
def totalN : List (Int × Int) → Nat
  | [] => 0
  | p :: r => wt p.2 + totalN r
theorem wt_le (l : Int) : wt l ≤ 1073741824 := by
  unfold wt
  split
  · exact Nat.le_trans (Nat.pow_le_pow_right (by omega) (show l.toNat ≤ 30 by omega)) (by decide)
  · omega
theorem totalN_append (xs ys : List (Int × Int)) : totalN (xs ++ ys) = totalN xs + totalN ys := by
  induction xs with
  | nil => simp [totalN]
  | cons p r ih => simp [totalN, ih]; omega
theorem totalN_le (xs : List (Int × Int)) : totalN xs ≤ xs.length * 1073741824 := by
  induction xs with
  | nil => simp [totalN]
  | cons p r ih => have := wt_le p.2; simp [totalN]; omega
theorem totalN_take {xs : List (Int × Int)} {k : Nat} (h : k < xs.length) : totalN (xs.take (k + 1)) = totalN (xs.take k) + wt (xs[k]?.getD (0, 0)).2 := by
  rw [List.take_succ_eq_append_getElem h, totalN_append, List.getElem?_eq_getElem h]; simp [totalN]

def levelB (l : Int) : Bool := decide (0 ≤ l) && decide (l ≤ 30)
theorem levelB_iff {l : Int} : levelB l = true ↔ 0 ≤ l ∧ l ≤ 30 := by simp [levelB]
theorem levelB_iff0 {l : Int} : levelB l = false ↔ ¬ (0 ≤ l ∧ l ≤ 30) := by rw [← levelB_iff]; simp
set_option maxHeartbeats 400000 in
theorem level_any (l : Int) (w : World) :
    Calls Try.prog 117 #[.int .i64 l] w fun e w' => e = .returned (.bool (levelB l)) ∧ w = w' := by
  go_enter Try.func117, Try.ntmps117
  go_wp2
  all_goals (go_ret; refine ⟨ret_bool ?_, rfl⟩; first | (symm; rw [levelB_iff]; omega) | (symm; rw [levelB_iff0]; omega) | (rw [Bool.eq_iff_iff, levelB_iff]; simp; omega))

theorem int_eq {k : IntKind} {a b : Int} (h : a = b) : Value.int k a = .int k b := by rw [h]
theorem shl_sum {l : Int} {s : Nat} (hl : 0 ≤ l ∧ l ≤ 30) (hs : s ≤ 70368744177664) : wrap64 ((s : Int) + wrap64 (2 ^ l.toNat)) = ((s + wt l : Nat) : Int) := by
  have h1 : (2 : Nat) ^ l.toNat ≤ 1073741824 := Nat.le_trans (Nat.pow_le_pow_right (by omega) (show l.toNat ≤ 30 by omega)) (by decide)
  have h2 : ((2 : Int) ^ l.toNat) = ((2 ^ l.toNat : Nat) : Int) := by simp
  rw [h2]
  have h3 : wt l = 2 ^ l.toNat := by unfold wt; rw [if_pos hl]
  rw [h3]
  generalize (2 : Nat) ^ l.toNat = p at *
  rw [IntWalk.wrap64_in (p : Int) (by omega), IntWalk.wrap64_in _ (by omega)]
  omega
def TotOk (xs : List (Int × Int)) (w : World) (e : Ending) (w' : World) : Prop := e = .returned (.int .i64 (totalN xs)) ∧ Below w.heap.size w w'

set_option maxHeartbeats 2000000 in
theorem Total_any (A : Option Addr) (n c : Nat) (xs : List (Int × Int)) (w : World) (h1 : PRead w w.heap.size A n xs) (hsmall : n ≤ 65536) :
    Calls Try.prog 74 #[.slice A n c] w (TotOk xs w) := by
  have HL := Lib.hid h1.len
  have H1 := Lib.hid h1
  clear h1
  go_enter Try.func74, Try.ntmps74
  go_wp2
  go_loopg [3, 8] n (fun kx s3 s8 wr => ∃ k : Nat, k ≤ n ∧ s8 = .int .i64 k ∧ n - k ≤ kx ∧ s3 = .int .i64 (totalN (xs.take k)) ∧ Hid (Below w.heap.size w wr))
  case atStart => exact ⟨0, Nat.zero_le _, rfl, by omega, rfl, Below.refl _ _⟩
  case round =>
    obtain ⟨k, hk, rfl, hg, rfl, HB⟩ := hrel
    by_cases hlt : k < n
    · have H2 := H1.out.below HB.out
      obtain ⟨ad, rfl, hbl, hc1, hc2⟩ := PRead.at_ H2 hlt
      have hT := Lib.hid (totalN_take (xs := xs) (k := k) (by rw [HL.out]; exact hlt))
      have hs := HB.out.size
      have hbl2 : ad.block < wr.heap.size := by omega
      have hlt46 : totalN (xs.take k) ≤ 70368744177664 := by have := totalN_le (xs.take k); simp at this; omega
      clear H2
      generalize (xs[k]?.getD (0, 0)).1 = t1 at *
      generalize (xs[k]?.getD (0, 0)).2 = l1 at *
      have HV := Lib.hid (fun W => level_any l1 W)
      rcases Bool.eq_false_or_eq_true (levelB l1) with hl | hl <;> rw [hl] at HV
      · rw [levelB_iff] at hl
        go_wp2_with (go_at_call 117; refine (HV.out _).mono ?_; rintro e w' ⟨rfl, rfl⟩)
        go_roundg (n - (k + 1))
        case measure => omega
        case rel => exact ⟨k + 1, by omega, by go_num, by omega, int_eq (by rw [hT.out]; exact shl_sum hl hlt46), HB.out.alloc HB.out.size _⟩
      · rw [levelB_iff0] at hl
        have hw : wt l1 = 0 := by unfold wt; rw [if_neg hl]
        have HW := Lib.hid hw
        clear hw
        go_wp2_with (go_at_call 117; refine (HV.out _).mono ?_; rintro e w' ⟨rfl, rfl⟩)
        go_roundg (n - (k + 1))
        case measure => omega
        case rel => exact ⟨k + 1, by omega, by go_num, by omega, int_eq (by rw [hT.out, HW.out]; simp), HB.out.alloc HB.out.size _⟩
    · obtain rfl : k = n := by omega
      go_wp2
      go_ret
      exact ⟨ret_int (by rw [List.take_of_length_le (by rw [HL.out]; exact Nat.le_refl _)]), HB.out⟩

set_option maxHeartbeats 2000000 in
theorem TotalRef_any (A : Option Addr) (n c : Nat) (xs : List (Int × Int)) (w : World) (h1 : PRead w w.heap.size A n xs) (hsmall : n ≤ 65536) :
    Calls Try.prog 75 #[.slice A n c] w (TotOk xs w) := by
  have HL := Lib.hid h1.len
  have H1 := Lib.hid h1
  clear h1
  go_enter Try.func75, Try.ntmps75
  go_wp2
  go_loopg [3, 8] n (fun kx s3 s8 wr => ∃ k : Nat, k ≤ n ∧ s8 = .int .i64 k ∧ n - k ≤ kx ∧ s3 = .int .i64 (totalN (xs.take k)) ∧ Hid (Below w.heap.size w wr))
  case atStart => exact ⟨0, Nat.zero_le _, rfl, by omega, rfl, Below.refl _ _⟩
  case round =>
    obtain ⟨k, hk, rfl, hg, rfl, HB⟩ := hrel
    by_cases hlt : k < n
    · have H2 := H1.out.below HB.out
      obtain ⟨ad, rfl, hbl, hc1, hc2⟩ := PRead.at_ H2 hlt
      have hT := Lib.hid (totalN_take (xs := xs) (k := k) (by rw [HL.out]; exact hlt))
      have hs := HB.out.size
      have hbl2 : ad.block < wr.heap.size := by omega
      have hlt46 : totalN (xs.take k) ≤ 70368744177664 := by have := totalN_le (xs.take k); simp at this; omega
      clear H2
      generalize (xs[k]?.getD (0, 0)).1 = t1 at *
      generalize (xs[k]?.getD (0, 0)).2 = l1 at *
      by_cases hl : 0 ≤ l1 ∧ l1 ≤ 30
      · obtain ⟨hl1, hl2⟩ := hl
        go_wp2
        go_roundg (n - (k + 1))
        case measure => omega
        case rel => exact ⟨k + 1, by omega, by go_num, by omega, int_eq (by rw [hT.out]; exact shl_sum ⟨hl1, hl2⟩ hlt46), HB.out.alloc HB.out.size _⟩
      · have hw : wt l1 = 0 := by unfold wt; rw [if_neg hl]
        have HW := Lib.hid hw
        clear hw
        by_cases h0 : 0 ≤ l1
        · have h30 : 30 < l1 := by omega
          clear hl
          go_wp2
          go_roundg (n - (k + 1))
          case measure => omega
          case rel => exact ⟨k + 1, by omega, by go_num, by omega, int_eq (by rw [hT.out, HW.out]; simp), HB.out.alloc HB.out.size _⟩
        · clear hl
          go_wp2
          go_roundg (n - (k + 1))
          case measure => omega
          case rel => exact ⟨k + 1, by omega, by go_num, by omega, int_eq (by rw [hT.out, HW.out]; simp), HB.out.alloc HB.out.size _⟩
    · obtain rfl : k = n := by omega
      go_wp2
      go_ret
      exact ⟨ret_int (by rw [List.take_of_length_le (by rw [HL.out]; exact Nat.le_refl _)]), HB.out⟩
end Go.Proofs.Ytjapjfcennemeaa.lst
