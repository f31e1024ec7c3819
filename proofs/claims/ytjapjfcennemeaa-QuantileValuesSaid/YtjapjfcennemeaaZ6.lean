/- Total, BlkL, Clk: proved here in one text, no conditions beyond those that each theorem states. -/
import Derived.Deep.QuietTactic
import Derived.BigQuiet
import Derived.Deep.LoopGhost
import Derived.LoopTactic
import Derived.Outline
import Derived.Test.YtjapjfcennemeaaRows
import Derived.WalkKit
import Derived.ProofKit
import Derived.Lib.Hide
import Derived.Test.YtjapjfcennemeaaZ1
import Derived.Test.YtjapjfcennemeaaZ4
import Derived.Test.YtjapjfcennemeaaZ5
set_option linter.unusedVariables false
set_option linter.unusedSimpArgs false
section
namespace Go.Proofs.Ytjapjfcennemeaa.lst
open Go.RowKit Go.Proofs.Ytjapjfcennemeaa.mem
set_option linter.unusedVariables false
def wt (l : Int) : Nat := if 0 ≤ l ∧ l ≤ 30 then 2 ^ l.toNat else 0
def totalN : List (Int × Int) → Nat
  | [] => 0
  | p :: r => wt p.2 + totalN r
theorem wt_le (l : Int) : wt l ≤ 1073741824 := by
  unfold wt
  split
  · exact Nat.le_trans (Nat.pow_le_pow_right (by omega) (show l.toNat ≤ 30 by omega)) (by decide)
  · omega
theorem totalN_append (xs ys : List (Int × Int)) : totalN (xs ++ ys) = totalN xs + totalN ys := by
  induction xs with
  | nil => simp [totalN]
  | cons p r ih => simp [totalN, ih]; omega
theorem totalN_le (xs : List (Int × Int)) : totalN xs ≤ xs.length * 1073741824 := by
  induction xs with
  | nil => simp [totalN]
  | cons p r ih => have := wt_le p.2; simp [totalN]; omega
theorem totalN_take {xs : List (Int × Int)} {k : Nat} (h : k < xs.length) : totalN (xs.take (k + 1)) = totalN (xs.take k) + wt (xs[k]?.getD (0, 0)).2 := by
  rw [List.take_succ_eq_append_getElem h, totalN_append, List.getElem?_eq_getElem h]; simp [totalN]
def levelB (l : Int) : Bool := decide (0 ≤ l) && decide (l ≤ 30)
theorem levelB_iff {l : Int} : levelB l = true ↔ 0 ≤ l ∧ l ≤ 30 := by simp [levelB]
theorem levelB_iff0 {l : Int} : levelB l = false ↔ ¬ (0 ≤ l ∧ l ≤ 30) := by rw [← levelB_iff]; simp
set_option maxHeartbeats 400000 in
theorem level_any (l : Int) (w : World) :
    Calls Try.prog 117 #[.int .i64 l] w fun e w' => e = .returned (.bool (levelB l)) ∧ w = w' := by
  go_enter Try.func117, Try.ntmps117
  go_wp2
  all_goals (go_ret; refine ⟨ret_bool ?_, rfl⟩; first | (symm; rw [levelB_iff]; omega) | (symm; rw [levelB_iff0]; omega) | (rw [Bool.eq_iff_iff, levelB_iff]; simp; omega))
theorem int_eq {k : IntKind} {a b : Int} (h : a = b) : Value.int k a = .int k b := by rw [h]
theorem shl_sum {l : Int} {s : Nat} (hl : 0 ≤ l ∧ l ≤ 30) (hs : s ≤ 70368744177664) : wrap64 ((s : Int) + wrap64 (2 ^ l.toNat)) = ((s + wt l : Nat) : Int) := by
  have h1 : (2 : Nat) ^ l.toNat ≤ 1073741824 := Nat.le_trans (Nat.pow_le_pow_right (by omega) (show l.toNat ≤ 30 by omega)) (by decide)
  have h2 : ((2 : Int) ^ l.toNat) = ((2 ^ l.toNat : Nat) : Int) := by simp
  rw [h2]
  have h3 : wt l = 2 ^ l.toNat := by unfold wt; rw [if_pos hl]
  rw [h3]
  generalize (2 : Nat) ^ l.toNat = p at *
  rw [IntWalk.wrap64_in (p : Int) (by omega), IntWalk.wrap64_in _ (by omega)]
  omega
def TotOk (xs : List (Int × Int)) (w : World) (e : Ending) (w' : World) : Prop := e = .returned (.int .i64 (totalN xs)) ∧ Below w.heap.size w w'
set_option maxHeartbeats 2000000 in
theorem Total_any (A : Option Addr) (n c : Nat) (xs : List (Int × Int)) (w : World) (h1 : PRead w w.heap.size A n xs) (hsmall : n ≤ 65536) :
    Calls Try.prog 74 #[.slice A n c] w (TotOk xs w) := by
  have HL := Lib.hid h1.len
  have H1 := Lib.hid h1
  clear h1
  go_enter Try.func74, Try.ntmps74
  go_wp2
  go_loopg [3, 8] n (fun kx s3 s8 wr => ∃ k : Nat, k ≤ n ∧ s8 = .int .i64 k ∧ n - k ≤ kx ∧ s3 = .int .i64 (totalN (xs.take k)) ∧ Hid (Below w.heap.size w wr))
  case atStart => exact ⟨0, Nat.zero_le _, rfl, by omega, rfl, Below.refl _ _⟩
  case round =>
    obtain ⟨k, hk, rfl, hg, rfl, HB⟩ := hrel
    by_cases hlt : k < n
    · have H2 := H1.out.below HB.out
      obtain ⟨ad, rfl, hbl, hc1, hc2⟩ := PRead.at_ H2 hlt
      have hT := Lib.hid (totalN_take (xs := xs) (k := k) (by rw [HL.out]; exact hlt))
      have hs := HB.out.size
      have hbl2 : ad.block < wr.heap.size := by omega
      have hlt46 : totalN (xs.take k) ≤ 70368744177664 := by have := totalN_le (xs.take k); simp at this; omega
      clear H2
      generalize (xs[k]?.getD (0, 0)).1 = t1 at *
      generalize (xs[k]?.getD (0, 0)).2 = l1 at *
      have HV := Lib.hid (fun W => level_any l1 W)
      rcases Bool.eq_false_or_eq_true (levelB l1) with hl | hl <;> rw [hl] at HV
      · rw [levelB_iff] at hl
        go_wp2_with (go_at_call 117; refine (HV.out _).mono ?_; rintro e w' ⟨rfl, rfl⟩)
        go_roundg (n - (k + 1))
        case measure => omega
        case rel => exact ⟨k + 1, by omega, by go_num, by omega, int_eq (by rw [hT.out]; exact shl_sum hl hlt46), HB.out.alloc HB.out.size _⟩
      · rw [levelB_iff0] at hl
        have hw : wt l1 = 0 := by unfold wt; rw [if_neg hl]
        have HW := Lib.hid hw
        clear hw
        go_wp2_with (go_at_call 117; refine (HV.out _).mono ?_; rintro e w' ⟨rfl, rfl⟩)
        go_roundg (n - (k + 1))
        case measure => omega
        case rel => exact ⟨k + 1, by omega, by go_num, by omega, int_eq (by rw [hT.out, HW.out]; simp), HB.out.alloc HB.out.size _⟩
    · obtain rfl : k = n := by omega
      go_wp2
      go_ret
      exact ⟨ret_int (by rw [List.take_of_length_le (by rw [HL.out]; exact Nat.le_refl _)]), HB.out⟩
end Go.Proofs.Ytjapjfcennemeaa.lst
end
section
namespace Go.Proofs.Ytjapjfcennemeaa.rnk
open Go.Proofs.Ytjapjfcennemeaa.mem Go.Proofs.Ytjapjfcennemeaa.buk
set_option linter.unusedVariables false
abbrev K5 := Int × Int × Int × Int × L3
def atK (xs : List K5) (i : Nat) : K5 := xs[i]?.getD (0, 0, 0, 0, [])
def plainK (xs : List K5) : L2 := xs.map fun x => (x.1, x.2.2.1)
def ceilD (a b : Int) : Int := (a + b - 1) / b
def allowTo (b : Int) : Nat → Int
  | 0 => 0
  | l + 1 => if b + 1 < 2 ^ l then 2 * allowTo b l + ceilD (2 ^ l - 1) b else allowTo b l
def allowed (level b : Int) : Int := if (0 ≤ level ∧ level ≤ 30) ∧ 1 ≤ b ∧ b ≤ 65536 then allowTo b (level.toNat + 1) else -1
theorem allowTo_bd {b : Int} (hb : 1 ≤ b) : ∀ l, 0 ≤ allowTo b l ∧ allowTo b l ≤ l * 2 ^ l
  | 0 => by simp [allowTo]
  | l + 1 => by
    obtain ⟨h1, h2⟩ := allowTo_bd hb l
    have h3 : (1 : Int) ≤ 2 ^ l := by have := Int.pow_pos (n := (2 : Int)) (m := l) (by omega); omega
    have h4 : 0 ≤ ceilD (2 ^ l - 1) b ∧ ceilD (2 ^ l - 1) b ≤ 2 ^ l := by
      unfold ceilD
      refine ⟨Int.ediv_nonneg (by omega) (by omega), ?_⟩
      have : (2 ^ l - 1 + b - 1) < (2 ^ l + 1) * b := by
        have h5 : (2 : Int) ^ l ≤ 2 ^ l * b := by
          have := Int.mul_le_mul_of_nonneg_left hb (show (0 : Int) ≤ 2 ^ l by omega)
          simpa using this
        rw [Int.add_mul]; omega
      have h6 := Int.ediv_lt_of_lt_mul (show 0 < b by omega) this
      omega
    have h5 : ((l + 1 : Nat) : Int) * 2 ^ (l + 1) = 2 * (l * 2 ^ l) + 2 * 2 ^ l := by rw [Int.pow_succ, Int.natCast_add, Int.add_mul, ← Int.mul_assoc]; simp; omega
    unfold allowTo
    rw [h5]
    generalize (l : Int) * 2 ^ l = m at *
    generalize (2 : Int) ^ l = p at *
    split <;> omega
def blkOk (b : Int) (x : K5) : Bool :=
  valR x.2.2.2.1 x.2.2.2.2 && decide (x.2.2.2.1 = 2 ^ x.2.2.1.toNat) && decide ((x.2.2.2.2.length : Int) ≤ b + 1) && decide (gapR x.2.2.2.1 x.2.2.2.2 - 1 ≤ allowed x.2.2.1 b) &&
  (decide (-4096 ≤ (at3 x.2.2.2.2 0).1) && decide ((at3 x.2.2.2.2 (x.2.2.2.2.length - 1)).1 ≤ 4096) && decide ((at3 x.2.2.2.2 0).1 ≤ x.2.1) && decide (x.2.1 ≤ (at3 x.2.2.2.2 (x.2.2.2.2.length - 1)).1))
def bkTo (b : Int) (xs : List K5) : Nat → Bool
  | 0 => true
  | i + 1 => bkTo b xs i && blkOk b (atK xs i)
theorem bkTo_succ {b : Int} {xs : List K5} {i : Nat} (h : bkTo b xs i = true) (h2 : blkOk b (atK xs i) = true) : bkTo b xs (i + 1) = true := by unfold bkTo; rw [h, h2]; rfl
theorem bkTo_iff {b : Int} {xs : List K5} : ∀ n, bkTo b xs n = true ↔ ∀ i < n, blkOk b (atK xs i) = true
  | 0 => ⟨fun _ i h => absurd h (by omega), fun _ => rfl⟩
  | n + 1 => by
    unfold bkTo
    rw [Bool.and_eq_true, bkTo_iff n]
    constructor
    · rintro ⟨h1, h2⟩ i hi
      by_cases e : i = n
      · rw [e]; exact h2
      · exact h1 i (by omega)
    · intro h; exact ⟨fun i hi => h i (by omega), h n (by omega)⟩
noncomputable def validK (xs : List K5) (k b : Int) : Bool := decide (1 ≤ b) && decide (b ≤ 65536) && validB (plainK xs) k && bkTo b xs xs.length
theorem validK_iff {xs : List K5} {k b : Int} : validK xs k b = true ↔ (1 ≤ b ∧ b ≤ 65536) ∧ validB (plainK xs) k = true ∧ ∀ i < xs.length, blkOk b (atK xs i) = true := by
  unfold validK; rw [Bool.and_eq_true, Bool.and_eq_true, Bool.and_eq_true, bkTo_iff]; simp [and_assoc]
def totalK (xs : List K5) : Nat := lst.totalN (plainK xs)
def runK (xs : List K5) (l : Int) : Nat → Nat
  | 0 => 0
  | b + 1 => if (atK xs b).2.2.1 = l then runK xs l b else b + 1
def twoR (b : Int) (x y : K5) : Int × L3 := pruP (mrgP x.2.2.2.1 x.2.2.2.2 y.2.2.2.1 y.2.2.2.2).1 b (mrgP x.2.2.2.1 x.2.2.2.2 y.2.2.2.1 y.2.2.2.2).2
def bothK (b : Int) (xs : List K5) (s : Nat) (l : Int) : K5 := ((atK xs (s + 1)).1, (atK xs (s + 1)).2.1, l + 1, (twoR b (atK xs s) (atK xs (s + 1))).1, (twoR b (atK xs s) (atK xs (s + 1))).2)
def joinK (b : Int) (xs : List K5) (s : Nat) (l : Int) : List K5 := xs.take s ++ bothK b xs s l :: xs.drop (s + 2)
theorem joinK_length {xs : List K5} {s : Nat} {l b : Int} (h : s + 1 < xs.length) : (joinK b xs s l).length = xs.length - 1 := by
  simp [joinK]; omega
def cascK (k : Nat) (b : Int) : Nat → List K5 → Nat → Nat → List K5
  | 0, xs, _, _ => xs
  | f + 1, xs, l, e => if e - runK xs l e < k + 2 then xs else cascK k b f (joinK b xs (runK xs l e) l) (l + 1) (runK xs l e + 1)
theorem cascK_stop {k f : Nat} {b : Int} {xs : List K5} {l e : Nat} (h : e - runK xs l e < k + 2) : cascK k b f xs l e = xs := by
  cases f with
  | zero => rfl
  | succ f => simp [cascK, h]
theorem cascK_go {k f : Nat} {b : Int} {xs : List K5} {l e : Nat} (h : ¬ e - runK xs l e < k + 2) : cascK k b (f + 1) xs l e = cascK k b f (joinK b xs (runK xs l e) l) (l + 1) (runK xs l e + 1) := by
  simp [cascK, h]
def insKC (xs : List K5) (k : Nat) (b t v : Int) : List K5 := cascK k b (xs.length + 1) (xs ++ [(t, v, 0, 1, [(v, 1, 1)])]) 0 (xs.length + 1)
def lastK (xs : List K5) : Int := if xs.length = 0 then 0 else (atK xs (xs.length - 1)).1
noncomputable def mayK (xs : List K5) (k b t v : Int) : Bool := validK xs k b && decide ((0 ≤ t ∧ t ≤ 16777216) ∧ lastK xs ≤ t) && (decide (-4096 ≤ v) && decide (v ≤ 4096)) && decide (totalK xs < 1073741824)
noncomputable def insK (xs : List K5) (k b t v : Int) : List K5 := if mayK xs k b t v = true then insKC xs k.toNat b t v else []
theorem at_plainK (xs : List K5) (i : Nat) : at_ (plainK xs) i = ((atK xs i).1, (atK xs i).2.2.1) := by
  unfold at_ atK plainK
  rw [List.getElem?_map]
  cases xs[i]? <;> rfl
theorem plainK_length (xs : List K5) : (plainK xs).length = xs.length := by simp [plainK]
theorem runK_plain (xs : List K5) (l : Int) : ∀ e, runB (plainK xs) l e = runK xs l e
  | 0 => rfl
  | e + 1 => by simp only [runB, runK, at_plainK, runK_plain xs l e]
theorem joinK_plain (b : Int) (xs : List K5) (s : Nat) (l : Int) : joined (plainK xs) s l = plainK (joinK b xs s l) := by
  unfold joined
  rw [at_plainK]
  simp [joinK, bothK, plainK, List.map_take, List.map_drop]
theorem cascK_plain (k : Nat) (b : Int) : ∀ (f : Nat) (xs : List K5) (l e : Nat), casc k f (plainK xs) l e = plainK (cascK k b f xs l e)
  | 0, _, _, _ => rfl
  | f + 1, xs, l, e => by
    simp only [casc, cascK, runK_plain]
    split
    · rfl
    · rw [joinK_plain b, cascK_plain k b f]
theorem insKC_plain (xs : List K5) (k : Nat) (b t v : Int) : insC (plainK xs) k t = plainK (insKC xs k b t v) := by
  unfold insC insKC
  rw [← cascK_plain, plainK_length]
  simp [plainK]
end Go.Proofs.Ytjapjfcennemeaa.rnk
end
section
namespace Go.Proofs.Ytjapjfcennemeaa.clk
open Go.RowKit
set_option linter.unusedVariables false
def tickB (t : Int) : Bool := decide (0 ≤ t) && decide (t ≤ 16777216)
def winB (w : Int) : Bool := decide (1 ≤ w) && decide (w ≤ 1048576)
def firstI (now w : Int) : Int := if tickB now = true ∧ winB w = true then max 0 (now - w + 1) else -1
def liveB (now w t : Int) : Bool := decide (tickB now = true ∧ winB w = true ∧ tickB t = true ∧ now - w < t ∧ t ≤ now)
theorem tickB_iff {t : Int} : tickB t = true ↔ 0 ≤ t ∧ t ≤ 16777216 := by simp [tickB]
theorem tickB_iff0 {t : Int} : tickB t = false ↔ ¬ (0 ≤ t ∧ t ≤ 16777216) := by rw [← tickB_iff]; simp
theorem winB_iff {t : Int} : winB t = true ↔ 1 ≤ t ∧ t ≤ 1048576 := by simp [winB]
theorem winB_iff0 {t : Int} : winB t = false ↔ ¬ (1 ≤ t ∧ t ≤ 1048576) := by rw [← winB_iff]; simp
theorem ret_bool {a b : Bool} (h : a = b) : Ending.returned (.bool a) = .returned (.bool b) := by rw [h]
theorem ret_int {k : IntKind} {a b : Int} (h : a = b) : Ending.returned (.int k a) = .returned (.int k b) := by rw [h]
set_option maxHeartbeats 400000 in
theorem tick_any (t : Int) (w : World) :
    Calls Try.prog 138 #[.int .i64 t] w fun e w' => e = .returned (.bool (tickB t)) ∧ w = w' := by
  go_enter Try.func138, Try.ntmps138
  go_wp2
  all_goals (go_ret; refine ⟨ret_bool ?_, rfl⟩; first | (symm; rw [tickB_iff]; omega) | (symm; rw [tickB_iff0]; omega) | (rw [Bool.eq_iff_iff, tickB_iff]; simp; omega))
set_option maxHeartbeats 400000 in
theorem Tick_any (t : Int) (w : World) :
    Calls Try.prog 79 #[.int .i64 t] w fun e w' => e = .returned (.bool (tickB t)) ∧ w = w' := by
  go_enter Try.func79, Try.ntmps79
  go_wp2
  all_goals (go_ret; refine ⟨ret_bool ?_, rfl⟩; first | (symm; rw [tickB_iff]; omega) | (symm; rw [tickB_iff0]; omega) | (rw [Bool.eq_iff_iff, tickB_iff]; simp; omega))
set_option maxHeartbeats 400000 in
theorem Window_any (t : Int) (w : World) :
    Calls Try.prog 136 #[.int .i64 t] w fun e w' => e = .returned (.bool (winB t)) ∧ w = w' := by
  go_enter Try.func136, Try.ntmps136
  go_wp2
  all_goals (go_ret; refine ⟨ret_bool ?_, rfl⟩; first | (symm; rw [winB_iff]; omega) | (symm; rw [winB_iff0]; omega) | (rw [Bool.eq_iff_iff, winB_iff]; simp; omega))
theorem first_t {now v : Int} (h1 : 0 ≤ now) (h2 : now ≤ 16777216) (h3 : 1 ≤ v) (h4 : v ≤ 1048576) : firstI now v = max 0 (now - v + 1) := by
  unfold firstI; rw [if_pos]; exact ⟨tickB_iff.2 ⟨h1, h2⟩, winB_iff.2 ⟨h3, h4⟩⟩
theorem first_f {now v : Int} (h : ¬ (0 ≤ now ∧ now ≤ 16777216 ∧ 1 ≤ v ∧ v ≤ 1048576)) : firstI now v = -1 := by
  unfold firstI; rw [if_neg]; rw [tickB_iff, winB_iff]; omega
theorem live_iff {now v t : Int} : liveB now v t = true ↔ 0 ≤ now ∧ now ≤ 16777216 ∧ 1 ≤ v ∧ v ≤ 1048576 ∧ 0 ≤ t ∧ t ≤ 16777216 ∧ now - v < t ∧ t ≤ now := by
  unfold liveB; simp [tickB_iff, winB_iff]; omega
theorem live_iff0 {now v t : Int} : liveB now v t = false ↔ ¬ (0 ≤ now ∧ now ≤ 16777216 ∧ 1 ≤ v ∧ v ≤ 1048576 ∧ 0 ≤ t ∧ t ≤ 16777216 ∧ now - v < t ∧ t ≤ now) := by
  rw [← live_iff]; simp
set_option maxHeartbeats 1000000 in
theorem first_any (now v : Int) (w : World) :
    Calls Try.prog 105 #[.int .i64 now, .int .i64 v] w fun e w' => e = .returned (.int .i64 (firstI now v)) ∧ w = w' := by
  cases ht : tickB now
  all_goals
    have hb := ht
    first | rw [tickB_iff] at hb | rw [tickB_iff0] at hb
    have HP := Lib.hid ht; clear ht
    go_enter Try.func105, Try.ntmps105
    go_wp2_with (go_at_call 138; refine (tick_any _ _).mono ?_; rintro e w' ⟨rfl, rfl⟩; rw [HP.out])
    all_goals (go_ret; refine ⟨ret_int ?_, rfl⟩; first | (rw [first_f (by omega)]; done) | (rw [first_t (by omega) (by omega) (by omega) (by omega)]; done) | (rw [first_t (by omega) (by omega) (by omega) (by omega)]; omega))
set_option maxHeartbeats 1000000 in
theorem live_any (now v t : Int) (w : World) :
    Calls Try.prog 108 #[.int .i64 now, .int .i64 v, .int .i64 t] w fun e w' => e = .returned (.bool (liveB now v t)) ∧ w = w' := by
  have hf : (firstI now v = -1 ∧ ¬ (0 ≤ now ∧ now ≤ 16777216 ∧ 1 ≤ v ∧ v ≤ 1048576)) ∨ (firstI now v = max 0 (now - v + 1) ∧ (0 ≤ now ∧ now ≤ 16777216 ∧ 1 ≤ v ∧ v ≤ 1048576)) := by
    by_cases h : 0 ≤ now ∧ now ≤ 16777216 ∧ 1 ≤ v ∧ v ≤ 1048576
    · exact .inr ⟨first_t h.1 h.2.1 h.2.2.1 h.2.2.2, h⟩
    · exact .inl ⟨first_f h, h⟩
  have F := first_any now v
  generalize firstI now v = x at hf F
  cases ht : tickB t
  all_goals
    have hb := ht
    first | rw [tickB_iff] at hb | rw [tickB_iff0] at hb
    have HP := Lib.hid ht; clear ht
    have HF := Lib.hid hf; clear hf
    have HC := Lib.hid F; clear F
    go_enter Try.func108, Try.ntmps108
    go_wp2_with (first | (go_at_call 138; refine (tick_any _ _).mono ?_; rintro e w' ⟨rfl, rfl⟩; rw [HP.out]) | (go_at_call 105; refine (HC.out _).mono ?_; rintro e w' ⟨rfl, rfl⟩))
    all_goals (have hf := HF.out; go_ret; refine ⟨ret_bool ?_, rfl⟩; symm; first | (rw [live_iff]; omega) | (rw [live_iff0]; omega) | (rw [Bool.eq_iff_iff, live_iff]; simp; omega))
set_option maxHeartbeats 1000000 in
theorem Live_any (now v t : Int) (w : World) :
    Calls Try.prog 109 #[.int .i64 now, .int .i64 v, .int .i64 t] w fun e w' => e = .returned (.bool (liveB now v t)) ∧ w = w' := by
  cases ht : tickB now <;> cases hv : winB v <;> cases hu : tickB t
  all_goals
    have hb := ht
    first | rw [tickB_iff] at hb | rw [tickB_iff0] at hb
    have hc := hv
    first | rw [winB_iff] at hc | rw [winB_iff0] at hc
    have hd := hu
    first | rw [tickB_iff] at hd | rw [tickB_iff0] at hd
    have HP := Lib.hid ht; clear ht
    have HV := Lib.hid hv; clear hv
    have HU := Lib.hid hu; clear hu
    go_enter Try.func109, Try.ntmps109
    go_wp2_with (first | (go_at_call 79; refine (Tick_any _ _).mono ?_; rintro e w' ⟨rfl, rfl⟩; first | rw [HP.out] | rw [HU.out]) | (go_at_call 136; refine (Window_any _ _).mono ?_; rintro e w' ⟨rfl, rfl⟩; rw [HV.out]))
    all_goals (go_ret; refine ⟨ret_bool ?_, rfl⟩; symm; first | (rw [live_iff]; omega) | (rw [live_iff0]; omega) | (rw [Bool.eq_iff_iff, live_iff]; simp; omega))
end Go.Proofs.Ytjapjfcennemeaa.clk
end
