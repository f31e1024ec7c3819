/- Total, BlkL, PutK: proved here in one text, no conditions beyond those that each theorem states. -/
import Derived.Deep.QuietTactic
import Derived.BigQuiet
import Derived.Deep.LoopGhost
import Derived.LoopTactic
import Derived.Outline
import Derived.Test.YtjapjfcennemeaaGreatZ5
import Derived.Test.YtjapjfcennemeaaGreatZ1
import Derived.Test.YtjapjfcennemeaaGreatZ6
import Derived.Test.YtjapjfcennemeaaGreatZ7
set_option linter.unusedVariables false
set_option linter.unusedSimpArgs false
section
namespace Go.Proofs.YtjapjfcennemeaaGreat.lst
open Go.RowKit Go.Proofs.YtjapjfcennemeaaGreat.mem
set_option linter.unusedVariables false
def wt (l : Int) : Nat := if 0 ≤ l ∧ l ≤ 30 then 2 ^ l.toNat else 0
def totalN : List (Int × Int) → Nat
  | [] => 0
  | p :: r => wt p.2 + totalN r
theorem wt_le (l : Int) : wt l ≤ 1073741824 := by
  unfold wt
  split
  · exact Nat.le_trans (Nat.pow_le_pow_right (by omega) (show l.toNat ≤ 30 by omega)) (by decide)
  · omega
theorem totalN_append (xs ys : List (Int × Int)) : totalN (xs ++ ys) = totalN xs + totalN ys := by
  induction xs with
  | nil => simp [totalN]
  | cons p r ih => simp [totalN, ih]; omega
theorem totalN_le (xs : List (Int × Int)) : totalN xs ≤ xs.length * 1073741824 := by
  induction xs with
  | nil => simp [totalN]
  | cons p r ih => have := wt_le p.2; simp [totalN]; omega
theorem totalN_take {xs : List (Int × Int)} {k : Nat} (h : k < xs.length) : totalN (xs.take (k + 1)) = totalN (xs.take k) + wt (xs[k]?.getD (0, 0)).2 := by
  rw [List.take_succ_eq_append_getElem h, totalN_append, List.getElem?_eq_getElem h]; simp [totalN]
def levelB (l : Int) : Bool := decide (0 ≤ l) && decide (l ≤ 30)
theorem levelB_iff {l : Int} : levelB l = true ↔ 0 ≤ l ∧ l ≤ 30 := by simp [levelB]
theorem levelB_iff0 {l : Int} : levelB l = false ↔ ¬ (0 ≤ l ∧ l ≤ 30) := by rw [← levelB_iff]; simp
set_option maxHeartbeats 400000 in
theorem level_any (l : Int) (w : World) :
    Calls Tryz.prog 77 #[.int .i64 l] w fun e w' => e = .returned (.bool (levelB l)) ∧ w = w' := by
  go_enter Tryz.func77, Tryz.ntmps77
  go_wp2
  all_goals (go_ret; refine ⟨ret_bool ?_, rfl⟩; first | (symm; rw [levelB_iff]; omega) | (symm; rw [levelB_iff0]; omega) | (rw [Bool.eq_iff_iff, levelB_iff]; simp; omega))
theorem int_eq {k : IntKind} {a b : Int} (h : a = b) : Value.int k a = .int k b := by rw [h]
theorem shl_sum {l : Int} {s : Nat} (hl : 0 ≤ l ∧ l ≤ 30) (hs : s ≤ 70368744177664) : wrap64 ((s : Int) + wrap64 (2 ^ l.toNat)) = ((s + wt l : Nat) : Int) := by
  have h1 : (2 : Nat) ^ l.toNat ≤ 1073741824 := Nat.le_trans (Nat.pow_le_pow_right (by omega) (show l.toNat ≤ 30 by omega)) (by decide)
  have h2 : ((2 : Int) ^ l.toNat) = ((2 ^ l.toNat : Nat) : Int) := by simp
  rw [h2]
  have h3 : wt l = 2 ^ l.toNat := by unfold wt; rw [if_pos hl]
  rw [h3]
  generalize (2 : Nat) ^ l.toNat = p at *
  rw [IntWalk.wrap64_in (p : Int) (by omega), IntWalk.wrap64_in _ (by omega)]
  omega
def TotOk (xs : List (Int × Int)) (w : World) (e : Ending) (w' : World) : Prop := e = .returned (.int .i64 (totalN xs)) ∧ Below w.heap.size w w'
set_option maxHeartbeats 2000000 in
theorem Total_any (A : Option Addr) (n c : Nat) (xs : List (Int × Int)) (w : World) (h1 : PRead w w.heap.size A n xs) (hsmall : n ≤ 65536) :
    Calls Tryz.prog 42 #[.slice A n c] w (TotOk xs w) := by
  have HL := Lib.hid h1.len
  have H1 := Lib.hid h1
  clear h1
  go_enter Tryz.func42, Tryz.ntmps42
  go_wp2
  go_loopg [3, 8] n (fun kx s3 s8 wr => ∃ k : Nat, k ≤ n ∧ s8 = .int .i64 k ∧ n - k ≤ kx ∧ s3 = .int .i64 (totalN (xs.take k)) ∧ Hid (Below w.heap.size w wr))
  case atStart => exact ⟨0, Nat.zero_le _, rfl, by omega, rfl, Below.refl _ _⟩
  case round =>
    obtain ⟨k, hk, rfl, hg, rfl, HB⟩ := hrel
    by_cases hlt : k < n
    · have H2 := H1.out.below HB.out
      obtain ⟨ad, rfl, hbl, hc1, hc2⟩ := PRead.at_ H2 hlt
      have hT := Lib.hid (totalN_take (xs := xs) (k := k) (by rw [HL.out]; exact hlt))
      have hs := HB.out.size
      have hbl2 : ad.block < wr.heap.size := by omega
      have hlt46 : totalN (xs.take k) ≤ 70368744177664 := by have := totalN_le (xs.take k); simp at this; omega
      clear H2
      generalize (xs[k]?.getD (0, 0)).1 = t1 at *
      generalize (xs[k]?.getD (0, 0)).2 = l1 at *
      have HV := Lib.hid (fun W => level_any l1 W)
      rcases Bool.eq_false_or_eq_true (levelB l1) with hl | hl <;> rw [hl] at HV
      · rw [levelB_iff] at hl
        go_wp2_with (go_at_call 77; refine (HV.out _).mono ?_; rintro e w' ⟨rfl, rfl⟩)
        go_roundg (n - (k + 1))
        case measure => omega
        case rel => exact ⟨k + 1, by omega, by go_num, by omega, int_eq (by rw [hT.out]; exact shl_sum hl hlt46), HB.out.alloc HB.out.size _⟩
      · rw [levelB_iff0] at hl
        have hw : wt l1 = 0 := by unfold wt; rw [if_neg hl]
        have HW := Lib.hid hw
        clear hw
        go_wp2_with (go_at_call 77; refine (HV.out _).mono ?_; rintro e w' ⟨rfl, rfl⟩)
        go_roundg (n - (k + 1))
        case measure => omega
        case rel => exact ⟨k + 1, by omega, by go_num, by omega, int_eq (by rw [hT.out, HW.out]; simp), HB.out.alloc HB.out.size _⟩
    · obtain rfl : k = n := by omega
      go_wp2
      go_ret
      exact ⟨ret_int (by rw [List.take_of_length_le (by rw [HL.out]; exact Nat.le_refl _)]), HB.out⟩
set_option maxHeartbeats 2000000 in
theorem TotalRef_any (A : Option Addr) (n c : Nat) (xs : List (Int × Int)) (w : World) (h1 : PRead w w.heap.size A n xs) (hsmall : n ≤ 65536) :
    Calls Tryz.prog 67 #[.slice A n c] w (TotOk xs w) := by
  have HL := Lib.hid h1.len
  have H1 := Lib.hid h1
  clear h1
  go_enter Tryz.func67, Tryz.ntmps67
  go_wp2
  go_loopg [3, 8] n (fun kx s3 s8 wr => ∃ k : Nat, k ≤ n ∧ s8 = .int .i64 k ∧ n - k ≤ kx ∧ s3 = .int .i64 (totalN (xs.take k)) ∧ Hid (Below w.heap.size w wr))
  case atStart => exact ⟨0, Nat.zero_le _, rfl, by omega, rfl, Below.refl _ _⟩
  case round =>
    obtain ⟨k, hk, rfl, hg, rfl, HB⟩ := hrel
    by_cases hlt : k < n
    · have H2 := H1.out.below HB.out
      obtain ⟨ad, rfl, hbl, hc1, hc2⟩ := PRead.at_ H2 hlt
      have hT := Lib.hid (totalN_take (xs := xs) (k := k) (by rw [HL.out]; exact hlt))
      have hs := HB.out.size
      have hbl2 : ad.block < wr.heap.size := by omega
      have hlt46 : totalN (xs.take k) ≤ 70368744177664 := by have := totalN_le (xs.take k); simp at this; omega
      clear H2
      generalize (xs[k]?.getD (0, 0)).1 = t1 at *
      generalize (xs[k]?.getD (0, 0)).2 = l1 at *
      by_cases hl : 0 ≤ l1 ∧ l1 ≤ 30
      · obtain ⟨hl1, hl2⟩ := hl
        go_wp2
        go_roundg (n - (k + 1))
        case measure => omega
        case rel => exact ⟨k + 1, by omega, by go_num, by omega, int_eq (by rw [hT.out]; exact shl_sum ⟨hl1, hl2⟩ hlt46), HB.out.alloc HB.out.size _⟩
      · have hw : wt l1 = 0 := by unfold wt; rw [if_neg hl]
        have HW := Lib.hid hw
        clear hw
        by_cases h0 : 0 ≤ l1
        · have h30 : 30 < l1 := by omega
          clear hl
          go_wp2
          go_roundg (n - (k + 1))
          case measure => omega
          case rel => exact ⟨k + 1, by omega, by go_num, by omega, int_eq (by rw [hT.out, HW.out]; simp), HB.out.alloc HB.out.size _⟩
        · clear hl
          go_wp2
          go_roundg (n - (k + 1))
          case measure => omega
          case rel => exact ⟨k + 1, by omega, by go_num, by omega, int_eq (by rw [hT.out, HW.out]; simp), HB.out.alloc HB.out.size _⟩
    · obtain rfl : k = n := by omega
      go_wp2
      go_ret
      exact ⟨ret_int (by rw [List.take_of_length_le (by rw [HL.out]; exact Nat.le_refl _)]), HB.out⟩
end Go.Proofs.YtjapjfcennemeaaGreat.lst
end
section
namespace Go.Proofs.YtjapjfcennemeaaGreat.rnk
open Go.Proofs.YtjapjfcennemeaaGreat.mem Go.Proofs.YtjapjfcennemeaaGreat.buk
set_option linter.unusedVariables false
abbrev K5 := Int × Int × Int × Int × L3
def atK (xs : List K5) (i : Nat) : K5 := xs[i]?.getD (0, 0, 0, 0, [])
def plainK (xs : List K5) : L2 := xs.map fun x => (x.1, x.2.2.1)
def ceilD (a b : Int) : Int := (a + b - 1) / b
def allowTo (b : Int) : Nat → Int
  | 0 => 0
  | l + 1 => if b + 1 < 2 ^ l then 2 * allowTo b l + ceilD (2 ^ l - 1) b else allowTo b l
def allowed (level b : Int) : Int := if (0 ≤ level ∧ level ≤ 30) ∧ 1 ≤ b ∧ b ≤ 65536 then allowTo b (level.toNat + 1) else -1
theorem allowTo_bd {b : Int} (hb : 1 ≤ b) : ∀ l, 0 ≤ allowTo b l ∧ allowTo b l ≤ l * 2 ^ l
  | 0 => by simp [allowTo]
  | l + 1 => by
    obtain ⟨h1, h2⟩ := allowTo_bd hb l
    have h3 : (1 : Int) ≤ 2 ^ l := by have := Int.pow_pos (n := (2 : Int)) (m := l) (by omega); omega
    have h4 : 0 ≤ ceilD (2 ^ l - 1) b ∧ ceilD (2 ^ l - 1) b ≤ 2 ^ l := by
      unfold ceilD
      refine ⟨Int.ediv_nonneg (by omega) (by omega), ?_⟩
      have : (2 ^ l - 1 + b - 1) < (2 ^ l + 1) * b := by
        have h5 : (2 : Int) ^ l ≤ 2 ^ l * b := by
          have := Int.mul_le_mul_of_nonneg_left hb (show (0 : Int) ≤ 2 ^ l by omega)
          simpa using this
        rw [Int.add_mul]; omega
      have h6 := Int.ediv_lt_of_lt_mul (show 0 < b by omega) this
      omega
    have h5 : ((l + 1 : Nat) : Int) * 2 ^ (l + 1) = 2 * (l * 2 ^ l) + 2 * 2 ^ l := by rw [Int.pow_succ, Int.natCast_add, Int.add_mul, ← Int.mul_assoc]; simp; omega
    unfold allowTo
    rw [h5]
    generalize (l : Int) * 2 ^ l = m at *
    generalize (2 : Int) ^ l = p at *
    split <;> omega
def blkOk (b : Int) (x : K5) : Bool :=
  valR x.2.2.2.1 x.2.2.2.2 && decide (x.2.2.2.1 = 2 ^ x.2.2.1.toNat) && decide ((x.2.2.2.2.length : Int) ≤ b + 1) && decide (gapR x.2.2.2.1 x.2.2.2.2 - 1 ≤ allowed x.2.2.1 b) &&
  (decide (-4096 ≤ (at3 x.2.2.2.2 0).1) && decide ((at3 x.2.2.2.2 (x.2.2.2.2.length - 1)).1 ≤ 4096) && decide ((at3 x.2.2.2.2 0).1 ≤ x.2.1) && decide (x.2.1 ≤ (at3 x.2.2.2.2 (x.2.2.2.2.length - 1)).1))
def bkTo (b : Int) (xs : List K5) : Nat → Bool
  | 0 => true
  | i + 1 => bkTo b xs i && blkOk b (atK xs i)
theorem bkTo_succ {b : Int} {xs : List K5} {i : Nat} (h : bkTo b xs i = true) (h2 : blkOk b (atK xs i) = true) : bkTo b xs (i + 1) = true := by unfold bkTo; rw [h, h2]; rfl
theorem bkTo_iff {b : Int} {xs : List K5} : ∀ n, bkTo b xs n = true ↔ ∀ i < n, blkOk b (atK xs i) = true
  | 0 => ⟨fun _ i h => absurd h (by omega), fun _ => rfl⟩
  | n + 1 => by
    unfold bkTo
    rw [Bool.and_eq_true, bkTo_iff n]
    constructor
    · rintro ⟨h1, h2⟩ i hi
      by_cases e : i = n
      · rw [e]; exact h2
      · exact h1 i (by omega)
    · intro h; exact ⟨fun i hi => h i (by omega), h n (by omega)⟩
noncomputable def validK (xs : List K5) (k b : Int) : Bool := decide (1 ≤ b) && decide (b ≤ 65536) && validB (plainK xs) k && bkTo b xs xs.length
theorem validK_iff {xs : List K5} {k b : Int} : validK xs k b = true ↔ (1 ≤ b ∧ b ≤ 65536) ∧ validB (plainK xs) k = true ∧ ∀ i < xs.length, blkOk b (atK xs i) = true := by
  unfold validK; rw [Bool.and_eq_true, Bool.and_eq_true, Bool.and_eq_true, bkTo_iff]; simp [and_assoc]
def totalK (xs : List K5) : Nat := lst.totalN (plainK xs)
def runK (xs : List K5) (l : Int) : Nat → Nat
  | 0 => 0
  | b + 1 => if (atK xs b).2.2.1 = l then runK xs l b else b + 1
def twoR (b : Int) (x y : K5) : Int × L3 := pruP (mrgP x.2.2.2.1 x.2.2.2.2 y.2.2.2.1 y.2.2.2.2).1 b (mrgP x.2.2.2.1 x.2.2.2.2 y.2.2.2.1 y.2.2.2.2).2
def bothK (b : Int) (xs : List K5) (s : Nat) (l : Int) : K5 := ((atK xs (s + 1)).1, (atK xs (s + 1)).2.1, l + 1, (twoR b (atK xs s) (atK xs (s + 1))).1, (twoR b (atK xs s) (atK xs (s + 1))).2)
def joinK (b : Int) (xs : List K5) (s : Nat) (l : Int) : List K5 := xs.take s ++ bothK b xs s l :: xs.drop (s + 2)
theorem joinK_length {xs : List K5} {s : Nat} {l b : Int} (h : s + 1 < xs.length) : (joinK b xs s l).length = xs.length - 1 := by
  simp [joinK]; omega
def cascK (k : Nat) (b : Int) : Nat → List K5 → Nat → Nat → List K5
  | 0, xs, _, _ => xs
  | f + 1, xs, l, e => if e - runK xs l e < k + 2 then xs else cascK k b f (joinK b xs (runK xs l e) l) (l + 1) (runK xs l e + 1)
theorem cascK_stop {k f : Nat} {b : Int} {xs : List K5} {l e : Nat} (h : e - runK xs l e < k + 2) : cascK k b f xs l e = xs := by
  cases f with
  | zero => rfl
  | succ f => simp [cascK, h]
theorem cascK_go {k f : Nat} {b : Int} {xs : List K5} {l e : Nat} (h : ¬ e - runK xs l e < k + 2) : cascK k b (f + 1) xs l e = cascK k b f (joinK b xs (runK xs l e) l) (l + 1) (runK xs l e + 1) := by
  simp [cascK, h]
def insKC (xs : List K5) (k : Nat) (b t v : Int) : List K5 := cascK k b (xs.length + 1) (xs ++ [(t, v, 0, 1, [(v, 1, 1)])]) 0 (xs.length + 1)
def lastK (xs : List K5) : Int := if xs.length = 0 then 0 else (atK xs (xs.length - 1)).1
noncomputable def mayK (xs : List K5) (k b t v : Int) : Bool := validK xs k b && decide ((0 ≤ t ∧ t ≤ 16777216) ∧ lastK xs ≤ t) && (decide (-4096 ≤ v) && decide (v ≤ 4096)) && decide (totalK xs < 1073741824)
noncomputable def insK (xs : List K5) (k b t v : Int) : List K5 := if mayK xs k b t v = true then insKC xs k.toNat b t v else []
theorem at_plainK (xs : List K5) (i : Nat) : at_ (plainK xs) i = ((atK xs i).1, (atK xs i).2.2.1) := by
  unfold at_ atK plainK
  rw [List.getElem?_map]
  cases xs[i]? <;> rfl
theorem plainK_length (xs : List K5) : (plainK xs).length = xs.length := by simp [plainK]
theorem runK_plain (xs : List K5) (l : Int) : ∀ e, runB (plainK xs) l e = runK xs l e
  | 0 => rfl
  | e + 1 => by simp only [runB, runK, at_plainK, runK_plain xs l e]
theorem joinK_plain (b : Int) (xs : List K5) (s : Nat) (l : Int) : joined (plainK xs) s l = plainK (joinK b xs s l) := by
  unfold joined
  rw [at_plainK]
  simp [joinK, bothK, plainK, List.map_take, List.map_drop]
theorem cascK_plain (k : Nat) (b : Int) : ∀ (f : Nat) (xs : List K5) (l e : Nat), casc k f (plainK xs) l e = plainK (cascK k b f xs l e)
  | 0, _, _, _ => rfl
  | f + 1, xs, l, e => by
    simp only [casc, cascK, runK_plain]
    split
    · rfl
    · rw [joinK_plain b, cascK_plain k b f]
theorem insKC_plain (xs : List K5) (k : Nat) (b t v : Int) : insC (plainK xs) k t = plainK (insKC xs k b t v) := by
  unfold insC insKC
  rw [← cascK_plain, plainK_length]
  simp [plainK]
end Go.Proofs.YtjapjfcennemeaaGreat.rnk
end
section
namespace Go.Proofs.YtjapjfcennemeaaGreat.rnk
open Go.Proofs.YtjapjfcennemeaaGreat.mem Go.Proofs.YtjapjfcennemeaaGreat.buk
set_option linter.unusedVariables false
theorem plainK_append (xs ys : List K5) : plainK (xs ++ ys) = plainK xs ++ plainK ys := by simp [plainK]
def entsK (xs : List K5) : Nat := (xs.map fun x => x.2.2.2.2.length).sum
theorem pruL_len {N b : Int} {es : L3} (hb : 0 ≤ b) : (pruL N b es).length ≤ es.length := by
  unfold pruL
  split
  · exact Nat.le_refl _
  · rename_i h
    have := (pruTo_lt (N := N) (b := b) (show 0 < es.length by omega) (b.toNat + 1)).2
    omega
theorem twoR_len (b : Int) (x y : K5) : (twoR b x y).2.length ≤ x.2.2.2.2.length + y.2.2.2.2.length := by
  unfold twoR pruP
  split
  · rename_i h
    have hb : 0 ≤ b := by unfold pruOk at h; simp only [Bool.and_eq_true, decide_eq_true_eq] at h; omega
    refine Nat.le_trans (pruL_len hb) ?_
    unfold mrgP
    split
    · rw [mergeL, mrg_length]; exact Nat.le_refl _
    · exact Nat.zero_le _
  · exact Nat.zero_le _
theorem joinK_ents {b : Int} {xs : List K5} {s : Nat} {l : Int} (h : s + 1 < xs.length) : entsK (joinK b xs s l) ≤ entsK xs := by
  have e1 : xs = xs.take s ++ xs[s] :: xs[s + 1] :: xs.drop (s + 2) := by
    rw [← List.drop_eq_getElem_cons (by omega), ← List.drop_eq_getElem_cons (by omega), List.take_append_drop]
  have h1 : atK xs s = xs[s] := by simp [atK, List.getElem?_eq_getElem (show s < xs.length by omega)]
  have h2 : atK xs (s + 1) = xs[s + 1] := by simp [atK, List.getElem?_eq_getElem h]
  have h3 := twoR_len b xs[s] xs[s + 1]
  have e2 : entsK xs = entsK (xs.take s ++ xs[s] :: xs[s + 1] :: xs.drop (s + 2)) := by rw [← e1]
  rw [e2]
  unfold joinK bothK entsK
  rw [h1, h2]
  simp only [List.map_append, List.map_cons, List.sum_append, List.sum_cons]
  omega
end Go.Proofs.YtjapjfcennemeaaGreat.rnk
end
