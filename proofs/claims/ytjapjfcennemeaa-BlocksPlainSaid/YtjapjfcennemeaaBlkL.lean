/- Plain: lists of blocks, by their keys (tick, last value, level, number, entries): validity, insertion. No program. -/
import Derived.Test.YtjapjfcennemeaaMgMrg
import Derived.Test.YtjapjfcennemeaaMgCasc
import Derived.Test.YtjapjfcennemeaaMgTotal
namespace Go.Proofs.Ytjapjfcennemeaa.rnk
open Go.Proofs.Ytjapjfcennemeaa.mem Go.Proofs.Ytjapjfcennemeaa.buk
set_option linter.unusedVariables false
abbrev K5 := Int × Int × Int × Int × L3
def atK (xs : List K5) (i : Nat) : K5 := xs[i]?.getD (0, 0, 0, 0, [])
def plainK (xs : List K5) : L2 := xs.map fun x => (x.1, x.2.2.1)
/-- The greatest excess of the gap of a block, over the levels below l. -/
def ceilD (a b : Int) : Int := (a + b - 1) / b
def allowTo (b : Int) : Nat → Int
  | 0 => 0
  | l + 1 => if b + 1 < 2 ^ l then 2 * allowTo b l + ceilD (2 ^ l - 1) b else allowTo b l
def allowed (level b : Int) : Int := if (0 ≤ level ∧ level ≤ 30) ∧ 1 ≤ b ∧ b ≤ 65536 then allowTo b (level.toNat + 1) else -1
theorem allowTo_bd {b : Int} (hb : 1 ≤ b) : ∀ l, 0 ≤ allowTo b l ∧ allowTo b l ≤ l * 2 ^ l
  | 0 => by simp [allowTo]
  | l + 1 => by
    obtain ⟨h1, h2⟩ := allowTo_bd hb l
    have h3 : (1 : Int) ≤ 2 ^ l := by have := Int.pow_pos (n := (2 : Int)) (m := l) (by omega); omega
    have h4 : 0 ≤ ceilD (2 ^ l - 1) b ∧ ceilD (2 ^ l - 1) b ≤ 2 ^ l := by
      unfold ceilD
      refine ⟨Int.ediv_nonneg (by omega) (by omega), ?_⟩
      have : (2 ^ l - 1 + b - 1) < (2 ^ l + 1) * b := by
        have h5 : (2 : Int) ^ l ≤ 2 ^ l * b := by
          have := Int.mul_le_mul_of_nonneg_left hb (show (0 : Int) ≤ 2 ^ l by omega)
          simpa using this
        rw [Int.add_mul]; omega
      have h6 := Int.ediv_lt_of_lt_mul (show 0 < b by omega) this
      omega
    have h5 : ((l + 1 : Nat) : Int) * 2 ^ (l + 1) = 2 * (l * 2 ^ l) + 2 * 2 ^ l := by rw [Int.pow_succ, Int.natCast_add, Int.add_mul, ← Int.mul_assoc]; simp; omega
    unfold allowTo
    rw [h5]
    generalize (l : Int) * 2 ^ l = m at *
    generalize (2 : Int) ^ l = p at *
    split <;> omega
/-- A block's summary fits its level. -/
def blkOk (b : Int) (x : K5) : Bool :=
  valR x.2.2.2.1 x.2.2.2.2 && decide (x.2.2.2.1 = 2 ^ x.2.2.1.toNat) && decide ((x.2.2.2.2.length : Int) ≤ b + 1) && decide (gapR x.2.2.2.1 x.2.2.2.2 - 1 ≤ allowed x.2.2.1 b) &&
  (decide (-4096 ≤ (at3 x.2.2.2.2 0).1) && decide ((at3 x.2.2.2.2 (x.2.2.2.2.length - 1)).1 ≤ 4096) && decide ((at3 x.2.2.2.2 0).1 ≤ x.2.1) && decide (x.2.1 ≤ (at3 x.2.2.2.2 (x.2.2.2.2.length - 1)).1))
def bkTo (b : Int) (xs : List K5) : Nat → Bool
  | 0 => true
  | i + 1 => bkTo b xs i && blkOk b (atK xs i)
theorem bkTo_succ {b : Int} {xs : List K5} {i : Nat} (h : bkTo b xs i = true) (h2 : blkOk b (atK xs i) = true) : bkTo b xs (i + 1) = true := by unfold bkTo; rw [h, h2]; rfl
theorem bkTo_not {b : Int} {xs : List K5} {i : Nat} (h : blkOk b (atK xs i) = false) : ∀ n, i < n → bkTo b xs n = false
  | 0, h2 => absurd h2 (by omega)
  | n + 1, h2 => by
    unfold bkTo
    by_cases e : i = n
    · subst e; rw [h, Bool.and_false]
    · rw [bkTo_not h n (by omega), Bool.false_and]
theorem bkTo_iff {b : Int} {xs : List K5} : ∀ n, bkTo b xs n = true ↔ ∀ i < n, blkOk b (atK xs i) = true
  | 0 => ⟨fun _ i h => absurd h (by omega), fun _ => rfl⟩
  | n + 1 => by
    unfold bkTo
    rw [Bool.and_eq_true, bkTo_iff n]
    constructor
    · rintro ⟨h1, h2⟩ i hi
      by_cases e : i = n
      · rw [e]; exact h2
      · exact h1 i (by omega)
    · intro h; exact ⟨fun i hi => h i (by omega), h n (by omega)⟩
noncomputable def validK (xs : List K5) (k b : Int) : Bool := decide (1 ≤ b) && decide (b ≤ 65536) && validB (plainK xs) k && bkTo b xs xs.length
theorem validK_iff {xs : List K5} {k b : Int} : validK xs k b = true ↔ (1 ≤ b ∧ b ≤ 65536) ∧ validB (plainK xs) k = true ∧ ∀ i < xs.length, blkOk b (atK xs i) = true := by
  unfold validK; rw [Bool.and_eq_true, Bool.and_eq_true, Bool.and_eq_true, bkTo_iff]; simp [and_assoc]
def totalK (xs : List K5) : Nat := lst.totalN (plainK xs)
/-- Where the run of level l that ends at position e begins. -/
def runK (xs : List K5) (l : Int) : Nat → Nat
  | 0 => 0
  | b + 1 => if (atK xs b).2.2.1 = l then runK xs l b else b + 1
theorem runK_le (xs : List K5) (l : Int) (e : Nat) : runK xs l e ≤ e := by
  induction e with
  | zero => exact Nat.le_refl _
  | succ e ih => simp only [runK]; split <;> omega
/-- Two summaries merged and pruned. -/
def twoR (b : Int) (x y : K5) : Int × L3 := pruP (mrgP x.2.2.2.1 x.2.2.2.2 y.2.2.2.1 y.2.2.2.2).1 b (mrgP x.2.2.2.1 x.2.2.2.2 y.2.2.2.1 y.2.2.2.2).2
def bothK (b : Int) (xs : List K5) (s : Nat) (l : Int) : K5 := ((atK xs (s + 1)).1, (atK xs (s + 1)).2.1, l + 1, (twoR b (atK xs s) (atK xs (s + 1))).1, (twoR b (atK xs s) (atK xs (s + 1))).2)
def joinK (b : Int) (xs : List K5) (s : Nat) (l : Int) : List K5 := xs.take s ++ bothK b xs s l :: xs.drop (s + 2)
theorem joinK_eq {xs : List K5} {s : Nat} {l b : Int} (h : s < xs.length) : (xs.set s (bothK b xs s l)).take (s + 1) ++ (xs.set s (bothK b xs s l)).drop (s + 2) = joinK b xs s l := by
  rw [List.take_set, List.drop_set_of_lt (by omega), List.take_succ_eq_append_getElem h, List.set_append_right _ _ (by rw [List.length_take]; omega)]
  have : s - (xs.take s).length = 0 := by rw [List.length_take]; omega
  rw [this, joinK]
  simp
theorem joinK_length {xs : List K5} {s : Nat} {l b : Int} (h : s + 1 < xs.length) : (joinK b xs s l).length = xs.length - 1 := by
  simp [joinK]; omega
def cascK (k : Nat) (b : Int) : Nat → List K5 → Nat → Nat → List K5
  | 0, xs, _, _ => xs
  | f + 1, xs, l, e => if e - runK xs l e < k + 2 then xs else cascK k b f (joinK b xs (runK xs l e) l) (l + 1) (runK xs l e + 1)
theorem cascK_stop {k f : Nat} {b : Int} {xs : List K5} {l e : Nat} (h : e - runK xs l e < k + 2) : cascK k b f xs l e = xs := by
  cases f with
  | zero => rfl
  | succ f => simp [cascK, h]
theorem cascK_go {k f : Nat} {b : Int} {xs : List K5} {l e : Nat} (h : ¬ e - runK xs l e < k + 2) : cascK k b (f + 1) xs l e = cascK k b f (joinK b xs (runK xs l e) l) (l + 1) (runK xs l e + 1) := by
  simp [cascK, h]
def insKC (xs : List K5) (k : Nat) (b t v : Int) : List K5 := cascK k b (xs.length + 1) (xs ++ [(t, v, 0, 1, [(v, 1, 1)])]) 0 (xs.length + 1)
def lastK (xs : List K5) : Int := if xs.length = 0 then 0 else (atK xs (xs.length - 1)).1
noncomputable def mayK (xs : List K5) (k b t v : Int) : Bool := validK xs k b && decide ((0 ≤ t ∧ t ≤ 16777216) ∧ lastK xs ≤ t) && (decide (-4096 ≤ v) && decide (v ≤ 4096)) && decide (totalK xs < 1073741824)
noncomputable def insK (xs : List K5) (k b t v : Int) : List K5 := if mayK xs k b t v = true then insKC xs k.toNat b t v else []
/-- The plain buckets go the same way. -/
theorem at_plainK (xs : List K5) (i : Nat) : at_ (plainK xs) i = ((atK xs i).1, (atK xs i).2.2.1) := by
  unfold at_ atK plainK
  rw [List.getElem?_map]
  cases xs[i]? <;> rfl
theorem plainK_length (xs : List K5) : (plainK xs).length = xs.length := by simp [plainK]
theorem runK_plain (xs : List K5) (l : Int) : ∀ e, runB (plainK xs) l e = runK xs l e
  | 0 => rfl
  | e + 1 => by simp only [runB, runK, at_plainK, runK_plain xs l e]
theorem joinK_plain (b : Int) (xs : List K5) (s : Nat) (l : Int) : joined (plainK xs) s l = plainK (joinK b xs s l) := by
  unfold joined
  rw [at_plainK]
  simp [joinK, bothK, plainK, List.map_take, List.map_drop]
theorem cascK_plain (k : Nat) (b : Int) : ∀ (f : Nat) (xs : List K5) (l e : Nat), casc k f (plainK xs) l e = plainK (cascK k b f xs l e)
  | 0, _, _, _ => rfl
  | f + 1, xs, l, e => by
    simp only [casc, cascK, runK_plain]
    split
    · rfl
    · rw [joinK_plain b, cascK_plain k b f]
theorem insKC_plain (xs : List K5) (k : Nat) (b t v : Int) : insC (plainK xs) k t = plainK (insKC xs k b t v) := by
  unfold insC insKC
  rw [← cascK_plain, plainK_length]
  simp [plainK]
theorem totalK_le (xs : List K5) : totalK xs ≤ xs.length * 1073741824 := by
  have := lst.totalN_le (plainK xs); rw [plainK_length] at this; exact this
end Go.Proofs.Ytjapjfcennemeaa.rnk
