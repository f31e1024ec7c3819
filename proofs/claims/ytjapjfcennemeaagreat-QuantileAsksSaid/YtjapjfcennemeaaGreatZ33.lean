/- BInR, BLaw, FewB, FewQ: proved here in one text, no conditions beyond those that each theorem states. -/
import Derived.LoopN
import Derived.Deep.QuietTactic
import Derived.BigQuiet
import Derived.Deep.LoopGhost
import Derived.LoopTactic
import Derived.Outline
import Derived.StillTailTactics
import Derived.Deep.RegionHeld3
import Derived.Deep.DrawnRows
import Derived.Deep.DeepCutAuto
import Derived.Deep.CutBlock
import Derived.Test.YtjapjfcennemeaaGreatZ30
import Derived.Test.YtjapjfcennemeaaGreatZ26
import Derived.Test.YtjapjfcennemeaaGreatZ32
import Derived.Test.YtjapjfcennemeaaGreatZ27
import Derived.Test.YtjapjfcennemeaaGreatZ29
import Derived.Test.YtjapjfcennemeaaGreatZ11
import Derived.Test.YtjapjfcennemeaaGreatZ20
import Derived.Test.YtjapjfcennemeaaGreatZ3
import Derived.Test.YtjapjfcennemeaaGreatZ5
import Derived.Test.YtjapjfcennemeaaGreatZ1
import Derived.Test.YtjapjfcennemeaaGreatZ7
import Derived.Test.YtjapjfcennemeaaGreatZ6
import Derived.Test.YtjapjfcennemeaaGreatZ13
import Derived.Test.YtjapjfcennemeaaGreatZ21
import Derived.Test.YtjapjfcennemeaaGreatZ15
set_option linter.unusedVariables false
set_option linter.unusedSimpArgs false
section
namespace Go.Proofs.YtjapjfcennemeaaGreat.blk
open Go.RowKit Go.Proofs.YtjapjfcennemeaaGreat.mem Go.Proofs.YtjapjfcennemeaaGreat.rnk Go.Proofs.YtjapjfcennemeaaGreat.gro Go.Proofs.YtjapjfcennemeaaGreat.buk
set_option linter.unusedVariables false
set_option linter.unusedSimpArgs false
set_option pp.maxSteps 200000
def EntR (W : World) (ys : List BlkM) : Prop := ∀ y ∈ ys, ERead W W.heap.size y.adr y.en y.es ∧ y.en ≤ y.ec ∧ y.ec ≤ maxLen
theorem EntR.below {W w' : World} {ys : List BlkM} (h : EntR W ys) (hb : Below W.heap.size W w') : EntR w' ys := fun y hy => by
  obtain ⟨h1, h2, h3⟩ := h y hy
  exact ⟨(ERead.below h1 hb).more hb.size, h2, h3⟩
end Go.Proofs.YtjapjfcennemeaaGreat.blk
end
section
namespace Go.Proofs.YtjapjfcennemeaaGreat.blk
open Go.RowKit Go.Proofs.YtjapjfcennemeaaGreat.mem Go.Proofs.YtjapjfcennemeaaGreat.rnk Go.Proofs.YtjapjfcennemeaaGreat.gro Go.Proofs.YtjapjfcennemeaaGreat.buk
set_option linter.unusedVariables false
set_option linter.unusedSimpArgs false
set_option pp.maxSteps 200000
theorem ents_few {xs : List K5} {k b : Int} (hl : xs.length ≤ 60) (h : validK xs k b = true) : entsK xs ≤ 4000000 := by
  have h1 := ents_valid h
  have hb := (validK_iff.1 h).1
  have h2 : xs.length * (b + 1).toNat ≤ 60 * 65537 := Nat.mul_le_mul hl (by omega)
  omega
end Go.Proofs.YtjapjfcennemeaaGreat.blk
end
section
namespace Go.Proofs.YtjapjfcennemeaaGreat.blk
open Go.RowKit Go.Proofs.YtjapjfcennemeaaGreat.mem Go.Proofs.YtjapjfcennemeaaGreat.gro Go.Proofs.YtjapjfcennemeaaGreat.rnk
set_option linter.unusedVariables false
set_option pp.maxSteps 200000
def sumN (xs : List BlkM) (i : Nat) : Nat := ((xs.take i).map BlkM.en).sum
theorem sumN_zero (xs : List BlkM) : sumN xs 0 = 0 := by simp [sumN]
theorem sumN_succ {xs : List BlkM} {i : Nat} {b : BlkM} (h : xs[i]? = some b) : sumN xs (i + 1) = sumN xs i + b.en := by
  unfold sumN
  rw [List.take_add_one, h]
  simp
theorem sumN_all {xs : List BlkM} : sumN xs xs.length = (xs.map BlkM.en).sum := by unfold sumN; rw [List.take_length]
theorem sumN_le {xs : List BlkM} (h : ∀ b ∈ xs, b.en ≤ 1099511627776) : ∀ i, i ≤ xs.length → sumN xs i ≤ i * 1099511627776
  | 0, _ => by rw [sumN_zero]; exact Nat.zero_le _
  | i + 1, hi => by
    have ih := sumN_le h i (by omega)
    rw [sumN_succ (List.getElem?_eq_getElem (show i < xs.length by omega))]
    have := h _ (List.getElem_mem (show i < xs.length by omega))
    omega
theorem wrap_add (a b : Int) : IntKind.i64.wrap (IntKind.i64.wrap a + b) = IntKind.i64.wrap (a + b) := by
  rw [IntKind.wrap_i64, IntKind.wrap_i64, IntKind.wrap_i64]; omega
def FewOk (n : Nat) (xs : List BlkM) (w : World) (e : Ending) (w' : World) : Prop :=
  ∃ f : Bool, e = .returned (.bool f) ∧ (f = true → n ≤ 40 ∧ ((∀ b ∈ xs, b.en ≤ 1099511627776) → (xs.map BlkM.en).sum ≤ 200)) ∧ Below w.heap.size w w'
end Go.Proofs.YtjapjfcennemeaaGreat.blk
end
section
namespace Go.Proofs.YtjapjfcennemeaaGreat.blk
open Go.RowKit Go.Proofs.YtjapjfcennemeaaGreat.mem Go.Proofs.YtjapjfcennemeaaGreat.gro Go.Proofs.YtjapjfcennemeaaGreat.rnk
set_option linter.unusedVariables false
set_option linter.unusedSimpArgs false
set_option pp.maxSteps 200000
set_option maxHeartbeats 4000000 in
set_option maxRecDepth 100000 in
theorem few23_any (v k p o : Int) (A : Option Addr) (n c : Nat) (xs : List BlkM) (w : World) (h1 : BRead w w.heap.size A n xs) (hn : n ≤ maxLen) :
    Calls Tryz.prog 4 #[.agg #[.int .i64 v, .int .i64 k, .int .i64 p, .int .i64 o, .slice A n c]] w (FewOk n xs w) := by
  have hn9 : n ≤ 9223372036854775807 := hn
  have H1 := Lib.hid h1
  have HLn := Lib.hid h1.len
  clear h1 hn
  go_enter Tryz.func4, Tryz.ntmps4
  go_upto_region 3 with fail
  obtain ⟨W0, hW, hs0, K0, B0⟩ := start1 w 24 #[Value.int IntKind.i64 v, Value.int IntKind.i64 k, Value.int IntKind.i64 p, Value.int IntKind.i64 o, Value.slice A n c]
  rw [hW]
  clear hW
  have KK := Lib.hid K0
  have BB := Lib.hid B0
  clear K0 B0 hs0
  go_loopg [3, 9] n (fun kx s3 s8 wr => ∃ (i : Nat) (z : Int), s8 = .int .i64 i ∧ s3 = .int .i64 z ∧ i ≤ n ∧ n - i ≤ kx ∧ Hid (z = IntKind.i64.wrap (sumN xs i)) ∧ Hid (Bx wr [(w.heap.size, 24, #[Value.int IntKind.i64 v, Value.int IntKind.i64 k, Value.int IntKind.i64 p, Value.int IntKind.i64 o, Value.slice A n c])]) ∧ Hid (Below w.heap.size w wr))
  case atStart => exact ⟨0, 0, rfl, rfl, Nat.zero_le _, by omega, by rw [sumN_zero]; rfl, KK, BB⟩
  case round =>
    clear KK BB
    obtain ⟨i, z, rfl, rfl, hin, hik, HZ, KK, HB⟩ := hrel
    have R := KK.out.rules
    simp only [Rules] at R
    by_cases hlt : i < n
    case neg =>
      obtain rfl : i = n := by omega
      have HS : Hid (i ≤ 40 → z ≤ 200 → (∀ b ∈ xs, b.en ≤ 1099511627776) → (xs.map BlkM.en).sum ≤ 200) := by
        intro h40 h200 hb
        have h1 := sumN_le hb i (by rw [HLn.out]; exact Nat.le_refl _)
        rw [← sumN_all, HLn.out]
        have h2 := HZ.out
        rw [IntWalk.i64_in _ (by omega)] at h2
        omega
      clear HZ
      by_cases h40 : i ≤ 40
      · have h40i : (i : Int) ≤ 40 := by omega
        by_cases h200 : z ≤ 200
        · have HF := Lib.hid (HS.out h40 h200)
          clear HS
          go_wp2
          all_goals (go_ret; exact ⟨_, rfl, fun _ => ⟨h40, HF.out⟩, HB.out⟩)
        · clear HS
          go_wp2
          all_goals (go_ret; exact ⟨false, rfl, fun h => (by cases h), HB.out⟩)
      · have h40i : ¬ (i : Int) ≤ 40 := by omega
        clear HS
        go_wp2
        all_goals (go_ret; exact ⟨false, rfl, fun h => (by cases h), HB.out⟩)
    obtain ⟨ad, b, rfl, hbl, hb, hc1, hc2, hc3, hc4, hc5, -, -, -⟩ := BRead.at_ (H1.out.below HB.out) hlt
    have hsz := HB.out.size
    have hwr : w.heap.size < wr.heap.size := (KK.out _ (List.mem_cons_self ..)).lt
    have HN := Lib.hid (sumN_succ hb)
    clear hb
    generalize b.t = bt at *
    generalize b.last = bl at *
    generalize b.level = bv at *
    generalize b.num = bn at *
    generalize b.adr = ba at *
    generalize b.en = be at *
    generalize b.ec = bq at *
    clear b
    obtain ⟨zz, hzz⟩ : ∃ zz, IntKind.i64.wrap (z + (be : Int)) = zz := ⟨_, rfl⟩
    have HZ2 : Hid (zz = IntKind.i64.wrap (sumN xs (i + 1))) := by
      rw [Hid, ← hzz, HN.out, HZ.out, wrap_add]; simp
    have s1 : IntKind.i64.wrap ((i : Int) + 1) = (i : Int) + 1 := IntWalk.i64_in _ (by omega)
    clear HN HZ
    have KX := Lib.hid (KK.out.alloc (.cells #[Value.int IntKind.i64 bt, Value.int IntKind.i64 bl, Value.int IntKind.i64 bv, Value.int IntKind.i64 bn, Value.slice ba be bq] 41))
    go_wp2
    go_roundg (n - (i + 1))
    case measure => omega
    case rel => exact ⟨i + 1, _, by go_num, rfl, by omega, by omega, HZ2, KX, HB.out.alloc HB.out.size _⟩
end Go.Proofs.YtjapjfcennemeaaGreat.blk
end
