/- BInR, BLaw, BPlnL, FewB: proved here in one text, no conditions beyond those that each theorem states. -/
import Derived.LoopN
import Derived.Deep.QuietTactic
import Derived.BigQuiet
import Derived.Deep.LoopGhost
import Derived.LoopTactic
import Derived.Outline
import Derived.StillTailTactics
import Derived.Deep.RegionHeld3
import Derived.Deep.DrawnRows
import Derived.Deep.DeepCutAuto
import Derived.Deep.CutBlock
import Derived.Test.YtjapjfcennemeaaZ31
import Derived.Test.YtjapjfcennemeaaZ28
import Derived.Test.YtjapjfcennemeaaZ23
import Derived.Test.YtjapjfcennemeaaZ7
import Derived.Test.YtjapjfcennemeaaZ30
import Derived.Test.YtjapjfcennemeaaZ19
import Derived.Test.YtjapjfcennemeaaZ13
import Derived.Test.YtjapjfcennemeaaZ18
import Derived.Test.YtjapjfcennemeaaZ6
import Derived.Test.YtjapjfcennemeaaZ1
import Derived.Test.YtjapjfcennemeaaZ5
import Derived.Test.YtjapjfcennemeaaZ3
import Derived.Test.YtjapjfcennemeaaZ11
import Derived.Test.YtjapjfcennemeaaZ20
import Derived.Test.YtjapjfcennemeaaZ9
set_option linter.unusedVariables false
set_option linter.unusedSimpArgs false
section
namespace Go.Proofs.Ytjapjfcennemeaa.blk
open Go.RowKit Go.Proofs.Ytjapjfcennemeaa.mem Go.Proofs.Ytjapjfcennemeaa.rnk Go.Proofs.Ytjapjfcennemeaa.gro Go.Proofs.Ytjapjfcennemeaa.buk
set_option linter.unusedVariables false
set_option linter.unusedSimpArgs false
set_option pp.maxSteps 200000
def EntR (W : World) (ys : List BlkM) : Prop := ∀ y ∈ ys, ERead W W.heap.size y.adr y.en y.es ∧ y.en ≤ y.ec ∧ y.ec ≤ maxLen
theorem EntR.below {W w' : World} {ys : List BlkM} (h : EntR W ys) (hb : Below W.heap.size W w') : EntR w' ys := fun y hy => by
  obtain ⟨h1, h2, h3⟩ := h y hy
  exact ⟨(ERead.below h1 hb).more hb.size, h2, h3⟩
end Go.Proofs.Ytjapjfcennemeaa.blk
end
section
namespace Go.Proofs.Ytjapjfcennemeaa.blk
open Go.RowKit Go.Proofs.Ytjapjfcennemeaa.mem Go.Proofs.Ytjapjfcennemeaa.rnk Go.Proofs.Ytjapjfcennemeaa.gro Go.Proofs.Ytjapjfcennemeaa.buk
set_option linter.unusedVariables false
set_option linter.unusedSimpArgs false
set_option pp.maxSteps 200000
theorem ents_few {xs : List K5} {k b : Int} (hl : xs.length ≤ 60) (h : validK xs k b = true) : entsK xs ≤ 4000000 := by
  have h1 := ents_valid h
  have hb := (validK_iff.1 h).1
  have h2 : xs.length * (b + 1).toNat ≤ 60 * 65537 := Nat.mul_le_mul hl (by omega)
  omega
end Go.Proofs.Ytjapjfcennemeaa.blk
end
section
namespace Go.Proofs.Ytjapjfcennemeaa.rnk
open Go.Proofs.Ytjapjfcennemeaa.mem Go.Proofs.Ytjapjfcennemeaa.buk
open Go.Proofs.Ytjapjfcennemeaa.lst (totalN)
set_option linter.unusedVariables false
theorem len_wgt : ∀ xs : L2, xs.length ≤ wgt xs
  | [] => Nat.le_refl _
  | p :: r => by
    have h1 := len_wgt r
    have h2 : 1 ≤ 2 ^ p.2.toNat := Nat.one_le_two_pow
    have e : wgt (p :: r) = 2 ^ p.2.toNat + wgt r := rfl
    rw [e, List.length_cons]; omega
end Go.Proofs.Ytjapjfcennemeaa.rnk
end
section
namespace Go.Proofs.Ytjapjfcennemeaa.blk
open Go.RowKit Go.Proofs.Ytjapjfcennemeaa.mem Go.Proofs.Ytjapjfcennemeaa.gro Go.Proofs.Ytjapjfcennemeaa.rnk
set_option linter.unusedVariables false
set_option pp.maxSteps 200000
def sumN (xs : List BlkM) (i : Nat) : Nat := ((xs.take i).map BlkM.en).sum
theorem sumN_zero (xs : List BlkM) : sumN xs 0 = 0 := by simp [sumN]
theorem sumN_succ {xs : List BlkM} {i : Nat} {b : BlkM} (h : xs[i]? = some b) : sumN xs (i + 1) = sumN xs i + b.en := by
  unfold sumN
  rw [List.take_add_one, h]
  simp
theorem sumN_all {xs : List BlkM} : sumN xs xs.length = (xs.map BlkM.en).sum := by unfold sumN; rw [List.take_length]
end Go.Proofs.Ytjapjfcennemeaa.blk
end
