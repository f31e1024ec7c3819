/- Plain: the plain buckets of an insertion into blocks, number of blocks. -/
import Derived.Test.YtjapjfcennemeaaMgBLaw
import Derived.Test.YtjapjfcennemeaaRIns
namespace Go.Proofs.Ytjapjfcennemeaa.rnk
open Go.Proofs.Ytjapjfcennemeaa.mem Go.Proofs.Ytjapjfcennemeaa.buk
open Go.Proofs.Ytjapjfcennemeaa.lst (insI insI_t mayB mayB_iff lastT totalN)
set_option linter.unusedVariables false
theorem len_wgt : ∀ xs : L2, xs.length ≤ wgt xs
  | [] => Nat.le_refl _
  | p :: r => by
    have h1 := len_wgt r
    have h2 : 1 ≤ 2 ^ p.2.toNat := Nat.one_le_two_pow
    have e : wgt (p :: r) = 2 ^ p.2.toNat + wgt r := rfl
    rw [e, List.length_cons]; omega
theorem len_total {xs : List K5} {k b : Int} (h : validK xs k b = true) : xs.length ≤ totalK xs := by
  have h1 := (validB_iff.1 (validK_iff.1 h).2.1).2.1
  have h2 := wgt_tot h1
  have h3 := len_wgt (plainK xs)
  rw [plainK_length] at h3
  unfold totalK
  omega
theorem lastT_plain (xs : List K5) : lastT (plainK xs) = lastK xs := by
  unfold lastT lastK
  rw [plainK_length]
  split
  · rfl
  · rw [at_plainK]
theorem insI_plain {xs : List K5} {k b t v : Int} (h : mayK xs k b t v = true) : insI (plainK xs) k t = plainK (insKC xs k.toNat b t v) := by
  obtain ⟨h1, h2, h3, _, h5⟩ := mayK_iff2.1 h
  rw [insI_t ⟨(validK_iff.1 h1).2.1, mayB_iff.2 ⟨h2, by rw [lastT_plain]; exact h3⟩, h5⟩]
  exact insKC_plain xs k.toNat b t v
end Go.Proofs.Ytjapjfcennemeaa.rnk
