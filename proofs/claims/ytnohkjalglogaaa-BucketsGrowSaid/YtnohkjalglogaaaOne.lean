/- What the law BucketsOneByOne needs of lists. -/
import Derived.Test.YtnohkjalglogaaaRMany
namespace Go.Proofs.Ytnohkjalglogaaa.lst
open Go.RowKit Go.Proofs.Ytnohkjalglogaaa.mem Go.Proofs.Ytnohkjalglogaaa.buk
theorem tail_lastT {xs : List (Int × Int)} {t : Int} (h : 0 < xs.length → tailT xs ≤ t) (ht : 0 ≤ t) : lastT xs ≤ t := by
  unfold lastT
  split
  · exact ht
  · exact h (by omega)
theorem one_by_one {xs : List (Int × Int)} {k M : Nat} {t : Int} (hP : manyP xs k t M) (hlen : xs.length ≤ 300) :
    ∀ i, i < M → insI (iterIns k t i xs) k t = iterIns k t (i + 1) xs := by
  intro i hi
  obtain ⟨h1, h2, h3, h4⟩ := hP
  have hv := validB_iff.1 h1
  have hm := mayB_iff.1 h2
  have hw := wgt_total hv.2.1
  have h5 := h4 (by omega)
  obtain ⟨b1, b2, b3, b4⟩ := iter_valid hm.1 i xs hv (lastT_tail hm.2) (by omega)
  rw [insI_t ⟨validB_t b1, mayB_iff.2 ⟨hm.1, tail_lastT b2 hm.1.1⟩, by rw [← wgt_total b1.2.1, b3]; omega⟩, iterIns_succ, Int.toNat_natCast]
end Go.Proofs.Ytnohkjalglogaaa.lst
