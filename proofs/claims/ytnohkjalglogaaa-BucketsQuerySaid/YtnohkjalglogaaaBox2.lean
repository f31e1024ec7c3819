/- Boxes: more of them at once. -/
import Derived.Test.YtnohkjalglogaaaBox
namespace Go.Proofs.Ytnohkjalglogaaa.gro
open Go.RowKit Go.Proofs.Ytnohkjalglogaaa.mem
set_option linter.unusedVariables false
theorem start6 (w : World) (t1 t2 t3 t4 t5 t6 : TypeId) (c1 c2 c3 c4 c5 c6 : Array Value) :
    ∃ W, (((((w.alloc (.cells c1 t1)).alloc (.cells c2 t2)).alloc (.cells c3 t3)).alloc (.cells c4 t4)).alloc (.cells c5 t5)).alloc (.cells c6 t6) = W ∧ W.heap.size = w.heap.size + 1 + 1 + 1 + 1 + 1 + 1 ∧
      Bx W [(w.heap.size + 1 + 1 + 1 + 1 + 1, t6, c6), (w.heap.size + 1 + 1 + 1 + 1, t5, c5), (w.heap.size + 1 + 1 + 1, t4, c4), (w.heap.size + 1 + 1, t3, c3), (w.heap.size + 1, t2, c2), (w.heap.size, t1, c1)] ∧ Below w.heap.size w W := by
  obtain ⟨W, hW, hs, K, B⟩ := start4 w t1 t2 t3 t4 c1 c2 c3 c4
  rw [hW]
  exact ⟨_, rfl, by simp [hs], (K.new hs).new (by simp [hs]), (B.alloc (by omega) _).alloc (by simp; omega) _⟩
end Go.Proofs.Ytnohkjalglogaaa.gro
