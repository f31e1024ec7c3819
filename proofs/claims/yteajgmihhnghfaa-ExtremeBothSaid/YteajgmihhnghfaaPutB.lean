/- A whole state stored into its box; new boxes; rows beside boxes. -/
import Derived.Test.YteajgmihhnghfaaAwake17
import Derived.Test.YteajgmihhnghfaaNewF
import Derived.Test.YteajgmihhnghfaaOwn2
import Derived.Test.YteajgmihhnghfaaOwn
namespace Go.Proofs.Yteajgmihhnghfaa.cst
open Go.RowKit Go.Proofs.Yteajgmihhnghfaa.mem Go.Proofs.Yteajgmihhnghfaa.gro
set_option linter.unusedVariables false
section
variable {W w w1 : World} {L : List (Nat × TypeId × Array Value)} {g B base size n m : Nat} {t e : TypeId} {x0 x1 x2 x3 x4 : Value} {u v1 : Value} {xs : List Value} {A : Option Addr} {ys : List (Int × Int)} {o : Obj} {row : Option Nat}
theorem putC (u0 u1 u2 u3 u4 : Value) (K : Bx W ((g, t, #[x0, x1, x2, x3, x4]) :: L)) (hd : ∀ q ∈ L, q.1 ≠ g) (BB : Below B w W) (hg : B ≤ g) :
    ∃ W', ((((W.setCell ⟨g, 0, none⟩ u0).setCell ⟨g, 1, none⟩ u1).setCell ⟨g, 2, none⟩ u2).setCell ⟨g, 3, none⟩ u3).setCell ⟨g, 4, none⟩ u4 = W' ∧ Bx W' ((g, t, #[u0, u1, u2, u3, u4]) :: L) ∧ Below B w W' ∧ W'.heap.size = W.heap.size ∧ ∀ A n ys, PRead W W.heap.size A n ys → (0 < n → ∀ ad, A = some ad → ad.block ≠ g) → PRead W' W'.heap.size A n ys :=
  ⟨_, rfl, ext.Bx.put5c K hd, ((((BB.setCell (p := ⟨g, 0, none⟩) hg _).setCell (p := ⟨g, 1, none⟩) hg _).setCell (p := ⟨g, 2, none⟩) hg _).setCell (p := ⟨g, 3, none⟩) hg _).setCell (p := ⟨g, 4, none⟩) hg _, by simp [World.setCell], fun A n ys h hf =>
    ext.PRead.sz (ext.PRead.far (ext.PRead.far (ext.PRead.far (ext.PRead.far (ext.PRead.far h ⟨g, 0, none⟩ hf _) ⟨g, 1, none⟩ hf _) ⟨g, 2, none⟩ hf _) ⟨g, 3, none⟩ hf _) ⟨g, 4, none⟩ hf _) (by simp [World.setCell])⟩
theorem newbox (t : TypeId) (c : Array Value) (K : Bx W L) (hg : W.heap.size = g) (BB : Below B w W) (hB : B ≤ W.heap.size) :
    ∃ W', W.alloc (.cells c t) = W' ∧ Bx W' ((g, t, c) :: L) ∧ Below B w W' ∧ W'.heap.size = g + 1 ∧ ∀ A n ys, PRead W W.heap.size A n ys → PRead W' W'.heap.size A n ys ∧ (0 < n → ∀ ad, A = some ad → ad.block ≠ g) :=
  ⟨_, rfl, K.new hg, BB.alloc hB _, by simp; omega, fun A n ys h => by
    have hba : Below W.heap.size W (W.alloc (.cells c t)) := (Below.refl _ _).alloc (Nat.le_refl _) _
    exact ⟨(h.below hba).more hba.size, fun h0 ad e => by have := ext.PRead.blk h h0 ad e; omega⟩⟩
theorem own5 (h : W.ownsRow base e size u n xs) (hg : g < base) (u0 u1 u2 u3 u4 : Value) : (((((W.setCell ⟨g, 0, none⟩ u0).setCell ⟨g, 1, none⟩ u1).setCell ⟨g, 2, none⟩ u2).setCell ⟨g, 3, none⟩ u3).setCell ⟨g, 4, none⟩ u4).ownsRow base e size u n xs :=
  ownsRow_setCell_below (ownsRow_setCell_below (ownsRow_setCell_below (ownsRow_setCell_below (ownsRow_setCell_below h (a := ⟨g, 0, none⟩) hg u0) (a := ⟨g, 1, none⟩) hg u1) (a := ⟨g, 2, none⟩) hg u2) (a := ⟨g, 3, none⟩) hg u3) (a := ⟨g, 4, none⟩) hg u4
end
end Go.Proofs.Yteajgmihhnghfaa.cst
