/- Boxes of six cells. No condition. -/
import Derived.Test.YteajgmihhnghfaaBox
namespace Go.Proofs.Yteajgmihhnghfaa.gro
open Go.RowKit Go.Proofs.Yteajgmihhnghfaa.mem
set_option linter.unusedVariables false
section
variable {W : World} {L : List (Nat × TypeId × Array Value)} {g : Nat} {t : TypeId} {x0 x1 x2 x3 x4 x5 u v u0 u1 u2 u3 u4 u5 : Value}
theorem Bx.puti {c : Array Value} (h : Bx W ((g, t, c) :: L)) (hd : ∀ q ∈ L, q.1 ≠ g) (i : Nat) (u : Value) : Bx (W.setCell ⟨g, i, none⟩ u) ((g, t, c.setIfInBounds i u) :: L) :=
  Bx.cons_ (h.head.set_ i u) (h.tail.far (p := ⟨g, i, none⟩) hd u)
theorem Bx.put01 (h : Bx W ((g, t, #[x0, x1, x2, x3, x4, x5]) :: L)) (hd : ∀ q ∈ L, q.1 ≠ g) : Bx ((W.setCell ⟨g, 0, none⟩ u).setCell ⟨g, 1, none⟩ v) ((g, t, #[u, v, x2, x3, x4, x5]) :: L) := by
  have := (h.puti hd 0 u).puti hd 1 v
  simpa using this
theorem Bx.put23 (h : Bx W ((g, t, #[x0, x1, x2, x3, x4, x5]) :: L)) (hd : ∀ q ∈ L, q.1 ≠ g) : Bx ((W.setCell ⟨g, 2, none⟩ u).setCell ⟨g, 3, none⟩ v) ((g, t, #[x0, x1, u, v, x4, x5]) :: L) := by
  have := (h.puti hd 2 u).puti hd 3 v
  simpa using this
theorem Bx.put45 (h : Bx W ((g, t, #[x0, x1, x2, x3, x4, x5]) :: L)) (hd : ∀ q ∈ L, q.1 ≠ g) : Bx ((W.setCell ⟨g, 4, none⟩ u).setCell ⟨g, 5, none⟩ v) ((g, t, #[x0, x1, x2, x3, u, v]) :: L) := by
  have := (h.puti hd 4 u).puti hd 5 v
  simpa using this
theorem Bx.put6 (h : Bx W ((g, t, #[x0, x1, x2, x3, x4, x5]) :: L)) (hd : ∀ q ∈ L, q.1 ≠ g) :
    Bx ((((((W.setCell ⟨g, 0, none⟩ u0).setCell ⟨g, 1, none⟩ u1).setCell ⟨g, 2, none⟩ u2).setCell ⟨g, 3, none⟩ u3).setCell ⟨g, 4, none⟩ u4).setCell ⟨g, 5, none⟩ u5) ((g, t, #[u0, u1, u2, u3, u4, u5]) :: L) :=
  ((h.put01 hd).put23 hd).put45 hd
/-- Six stores into another box. -/
theorem Bx.far6 (h : Bx W L) (hd : ∀ q ∈ L, q.1 ≠ g) :
    Bx ((((((W.setCell ⟨g, 0, none⟩ u0).setCell ⟨g, 1, none⟩ u1).setCell ⟨g, 2, none⟩ u2).setCell ⟨g, 3, none⟩ u3).setCell ⟨g, 4, none⟩ u4).setCell ⟨g, 5, none⟩ u5) L :=
  (((((h.far (p := ⟨g, 0, none⟩) hd u0).far (p := ⟨g, 1, none⟩) hd u1).far (p := ⟨g, 2, none⟩) hd u2).far (p := ⟨g, 3, none⟩) hd u3).far (p := ⟨g, 4, none⟩) hd u4).far (p := ⟨g, 5, none⟩) hd u5
end
theorem Below.set6 {B : Nat} {W0 W : World} (h : Below B W0 W) {g : Nat} (hg : B ≤ g) (u0 u1 u2 u3 u4 u5 : Value) :
    Below B W0 ((((((W.setCell ⟨g, 0, none⟩ u0).setCell ⟨g, 1, none⟩ u1).setCell ⟨g, 2, none⟩ u2).setCell ⟨g, 3, none⟩ u3).setCell ⟨g, 4, none⟩ u4).setCell ⟨g, 5, none⟩ u5) :=
  (((((h.setCell hg u0).setCell hg u1).setCell hg u2).setCell hg u3).setCell hg u4).setCell hg u5
end Go.Proofs.Yteajgmihhnghfaa.gro
