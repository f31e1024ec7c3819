/- Boxes of four cells. No condition. -/
import Derived.Test.YtoejhikcnnppnaaBox3
namespace Go.Proofs.Ytoejhikcnnppnaa.gro
open Go.RowKit Go.Proofs.Ytoejhikcnnppnaa.mem
set_option linter.unusedVariables false
theorem Bx.put4 {W : World} {L : List (Nat × TypeId × Array Value)} {g : Nat} {t : TypeId} {x0 x1 x2 x3 u0 u1 u2 u3 : Value} (h : Bx W ((g, t, #[x0, x1, x2, x3]) :: L)) (hd : ∀ q ∈ L, q.1 ≠ g) :
    Bx ((((W.setCell ⟨g, 0, none⟩ u0).setCell ⟨g, 1, none⟩ u1).setCell ⟨g, 2, none⟩ u2).setCell ⟨g, 3, none⟩ u3) ((g, t, #[u0, u1, u2, u3]) :: L) := by
  have := (((h.puti hd 0 u0).puti hd 1 u1).puti hd 2 u2).puti hd 3 u3
  simpa using this
end Go.Proofs.Ytoejhikcnnppnaa.gro
