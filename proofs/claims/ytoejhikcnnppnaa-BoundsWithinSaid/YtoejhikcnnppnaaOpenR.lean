/- How arguments that came in are opened: a struct of two integers by value. No condition. -/
import Derived.Test.YtoejhikcnnppnaaOpen
namespace Go.Proofs.Ytoejhikcnnppnaa.opn
open Go.ChangeShapes Go.WideShapes Go.Deep Go.RowKit Go.Joins Go.Proofs.Ytoejhikcnnppnaa.mem
section
variable {H : Type} {enc : TypeId × Value → H} {P : Program} {w : World} {base : Nat} {spare : Nat → Bool} {held : Bool}
theorem open_ratio {r : Reach} {b0 : Nat} {t : TypeId} {f0 f1 : Field} {v : Value} {d : DataW H} {p : List MemPlace} (hs : P.underlying t = some (.struct #[f0, f1])) (hone : oneCellFields P #[f0, f1] = true) (hC : P.cellsOf t = 2)
    (u0 : P.underlying f0.type = some (.int .i64)) (u1 : P.underlying f1.type = some (.int .i64)) (hv : Value.okWide P w r b0 t v) (h : DataW.Trod enc P w base spare held t v d p) :
    ∃ a b : Int, v = .agg #[.int .i64 a, .int .i64 b] ∧ Rng a ∧ Rng b := by
  obtain ⟨c0, c1, y0, y1, n, rfl, _, _, h0, h1⟩ := open_agg2 hs hone hC hv h
  obtain ⟨z0, e0, _, w0⟩ := DataW.trod_int u0 h0
  obtain ⟨z1, e1, _, w1⟩ := DataW.trod_int u1 h1
  simp only [List.cons.injEq, and_true] at e0 e1
  subst e0 e1
  exact ⟨z0, z1, rfl, bounds_i64 w0, bounds_i64 w1⟩
end
end Go.Proofs.Ytoejhikcnnppnaa.opn
