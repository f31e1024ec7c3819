/- How arguments that came in are opened: a struct of three structs of two integers by value. -/
import Derived.Test.YtoejhikcnnppnaaOpenR
import Derived.Deep.Strs
namespace Go.Proofs.Ytoejhikcnnppnaa.opn
open Go.ChangeShapes Go.WideShapes Go.Deep Go.RowKit Go.Joins Go.Proofs.Ytoejhikcnnppnaa.mem
section
variable {H : Type} {enc : TypeId × Value → H} {P : Program} {w : World} {base : Nat} {spare : Nat → Bool} {held : Bool}
theorem ratio_cells {t : TypeId} {f0 f1 : Field} {c0 c1 : Value} {n : Nat} {y : DataW H × List MemPlace} (hs : P.underlying t = some (.struct #[f0, f1])) (o0 : f0.offset = 0) (o1 : f1.offset = 1) (k0 : P.cellsOf f0.type = 1) (k1 : P.cellsOf f1.type = 1)
    (u0 : P.underlying f0.type = some (.int .i64)) (u1 : P.underlying f1.type = some (.int .i64)) (h : DataW.trod enc P w base spare held n t [c0, c1] = some y) :
    ∃ a b : Int, c0 = .int .i64 a ∧ c1 = .int .i64 b ∧ Rng a ∧ Rng b := by
  obtain ⟨y0, y1, m, _, _, h0, h1⟩ := trod_struct2 hs h
  rw [o0, k0] at h0
  rw [o1, k1] at h1
  simp only [List.drop_zero, List.drop_succ_cons, List.take_succ_cons, List.take_zero] at h0 h1
  obtain ⟨z0, e0, _, w0⟩ := DataW.trod_int u0 h0
  obtain ⟨z1, e1, _, w1⟩ := DataW.trod_int u1 h1
  simp only [List.cons.injEq, and_true] at e0 e1
  exact ⟨z0, z1, e0, e1, bounds_i64 w0, bounds_i64 w1⟩
theorem open_bounds {r : Reach} {b0 : Nat} {t tr : TypeId} {g0 g1 g2 f0 f1 : Field} {v : Value} {d : DataW H} {p : List MemPlace} (hs : P.underlying t = some (.struct #[g0, g1, g2])) (hC : P.cellsOf t = 6)
    (q0 : g0.offset = 0) (q1 : g1.offset = 2) (q2 : g2.offset = 4) (t0 : g0.type = tr) (t1 : g1.type = tr) (t2 : g2.type = tr) (hR : P.cellsOf tr = 2)
    (hr : P.underlying tr = some (.struct #[f0, f1])) (o0 : f0.offset = 0) (o1 : f1.offset = 1) (k0 : P.cellsOf f0.type = 1) (k1 : P.cellsOf f1.type = 1)
    (u0 : P.underlying f0.type = some (.int .i64)) (u1 : P.underlying f1.type = some (.int .i64)) (hv : Value.okWide P w r b0 t v) (h : DataW.Trod enc P w base spare held t v d p) :
    ∃ a b c e f g : Int, v = .agg #[.int .i64 a, .int .i64 b, .int .i64 c, .int .i64 e, .int .i64 f, .int .i64 g] ∧ Rng a ∧ Rng b ∧ Rng c ∧ Rng e ∧ Rng f ∧ Rng g := by
  obtain ⟨cs, rfl, hsz⟩ := okWide_struct hs hv
  rw [hC] at hsz
  obtain ⟨fuel, hf⟩ := h
  obtain ⟨y0, y1, y2, n, _, _, h0, h1, h2⟩ := trod_struct3 hs hf
  obtain ⟨l⟩ := cs
  match l, hsz with
  | [c0, c1, c2, c3, c4, c5], _ =>
    rw [q0, t0, hR] at h0
    rw [q1, t1, hR] at h1
    rw [q2, t2, hR] at h2
    simp only [Value.cells, List.drop_zero, List.drop_succ_cons, List.take_succ_cons, List.take_zero] at h0 h1 h2
    obtain ⟨a, b, rfl, rfl, r1, r2⟩ := ratio_cells hr o0 o1 k0 k1 u0 u1 h0
    obtain ⟨c, e, rfl, rfl, r3, r4⟩ := ratio_cells hr o0 o1 k0 k1 u0 u1 h1
    obtain ⟨f, g, rfl, rfl, r5, r6⟩ := ratio_cells hr o0 o1 k0 k1 u0 u1 h2
    exact ⟨a, b, c, e, f, g, rfl, r1, r2, r3, r4, r5, r6⟩
end
end Go.Proofs.Ytoejhikcnnppnaa.opn
