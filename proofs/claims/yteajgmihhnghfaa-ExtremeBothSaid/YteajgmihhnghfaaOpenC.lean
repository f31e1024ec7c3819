/- How arguments that came in are opened: a struct of plain fields and a slice of pairs, by value. -/
import Derived.Test.YteajgmihhnghfaaOpen
namespace Go.Proofs.Yteajgmihhnghfaa.opn
open Go.ChangeShapes Go.WideShapes Go.Deep Go.RowKit Go.Proofs.Yteajgmihhnghfaa.mem
section
variable {H : Type} {enc : TypeId × Value → H} {P : Program} {w : World} {base : Nat} {spare : Nat → Bool} {held : Bool}
theorem fields_at {r : Reach} {b0 : Nat} {t : TypeId} {fs : Array Field} {v : Value} {d : DataW H} {p : List MemPlace} (hs : P.underlying t = some (.struct fs)) (hone : oneCellFields P fs = true) (hC : P.cellsOf t = fs.size)
    (hv : Value.okWide P w r b0 t v) (h : DataW.Trod enc P w base spare held t v d p) :
    ∃ (cs : List Value) (n : Nat), v = .agg ⟨cs⟩ ∧ cs.length = fs.size ∧ ∀ (i : Nat) (f : Field), fs[i]? = some f → ∃ (c : Value) (y : DataW H × List MemPlace), cs[i]? = some c ∧ DataW.trod enc P w base spare held n f.type [c] = some y := by
  obtain ⟨cs, rfl, hsz⟩ := okWide_struct hs hv
  obtain ⟨l⟩ := cs
  rw [hC] at hsz
  obtain ⟨fuel, hf⟩ := h
  obtain ⟨ys, n, _, _, _, hyl, hff⟩ := DataW.trod_struct hs hf
  refine ⟨l, n, rfl, hsz, fun i f hi => ?_⟩
  obtain ⟨ho, hk⟩ := hone_of hone i f hi
  have hil : i < fs.size := (Array.getElem?_eq_some_iff.1 hi).1
  have h1 := hff i f hi
  rw [ho, hk] at h1
  simp only [Value.cells] at h1
  have hsz' : l.length = fs.size := hsz
  have hl : i < l.length := by omega
  have e : (l.drop i).take 1 = [l[i]] := by rw [List.drop_eq_getElem_cons hl]; rfl
  rw [e] at h1
  have hys : ys[i]? = some (ys[i]'(by omega)) := List.getElem?_eq_getElem (by omega)
  exact ⟨l[i], _, List.getElem?_eq_getElem hl, h1.trans hys⟩
theorem open_ints4 {r : Reach} {b0 : Nat} {t te : TypeId} {f0 f1 f2 f3 f4 g0 g1 : Field} {v : Value} {d : DataW H} {p : List MemPlace} (hs : P.underlying t = some (.struct #[f0, f1, f2, f3, f4])) (hone : oneCellFields P #[f0, f1, f2, f3, f4] = true) (hC : P.cellsOf t = 5)
    (u0 : P.underlying f0.type = some (.int .i64)) (u1 : P.underlying f1.type = some (.int .i64)) (u2 : P.underlying f2.type = some (.int .i64)) (u3 : P.underlying f3.type = some (.int .i64)) (ht : P.underlying f4.type = some (.slice te)) (he : P.underlying te = some (.struct #[g0, g1])) (hone2 : oneCellFields P #[g0, g1] = true) (hC2 : P.cellsOf te = 2) (v0 : P.underlying g0.type = some (.int .i64)) (v1 : P.underlying g1.type = some (.int .i64))
    (hv : Value.okWide P w r b0 t v) (h : DataW.Trod enc P w base spare held t v d p) :
    ∃ (a0 : Int) (a1 : Int) (a2 : Int) (a3 : Int) (A : Option Addr) (n c : Nat) (xs : List (Int × Int)), v = .agg #[.int .i64 a0, .int .i64 a1, .int .i64 a2, .int .i64 a3, .slice A n c] ∧ n ≤ c ∧ c ≤ maxLen ∧ PRead w w.heap.size A n xs ∧ (∀ q ∈ xs, Rng q.1 ∧ Rng q.2) ∧ Rng a0 ∧ Rng a1 ∧ Rng a2 ∧ Rng a3 := by
  obtain ⟨cs, m, rfl, hl, hf⟩ := fields_at hs hone hC hv h
  obtain ⟨c0, y0, e0, t0⟩ := hf 0 f0 rfl
  obtain ⟨a0, q0, _, w0⟩ := DataW.trod_int u0 t0
  obtain ⟨c1, y1, e1, t1⟩ := hf 1 f1 rfl
  obtain ⟨a1, q1, _, w1⟩ := DataW.trod_int u1 t1
  obtain ⟨c2, y2, e2, t2⟩ := hf 2 f2 rfl
  obtain ⟨a2, q2, _, w2⟩ := DataW.trod_int u2 t2
  obtain ⟨c3, y3, e3, t3⟩ := hf 3 f3 rfl
  obtain ⟨a3, q3, _, w3⟩ := DataW.trod_int u3 t3
  obtain ⟨c4, y4, e4, t4⟩ := hf 4 f4 rfl
  obtain ⟨A, m2, cc, xs, q4, h1, h2, h3, h4⟩ := open_pairs ht he hone2 hC2 v0 v1 t4
  simp only [List.cons.injEq, and_true] at q0 q1 q2 q3 q4
  subst q0 q1 q2 q3 q4
  have hl2 : cs.length = 5 := hl
  match cs, hl2 with
  | [z0, z1, z2, z3, z4], _ =>
    simp at e0 e1 e2 e3 e4
    subst e0 e1 e2 e3 e4
    exact ⟨a0, a1, a2, a3, A, m2, cc, xs, rfl, h1, h2, h3, h4, bounds_i64 w0, bounds_i64 w1, bounds_i64 w2, bounds_i64 w3⟩
theorem open_ints5 {r : Reach} {b0 : Nat} {t te : TypeId} {f0 f1 f2 f3 f4 f5 g0 g1 : Field} {v : Value} {d : DataW H} {p : List MemPlace} (hs : P.underlying t = some (.struct #[f0, f1, f2, f3, f4, f5])) (hone : oneCellFields P #[f0, f1, f2, f3, f4, f5] = true) (hC : P.cellsOf t = 6)
    (u0 : P.underlying f0.type = some (.int .i64)) (u1 : P.underlying f1.type = some (.int .i64)) (u2 : P.underlying f2.type = some (.int .i64)) (u3 : P.underlying f3.type = some (.int .i64)) (u4 : P.underlying f4.type = some (.int .i64)) (ht : P.underlying f5.type = some (.slice te)) (he : P.underlying te = some (.struct #[g0, g1])) (hone2 : oneCellFields P #[g0, g1] = true) (hC2 : P.cellsOf te = 2) (v0 : P.underlying g0.type = some (.int .i64)) (v1 : P.underlying g1.type = some (.int .i64))
    (hv : Value.okWide P w r b0 t v) (h : DataW.Trod enc P w base spare held t v d p) :
    ∃ (a0 : Int) (a1 : Int) (a2 : Int) (a3 : Int) (a4 : Int) (A : Option Addr) (n c : Nat) (xs : List (Int × Int)), v = .agg #[.int .i64 a0, .int .i64 a1, .int .i64 a2, .int .i64 a3, .int .i64 a4, .slice A n c] ∧ n ≤ c ∧ c ≤ maxLen ∧ PRead w w.heap.size A n xs ∧ (∀ q ∈ xs, Rng q.1 ∧ Rng q.2) ∧ Rng a0 ∧ Rng a1 ∧ Rng a2 ∧ Rng a3 ∧ Rng a4 := by
  obtain ⟨cs, m, rfl, hl, hf⟩ := fields_at hs hone hC hv h
  obtain ⟨c0, y0, e0, t0⟩ := hf 0 f0 rfl
  obtain ⟨a0, q0, _, w0⟩ := DataW.trod_int u0 t0
  obtain ⟨c1, y1, e1, t1⟩ := hf 1 f1 rfl
  obtain ⟨a1, q1, _, w1⟩ := DataW.trod_int u1 t1
  obtain ⟨c2, y2, e2, t2⟩ := hf 2 f2 rfl
  obtain ⟨a2, q2, _, w2⟩ := DataW.trod_int u2 t2
  obtain ⟨c3, y3, e3, t3⟩ := hf 3 f3 rfl
  obtain ⟨a3, q3, _, w3⟩ := DataW.trod_int u3 t3
  obtain ⟨c4, y4, e4, t4⟩ := hf 4 f4 rfl
  obtain ⟨a4, q4, _, w4⟩ := DataW.trod_int u4 t4
  obtain ⟨c5, y5, e5, t5⟩ := hf 5 f5 rfl
  obtain ⟨A, m2, cc, xs, q5, h1, h2, h3, h4⟩ := open_pairs ht he hone2 hC2 v0 v1 t5
  simp only [List.cons.injEq, and_true] at q0 q1 q2 q3 q4 q5
  subst q0 q1 q2 q3 q4 q5
  have hl2 : cs.length = 6 := hl
  match cs, hl2 with
  | [z0, z1, z2, z3, z4, z5], _ =>
    simp at e0 e1 e2 e3 e4 e5
    subst e0 e1 e2 e3 e4 e5
    exact ⟨a0, a1, a2, a3, a4, A, m2, cc, xs, rfl, h1, h2, h3, h4, bounds_i64 w0, bounds_i64 w1, bounds_i64 w2, bounds_i64 w3, bounds_i64 w4⟩
theorem open_bool3 {r : Reach} {b0 : Nat} {t te : TypeId} {f0 f1 f2 f3 f4 g0 g1 : Field} {v : Value} {d : DataW H} {p : List MemPlace} (hs : P.underlying t = some (.struct #[f0, f1, f2, f3, f4])) (hone : oneCellFields P #[f0, f1, f2, f3, f4] = true) (hC : P.cellsOf t = 5)
    (u0 : P.underlying f0.type = some .bool) (u1 : P.underlying f1.type = some (.int .i64)) (u2 : P.underlying f2.type = some (.int .i64)) (u3 : P.underlying f3.type = some (.int .i64)) (ht : P.underlying f4.type = some (.slice te)) (he : P.underlying te = some (.struct #[g0, g1])) (hone2 : oneCellFields P #[g0, g1] = true) (hC2 : P.cellsOf te = 2) (v0 : P.underlying g0.type = some (.int .i64)) (v1 : P.underlying g1.type = some (.int .i64))
    (hv : Value.okWide P w r b0 t v) (h : DataW.Trod enc P w base spare held t v d p) :
    ∃ (a0 : Bool) (a1 : Int) (a2 : Int) (a3 : Int) (A : Option Addr) (n c : Nat) (xs : List (Int × Int)), v = .agg #[.bool a0, .int .i64 a1, .int .i64 a2, .int .i64 a3, .slice A n c] ∧ n ≤ c ∧ c ≤ maxLen ∧ PRead w w.heap.size A n xs ∧ (∀ q ∈ xs, Rng q.1 ∧ Rng q.2) ∧ Rng a1 ∧ Rng a2 ∧ Rng a3 := by
  obtain ⟨cs, m, rfl, hl, hf⟩ := fields_at hs hone hC hv h
  obtain ⟨c0, y0, e0, t0⟩ := hf 0 f0 rfl
  obtain ⟨a0, q0, _⟩ := DataW.trod_bool u0 t0
  obtain ⟨c1, y1, e1, t1⟩ := hf 1 f1 rfl
  obtain ⟨a1, q1, _, w1⟩ := DataW.trod_int u1 t1
  obtain ⟨c2, y2, e2, t2⟩ := hf 2 f2 rfl
  obtain ⟨a2, q2, _, w2⟩ := DataW.trod_int u2 t2
  obtain ⟨c3, y3, e3, t3⟩ := hf 3 f3 rfl
  obtain ⟨a3, q3, _, w3⟩ := DataW.trod_int u3 t3
  obtain ⟨c4, y4, e4, t4⟩ := hf 4 f4 rfl
  obtain ⟨A, m2, cc, xs, q4, h1, h2, h3, h4⟩ := open_pairs ht he hone2 hC2 v0 v1 t4
  simp only [List.cons.injEq, and_true] at q0 q1 q2 q3 q4
  subst q0 q1 q2 q3 q4
  have hl2 : cs.length = 5 := hl
  match cs, hl2 with
  | [z0, z1, z2, z3, z4], _ =>
    simp at e0 e1 e2 e3 e4
    subst e0 e1 e2 e3 e4
    exact ⟨a0, a1, a2, a3, A, m2, cc, xs, rfl, h1, h2, h3, h4, bounds_i64 w1, bounds_i64 w2, bounds_i64 w3⟩
end
end Go.Proofs.Yteajgmihhnghfaa.opn
