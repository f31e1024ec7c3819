/- Open, OpenC, OpenK, OpenQ: proved here in one text, no conditions beyond those that each theorem states. -/
import Derived.Deep.Slices
import Derived.Deep.Fields
import Derived.ChangeSame
import Derived.OpenShut
import Derived.Lib.SmallJoins
import Derived.Deep.Strs
import Derived.Test.YtjapjfcennemeaaGreatZ1
set_option linter.unusedVariables false
set_option linter.unusedSimpArgs false
section
namespace Go.Proofs.YtjapjfcennemeaaGreat.opn
open Go.ChangeShapes Go.WideShapes Go.Deep Go.RowKit Go.Proofs.YtjapjfcennemeaaGreat.mem
section
variable {H : Type} {enc : TypeId × Value → H} {P : Program} {w : World} {base : Nat} {spare : Nat → Bool} {held : Bool}
def Rng (n : Int) : Prop := -9223372036854775808 ≤ n ∧ n ≤ 9223372036854775807
theorem open_slice_fields {t e : TypeId} {fs : Array Field} {fuel : Nat} {cs : List Value} {x : DataW H × List MemPlace} (ht : P.underlying t = some (.slice e)) (he : P.underlying e = some (.struct fs))
    (hone : oneCellFields P fs = true) (hC : P.cellsOf e = fs.size) (h : DataW.trod enc P w base spare held fuel t cs = some x) :
    (cs = [.slice none 0 0] ∧ x = (.nil, [])) ∨
    ∃ (a : Addr) (len cap m : Nat) (D : Nat → DataW H) (Pl : Nat → List MemPlace), cs = [.slice (some a) len cap] ∧ base ≤ a.block ∧ len ≤ cap ∧ cap ≤ maxLen ∧ m = (if spare a.block then cap else len) ∧
      x = (.slice ((List.range len).map D) ((List.range (m - len)).map fun j => D (len + j)), MemPlace.row a (m * fs.size) ++ (List.range m).flatMap Pl) ∧
      ∀ i, i < m → ∃ (ys : List (DataW H × List MemPlace)) (n : Nat), D i = .agg (ys.map (·.1)) ∧ Pl i = ys.flatMap (·.2) ∧ ys.length = fs.size ∧
        ∀ (j : Nat) (f : Field), fs[j]? = some f → ∃ (v : Value) (y : DataW H × List MemPlace), w.cell? (a.add (i * fs.size + j)) = some v ∧ ys[j]? = some y ∧ DataW.trod enc P w base spare held n f.type [v] = some y := by
  rcases open_slice ht h with h0 | ⟨a, len, cap, m, n, D, Pl, hcs, hb, hl, hm, hmm, hx, hi⟩
  · exact .inl h0
  · refine .inr ⟨a, len, cap, m, D, Pl, hcs, hb, hl, hm, hmm, by rw [hC] at hx; exact hx, fun i him => ?_⟩
    obtain ⟨cs', hc, ht'⟩ := hi i him
    rw [hC] at hc
    obtain ⟨ys, n', hn', hy, hlen, hyl, hf⟩ := DataW.trod_struct he ht'
    obtain ⟨_, hcl, hat⟩ := World.cells?_some hc
    simp only [Prod.mk.injEq] at hy
    refine ⟨ys, n', hy.1, hy.2, hyl, fun j f hj => ?_⟩
    obtain ⟨ho, hk⟩ := hone_of hone j f hj
    have hjl : j < fs.size := (Array.getElem?_eq_some_iff.1 hj).1
    have hcell := hat j hjl
    have hv : cs'[j]? = some (cs'[j]'(by omega)) := List.getElem?_eq_getElem (by omega)
    have h1 := hf j f hj
    rw [ho, hk] at h1
    have hone' : (cs'.drop j).take 1 = [cs'[j]'(by omega)] := by
      rw [List.drop_eq_getElem_cons (by omega)]
      rfl
    rw [hone'] at h1
    have hys : ys[j]? = some (ys[j]'(by omega)) := List.getElem?_eq_getElem (by omega)
    refine ⟨_, _, ?_, hys, h1.trans hys⟩
    rw [← Go.Deep.add_add, hcell, hv]
end
end Go.Proofs.YtjapjfcennemeaaGreat.opn
end
section
namespace Go.Proofs.YtjapjfcennemeaaGreat.opn
open Go.ChangeShapes Go.WideShapes Go.Deep Go.RowKit Go.Proofs.YtjapjfcennemeaaGreat.mem
section
variable {H : Type} {enc : TypeId × Value → H} {P : Program} {w : World} {base : Nat} {spare : Nat → Bool} {held : Bool}
theorem fields_at {r : Reach} {b0 : Nat} {t : TypeId} {fs : Array Field} {v : Value} {d : DataW H} {p : List MemPlace} (hs : P.underlying t = some (.struct fs)) (hone : oneCellFields P fs = true) (hC : P.cellsOf t = fs.size)
    (hv : Value.okWide P w r b0 t v) (h : DataW.Trod enc P w base spare held t v d p) :
    ∃ (cs : List Value) (n : Nat), v = .agg ⟨cs⟩ ∧ cs.length = fs.size ∧ ∀ (i : Nat) (f : Field), fs[i]? = some f → ∃ (c : Value) (y : DataW H × List MemPlace), cs[i]? = some c ∧ DataW.trod enc P w base spare held n f.type [c] = some y := by
  obtain ⟨cs, rfl, hsz⟩ := okWide_struct hs hv
  obtain ⟨l⟩ := cs
  rw [hC] at hsz
  obtain ⟨fuel, hf⟩ := h
  obtain ⟨ys, n, _, _, _, hyl, hff⟩ := DataW.trod_struct hs hf
  refine ⟨l, n, rfl, hsz, fun i f hi => ?_⟩
  obtain ⟨ho, hk⟩ := hone_of hone i f hi
  have hil : i < fs.size := (Array.getElem?_eq_some_iff.1 hi).1
  have h1 := hff i f hi
  rw [ho, hk] at h1
  simp only [Value.cells] at h1
  have hsz' : l.length = fs.size := hsz
  have hl : i < l.length := by omega
  have e : (l.drop i).take 1 = [l[i]] := by rw [List.drop_eq_getElem_cons hl]; rfl
  rw [e] at h1
  have hys : ys[i]? = some (ys[i]'(by omega)) := List.getElem?_eq_getElem (by omega)
  exact ⟨l[i], _, List.getElem?_eq_getElem hl, h1.trans hys⟩
end
end Go.Proofs.YtjapjfcennemeaaGreat.opn
end
section
namespace Go.Proofs.YtjapjfcennemeaaGreat.opn
open Go.ChangeShapes Go.WideShapes Go.Deep Go.RowKit Go.Joins Go.Proofs.YtjapjfcennemeaaGreat.mem
section
variable {H : Type} {enc : TypeId × Value → H} {P : Program} {w : World} {base : Nat} {spare : Nat → Bool} {held : Bool}
theorem reads_of_get {size : Nat} (hs : 0 < size) {a : Addr} {len : Nat} {xs : List Value} (hl : xs.length = len * size) (h : ∀ i < len, ∀ j < size, w.cell? (a.add (i * size + j)) = xs[i * size + j]?) : Reads w w.heap.size size (some a) len xs := by
  refine ⟨hl, fun hn => ⟨a, rfl, ?_, fun j u hu => ?_⟩⟩
  · have h0 := h 0 hn 0 hs
    rw [List.getElem?_eq_getElem (by rw [hl]; have := Nat.mul_pos hn hs; omega)] at h0
    have := World.block_lt_of_cell? _ _ h0
    rwa [block_of_add] at this
  · have hj : j < len * size := by
      rcases Nat.lt_or_ge j (len * size) with h1 | h1
      · exact h1
      · rw [List.getElem?_eq_none (by omega)] at hu; cases hu
    have h1 := h (j / size) (Nat.div_lt_of_lt_mul (by rw [Nat.mul_comm]; exact hj)) (j % size) (Nat.mod_lt _ hs)
    rw [show j / size * size + j % size = j by rw [Nat.mul_comm]; exact Nat.div_add_mod j size] at h1
    rw [h1, hu]
theorem open_entries {t e : TypeId} {f0 f1 f2 : Field} {fuel : Nat} {cs : List Value} {x : DataW H × List MemPlace} (ht : P.underlying t = some (.slice e)) (he : P.underlying e = some (.struct #[f0, f1, f2]))
    (hone : oneCellFields P #[f0, f1, f2] = true) (hC : P.cellsOf e = 3) (h0 : P.underlying f0.type = some (.int .i64)) (h1 : P.underlying f1.type = some (.int .i64)) (h2 : P.underlying f2.type = some (.int .i64))
    (h : DataW.trod enc P w base spare held fuel t cs = some x) :
    ∃ (A : Option Addr) (n c : Nat) (xs : L3), cs = [.slice A n c] ∧ n ≤ c ∧ c ≤ maxLen ∧ ERead w w.heap.size A n xs := by
  rcases open_slice_fields ht he hone hC h with ⟨hcs, _⟩ | ⟨a, len, cap, m, D, Pl, hcs, hb, hl, hm, hmm, hx, hi⟩
  · exact ⟨none, 0, 0, [], hcs, Nat.le_refl _, Nat.zero_le _, .nil_⟩
  · have hlm : len ≤ m := by rw [hmm]; split <;> omega
    have key : ∀ i, ∃ p : Int × Int × Int, i < len → w.cell? (a.add (i * 3 + 0)) = some (.int .i64 p.1) ∧ w.cell? (a.add (i * 3 + 1)) = some (.int .i64 p.2.1) ∧ w.cell? (a.add (i * 3 + 2)) = some (.int .i64 p.2.2) := by
      intro i
      by_cases hil : i < len
      · obtain ⟨ys, n, _, _, _, hf⟩ := hi i (by omega)
        obtain ⟨v0, y0, hc0, _, ht0⟩ := hf 0 f0 rfl
        obtain ⟨v1, y1, hc1, _, ht1⟩ := hf 1 f1 rfl
        obtain ⟨v2, y2, hc2, _, ht2⟩ := hf 2 f2 rfl
        obtain ⟨z0, e0, _, _⟩ := DataW.trod_int h0 ht0
        obtain ⟨z1, e1, _, _⟩ := DataW.trod_int h1 ht1
        obtain ⟨z2, e2, _, _⟩ := DataW.trod_int h2 ht2
        simp only [List.cons.injEq, and_true] at e0 e1 e2
        subst e0 e1 e2
        exact ⟨(z0, z1, z2), fun _ => ⟨hc0, hc1, hc2⟩⟩
      · exact ⟨(0, 0, 0), fun h => absurd h hil⟩
    refine ⟨some a, len, cap, (List.range len).map (fun i => (key i).choose), hcs, hl, hm, reads_of_get (by omega) (by rw [tc_length]; simp) (fun i hil j hj => ?_)⟩
    obtain ⟨g0, g1, g2⟩ := tc_get ((List.range len).map (fun i => (key i).choose)) i (by simpa using hil)
    simp only [List.getElem_map, List.getElem_range] at g0 g1 g2
    obtain ⟨k0, k1, k2⟩ := (key i).choose_spec hil
    match j, hj with
    | 0, _ => rw [k0]; exact g0.symm
    | 1, _ => rw [k1, g1]
    | 2, _ => rw [k2, g2]
theorem open_blocks {t e te : TypeId} {f0 f1 f2 f3 q0 q1 g0 g1 g2 : Field} {fuel : Nat} {cs : List Value} {x : DataW H × List MemPlace} (ht : P.underlying t = some (.slice e)) (he : P.underlying e = some (.struct #[f0, f1, f2, f3]))
    (hC : P.cellsOf e = 5) (o0 : f0.offset = 0) (o1 : f1.offset = 1) (o2 : f2.offset = 2) (o3 : f3.offset = 3) (c0 : P.cellsOf f0.type = 1) (c1 : P.cellsOf f1.type = 1) (c2 : P.cellsOf f2.type = 1) (c3 : P.cellsOf f3.type = 2)
    (h0 : P.underlying f0.type = some (.int .i64)) (h1 : P.underlying f1.type = some (.int .i64)) (h2 : P.underlying f2.type = some (.int .i64)) (h3 : P.underlying f3.type = some (.struct #[q0, q1])) (p0 : q0.offset = 0) (p1 : q1.offset = 1) (d0 : P.cellsOf q0.type = 1) (d1 : P.cellsOf q1.type = 1)
    (r0 : P.underlying q0.type = some (.int .i64)) (r1 : P.underlying q1.type = some (.slice te)) (hte : P.underlying te = some (.struct #[g0, g1, g2])) (hone : oneCellFields P #[g0, g1, g2] = true) (hCe : P.cellsOf te = 3)
    (k0 : P.underlying g0.type = some (.int .i64)) (k1 : P.underlying g1.type = some (.int .i64)) (k2 : P.underlying g2.type = some (.int .i64))
    (h : DataW.trod enc P w base spare held fuel t cs = some x) :
    ∃ (A : Option Addr) (n c : Nat) (xs : List BlkM), cs = [.slice A n c] ∧ n ≤ c ∧ c ≤ maxLen ∧ BRead w w.heap.size A n xs := by
  rcases open_slice ht h with ⟨hcs, _⟩ | ⟨a, len, cap, m, n, D, Pl, hcs, hb, hl, hm, hmm, hx, hi⟩
  · exact ⟨none, 0, 0, [], hcs, Nat.le_refl _, Nat.zero_le _, Reads.none_, fun b hb => by cases hb⟩
  · have hlm : len ≤ m := by rw [hmm]; split <;> omega
    have key : ∀ i, ∃ b : BlkM, i < len → (w.cell? (a.add (i * 5 + 0)) = some (.int .i64 b.t) ∧ w.cell? (a.add (i * 5 + 1)) = some (.int .i64 b.last) ∧ w.cell? (a.add (i * 5 + 2)) = some (.int .i64 b.level) ∧ w.cell? (a.add (i * 5 + 3)) = some (.int .i64 b.num) ∧ w.cell? (a.add (i * 5 + 4)) = some (.slice b.adr b.en b.ec)) ∧ ERead w w.heap.size b.adr b.en b.es ∧ b.en ≤ b.ec ∧ b.ec ≤ maxLen := by
      intro i
      by_cases hil : i < len
      · obtain ⟨cs', hc, ht'⟩ := hi i (by omega)
        rw [hC] at hc
        obtain ⟨ys, n', _, _, hlen, hyl, hf⟩ := DataW.trod_struct he ht'
        obtain ⟨_, hcl, hat⟩ := World.cells?_some hc
        have hyl4 : ys.length = 4 := hyl
        have F0 := hf 0 f0 rfl
        have F1 := hf 1 f1 rfl
        have F2 := hf 2 f2 rfl
        have F3 := hf 3 f3 rfl
        rw [o0, c0, List.getElem?_eq_getElem (by omega)] at F0
        rw [o1, c1, List.getElem?_eq_getElem (by omega)] at F1
        rw [o2, c2, List.getElem?_eq_getElem (by omega)] at F2
        rw [o3, c3, List.getElem?_eq_getElem (by omega)] at F3
        match cs', hcl with
        | [u0, u1, u2, u3, u4], _ =>
          simp only [List.drop_zero, List.drop_succ_cons, List.take_succ_cons, List.take_zero] at F0 F1 F2 F3
          obtain ⟨z0, e0, _, _⟩ := DataW.trod_int h0 F0
          obtain ⟨z1, e1, _, _⟩ := DataW.trod_int h1 F1
          obtain ⟨z2, e2, _, _⟩ := DataW.trod_int h2 F2
          obtain ⟨y0, y1, m3, _, _, G0, G1⟩ := trod_struct2 h3 F3
          rw [p0, d0] at G0
          rw [p1, d1] at G1
          simp only [List.drop_zero, List.drop_succ_cons, List.take_succ_cons, List.take_zero] at G0 G1
          obtain ⟨z3, e3, _, _⟩ := DataW.trod_int r0 G0
          obtain ⟨A, en, ec, es, e4, l1, l2, l3⟩ := open_entries r1 hte hone hCe k0 k1 k2 G1
          simp only [List.cons.injEq, and_true] at e0 e1 e2 e3 e4
          subst e0 e1 e2 e3 e4
          have a0 := hat 0 (by omega)
          have a1 := hat 1 (by omega)
          have a2 := hat 2 (by omega)
          have a3 := hat 3 (by omega)
          have a4 := hat 4 (by omega)
          rw [Go.Deep.add_add] at a0 a1 a2 a3 a4
          exact ⟨⟨z0, z1, z2, z3, A, en, ec, es⟩, fun _ => ⟨⟨a0, a1, a2, a3, a4⟩, l3, l1, l2⟩⟩
      · exact ⟨⟨0, 0, 0, 0, none, 0, 0, []⟩, fun h => absurd h hil⟩
    refine ⟨some a, len, cap, (List.range len).map (fun i => (key i).choose), hcs, hl, hm, reads_of_get (by omega) (by rw [bc_length]; simp) (fun i hil j hj => ?_), fun b hb => ?_⟩
    · obtain ⟨b0, b1, b2, b3, b4⟩ := bc_get ((List.range len).map (fun i => (key i).choose)) i (by simpa using hil)
      simp only [List.getElem_map, List.getElem_range] at b0 b1 b2 b3 b4
      obtain ⟨⟨s0, s1, s2, s3, s4⟩, _⟩ := (key i).choose_spec hil
      match j, hj with
      | 0, _ => rw [s0]; exact b0.symm
      | 1, _ => rw [s1, b1]
      | 2, _ => rw [s2, b2]
      | 3, _ => rw [s3, b3]
      | 4, _ => rw [s4, b4]
    · simp only [List.mem_map, List.mem_range] at hb
      obtain ⟨i, hil, rfl⟩ := hb
      exact ((key i).choose_spec hil).2
end
end Go.Proofs.YtjapjfcennemeaaGreat.opn
end
section
namespace Go.Proofs.YtjapjfcennemeaaGreat.opn
open Go.ChangeShapes Go.WideShapes Go.Deep Go.RowKit Go.Proofs.YtjapjfcennemeaaGreat.mem
section
variable {H : Type} {enc : TypeId × Value → H} {P : Program} {w : World} {base : Nat} {spare : Nat → Bool} {held : Bool}
theorem open_quant {r : Reach} {b0 : Nat} {t e te : TypeId} {s0 s1 s2 s3 s4 f0 f1 f2 f3 q0 q1 g0 g1 g2 : Field} {v : Value} {d : DataW H} {p : List MemPlace} (hs : P.underlying t = some (.struct #[s0, s1, s2, s3, s4])) (hone' : oneCellFields P #[s0, s1, s2, s3, s4] = true) (hC' : P.cellsOf t = 5)
    (u0 : P.underlying s0.type = some (.int .i64)) (u1 : P.underlying s1.type = some (.int .i64)) (u2 : P.underlying s2.type = some (.int .i64)) (u3 : P.underlying s3.type = some (.int .i64)) (ht : P.underlying s4.type = some (.slice e)) (he : P.underlying e = some (.struct #[f0, f1, f2, f3]))
    (hC : P.cellsOf e = 5) (o0 : f0.offset = 0) (o1 : f1.offset = 1) (o2 : f2.offset = 2) (o3 : f3.offset = 3) (c0 : P.cellsOf f0.type = 1) (c1 : P.cellsOf f1.type = 1) (c2 : P.cellsOf f2.type = 1) (c3 : P.cellsOf f3.type = 2)
    (h0 : P.underlying f0.type = some (.int .i64)) (h1 : P.underlying f1.type = some (.int .i64)) (h2 : P.underlying f2.type = some (.int .i64)) (h3 : P.underlying f3.type = some (.struct #[q0, q1])) (p0 : q0.offset = 0) (p1 : q1.offset = 1) (d0 : P.cellsOf q0.type = 1) (d1 : P.cellsOf q1.type = 1)
    (r0 : P.underlying q0.type = some (.int .i64)) (r1 : P.underlying q1.type = some (.slice te)) (hte : P.underlying te = some (.struct #[g0, g1, g2])) (hone : oneCellFields P #[g0, g1, g2] = true) (hCe : P.cellsOf te = 3)
    (k0 : P.underlying g0.type = some (.int .i64)) (k1 : P.underlying g1.type = some (.int .i64)) (k2 : P.underlying g2.type = some (.int .i64))
    (hv : Value.okWide P w r b0 t v) (h : DataW.Trod enc P w base spare held t v d p) :
    ∃ (a0 : Int) (a1 : Int) (a2 : Int) (a3 : Int) (A : Option Addr) (n c : Nat) (xs : List BlkM), v = .agg #[.int .i64 a0, .int .i64 a1, .int .i64 a2, .int .i64 a3, .slice A n c] ∧ n ≤ c ∧ c ≤ maxLen ∧ BRead w w.heap.size A n xs ∧ Rng a0 ∧ Rng a1 ∧ Rng a2 ∧ Rng a3 := by
  obtain ⟨cs, m, rfl, hl, hf⟩ := fields_at hs hone' hC' hv h
  obtain ⟨z0, y0, e0, t0⟩ := hf 0 s0 rfl
  obtain ⟨a0, x0, _, w0⟩ := DataW.trod_int u0 t0
  obtain ⟨z1, y1, e1, t1⟩ := hf 1 s1 rfl
  obtain ⟨a1, x1, _, w1⟩ := DataW.trod_int u1 t1
  obtain ⟨z2, y2, e2, t2⟩ := hf 2 s2 rfl
  obtain ⟨a2, x2, _, w2⟩ := DataW.trod_int u2 t2
  obtain ⟨z3, y3, e3, t3⟩ := hf 3 s3 rfl
  obtain ⟨a3, x3, _, w3⟩ := DataW.trod_int u3 t3
  obtain ⟨z4, y4, e4, t4⟩ := hf 4 s4 rfl
  obtain ⟨A, m2, cc, xs, x4, i1, i2, i3⟩ := open_blocks ht he hC o0 o1 o2 o3 c0 c1 c2 c3 h0 h1 h2 h3 p0 p1 d0 d1 r0 r1 hte hone hCe k0 k1 k2 t4
  simp only [List.cons.injEq, and_true] at x0 x1 x2 x3 x4
  subst x0 x1 x2 x3 x4
  have hl2 : cs.length = 5 := hl
  match cs, hl2 with
  | [v0, v1, v2, v3, v4], _ =>
    simp at e0 e1 e2 e3 e4
    subst e0 e1 e2 e3 e4
    exact ⟨a0, a1, a2, a3, A, m2, cc, xs, rfl, i1, i2, i3, bounds_i64 w0, bounds_i64 w1, bounds_i64 w2, bounds_i64 w3⟩
end
end Go.Proofs.YtjapjfcennemeaaGreat.opn
end
