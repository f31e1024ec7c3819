/- How arguments that came in are opened: slices of entries, slices of blocks. No condition. -/
import Derived.Test.YtjapjfcennemeaaMgTri
import Derived.Deep.Strs
namespace Go.Proofs.Ytjapjfcennemeaa.opn
open Go.ChangeShapes Go.WideShapes Go.Deep Go.RowKit Go.Joins Go.Proofs.Ytjapjfcennemeaa.mem
section
variable {H : Type} {enc : TypeId × Value → H} {P : Program} {w : World} {base : Nat} {spare : Nat → Bool} {held : Bool}
theorem reads_of_get {size : Nat} (hs : 0 < size) {a : Addr} {len : Nat} {xs : List Value} (hl : xs.length = len * size) (h : ∀ i < len, ∀ j < size, w.cell? (a.add (i * size + j)) = xs[i * size + j]?) : Reads w w.heap.size size (some a) len xs := by
  refine ⟨hl, fun hn => ⟨a, rfl, ?_, fun j u hu => ?_⟩⟩
  · have h0 := h 0 hn 0 hs
    rw [List.getElem?_eq_getElem (by rw [hl]; have := Nat.mul_pos hn hs; omega)] at h0
    have := World.block_lt_of_cell? _ _ h0
    rwa [block_of_add] at this
  · have hj : j < len * size := by
      rcases Nat.lt_or_ge j (len * size) with h1 | h1
      · exact h1
      · rw [List.getElem?_eq_none (by omega)] at hu; cases hu
    have h1 := h (j / size) (Nat.div_lt_of_lt_mul (by rw [Nat.mul_comm]; exact hj)) (j % size) (Nat.mod_lt _ hs)
    rw [show j / size * size + j % size = j by rw [Nat.mul_comm]; exact Nat.div_add_mod j size] at h1
    rw [h1, hu]
theorem open_entries {t e : TypeId} {f0 f1 f2 : Field} {fuel : Nat} {cs : List Value} {x : DataW H × List MemPlace} (ht : P.underlying t = some (.slice e)) (he : P.underlying e = some (.struct #[f0, f1, f2]))
    (hone : oneCellFields P #[f0, f1, f2] = true) (hC : P.cellsOf e = 3) (h0 : P.underlying f0.type = some (.int .i64)) (h1 : P.underlying f1.type = some (.int .i64)) (h2 : P.underlying f2.type = some (.int .i64))
    (h : DataW.trod enc P w base spare held fuel t cs = some x) :
    ∃ (A : Option Addr) (n c : Nat) (xs : L3), cs = [.slice A n c] ∧ n ≤ c ∧ c ≤ maxLen ∧ ERead w w.heap.size A n xs := by
  rcases open_slice_fields ht he hone hC h with ⟨hcs, _⟩ | ⟨a, len, cap, m, D, Pl, hcs, hb, hl, hm, hmm, hx, hi⟩
  · exact ⟨none, 0, 0, [], hcs, Nat.le_refl _, Nat.zero_le _, .nil_⟩
  · have hlm : len ≤ m := by rw [hmm]; split <;> omega
    have key : ∀ i, ∃ p : Int × Int × Int, i < len → w.cell? (a.add (i * 3 + 0)) = some (.int .i64 p.1) ∧ w.cell? (a.add (i * 3 + 1)) = some (.int .i64 p.2.1) ∧ w.cell? (a.add (i * 3 + 2)) = some (.int .i64 p.2.2) := by
      intro i
      by_cases hil : i < len
      · obtain ⟨ys, n, _, _, _, hf⟩ := hi i (by omega)
        obtain ⟨v0, y0, hc0, _, ht0⟩ := hf 0 f0 rfl
        obtain ⟨v1, y1, hc1, _, ht1⟩ := hf 1 f1 rfl
        obtain ⟨v2, y2, hc2, _, ht2⟩ := hf 2 f2 rfl
        obtain ⟨z0, e0, _, _⟩ := DataW.trod_int h0 ht0
        obtain ⟨z1, e1, _, _⟩ := DataW.trod_int h1 ht1
        obtain ⟨z2, e2, _, _⟩ := DataW.trod_int h2 ht2
        simp only [List.cons.injEq, and_true] at e0 e1 e2
        subst e0 e1 e2
        exact ⟨(z0, z1, z2), fun _ => ⟨hc0, hc1, hc2⟩⟩
      · exact ⟨(0, 0, 0), fun h => absurd h hil⟩
    refine ⟨some a, len, cap, (List.range len).map (fun i => (key i).choose), hcs, hl, hm, reads_of_get (by omega) (by rw [tc_length]; simp) (fun i hil j hj => ?_)⟩
    obtain ⟨g0, g1, g2⟩ := tc_get ((List.range len).map (fun i => (key i).choose)) i (by simpa using hil)
    simp only [List.getElem_map, List.getElem_range] at g0 g1 g2
    obtain ⟨k0, k1, k2⟩ := (key i).choose_spec hil
    match j, hj with
    | 0, _ => rw [k0]; exact g0.symm
    | 1, _ => rw [k1, g1]
    | 2, _ => rw [k2, g2]
theorem open_blocks {t e te : TypeId} {f0 f1 f2 f3 q0 q1 g0 g1 g2 : Field} {fuel : Nat} {cs : List Value} {x : DataW H × List MemPlace} (ht : P.underlying t = some (.slice e)) (he : P.underlying e = some (.struct #[f0, f1, f2, f3]))
    (hC : P.cellsOf e = 5) (o0 : f0.offset = 0) (o1 : f1.offset = 1) (o2 : f2.offset = 2) (o3 : f3.offset = 3) (c0 : P.cellsOf f0.type = 1) (c1 : P.cellsOf f1.type = 1) (c2 : P.cellsOf f2.type = 1) (c3 : P.cellsOf f3.type = 2)
    (h0 : P.underlying f0.type = some (.int .i64)) (h1 : P.underlying f1.type = some (.int .i64)) (h2 : P.underlying f2.type = some (.int .i64)) (h3 : P.underlying f3.type = some (.struct #[q0, q1])) (p0 : q0.offset = 0) (p1 : q1.offset = 1) (d0 : P.cellsOf q0.type = 1) (d1 : P.cellsOf q1.type = 1)
    (r0 : P.underlying q0.type = some (.int .i64)) (r1 : P.underlying q1.type = some (.slice te)) (hte : P.underlying te = some (.struct #[g0, g1, g2])) (hone : oneCellFields P #[g0, g1, g2] = true) (hCe : P.cellsOf te = 3)
    (k0 : P.underlying g0.type = some (.int .i64)) (k1 : P.underlying g1.type = some (.int .i64)) (k2 : P.underlying g2.type = some (.int .i64))
    (h : DataW.trod enc P w base spare held fuel t cs = some x) :
    ∃ (A : Option Addr) (n c : Nat) (xs : List BlkM), cs = [.slice A n c] ∧ n ≤ c ∧ c ≤ maxLen ∧ BRead w w.heap.size A n xs := by
  rcases open_slice ht h with ⟨hcs, _⟩ | ⟨a, len, cap, m, n, D, Pl, hcs, hb, hl, hm, hmm, hx, hi⟩
  · exact ⟨none, 0, 0, [], hcs, Nat.le_refl _, Nat.zero_le _, Reads.none_, fun b hb => by cases hb⟩
  · have hlm : len ≤ m := by rw [hmm]; split <;> omega
    have key : ∀ i, ∃ b : BlkM, i < len → (w.cell? (a.add (i * 5 + 0)) = some (.int .i64 b.t) ∧ w.cell? (a.add (i * 5 + 1)) = some (.int .i64 b.last) ∧ w.cell? (a.add (i * 5 + 2)) = some (.int .i64 b.level) ∧ w.cell? (a.add (i * 5 + 3)) = some (.int .i64 b.num) ∧ w.cell? (a.add (i * 5 + 4)) = some (.slice b.adr b.en b.ec)) ∧ ERead w w.heap.size b.adr b.en b.es ∧ b.en ≤ b.ec ∧ b.ec ≤ maxLen := by
      intro i
      by_cases hil : i < len
      · obtain ⟨cs', hc, ht'⟩ := hi i (by omega)
        rw [hC] at hc
        obtain ⟨ys, n', _, _, hlen, hyl, hf⟩ := DataW.trod_struct he ht'
        obtain ⟨_, hcl, hat⟩ := World.cells?_some hc
        have hyl4 : ys.length = 4 := hyl
        have F0 := hf 0 f0 rfl
        have F1 := hf 1 f1 rfl
        have F2 := hf 2 f2 rfl
        have F3 := hf 3 f3 rfl
        rw [o0, c0, List.getElem?_eq_getElem (by omega)] at F0
        rw [o1, c1, List.getElem?_eq_getElem (by omega)] at F1
        rw [o2, c2, List.getElem?_eq_getElem (by omega)] at F2
        rw [o3, c3, List.getElem?_eq_getElem (by omega)] at F3
        match cs', hcl with
        | [u0, u1, u2, u3, u4], _ =>
          simp only [List.drop_zero, List.drop_succ_cons, List.take_succ_cons, List.take_zero] at F0 F1 F2 F3
          obtain ⟨z0, e0, _, _⟩ := DataW.trod_int h0 F0
          obtain ⟨z1, e1, _, _⟩ := DataW.trod_int h1 F1
          obtain ⟨z2, e2, _, _⟩ := DataW.trod_int h2 F2
          obtain ⟨y0, y1, m3, _, _, G0, G1⟩ := trod_struct2 h3 F3
          rw [p0, d0] at G0
          rw [p1, d1] at G1
          simp only [List.drop_zero, List.drop_succ_cons, List.take_succ_cons, List.take_zero] at G0 G1
          obtain ⟨z3, e3, _, _⟩ := DataW.trod_int r0 G0
          obtain ⟨A, en, ec, es, e4, l1, l2, l3⟩ := open_entries r1 hte hone hCe k0 k1 k2 G1
          simp only [List.cons.injEq, and_true] at e0 e1 e2 e3 e4
          subst e0 e1 e2 e3 e4
          have a0 := hat 0 (by omega)
          have a1 := hat 1 (by omega)
          have a2 := hat 2 (by omega)
          have a3 := hat 3 (by omega)
          have a4 := hat 4 (by omega)
          rw [Go.Deep.add_add] at a0 a1 a2 a3 a4
          exact ⟨⟨z0, z1, z2, z3, A, en, ec, es⟩, fun _ => ⟨⟨a0, a1, a2, a3, a4⟩, l3, l1, l2⟩⟩
      · exact ⟨⟨0, 0, 0, 0, none, 0, 0, []⟩, fun h => absurd h hil⟩
    refine ⟨some a, len, cap, (List.range len).map (fun i => (key i).choose), hcs, hl, hm, reads_of_get (by omega) (by rw [bc_length]; simp) (fun i hil j hj => ?_), fun b hb => ?_⟩
    · obtain ⟨b0, b1, b2, b3, b4⟩ := bc_get ((List.range len).map (fun i => (key i).choose)) i (by simpa using hil)
      simp only [List.getElem_map, List.getElem_range] at b0 b1 b2 b3 b4
      obtain ⟨⟨s0, s1, s2, s3, s4⟩, _⟩ := (key i).choose_spec hil
      match j, hj with
      | 0, _ => rw [s0]; exact b0.symm
      | 1, _ => rw [s1, b1]
      | 2, _ => rw [s2, b2]
      | 3, _ => rw [s3, b3]
      | 4, _ => rw [s4, b4]
    · simp only [List.mem_map, List.mem_range] at hb
      obtain ⟨i, hil, rfl⟩ := hb
      exact ((key i).choose_spec hil).2
end
end Go.Proofs.Ytjapjfcennemeaa.opn
