/- OpenC; OpenQ; FewQ: texts in one. -/
import Derived.Test.YtjapjfcennemeaaMgTri
import Derived.Test.YtjapjfcennemeaaMgOpenK
import Derived.Test.YtjapjfcennemeaaMgBox
set_option linter.unusedVariables false
set_option linter.unusedSimpArgs false
/- How arguments that came in are opened: a struct of plain fields and a slice of pairs, by value. -/
namespace Go.Proofs.Ytjapjfcennemeaa.opn
open Go.ChangeShapes Go.WideShapes Go.Deep Go.RowKit Go.Proofs.Ytjapjfcennemeaa.mem
section
variable {H : Type} {enc : TypeId × Value → H} {P : Program} {w : World} {base : Nat} {spare : Nat → Bool} {held : Bool}
theorem fields_at {r : Reach} {b0 : Nat} {t : TypeId} {fs : Array Field} {v : Value} {d : DataW H} {p : List MemPlace} (hs : P.underlying t = some (.struct fs)) (hone : oneCellFields P fs = true) (hC : P.cellsOf t = fs.size)
    (hv : Value.okWide P w r b0 t v) (h : DataW.Trod enc P w base spare held t v d p) :
    ∃ (cs : List Value) (n : Nat), v = .agg ⟨cs⟩ ∧ cs.length = fs.size ∧ ∀ (i : Nat) (f : Field), fs[i]? = some f → ∃ (c : Value) (y : DataW H × List MemPlace), cs[i]? = some c ∧ DataW.trod enc P w base spare held n f.type [c] = some y := by
  obtain ⟨cs, rfl, hsz⟩ := okWide_struct hs hv
  obtain ⟨l⟩ := cs
  rw [hC] at hsz
  obtain ⟨fuel, hf⟩ := h
  obtain ⟨ys, n, _, _, _, hyl, hff⟩ := DataW.trod_struct hs hf
  refine ⟨l, n, rfl, hsz, fun i f hi => ?_⟩
  obtain ⟨ho, hk⟩ := hone_of hone i f hi
  have hil : i < fs.size := (Array.getElem?_eq_some_iff.1 hi).1
  have h1 := hff i f hi
  rw [ho, hk] at h1
  simp only [Value.cells] at h1
  have hsz' : l.length = fs.size := hsz
  have hl : i < l.length := by omega
  have e : (l.drop i).take 1 = [l[i]] := by rw [List.drop_eq_getElem_cons hl]; rfl
  rw [e] at h1
  have hys : ys[i]? = some (ys[i]'(by omega)) := List.getElem?_eq_getElem (by omega)
  exact ⟨l[i], _, List.getElem?_eq_getElem hl, h1.trans hys⟩
theorem open_ints4 {r : Reach} {b0 : Nat} {t te : TypeId} {f0 f1 f2 f3 f4 g0 g1 : Field} {v : Value} {d : DataW H} {p : List MemPlace} (hs : P.underlying t = some (.struct #[f0, f1, f2, f3, f4])) (hone : oneCellFields P #[f0, f1, f2, f3, f4] = true) (hC : P.cellsOf t = 5)
    (u0 : P.underlying f0.type = some (.int .i64)) (u1 : P.underlying f1.type = some (.int .i64)) (u2 : P.underlying f2.type = some (.int .i64)) (u3 : P.underlying f3.type = some (.int .i64)) (ht : P.underlying f4.type = some (.slice te)) (he : P.underlying te = some (.struct #[g0, g1])) (hone2 : oneCellFields P #[g0, g1] = true) (hC2 : P.cellsOf te = 2) (v0 : P.underlying g0.type = some (.int .i64)) (v1 : P.underlying g1.type = some (.int .i64))
    (hv : Value.okWide P w r b0 t v) (h : DataW.Trod enc P w base spare held t v d p) :
    ∃ (a0 : Int) (a1 : Int) (a2 : Int) (a3 : Int) (A : Option Addr) (n c : Nat) (xs : List (Int × Int)), v = .agg #[.int .i64 a0, .int .i64 a1, .int .i64 a2, .int .i64 a3, .slice A n c] ∧ n ≤ c ∧ c ≤ maxLen ∧ PRead w w.heap.size A n xs ∧ (∀ q ∈ xs, Rng q.1 ∧ Rng q.2) ∧ Rng a0 ∧ Rng a1 ∧ Rng a2 ∧ Rng a3 := by
  obtain ⟨cs, m, rfl, hl, hf⟩ := fields_at hs hone hC hv h
  obtain ⟨c0, y0, e0, t0⟩ := hf 0 f0 rfl
  obtain ⟨a0, q0, _, w0⟩ := DataW.trod_int u0 t0
  obtain ⟨c1, y1, e1, t1⟩ := hf 1 f1 rfl
  obtain ⟨a1, q1, _, w1⟩ := DataW.trod_int u1 t1
  obtain ⟨c2, y2, e2, t2⟩ := hf 2 f2 rfl
  obtain ⟨a2, q2, _, w2⟩ := DataW.trod_int u2 t2
  obtain ⟨c3, y3, e3, t3⟩ := hf 3 f3 rfl
  obtain ⟨a3, q3, _, w3⟩ := DataW.trod_int u3 t3
  obtain ⟨c4, y4, e4, t4⟩ := hf 4 f4 rfl
  obtain ⟨A, m2, cc, xs, q4, h1, h2, h3, h4⟩ := open_pairs ht he hone2 hC2 v0 v1 t4
  simp only [List.cons.injEq, and_true] at q0 q1 q2 q3 q4
  subst q0 q1 q2 q3 q4
  have hl2 : cs.length = 5 := hl
  match cs, hl2 with
  | [z0, z1, z2, z3, z4], _ =>
    simp at e0 e1 e2 e3 e4
    subst e0 e1 e2 e3 e4
    exact ⟨a0, a1, a2, a3, A, m2, cc, xs, rfl, h1, h2, h3, h4, bounds_i64 w0, bounds_i64 w1, bounds_i64 w2, bounds_i64 w3⟩
theorem open_ints5 {r : Reach} {b0 : Nat} {t te : TypeId} {f0 f1 f2 f3 f4 f5 g0 g1 : Field} {v : Value} {d : DataW H} {p : List MemPlace} (hs : P.underlying t = some (.struct #[f0, f1, f2, f3, f4, f5])) (hone : oneCellFields P #[f0, f1, f2, f3, f4, f5] = true) (hC : P.cellsOf t = 6)
    (u0 : P.underlying f0.type = some (.int .i64)) (u1 : P.underlying f1.type = some (.int .i64)) (u2 : P.underlying f2.type = some (.int .i64)) (u3 : P.underlying f3.type = some (.int .i64)) (u4 : P.underlying f4.type = some (.int .i64)) (ht : P.underlying f5.type = some (.slice te)) (he : P.underlying te = some (.struct #[g0, g1])) (hone2 : oneCellFields P #[g0, g1] = true) (hC2 : P.cellsOf te = 2) (v0 : P.underlying g0.type = some (.int .i64)) (v1 : P.underlying g1.type = some (.int .i64))
    (hv : Value.okWide P w r b0 t v) (h : DataW.Trod enc P w base spare held t v d p) :
    ∃ (a0 : Int) (a1 : Int) (a2 : Int) (a3 : Int) (a4 : Int) (A : Option Addr) (n c : Nat) (xs : List (Int × Int)), v = .agg #[.int .i64 a0, .int .i64 a1, .int .i64 a2, .int .i64 a3, .int .i64 a4, .slice A n c] ∧ n ≤ c ∧ c ≤ maxLen ∧ PRead w w.heap.size A n xs ∧ (∀ q ∈ xs, Rng q.1 ∧ Rng q.2) ∧ Rng a0 ∧ Rng a1 ∧ Rng a2 ∧ Rng a3 ∧ Rng a4 := by
  obtain ⟨cs, m, rfl, hl, hf⟩ := fields_at hs hone hC hv h
  obtain ⟨c0, y0, e0, t0⟩ := hf 0 f0 rfl
  obtain ⟨a0, q0, _, w0⟩ := DataW.trod_int u0 t0
  obtain ⟨c1, y1, e1, t1⟩ := hf 1 f1 rfl
  obtain ⟨a1, q1, _, w1⟩ := DataW.trod_int u1 t1
  obtain ⟨c2, y2, e2, t2⟩ := hf 2 f2 rfl
  obtain ⟨a2, q2, _, w2⟩ := DataW.trod_int u2 t2
  obtain ⟨c3, y3, e3, t3⟩ := hf 3 f3 rfl
  obtain ⟨a3, q3, _, w3⟩ := DataW.trod_int u3 t3
  obtain ⟨c4, y4, e4, t4⟩ := hf 4 f4 rfl
  obtain ⟨a4, q4, _, w4⟩ := DataW.trod_int u4 t4
  obtain ⟨c5, y5, e5, t5⟩ := hf 5 f5 rfl
  obtain ⟨A, m2, cc, xs, q5, h1, h2, h3, h4⟩ := open_pairs ht he hone2 hC2 v0 v1 t5
  simp only [List.cons.injEq, and_true] at q0 q1 q2 q3 q4 q5
  subst q0 q1 q2 q3 q4 q5
  have hl2 : cs.length = 6 := hl
  match cs, hl2 with
  | [z0, z1, z2, z3, z4, z5], _ =>
    simp at e0 e1 e2 e3 e4 e5
    subst e0 e1 e2 e3 e4 e5
    exact ⟨a0, a1, a2, a3, a4, A, m2, cc, xs, rfl, h1, h2, h3, h4, bounds_i64 w0, bounds_i64 w1, bounds_i64 w2, bounds_i64 w3, bounds_i64 w4⟩
theorem open_bool3 {r : Reach} {b0 : Nat} {t te : TypeId} {f0 f1 f2 f3 f4 g0 g1 : Field} {v : Value} {d : DataW H} {p : List MemPlace} (hs : P.underlying t = some (.struct #[f0, f1, f2, f3, f4])) (hone : oneCellFields P #[f0, f1, f2, f3, f4] = true) (hC : P.cellsOf t = 5)
    (u0 : P.underlying f0.type = some .bool) (u1 : P.underlying f1.type = some (.int .i64)) (u2 : P.underlying f2.type = some (.int .i64)) (u3 : P.underlying f3.type = some (.int .i64)) (ht : P.underlying f4.type = some (.slice te)) (he : P.underlying te = some (.struct #[g0, g1])) (hone2 : oneCellFields P #[g0, g1] = true) (hC2 : P.cellsOf te = 2) (v0 : P.underlying g0.type = some (.int .i64)) (v1 : P.underlying g1.type = some (.int .i64))
    (hv : Value.okWide P w r b0 t v) (h : DataW.Trod enc P w base spare held t v d p) :
    ∃ (a0 : Bool) (a1 : Int) (a2 : Int) (a3 : Int) (A : Option Addr) (n c : Nat) (xs : List (Int × Int)), v = .agg #[.bool a0, .int .i64 a1, .int .i64 a2, .int .i64 a3, .slice A n c] ∧ n ≤ c ∧ c ≤ maxLen ∧ PRead w w.heap.size A n xs ∧ (∀ q ∈ xs, Rng q.1 ∧ Rng q.2) ∧ Rng a1 ∧ Rng a2 ∧ Rng a3 := by
  obtain ⟨cs, m, rfl, hl, hf⟩ := fields_at hs hone hC hv h
  obtain ⟨c0, y0, e0, t0⟩ := hf 0 f0 rfl
  obtain ⟨a0, q0, _⟩ := DataW.trod_bool u0 t0
  obtain ⟨c1, y1, e1, t1⟩ := hf 1 f1 rfl
  obtain ⟨a1, q1, _, w1⟩ := DataW.trod_int u1 t1
  obtain ⟨c2, y2, e2, t2⟩ := hf 2 f2 rfl
  obtain ⟨a2, q2, _, w2⟩ := DataW.trod_int u2 t2
  obtain ⟨c3, y3, e3, t3⟩ := hf 3 f3 rfl
  obtain ⟨a3, q3, _, w3⟩ := DataW.trod_int u3 t3
  obtain ⟨c4, y4, e4, t4⟩ := hf 4 f4 rfl
  obtain ⟨A, m2, cc, xs, q4, h1, h2, h3, h4⟩ := open_pairs ht he hone2 hC2 v0 v1 t4
  simp only [List.cons.injEq, and_true] at q0 q1 q2 q3 q4
  subst q0 q1 q2 q3 q4
  have hl2 : cs.length = 5 := hl
  match cs, hl2 with
  | [z0, z1, z2, z3, z4], _ =>
    simp at e0 e1 e2 e3 e4
    subst e0 e1 e2 e3 e4
    exact ⟨a0, a1, a2, a3, A, m2, cc, xs, rfl, h1, h2, h3, h4, bounds_i64 w1, bounds_i64 w2, bounds_i64 w3⟩
end
end Go.Proofs.Ytjapjfcennemeaa.opn

/- How an argument that came in is opened: a struct of four integers and a slice of blocks, by value. -/
namespace Go.Proofs.Ytjapjfcennemeaa.opn
open Go.ChangeShapes Go.WideShapes Go.Deep Go.RowKit Go.Proofs.Ytjapjfcennemeaa.mem
section
variable {H : Type} {enc : TypeId × Value → H} {P : Program} {w : World} {base : Nat} {spare : Nat → Bool} {held : Bool}
theorem open_quant {r : Reach} {b0 : Nat} {t e te : TypeId} {s0 s1 s2 s3 s4 f0 f1 f2 f3 q0 q1 g0 g1 g2 : Field} {v : Value} {d : DataW H} {p : List MemPlace} (hs : P.underlying t = some (.struct #[s0, s1, s2, s3, s4])) (hone' : oneCellFields P #[s0, s1, s2, s3, s4] = true) (hC' : P.cellsOf t = 5)
    (u0 : P.underlying s0.type = some (.int .i64)) (u1 : P.underlying s1.type = some (.int .i64)) (u2 : P.underlying s2.type = some (.int .i64)) (u3 : P.underlying s3.type = some (.int .i64)) (ht : P.underlying s4.type = some (.slice e)) (he : P.underlying e = some (.struct #[f0, f1, f2, f3]))
    (hC : P.cellsOf e = 5) (o0 : f0.offset = 0) (o1 : f1.offset = 1) (o2 : f2.offset = 2) (o3 : f3.offset = 3) (c0 : P.cellsOf f0.type = 1) (c1 : P.cellsOf f1.type = 1) (c2 : P.cellsOf f2.type = 1) (c3 : P.cellsOf f3.type = 2)
    (h0 : P.underlying f0.type = some (.int .i64)) (h1 : P.underlying f1.type = some (.int .i64)) (h2 : P.underlying f2.type = some (.int .i64)) (h3 : P.underlying f3.type = some (.struct #[q0, q1])) (p0 : q0.offset = 0) (p1 : q1.offset = 1) (d0 : P.cellsOf q0.type = 1) (d1 : P.cellsOf q1.type = 1)
    (r0 : P.underlying q0.type = some (.int .i64)) (r1 : P.underlying q1.type = some (.slice te)) (hte : P.underlying te = some (.struct #[g0, g1, g2])) (hone : oneCellFields P #[g0, g1, g2] = true) (hCe : P.cellsOf te = 3)
    (k0 : P.underlying g0.type = some (.int .i64)) (k1 : P.underlying g1.type = some (.int .i64)) (k2 : P.underlying g2.type = some (.int .i64))
    (hv : Value.okWide P w r b0 t v) (h : DataW.Trod enc P w base spare held t v d p) :
    ∃ (a0 : Int) (a1 : Int) (a2 : Int) (a3 : Int) (A : Option Addr) (n c : Nat) (xs : List BlkM), v = .agg #[.int .i64 a0, .int .i64 a1, .int .i64 a2, .int .i64 a3, .slice A n c] ∧ n ≤ c ∧ c ≤ maxLen ∧ BRead w w.heap.size A n xs ∧ Rng a0 ∧ Rng a1 ∧ Rng a2 ∧ Rng a3 := by
  obtain ⟨cs, m, rfl, hl, hf⟩ := fields_at hs hone' hC' hv h
  obtain ⟨z0, y0, e0, t0⟩ := hf 0 s0 rfl
  obtain ⟨a0, x0, _, w0⟩ := DataW.trod_int u0 t0
  obtain ⟨z1, y1, e1, t1⟩ := hf 1 s1 rfl
  obtain ⟨a1, x1, _, w1⟩ := DataW.trod_int u1 t1
  obtain ⟨z2, y2, e2, t2⟩ := hf 2 s2 rfl
  obtain ⟨a2, x2, _, w2⟩ := DataW.trod_int u2 t2
  obtain ⟨z3, y3, e3, t3⟩ := hf 3 s3 rfl
  obtain ⟨a3, x3, _, w3⟩ := DataW.trod_int u3 t3
  obtain ⟨z4, y4, e4, t4⟩ := hf 4 s4 rfl
  obtain ⟨A, m2, cc, xs, x4, i1, i2, i3⟩ := open_blocks ht he hC o0 o1 o2 o3 c0 c1 c2 c3 h0 h1 h2 h3 p0 p1 d0 d1 r0 r1 hte hone hCe k0 k1 k2 t4
  simp only [List.cons.injEq, and_true] at x0 x1 x2 x3 x4
  subst x0 x1 x2 x3 x4
  have hl2 : cs.length = 5 := hl
  match cs, hl2 with
  | [v0, v1, v2, v3, v4], _ =>
    simp at e0 e1 e2 e3 e4
    subst e0 e1 e2 e3 e4
    exact ⟨a0, a1, a2, a3, A, m2, cc, xs, rfl, i1, i2, i3, bounds_i64 w0, bounds_i64 w1, bounds_i64 w2, bounds_i64 w3⟩
end
end Go.Proofs.Ytjapjfcennemeaa.opn

/- Contract of few of quantiles: a state with few blocks and few entries. -/
namespace Go.Proofs.Ytjapjfcennemeaa.blk
open Go.RowKit Go.Proofs.Ytjapjfcennemeaa.mem Go.Proofs.Ytjapjfcennemeaa.gro Go.Proofs.Ytjapjfcennemeaa.rnk
set_option linter.unusedVariables false
set_option linter.unusedSimpArgs false
set_option pp.maxSteps 200000
set_option maxHeartbeats 4000000 in
set_option maxRecDepth 100000 in
theorem few23_any (v k p o : Int) (A : Option Addr) (n c : Nat) (xs : List BlkM) (w : World) (h1 : BRead w w.heap.size A n xs) (hn : n ≤ maxLen) :
    Calls Try.prog 52 #[.agg #[.int .i64 v, .int .i64 k, .int .i64 p, .int .i64 o, .slice A n c]] w (FewOk n xs w) := by
  have hn9 : n ≤ 9223372036854775807 := hn
  have H1 := Lib.hid h1
  have HLn := Lib.hid h1.len
  clear h1 hn
  go_enter Try.func52, Try.ntmps52
  go_upto_region 3 with fail
  obtain ⟨W0, hW, hs0, K0, B0⟩ := start1 w 70 #[Value.int IntKind.i64 v, Value.int IntKind.i64 k, Value.int IntKind.i64 p, Value.int IntKind.i64 o, Value.slice A n c]
  rw [hW]
  clear hW
  have KK := Lib.hid K0
  have BB := Lib.hid B0
  clear K0 B0 hs0
  go_loopg [3, 9] n (fun kx s3 s8 wr => ∃ (i : Nat) (z : Int), s8 = .int .i64 i ∧ s3 = .int .i64 z ∧ i ≤ n ∧ n - i ≤ kx ∧ Hid (z = IntKind.i64.wrap (sumN xs i)) ∧ Hid (Bx wr [(w.heap.size, 70, #[Value.int IntKind.i64 v, Value.int IntKind.i64 k, Value.int IntKind.i64 p, Value.int IntKind.i64 o, Value.slice A n c])]) ∧ Hid (Below w.heap.size w wr))
  case atStart => exact ⟨0, 0, rfl, rfl, Nat.zero_le _, by omega, by rw [sumN_zero]; rfl, KK, BB⟩
  case round =>
    clear KK BB
    obtain ⟨i, z, rfl, rfl, hin, hik, HZ, KK, HB⟩ := hrel
    have R := KK.out.rules
    simp only [Rules] at R
    by_cases hlt : i < n
    case neg =>
      obtain rfl : i = n := by omega
      have HS : Hid (i ≤ 40 → z ≤ 200 → (∀ b ∈ xs, b.en ≤ 1099511627776) → (xs.map BlkM.en).sum ≤ 200) := by
        intro h40 h200 hb
        have h1 := sumN_le hb i (by rw [HLn.out]; exact Nat.le_refl _)
        rw [← sumN_all, HLn.out]
        have h2 := HZ.out
        rw [IntWalk.i64_in _ (by omega)] at h2
        omega
      clear HZ
      by_cases h40 : i ≤ 40
      · have h40i : (i : Int) ≤ 40 := by omega
        by_cases h200 : z ≤ 200
        · have HF := Lib.hid (HS.out h40 h200)
          clear HS
          go_wp2
          all_goals (go_ret; exact ⟨_, rfl, fun _ => ⟨h40, HF.out⟩, HB.out⟩)
        · clear HS
          go_wp2
          all_goals (go_ret; exact ⟨false, rfl, fun h => (by cases h), HB.out⟩)
      · have h40i : ¬ (i : Int) ≤ 40 := by omega
        clear HS
        go_wp2
        all_goals (go_ret; exact ⟨false, rfl, fun h => (by cases h), HB.out⟩)
    obtain ⟨ad, b, rfl, hbl, hb, hc1, hc2, hc3, hc4, hc5, -, -, -⟩ := BRead.at_ (H1.out.below HB.out) hlt
    have hsz := HB.out.size
    have hwr : w.heap.size < wr.heap.size := (KK.out _ (List.mem_cons_self ..)).lt
    have HN := Lib.hid (sumN_succ hb)
    clear hb
    generalize b.t = bt at *
    generalize b.last = bl at *
    generalize b.level = bv at *
    generalize b.num = bn at *
    generalize b.adr = ba at *
    generalize b.en = be at *
    generalize b.ec = bq at *
    clear b
    obtain ⟨zz, hzz⟩ : ∃ zz, IntKind.i64.wrap (z + (be : Int)) = zz := ⟨_, rfl⟩
    have HZ2 : Hid (zz = IntKind.i64.wrap (sumN xs (i + 1))) := by
      rw [Hid, ← hzz, HN.out, HZ.out, wrap_add]; simp
    have s1 : IntKind.i64.wrap ((i : Int) + 1) = (i : Int) + 1 := IntWalk.i64_in _ (by omega)
    clear HN HZ
    have KX := Lib.hid (KK.out.alloc (.cells #[Value.int IntKind.i64 bt, Value.int IntKind.i64 bl, Value.int IntKind.i64 bv, Value.int IntKind.i64 bn, Value.slice ba be bq] 64))
    go_wp2
    go_roundg (n - (i + 1))
    case measure => omega
    case rel => exact ⟨i + 1, _, by go_num, rfl, by omega, by omega, HZ2, KX, HB.out.alloc HB.out.size _⟩
end Go.Proofs.Ytjapjfcennemeaa.blk
