/- Cst6; Awake11; OpenC: texts in one. -/
import Derived.Test.YtofgjcfiinmimaaCst4
import Derived.Test.YtofgjcfiinmimaaCst1
import Derived.Test.YtofgjcfiinmimaaCst3
import Derived.Test.YtofgjcfiinmimaaMgClk
/- The law's own example: a small histogram counts. -/
namespace Go.Proofs.Ytofgjcfiinmimaa.cst
open Go.RowKit Go.Proofs.Ytofgjcfiinmimaa.mem Go.Proofs.Ytofgjcfiinmimaa.lst Go.Proofs.Ytofgjcfiinmimaa.gro
set_option linter.unusedVariables false
set_option linter.unusedSimpArgs false
theorem ord_tick {xs : List (Int × Int)} (h : buk.ordOk xs xs.length) : ∀ d a, a + d < xs.length → (buk.at_ xs a).1 ≤ (buk.at_ xs (a + d)).1 := by
  intro d
  induction d with
  | zero => intro a _; exact Int.le_refl _
  | succ d ih =>
    intro a hl
    have h1 := ih a (by omega)
    have h2 := ((h (a + (d + 1)) hl).2.2 (by omega)).1
    rw [show a + (d + 1) - 1 = a + d by omega] at h2
    omega
/-- A list in order whose ticks lie in the window. -/
theorem live_of {xs : List (Int × Int)} {k m : Nat} {t o v : Int} (h : lst.Good xs k t m) (hto : t ≤ o) (ho : o ≤ 16777216) (h0 : 0 ≤ o) (hv : 1 ≤ v ∧ v ≤ 1048576) (hf : ∀ i, i < xs.length → o - v < (buk.at_ xs i).1) : liveTo xs o v xs.length := fun i hi => by
  have ho2 := h.1.2.1
  have ht := h.2.1 (by omega)
  have h1 := ord_tick ho2 (xs.length - 1 - i) i (by omega)
  rw [show i + (xs.length - 1 - i) = xs.length - 1 by omega] at h1
  have h2 := (ho2 i hi).1
  have h3 := hf i hi
  unfold buk.tailT at ht
  exact clk.live_iff.2 ⟨h0, ho, hv.1, hv.2, h2.1, h2.2, h3, by omega⟩
theorem Bx.put5c {W : World} {L : List (Nat × TypeId × Array Value)} {g : Nat} {t : TypeId} {x0 x1 x2 x3 x4 u0 u1 u2 u3 u4 : Value} (h : Bx W ((g, t, #[x0, x1, x2, x3, x4]) :: L)) (hd : ∀ q ∈ L, q.1 ≠ g) :
    Bx (((((W.setCell ⟨g, 0, none⟩ u0).setCell ⟨g, 1, none⟩ u1).setCell ⟨g, 2, none⟩ u2).setCell ⟨g, 3, none⟩ u3).setCell ⟨g, 4, none⟩ u4) ((g, t, #[u0, u1, u2, u3, u4]) :: L) := by
  have := ((((h.puti hd 0 u0).puti hd 1 u1).puti hd 2 u2).puti hd 3 u3).puti hd 4 u4
  simpa using this
/-- One item. -/
theorem one_item : ∃ ys : List (Int × Int), ys = insI [] 1 0 ∧ fitB [] 10 1 100 0 = true ∧ fitB ys 10 1 100 0 = true ∧ totalN ys = 1 ∧ ys.length ≤ 1 ∧ ∃ m0 m2 m4 : Int, askV true ys = .agg #[.int .i64 1, .int .i64 1, .int .i64 m2, .int .i64 1, .int .i64 m4, .int .i64 1] := by
  have g0 := good_nil (k := 1) (by omega) (by omega)
  obtain ⟨g1, t1⟩ := good_insert (t := 0) g0 (by omega) (by omega) (by omega)
  have hn : ((1 : Nat) : Int) = 1 := rfl
  rw [hn] at g1 t1
  refine ⟨_, rfl, ?_, ?_, t1, ?_, ?_⟩
  · exact fit_iff.2 ⟨goodC_iff.2 (by omega), (good_tail g0 (by omega)).1, by simp [totalN], fun i hi => by simp at hi⟩
  · refine fit_iff.2 ⟨goodC_iff.2 (by omega), (good_tail g1 (by omega)).1, by rw [t1]; simp [totalN], live_of g1 (by omega) (by omega) (by omega) (by omega) (fun i hi => ?_)⟩
    have := (g1.1.2.1 i hi).1.1
    omega
  · have := buk.len_wgt (insI [] 1 0)
    have := g1.2.2
    omega
  · obtain ⟨_, _, _, _, _, _, lo, mid, q1, q2, q3, q4, q5⟩ := good_tail g1 (by omega)
    rw [t1] at q1 q4 q5
    simp only [totalN] at q1 q4 q5
    have hlo : lo = 1 := by
      unfold wid.withB at q5
      simp only [Bool.and_eq_true, decide_eq_true_eq] at q5
      have h5 := q5.2
      unfold wid.validB at q4
      simp only [Bool.and_eq_true, decide_eq_true_eq] at q4
      have h6 := wid.cmpQ_trans q4.1.1.1.1 q4.1.1.1.2 q4.1.1.2 q4.1.2 q4.2
      have h7 := (wid.cmpQ_le q4.1.1.1.1 q4.1.1.2).1 h6
      simp at h5 h7
      omega
    subst hlo
    exact ⟨0, mid, _, q1⟩
end Go.Proofs.Ytofgjcfiinmimaa.cst

/- Contract of the counting law's awake. -/
namespace Go.Proofs.Ytofgjcfiinmimaa.cst
open Go.RowKit Go.Proofs.Ytofgjcfiinmimaa.mem Go.Proofs.Ytofgjcfiinmimaa.lst Go.Proofs.Ytofgjcfiinmimaa.gro
set_option linter.unusedVariables false
set_option linter.unusedSimpArgs false
set_option maxHeartbeats 4000000 in
set_option maxRecDepth 100000 in
theorem awake11_any (w : World) : Calls Try.prog 17 #[] w fun e w' => e = .returned (.bool true) ∧ Below w.heap.size w w' := by
  obtain ⟨ys, hys, f0, f1, ht, hl1, m0, m2, m4, hq⟩ := one_item
  have H1 : Hid (∀ W, Calls Try.prog 14 #[.int .i64 10, .int .i64 1, .int .i64 100, .int .i64 0] W fun e w' => e = .returned (.tuple #[.agg #[.int .i64 10, .int .i64 1, .int .i64 100, .int .i64 0, .slice none 0 0], .int .i64 0]) ∧ Below W.heap.size W w') := fun W => by
    have := NewC_any 10 1 100 0 W
    rw [show goodC 10 1 100 0 = true from goodC_iff.2 (by omega)] at this
    simpa only [kp_t, if_true] using this
  have H2 : Hid (∀ W, Calls Try.prog 25 #[.agg #[.int .i64 10, .int .i64 1, .int .i64 100, .int .i64 0, .slice none 0 0]] W (NewCsf 10 1 100 0 ys 0 W)) := fun W => by
    have := AddC_any 10 1 100 0 none 0 0 [] W .nil_ (Nat.le_refl _) (Nat.zero_le _) (by omega)
    rw [f0, ← hys, show decide (((totalN [] : Nat) : Int) = 100) = false from by simp [totalN]] at this
    simpa only [kp_t, lsK_t, addE_k, Bool.true_and, Bool.not_false] using this
  have H3 : Hid (∀ (A : Option Addr) (n c : Nat) (W : World), PRead W W.heap.size A n ys → n ≤ c → c ≤ maxLen → Calls Try.prog 27 #[.agg #[.int .i64 10, .int .i64 1, .int .i64 100, .int .i64 0, .slice A n c]] W fun e w' => e = .returned (.tuple #[.agg #[.int .i64 1, .int .i64 1, .int .i64 m2, .int .i64 1, .int .i64 m4, .int .i64 1], .int .i64 0]) ∧ Below W.heap.size W w') := fun A n c W h1 h2 h3 => by
    have := AskC_any 10 1 100 0 A n c ys W h1 h2 h3 (by have := PRead.len h1; omega)
    rw [f1, hq] at this
    simpa only [okE_t] using this
  clear hys f0 f1 ht hl1 hq
  go_enter Try.func17, Try.ntmps17
  go_wp2_with fail
  (with_reducible refine (H1.out _).mono ?_)
  rintro e w1 ⟨rfl, hb1⟩
  obtain ⟨s1, hs1⟩ : ∃ s, w1.heap.size = s := ⟨_, rfl⟩
  have hw1 := hb1.size
  rw [hs1] at hw1
  go_wp2_with fail
  obtain ⟨W1, hW, K1, B1, z1⟩ := name_world (Bx.nil_.new (W := w1) (t := 24) (c := #[Value.int IntKind.i64 10, Value.int IntKind.i64 1, Value.int IntKind.i64 100, Value.int IntKind.i64 0, Value.slice none 0 0]) hs1) (hb1.alloc hb1.size _) (s := s1 + 1) (by simp; omega)
  rw [hW]
  clear hW hb1 hs1
  have KK := Lib.hid K1
  have BB := Lib.hid B1
  have R := K1.rules
  simp only [Rules] at R
  clear K1 B1
  (refine (H2.out _).mono ?_)
  rintro e w2 ⟨A6, l6, c6, rfl, r1, ⟨r2, fr⟩, hr6, hb6⟩
  have fr6 : ∀ ad, A6 = some ad → s1 + 1 ≤ ad.block := fun ad h => Nat.le_trans z1 (fr ad h)
  replace BB := Lib.hid (BB.out.trans (hb6.mono BB.out.size))
  replace KK := Lib.hid (KK.out.below hb6)
  replace R := KK.out.rules
  simp only [Rules] at R
  clear hb6 fr z1
  go_wp2_with fail
  obtain ⟨W2, hW, KP, BP, z2⟩ := name_world (Bx.put5c (u0 := .int .i64 10) (u1 := .int .i64 1) (u2 := .int .i64 100) (u3 := .int .i64 0) (u4 := .slice A6 l6 c6) KK.out (by simp)) (((((BB.out.setCell (p := ⟨s1, 0, none⟩) hw1 _).setCell (p := ⟨s1, 1, none⟩) hw1 _).setCell (p := ⟨s1, 2, none⟩) hw1 _).setCell (p := ⟨s1, 3, none⟩) hw1 _).setCell (p := ⟨s1, 4, none⟩) hw1 _) (s := 0) (by omega)
  have HR : PRead W2 W2.heap.size A6 l6 ys := by
    rw [← hW]
    exact PRead.sz (PRead.far (PRead.far (PRead.far (PRead.far (PRead.far hr6 ⟨s1, 0, none⟩ (fun h0 ad h => by have := fr6 ad h; simp; omega) _) ⟨s1, 1, none⟩ (fun h0 ad h => by have := fr6 ad h; simp; omega) _) ⟨s1, 2, none⟩ (fun h0 ad h => by have := fr6 ad h; simp; omega) _) ⟨s1, 3, none⟩ (fun h0 ad h => by have := fr6 ad h; simp; omega) _) ⟨s1, 4, none⟩ (fun h0 ad h => by have := fr6 ad h; simp; omega) _) (by simp [World.setCell])
  rw [hW]
  clear hW KK BB R hr6 fr6
  have KK := Lib.hid KP
  have BB := Lib.hid BP
  have R := KP.rules
  simp only [Rules] at R
  have H4 := Lib.hid (H3.out A6 l6 c6 W2 HR r1 r2)
  clear KP BP HR H3
  (with_reducible refine H4.out.mono ?_)
  rintro e wv ⟨rfl, hbv⟩; replace BB := Lib.hid (BB.out.trans (hbv.mono BB.out.size)); replace KK := Lib.hid (KK.out.below hbv); replace R := KK.out.rules; simp only [gro.Rules] at R; clear hbv
  obtain ⟨s5, hs5⟩ : ∃ s, wv.heap.size = s := ⟨_, rfl⟩
  replace KK := Lib.hid (KK.out.new (t := 43) (c := #[Value.int IntKind.i64 1, Value.int IntKind.i64 1, Value.int IntKind.i64 m2, Value.int IntKind.i64 1, Value.int IntKind.i64 m4, Value.int IntKind.i64 1]) hs5)
  replace BB := Lib.hid (BB.out.alloc BB.out.size (.cells #[Value.int IntKind.i64 1, Value.int IntKind.i64 1, Value.int IntKind.i64 m2, Value.int IntKind.i64 1, Value.int IntKind.i64 m4, Value.int IntKind.i64 1] 43))
  replace R := KK.out.rules
  simp only [Rules] at R
  go_wp2
  go_ret
  exact ⟨rfl, BB.out⟩
end Go.Proofs.Ytofgjcfiinmimaa.cst

/- How arguments that came in are opened: a struct of plain fields and a slice of pairs, by value. -/
namespace Go.Proofs.Ytofgjcfiinmimaa.opn
open Go.ChangeShapes Go.WideShapes Go.Deep Go.RowKit Go.Proofs.Ytofgjcfiinmimaa.mem
section
variable {H : Type} {enc : TypeId × Value → H} {P : Program} {w : World} {base : Nat} {spare : Nat → Bool} {held : Bool}
theorem fields_at {r : Reach} {b0 : Nat} {t : TypeId} {fs : Array Field} {v : Value} {d : DataW H} {p : List MemPlace} (hs : P.underlying t = some (.struct fs)) (hone : oneCellFields P fs = true) (hC : P.cellsOf t = fs.size)
    (hv : Value.okWide P w r b0 t v) (h : DataW.Trod enc P w base spare held t v d p) :
    ∃ (cs : List Value) (n : Nat), v = .agg ⟨cs⟩ ∧ cs.length = fs.size ∧ ∀ (i : Nat) (f : Field), fs[i]? = some f → ∃ (c : Value) (y : DataW H × List MemPlace), cs[i]? = some c ∧ DataW.trod enc P w base spare held n f.type [c] = some y := by
  obtain ⟨cs, rfl, hsz⟩ := okWide_struct hs hv
  obtain ⟨l⟩ := cs
  rw [hC] at hsz
  obtain ⟨fuel, hf⟩ := h
  obtain ⟨ys, n, _, _, _, hyl, hff⟩ := DataW.trod_struct hs hf
  refine ⟨l, n, rfl, hsz, fun i f hi => ?_⟩
  obtain ⟨ho, hk⟩ := hone_of hone i f hi
  have hil : i < fs.size := (Array.getElem?_eq_some_iff.1 hi).1
  have h1 := hff i f hi
  rw [ho, hk] at h1
  simp only [Value.cells] at h1
  have hsz' : l.length = fs.size := hsz
  have hl : i < l.length := by omega
  have e : (l.drop i).take 1 = [l[i]] := by rw [List.drop_eq_getElem_cons hl]; rfl
  rw [e] at h1
  have hys : ys[i]? = some (ys[i]'(by omega)) := List.getElem?_eq_getElem (by omega)
  exact ⟨l[i], _, List.getElem?_eq_getElem hl, h1.trans hys⟩
theorem open_ints4 {r : Reach} {b0 : Nat} {t te : TypeId} {f0 f1 f2 f3 f4 g0 g1 : Field} {v : Value} {d : DataW H} {p : List MemPlace} (hs : P.underlying t = some (.struct #[f0, f1, f2, f3, f4])) (hone : oneCellFields P #[f0, f1, f2, f3, f4] = true) (hC : P.cellsOf t = 5)
    (u0 : P.underlying f0.type = some (.int .i64)) (u1 : P.underlying f1.type = some (.int .i64)) (u2 : P.underlying f2.type = some (.int .i64)) (u3 : P.underlying f3.type = some (.int .i64)) (ht : P.underlying f4.type = some (.slice te)) (he : P.underlying te = some (.struct #[g0, g1])) (hone2 : oneCellFields P #[g0, g1] = true) (hC2 : P.cellsOf te = 2) (v0 : P.underlying g0.type = some (.int .i64)) (v1 : P.underlying g1.type = some (.int .i64))
    (hv : Value.okWide P w r b0 t v) (h : DataW.Trod enc P w base spare held t v d p) :
    ∃ (a0 : Int) (a1 : Int) (a2 : Int) (a3 : Int) (A : Option Addr) (n c : Nat) (xs : List (Int × Int)), v = .agg #[.int .i64 a0, .int .i64 a1, .int .i64 a2, .int .i64 a3, .slice A n c] ∧ n ≤ c ∧ c ≤ maxLen ∧ PRead w w.heap.size A n xs ∧ (∀ q ∈ xs, Rng q.1 ∧ Rng q.2) ∧ Rng a0 ∧ Rng a1 ∧ Rng a2 ∧ Rng a3 := by
  obtain ⟨cs, m, rfl, hl, hf⟩ := fields_at hs hone hC hv h
  obtain ⟨c0, y0, e0, t0⟩ := hf 0 f0 rfl
  obtain ⟨a0, q0, _, w0⟩ := DataW.trod_int u0 t0
  obtain ⟨c1, y1, e1, t1⟩ := hf 1 f1 rfl
  obtain ⟨a1, q1, _, w1⟩ := DataW.trod_int u1 t1
  obtain ⟨c2, y2, e2, t2⟩ := hf 2 f2 rfl
  obtain ⟨a2, q2, _, w2⟩ := DataW.trod_int u2 t2
  obtain ⟨c3, y3, e3, t3⟩ := hf 3 f3 rfl
  obtain ⟨a3, q3, _, w3⟩ := DataW.trod_int u3 t3
  obtain ⟨c4, y4, e4, t4⟩ := hf 4 f4 rfl
  obtain ⟨A, m2, cc, xs, q4, h1, h2, h3, h4⟩ := open_pairs ht he hone2 hC2 v0 v1 t4
  simp only [List.cons.injEq, and_true] at q0 q1 q2 q3 q4
  subst q0 q1 q2 q3 q4
  have hl2 : cs.length = 5 := hl
  match cs, hl2 with
  | [z0, z1, z2, z3, z4], _ =>
    simp at e0 e1 e2 e3 e4
    subst e0 e1 e2 e3 e4
    exact ⟨a0, a1, a2, a3, A, m2, cc, xs, rfl, h1, h2, h3, h4, bounds_i64 w0, bounds_i64 w1, bounds_i64 w2, bounds_i64 w3⟩
theorem open_ints5 {r : Reach} {b0 : Nat} {t te : TypeId} {f0 f1 f2 f3 f4 f5 g0 g1 : Field} {v : Value} {d : DataW H} {p : List MemPlace} (hs : P.underlying t = some (.struct #[f0, f1, f2, f3, f4, f5])) (hone : oneCellFields P #[f0, f1, f2, f3, f4, f5] = true) (hC : P.cellsOf t = 6)
    (u0 : P.underlying f0.type = some (.int .i64)) (u1 : P.underlying f1.type = some (.int .i64)) (u2 : P.underlying f2.type = some (.int .i64)) (u3 : P.underlying f3.type = some (.int .i64)) (u4 : P.underlying f4.type = some (.int .i64)) (ht : P.underlying f5.type = some (.slice te)) (he : P.underlying te = some (.struct #[g0, g1])) (hone2 : oneCellFields P #[g0, g1] = true) (hC2 : P.cellsOf te = 2) (v0 : P.underlying g0.type = some (.int .i64)) (v1 : P.underlying g1.type = some (.int .i64))
    (hv : Value.okWide P w r b0 t v) (h : DataW.Trod enc P w base spare held t v d p) :
    ∃ (a0 : Int) (a1 : Int) (a2 : Int) (a3 : Int) (a4 : Int) (A : Option Addr) (n c : Nat) (xs : List (Int × Int)), v = .agg #[.int .i64 a0, .int .i64 a1, .int .i64 a2, .int .i64 a3, .int .i64 a4, .slice A n c] ∧ n ≤ c ∧ c ≤ maxLen ∧ PRead w w.heap.size A n xs ∧ (∀ q ∈ xs, Rng q.1 ∧ Rng q.2) ∧ Rng a0 ∧ Rng a1 ∧ Rng a2 ∧ Rng a3 ∧ Rng a4 := by
  obtain ⟨cs, m, rfl, hl, hf⟩ := fields_at hs hone hC hv h
  obtain ⟨c0, y0, e0, t0⟩ := hf 0 f0 rfl
  obtain ⟨a0, q0, _, w0⟩ := DataW.trod_int u0 t0
  obtain ⟨c1, y1, e1, t1⟩ := hf 1 f1 rfl
  obtain ⟨a1, q1, _, w1⟩ := DataW.trod_int u1 t1
  obtain ⟨c2, y2, e2, t2⟩ := hf 2 f2 rfl
  obtain ⟨a2, q2, _, w2⟩ := DataW.trod_int u2 t2
  obtain ⟨c3, y3, e3, t3⟩ := hf 3 f3 rfl
  obtain ⟨a3, q3, _, w3⟩ := DataW.trod_int u3 t3
  obtain ⟨c4, y4, e4, t4⟩ := hf 4 f4 rfl
  obtain ⟨a4, q4, _, w4⟩ := DataW.trod_int u4 t4
  obtain ⟨c5, y5, e5, t5⟩ := hf 5 f5 rfl
  obtain ⟨A, m2, cc, xs, q5, h1, h2, h3, h4⟩ := open_pairs ht he hone2 hC2 v0 v1 t5
  simp only [List.cons.injEq, and_true] at q0 q1 q2 q3 q4 q5
  subst q0 q1 q2 q3 q4 q5
  have hl2 : cs.length = 6 := hl
  match cs, hl2 with
  | [z0, z1, z2, z3, z4, z5], _ =>
    simp at e0 e1 e2 e3 e4 e5
    subst e0 e1 e2 e3 e4 e5
    exact ⟨a0, a1, a2, a3, a4, A, m2, cc, xs, rfl, h1, h2, h3, h4, bounds_i64 w0, bounds_i64 w1, bounds_i64 w2, bounds_i64 w3, bounds_i64 w4⟩
theorem open_bool3 {r : Reach} {b0 : Nat} {t te : TypeId} {f0 f1 f2 f3 f4 g0 g1 : Field} {v : Value} {d : DataW H} {p : List MemPlace} (hs : P.underlying t = some (.struct #[f0, f1, f2, f3, f4])) (hone : oneCellFields P #[f0, f1, f2, f3, f4] = true) (hC : P.cellsOf t = 5)
    (u0 : P.underlying f0.type = some .bool) (u1 : P.underlying f1.type = some (.int .i64)) (u2 : P.underlying f2.type = some (.int .i64)) (u3 : P.underlying f3.type = some (.int .i64)) (ht : P.underlying f4.type = some (.slice te)) (he : P.underlying te = some (.struct #[g0, g1])) (hone2 : oneCellFields P #[g0, g1] = true) (hC2 : P.cellsOf te = 2) (v0 : P.underlying g0.type = some (.int .i64)) (v1 : P.underlying g1.type = some (.int .i64))
    (hv : Value.okWide P w r b0 t v) (h : DataW.Trod enc P w base spare held t v d p) :
    ∃ (a0 : Bool) (a1 : Int) (a2 : Int) (a3 : Int) (A : Option Addr) (n c : Nat) (xs : List (Int × Int)), v = .agg #[.bool a0, .int .i64 a1, .int .i64 a2, .int .i64 a3, .slice A n c] ∧ n ≤ c ∧ c ≤ maxLen ∧ PRead w w.heap.size A n xs ∧ (∀ q ∈ xs, Rng q.1 ∧ Rng q.2) ∧ Rng a1 ∧ Rng a2 ∧ Rng a3 := by
  obtain ⟨cs, m, rfl, hl, hf⟩ := fields_at hs hone hC hv h
  obtain ⟨c0, y0, e0, t0⟩ := hf 0 f0 rfl
  obtain ⟨a0, q0, _⟩ := DataW.trod_bool u0 t0
  obtain ⟨c1, y1, e1, t1⟩ := hf 1 f1 rfl
  obtain ⟨a1, q1, _, w1⟩ := DataW.trod_int u1 t1
  obtain ⟨c2, y2, e2, t2⟩ := hf 2 f2 rfl
  obtain ⟨a2, q2, _, w2⟩ := DataW.trod_int u2 t2
  obtain ⟨c3, y3, e3, t3⟩ := hf 3 f3 rfl
  obtain ⟨a3, q3, _, w3⟩ := DataW.trod_int u3 t3
  obtain ⟨c4, y4, e4, t4⟩ := hf 4 f4 rfl
  obtain ⟨A, m2, cc, xs, q4, h1, h2, h3, h4⟩ := open_pairs ht he hone2 hC2 v0 v1 t4
  simp only [List.cons.injEq, and_true] at q0 q1 q2 q3 q4
  subst q0 q1 q2 q3 q4
  have hl2 : cs.length = 5 := hl
  match cs, hl2 with
  | [z0, z1, z2, z3, z4], _ =>
    simp at e0 e1 e2 e3 e4
    subst e0 e1 e2 e3 e4
    exact ⟨a0, a1, a2, a3, A, m2, cc, xs, rfl, h1, h2, h3, h4, bounds_i64 w1, bounds_i64 w2, bounds_i64 w3⟩
end
end Go.Proofs.Ytofgjcfiinmimaa.opn
