/- FewB; MakesL; AskL; OpenK: texts in one. -/
import Derived.Test.YtjapjfcennemeaaMgBLaw
import Derived.Test.YtjapjfcennemeaaMgWholeR
import Derived.Test.YtjapjfcennemeaaMgExact
import Derived.Test.YtjapjfcennemeaaMgEql
import Derived.Test.YtjapjfcennemeaaBAsk
import Derived.Test.YtjapjfcennemeaaMgTri
import Derived.Deep.Strs
set_option linter.unusedVariables false
set_option linter.unusedSimpArgs false
/- Contract of few: a short list of blocks with few entries. -/
namespace Go.Proofs.Ytjapjfcennemeaa.blk
open Go.RowKit Go.Proofs.Ytjapjfcennemeaa.mem Go.Proofs.Ytjapjfcennemeaa.gro Go.Proofs.Ytjapjfcennemeaa.rnk
set_option linter.unusedVariables false
set_option pp.maxSteps 200000
def sumN (xs : List BlkM) (i : Nat) : Nat := ((xs.take i).map BlkM.en).sum
theorem sumN_zero (xs : List BlkM) : sumN xs 0 = 0 := by simp [sumN]
theorem sumN_succ {xs : List BlkM} {i : Nat} {b : BlkM} (h : xs[i]? = some b) : sumN xs (i + 1) = sumN xs i + b.en := by
  unfold sumN
  rw [List.take_add_one, h]
  simp
theorem sumN_all {xs : List BlkM} : sumN xs xs.length = (xs.map BlkM.en).sum := by unfold sumN; rw [List.take_length]
theorem sumN_le {xs : List BlkM} (h : ∀ b ∈ xs, b.en ≤ 1099511627776) : ∀ i, i ≤ xs.length → sumN xs i ≤ i * 1099511627776
  | 0, _ => by rw [sumN_zero]; exact Nat.zero_le _
  | i + 1, hi => by
    have ih := sumN_le h i (by omega)
    rw [sumN_succ (List.getElem?_eq_getElem (show i < xs.length by omega))]
    have := h _ (List.getElem_mem (show i < xs.length by omega))
    omega
theorem wrap_add (a b : Int) : IntKind.i64.wrap (IntKind.i64.wrap a + b) = IntKind.i64.wrap (a + b) := by
  rw [IntKind.wrap_i64, IntKind.wrap_i64, IntKind.wrap_i64]; omega
def FewOk (n : Nat) (xs : List BlkM) (w : World) (e : Ending) (w' : World) : Prop :=
  ∃ f : Bool, e = .returned (.bool f) ∧ (f = true → n ≤ 40 ∧ ((∀ b ∈ xs, b.en ≤ 1099511627776) → (xs.map BlkM.en).sum ≤ 200)) ∧ Below w.heap.size w w'
set_option maxHeartbeats 4000000 in
set_option maxRecDepth 100000 in
theorem few22s_any (A : Option Addr) (n c : Nat) (xs : List BlkM) (w : World) (h1 : BRead w w.heap.size A n xs) (hn : n ≤ maxLen) :
    Calls Try.prog 13 #[.slice A n c] w (FewOk n xs w) := by
  have hn9 : n ≤ 9223372036854775807 := hn
  have H1 := Lib.hid h1
  have HLn := Lib.hid h1.len
  clear h1 hn
  go_enter Try.func13, Try.ntmps13
  go_wp2
  go_loopg [3, 8] n (fun kx s3 s8 wr => ∃ (i : Nat) (z : Int), s8 = .int .i64 i ∧ s3 = .int .i64 z ∧ i ≤ n ∧ n - i ≤ kx ∧ Hid (z = IntKind.i64.wrap (sumN xs i)) ∧ Hid (Below w.heap.size w wr))
  case atStart => exact ⟨0, 0, rfl, rfl, Nat.zero_le _, by omega, by rw [sumN_zero]; rfl, Below.refl _ _⟩
  case round =>
    obtain ⟨i, z, rfl, rfl, hin, hik, HZ, HB⟩ := hrel
    by_cases hlt : i < n
    case neg =>
      obtain rfl : i = n := by omega
      have HS : Hid (i ≤ 40 → z ≤ 200 → (∀ b ∈ xs, b.en ≤ 1099511627776) → (xs.map BlkM.en).sum ≤ 200) := by
        intro h40 h200 hb
        have h1 := sumN_le hb i (by rw [HLn.out]; exact Nat.le_refl _)
        rw [← sumN_all, HLn.out]
        have h2 := HZ.out
        rw [IntWalk.i64_in _ (by omega)] at h2
        omega
      clear HZ
      by_cases h40 : i ≤ 40
      · have h40i : (i : Int) ≤ 40 := by omega
        by_cases h200 : z ≤ 200
        · have HF := Lib.hid (HS.out h40 h200)
          clear HS
          go_wp2
          all_goals (go_ret; exact ⟨_, rfl, fun _ => ⟨h40, HF.out⟩, HB.out⟩)
        · clear HS
          go_wp2
          all_goals (go_ret; exact ⟨false, rfl, fun h => (by cases h), HB.out⟩)
      · have h40i : ¬ (i : Int) ≤ 40 := by omega
        clear HS
        go_wp2
        all_goals (go_ret; exact ⟨false, rfl, fun h => (by cases h), HB.out⟩)
    obtain ⟨ad, b, rfl, hbl, hb, hc1, hc2, hc3, hc4, hc5, _⟩ := BRead.at_ (H1.out.below HB.out) hlt
    have hsz := HB.out.size
    have HN := Lib.hid (sumN_succ hb)
    clear hb
    generalize b.t = bt at *
    generalize b.last = bl at *
    generalize b.level = bv at *
    generalize b.num = bn at *
    generalize b.adr = ba at *
    generalize b.en = be at *
    generalize b.ec = bq at *
    obtain ⟨zz, hzz⟩ : ∃ zz, IntKind.i64.wrap (z + (be : Int)) = zz := ⟨_, rfl⟩
    have HZ2 : Hid (zz = IntKind.i64.wrap (sumN xs (i + 1))) := by
      rw [Hid, ← hzz, HN.out, HZ.out, wrap_add]; simp
    have s1 : IntKind.i64.wrap ((i : Int) + 1) = (i : Int) + 1 := IntWalk.i64_in _ (by omega)
    clear HN HZ
    go_wp2
    go_roundg (n - (i + 1))
    case measure => omega
    case rel => exact ⟨i + 1, _, by go_num, rfl, by omega, by omega, HZ2, HB.out.alloc HB.out.size _⟩
end Go.Proofs.Ytjapjfcennemeaa.blk

/- Bounds of whole numbers are valid; bounds compared with themselves. -/
namespace Go.Proofs.Ytjapjfcennemeaa.wid
open Go.RowKit Go.Proofs.Ytjapjfcennemeaa.mem Go.Proofs.Ytjapjfcennemeaa.gro
set_option linter.unusedVariables false
set_option linter.unusedSimpArgs false
theorem valid_one (x : Int) : validQ x 1 = true := validQ_iff.2 ⟨by omega, by simp⟩
theorem cmp_one {x y : Int} (h : x ≤ y) : cmpQ x 1 y 1 ≤ 0 := by
  unfold cmpQ cmpZ
  rw [if_pos ⟨valid_one x, valid_one y⟩, Int.mul_one, Int.mul_one]
  split
  · omega
  · split <;> omega
theorem whole_valid {x y : Int} (h : x ≤ y) : validB x 1 ((x + y) / 2) 1 y 1 = true := by
  unfold validB
  rw [valid_one, valid_one, valid_one, decide_eq_true (cmp_one (show x ≤ (x + y) / 2 by omega)), decide_eq_true (cmp_one (show (x + y) / 2 ≤ y by omega))]
  rfl
theorem bnd_eql (a b c d e f : Int) (w : World) : (binOp .eql 55 (Value.agg #[Value.int IntKind.i64 a, Value.int IntKind.i64 b, Value.int IntKind.i64 c, Value.int IntKind.i64 d, Value.int IntKind.i64 e, Value.int IntKind.i64 f]) (Value.agg #[Value.int IntKind.i64 a, Value.int IntKind.i64 b, Value.int IntKind.i64 c, Value.int IntKind.i64 d, Value.int IntKind.i64 e, Value.int IntKind.i64 f])).run Try.prog w = .ok (.bool true) w := by
  go_simp
end Go.Proofs.Ytjapjfcennemeaa.wid

/- What the law of the answers of blocks needs beside the contracts. -/
namespace Go.Proofs.Ytjapjfcennemeaa.rnk
open Go.RowKit Go.Proofs.Ytjapjfcennemeaa.mem Go.Proofs.Ytjapjfcennemeaa.gro Go.Proofs.Ytjapjfcennemeaa.blk
set_option linter.unusedVariables false
theorem rkK_form (xs : List K5) (v : Int) : ∃ a b c d e f : Int, rkK xs v = #[.int .i64 a, .int .i64 b, .int .i64 c, .int .i64 d, .int .i64 e, .int .i64 f] := by
  unfold rkK
  split
  · split
    · exact ⟨_, _, _, _, _, _, rfl⟩
    · exact ⟨_, _, _, _, _, _, rfl⟩
  · exact ⟨_, _, _, _, _, _, rfl⟩
theorem ents_en {w : World} {B n : Nat} {A : Option Addr} {xs : List BlkM} (h : BRead w B A n xs) : entsK (xs.map bkey) = (xs.map BlkM.en).sum := by
  unfold entsK
  rw [List.map_map]
  congr 1
  exact List.map_congr_left fun b hb => (h.2 b hb).1.len
theorem few_ents {w : World} {B n : Nat} {A : Option Addr} {xs : List BlkM} (h : BRead w B A n xs) (hs : (∀ b ∈ xs, b.en ≤ 1099511627776) → (xs.map BlkM.en).sum ≤ 200) (ho : okTo (xs.map bkey) n = true) : entsK (xs.map bkey) ≤ 4000000 := by
  rw [ents_en h]
  refine Nat.le_trans (hs fun b hb => ?_) (by omega)
  obtain ⟨i, hi, rfl⟩ := List.mem_iff_getElem.1 hb
  have h1 := okTo_at ho (i := i) (by rw [← h.len]; exact hi)
  rw [atK_key (List.getElem?_eq_getElem hi)] at h1
  have h2 := (okS_iff.1 h1).1
  have h3 := val_len h2
  have h4 := (valR_iff.1 h2).1.2.1
  have h5 := (h.2 _ hb).1.len
  omega
end Go.Proofs.Ytjapjfcennemeaa.rnk

/- How arguments that came in are opened: slices of entries, slices of blocks. No condition. -/
namespace Go.Proofs.Ytjapjfcennemeaa.opn
open Go.ChangeShapes Go.WideShapes Go.Deep Go.RowKit Go.Joins Go.Proofs.Ytjapjfcennemeaa.mem
section
variable {H : Type} {enc : TypeId × Value → H} {P : Program} {w : World} {base : Nat} {spare : Nat → Bool} {held : Bool}
theorem reads_of_get {size : Nat} (hs : 0 < size) {a : Addr} {len : Nat} {xs : List Value} (hl : xs.length = len * size) (h : ∀ i < len, ∀ j < size, w.cell? (a.add (i * size + j)) = xs[i * size + j]?) : Reads w w.heap.size size (some a) len xs := by
  refine ⟨hl, fun hn => ⟨a, rfl, ?_, fun j u hu => ?_⟩⟩
  · have h0 := h 0 hn 0 hs
    rw [List.getElem?_eq_getElem (by rw [hl]; have := Nat.mul_pos hn hs; omega)] at h0
    have := World.block_lt_of_cell? _ _ h0
    rwa [block_of_add] at this
  · have hj : j < len * size := by
      rcases Nat.lt_or_ge j (len * size) with h1 | h1
      · exact h1
      · rw [List.getElem?_eq_none (by omega)] at hu; cases hu
    have h1 := h (j / size) (Nat.div_lt_of_lt_mul (by rw [Nat.mul_comm]; exact hj)) (j % size) (Nat.mod_lt _ hs)
    rw [show j / size * size + j % size = j by rw [Nat.mul_comm]; exact Nat.div_add_mod j size] at h1
    rw [h1, hu]
theorem open_entries {t e : TypeId} {f0 f1 f2 : Field} {fuel : Nat} {cs : List Value} {x : DataW H × List MemPlace} (ht : P.underlying t = some (.slice e)) (he : P.underlying e = some (.struct #[f0, f1, f2]))
    (hone : oneCellFields P #[f0, f1, f2] = true) (hC : P.cellsOf e = 3) (h0 : P.underlying f0.type = some (.int .i64)) (h1 : P.underlying f1.type = some (.int .i64)) (h2 : P.underlying f2.type = some (.int .i64))
    (h : DataW.trod enc P w base spare held fuel t cs = some x) :
    ∃ (A : Option Addr) (n c : Nat) (xs : L3), cs = [.slice A n c] ∧ n ≤ c ∧ c ≤ maxLen ∧ ERead w w.heap.size A n xs := by
  rcases open_slice_fields ht he hone hC h with ⟨hcs, _⟩ | ⟨a, len, cap, m, D, Pl, hcs, hb, hl, hm, hmm, hx, hi⟩
  · exact ⟨none, 0, 0, [], hcs, Nat.le_refl _, Nat.zero_le _, .nil_⟩
  · have hlm : len ≤ m := by rw [hmm]; split <;> omega
    have key : ∀ i, ∃ p : Int × Int × Int, i < len → w.cell? (a.add (i * 3 + 0)) = some (.int .i64 p.1) ∧ w.cell? (a.add (i * 3 + 1)) = some (.int .i64 p.2.1) ∧ w.cell? (a.add (i * 3 + 2)) = some (.int .i64 p.2.2) := by
      intro i
      by_cases hil : i < len
      · obtain ⟨ys, n, _, _, _, hf⟩ := hi i (by omega)
        obtain ⟨v0, y0, hc0, _, ht0⟩ := hf 0 f0 rfl
        obtain ⟨v1, y1, hc1, _, ht1⟩ := hf 1 f1 rfl
        obtain ⟨v2, y2, hc2, _, ht2⟩ := hf 2 f2 rfl
        obtain ⟨z0, e0, _, _⟩ := DataW.trod_int h0 ht0
        obtain ⟨z1, e1, _, _⟩ := DataW.trod_int h1 ht1
        obtain ⟨z2, e2, _, _⟩ := DataW.trod_int h2 ht2
        simp only [List.cons.injEq, and_true] at e0 e1 e2
        subst e0 e1 e2
        exact ⟨(z0, z1, z2), fun _ => ⟨hc0, hc1, hc2⟩⟩
      · exact ⟨(0, 0, 0), fun h => absurd h hil⟩
    refine ⟨some a, len, cap, (List.range len).map (fun i => (key i).choose), hcs, hl, hm, reads_of_get (by omega) (by rw [tc_length]; simp) (fun i hil j hj => ?_)⟩
    obtain ⟨g0, g1, g2⟩ := tc_get ((List.range len).map (fun i => (key i).choose)) i (by simpa using hil)
    simp only [List.getElem_map, List.getElem_range] at g0 g1 g2
    obtain ⟨k0, k1, k2⟩ := (key i).choose_spec hil
    match j, hj with
    | 0, _ => rw [k0]; exact g0.symm
    | 1, _ => rw [k1, g1]
    | 2, _ => rw [k2, g2]
theorem open_blocks {t e te : TypeId} {f0 f1 f2 f3 q0 q1 g0 g1 g2 : Field} {fuel : Nat} {cs : List Value} {x : DataW H × List MemPlace} (ht : P.underlying t = some (.slice e)) (he : P.underlying e = some (.struct #[f0, f1, f2, f3]))
    (hC : P.cellsOf e = 5) (o0 : f0.offset = 0) (o1 : f1.offset = 1) (o2 : f2.offset = 2) (o3 : f3.offset = 3) (c0 : P.cellsOf f0.type = 1) (c1 : P.cellsOf f1.type = 1) (c2 : P.cellsOf f2.type = 1) (c3 : P.cellsOf f3.type = 2)
    (h0 : P.underlying f0.type = some (.int .i64)) (h1 : P.underlying f1.type = some (.int .i64)) (h2 : P.underlying f2.type = some (.int .i64)) (h3 : P.underlying f3.type = some (.struct #[q0, q1])) (p0 : q0.offset = 0) (p1 : q1.offset = 1) (d0 : P.cellsOf q0.type = 1) (d1 : P.cellsOf q1.type = 1)
    (r0 : P.underlying q0.type = some (.int .i64)) (r1 : P.underlying q1.type = some (.slice te)) (hte : P.underlying te = some (.struct #[g0, g1, g2])) (hone : oneCellFields P #[g0, g1, g2] = true) (hCe : P.cellsOf te = 3)
    (k0 : P.underlying g0.type = some (.int .i64)) (k1 : P.underlying g1.type = some (.int .i64)) (k2 : P.underlying g2.type = some (.int .i64))
    (h : DataW.trod enc P w base spare held fuel t cs = some x) :
    ∃ (A : Option Addr) (n c : Nat) (xs : List BlkM), cs = [.slice A n c] ∧ n ≤ c ∧ c ≤ maxLen ∧ BRead w w.heap.size A n xs := by
  rcases open_slice ht h with ⟨hcs, _⟩ | ⟨a, len, cap, m, n, D, Pl, hcs, hb, hl, hm, hmm, hx, hi⟩
  · exact ⟨none, 0, 0, [], hcs, Nat.le_refl _, Nat.zero_le _, Reads.none_, fun b hb => by cases hb⟩
  · have hlm : len ≤ m := by rw [hmm]; split <;> omega
    have key : ∀ i, ∃ b : BlkM, i < len → (w.cell? (a.add (i * 5 + 0)) = some (.int .i64 b.t) ∧ w.cell? (a.add (i * 5 + 1)) = some (.int .i64 b.last) ∧ w.cell? (a.add (i * 5 + 2)) = some (.int .i64 b.level) ∧ w.cell? (a.add (i * 5 + 3)) = some (.int .i64 b.num) ∧ w.cell? (a.add (i * 5 + 4)) = some (.slice b.adr b.en b.ec)) ∧ ERead w w.heap.size b.adr b.en b.es ∧ b.en ≤ b.ec ∧ b.ec ≤ maxLen := by
      intro i
      by_cases hil : i < len
      · obtain ⟨cs', hc, ht'⟩ := hi i (by omega)
        rw [hC] at hc
        obtain ⟨ys, n', _, _, hlen, hyl, hf⟩ := DataW.trod_struct he ht'
        obtain ⟨_, hcl, hat⟩ := World.cells?_some hc
        have hyl4 : ys.length = 4 := hyl
        have F0 := hf 0 f0 rfl
        have F1 := hf 1 f1 rfl
        have F2 := hf 2 f2 rfl
        have F3 := hf 3 f3 rfl
        rw [o0, c0, List.getElem?_eq_getElem (by omega)] at F0
        rw [o1, c1, List.getElem?_eq_getElem (by omega)] at F1
        rw [o2, c2, List.getElem?_eq_getElem (by omega)] at F2
        rw [o3, c3, List.getElem?_eq_getElem (by omega)] at F3
        match cs', hcl with
        | [u0, u1, u2, u3, u4], _ =>
          simp only [List.drop_zero, List.drop_succ_cons, List.take_succ_cons, List.take_zero] at F0 F1 F2 F3
          obtain ⟨z0, e0, _, _⟩ := DataW.trod_int h0 F0
          obtain ⟨z1, e1, _, _⟩ := DataW.trod_int h1 F1
          obtain ⟨z2, e2, _, _⟩ := DataW.trod_int h2 F2
          obtain ⟨y0, y1, m3, _, _, G0, G1⟩ := trod_struct2 h3 F3
          rw [p0, d0] at G0
          rw [p1, d1] at G1
          simp only [List.drop_zero, List.drop_succ_cons, List.take_succ_cons, List.take_zero] at G0 G1
          obtain ⟨z3, e3, _, _⟩ := DataW.trod_int r0 G0
          obtain ⟨A, en, ec, es, e4, l1, l2, l3⟩ := open_entries r1 hte hone hCe k0 k1 k2 G1
          simp only [List.cons.injEq, and_true] at e0 e1 e2 e3 e4
          subst e0 e1 e2 e3 e4
          have a0 := hat 0 (by omega)
          have a1 := hat 1 (by omega)
          have a2 := hat 2 (by omega)
          have a3 := hat 3 (by omega)
          have a4 := hat 4 (by omega)
          rw [Go.Deep.add_add] at a0 a1 a2 a3 a4
          exact ⟨⟨z0, z1, z2, z3, A, en, ec, es⟩, fun _ => ⟨⟨a0, a1, a2, a3, a4⟩, l3, l1, l2⟩⟩
      · exact ⟨⟨0, 0, 0, 0, none, 0, 0, []⟩, fun h => absurd h hil⟩
    refine ⟨some a, len, cap, (List.range len).map (fun i => (key i).choose), hcs, hl, hm, reads_of_get (by omega) (by rw [bc_length]; simp) (fun i hil j hj => ?_), fun b hb => ?_⟩
    · obtain ⟨b0, b1, b2, b3, b4⟩ := bc_get ((List.range len).map (fun i => (key i).choose)) i (by simpa using hil)
      simp only [List.getElem_map, List.getElem_range] at b0 b1 b2 b3 b4
      obtain ⟨⟨s0, s1, s2, s3, s4⟩, _⟩ := (key i).choose_spec hil
      match j, hj with
      | 0, _ => rw [s0]; exact b0.symm
      | 1, _ => rw [s1, b1]
      | 2, _ => rw [s2, b2]
      | 3, _ => rw [s3, b3]
      | 4, _ => rw [s4, b4]
    · simp only [List.mem_map, List.mem_range] at hb
      obtain ⟨i, hil, rfl⟩ := hb
      exact ((key i).choose_spec hil).2
end
end Go.Proofs.Ytjapjfcennemeaa.opn
