/- RHlp, BOwn, RFor: proved here in one text, no conditions beyond those that each theorem states. -/
import Derived.LoopN
import Derived.Test.YtjapjfcennemeaaGreatZ23
import Derived.Test.YtjapjfcennemeaaGreatZ22
import Derived.Test.YtjapjfcennemeaaGreatZ19
import Derived.Test.YtjapjfcennemeaaGreatZ25
import Derived.Test.YtjapjfcennemeaaGreatZ6
import Derived.Test.YtjapjfcennemeaaGreatZ8
import Derived.Test.YtjapjfcennemeaaGreatZ11
set_option linter.unusedVariables false
set_option linter.unusedSimpArgs false
section
namespace Go.Proofs.YtjapjfcennemeaaGreat.rnk
open Go.RowKit Go.Proofs.YtjapjfcennemeaaGreat.mem Go.Proofs.YtjapjfcennemeaaGreat.gro
set_option linter.unusedVariables false
set_option linter.unusedSimpArgs false
set_option pp.maxSteps 200000
theorem mrgP_f {a b : Int} {x y : L3} (h : mrgOk a x b y = false) : mrgP a x b y = (0, []) := by unfold mrgP; rw [if_neg (by rw [h]; exact Bool.false_ne_true)]
theorem mrgP_t {a b : Int} {x y : L3} (h1 : valR a x = true) (h2 : valR b y = true) (h3 : a + b ≤ 1099511627776) : mrgP a x b y = (a + b, mergeL x y a b) := by unfold mrgP; rw [if_pos (by unfold mrgOk; rw [h1, h2]; simpa using h3)]
theorem mrgE_f {a b : Int} {x y : L3} (h : ¬ (valR a x = true ∧ valR b y = true)) : mrgE a x b y = 2 := by unfold mrgE; rw [if_neg h]
theorem mrgE_t {a b : Int} {x y : L3} (h1 : valR a x = true) (h2 : valR b y = true) : mrgE a x b y = if a + b ≤ 1099511627776 then 0 else 5 := by unfold mrgE; rw [if_pos ⟨h1, h2⟩]
theorem newRE_nil {w W : World} {g : Nat} (er : Int) (BB : Below w.heap.size w W) (hg : w.heap.size ≤ g) (x y : Value) : NewRE (0, []) er w (.returned (.tuple #[.agg #[.int .i64 0, .slice none 0 0], .int .i64 er])) ((W.setCell ⟨g, 0, none⟩ x).setCell ⟨g, 1, none⟩ y) :=
  ⟨none, 0, 0, rfl, Nat.le_refl _, Nat.zero_le _, ERead.nil_, (BB.setCell (p := ⟨g, 0, none⟩) hg _).setCell (p := ⟨g, 1, none⟩) hg _⟩
def NewREF (p : Int × L3) (er : Int) (w : World) (e : Ending) (w' : World) : Prop :=
  ∃ A m c, e = .returned (.tuple #[.agg #[.int .i64 p.1, .slice A m c], .int .i64 er]) ∧ m ≤ c ∧ c ≤ maxLen ∧ ERead w' w'.heap.size A m p.2 ∧ Below w.heap.size w w' ∧ ∀ ad, A = some ad → w.heap.size ≤ ad.block
theorem newREF_nil {w W : World} {g : Nat} (er : Int) (BB : Below w.heap.size w W) (hg : w.heap.size ≤ g) (x y : Value) : NewREF (0, []) er w (.returned (.tuple #[.agg #[.int .i64 0, .slice none 0 0], .int .i64 er])) ((W.setCell ⟨g, 0, none⟩ x).setCell ⟨g, 1, none⟩ y) :=
  ⟨none, 0, 0, rfl, Nat.le_refl _, Nat.zero_le _, ERead.nil_, (BB.setCell (p := ⟨g, 0, none⟩) hg _).setCell (p := ⟨g, 1, none⟩) hg _, fun _ h => by cases h⟩
theorem bnds_of_val {N : Int} {es : L3} {n : Nat} (hl : es.length = n) (h : valR N es = true) : ∀ i < n, (0 ≤ (at3 es i).2.1 ∧ (at3 es i).2.1 ≤ 1099511627776) ∧ 0 ≤ (at3 es i).2.2 ∧ (at3 es i).2.2 ≤ 1099511627776 := fun i hi => by
  obtain ⟨⟨_, h1, _⟩, h2, _⟩ := valR_iff.1 h
  have := (h2 i (by omega)).1
  omega
theorem step_x {x y : L3} {a b : Int} {i j n1 n2 : Nat} {o R : L3} (hl : x.length = n1) (hi : i < n1) (hj : j ≤ n2) (h : takeX x y i j) (HE : o ++ mrg x y a b (n1 - i + (n2 - j)) i j = R) : (o ++ [btw (at3 x i) y j b]) ++ mrg x y a b (n1 - (i + 1) + (n2 - j)) (i + 1) j = R := by
  rw [show n1 - i + (n2 - j) = (n1 - (i + 1) + (n2 - j)) + 1 by omega, mrg_x h] at HE
  rw [← HE]; simp
theorem step_y {x y : L3} {a b : Int} {i j n1 n2 : Nat} {o R : L3} (hl : y.length = n2) (hi : i ≤ n1) (hj : j < n2) (h : ¬ takeX x y i j) (HE : o ++ mrg x y a b (n1 - i + (n2 - j)) i j = R) : (o ++ [btw (at3 y j) x i a]) ++ mrg x y a b (n1 - i + (n2 - (j + 1))) i (j + 1) = R := by
  rw [show n1 - i + (n2 - j) = (n1 - i + (n2 - (j + 1))) + 1 by omega, mrg_y h] at HE
  rw [← HE]; simp
theorem not_take {x y : L3} {i j n2 : Nat} (hl : y.length = n2) (hj : j < n2) (h : ¬ (at3 x i).1 ≤ (at3 y j).1) : ¬ takeX x y i j := fun h2 => by
  unfold takeX at h2
  rcases h2 with h2 | h2
  · omega
  · exact h h2.2
theorem not_take2 {x y : L3} {i j n2 : Nat} (hl : y.length = n2) (hj : j < n2) (h : x.length = i) : ¬ takeX x y i j := fun h2 => by
  unfold takeX at h2
  omega
theorem tc_one (e : Int × Int × Int) : tc [e] = [.int .i64 e.1, .int .i64 e.2.1, .int .i64 e.2.2] := rfl
def SC (L : List (Nat × TypeId × Array Value)) (p1 p2 p3 : Addr) (v1 v2 v3 : Value) : World → Prop := fun w' => Bx w' L ∧ w'.cell? p1 = some v1 ∧ w'.cell? p2 = some v2 ∧ w'.cell? p3 = some v3
theorem lasts_sc (L : List (Nat × TypeId × Array Value)) (p1 p2 p3 : Addr) (v1 v2 v3 : Value) : Lasts (SC L p1 p2 p3 v1 v2 v3) := fun w w' h hb => ⟨h.1.below hb, (hb.cell (World.block_lt_of_cell? w p1 h.2.1)).trans h.2.1, (hb.cell (World.block_lt_of_cell? w p2 h.2.2.1)).trans h.2.2.1, (hb.cell (World.block_lt_of_cell? w p3 h.2.2.2)).trans h.2.2.2⟩
end Go.Proofs.YtjapjfcennemeaaGreat.rnk
end
section
set_option linter.unusedSimpArgs false
namespace Go.Proofs.YtjapjfcennemeaaGreat.blk
open Go.RowKit Go.Proofs.YtjapjfcennemeaaGreat.mem Go.Proofs.YtjapjfcennemeaaGreat.rnk Go.Proofs.YtjapjfcennemeaaGreat.gro Go.Proofs.YtjapjfcennemeaaGreat.buk
set_option linter.unusedVariables false
theorem bc_set (ys : List BlkM) (i : Nat) (b : BlkM) : (((((bc ys).set (i * 5) (.int .i64 b.t)).set (i * 5 + 1) (.int .i64 b.last)).set (i * 5 + 2) (.int .i64 b.level)).set (i * 5 + 3) (.int .i64 b.num)).set (i * 5 + 4) (.slice b.adr b.en b.ec) = bc (ys.set i b) := by
  induction ys generalizing i with
  | nil => simp [bc]
  | cons q ys ih =>
    cases i with
    | zero => simp [bc_cons]
    | succ i =>
      rw [bc_cons, show (i + 1) * 5 = i * 5 + 1 + 1 + 1 + 1 + 1 by omega]
      simp only [List.set_cons_succ, Nat.add_right_comm _ 1 _]
      rw [bc_cons]
      simp only [← ih i]
section
variable {w w' W : World} {base : Nat} {e : TypeId} {n c g : Nat} {ys : List BlkM}
theorem own_store5 (h : w.ownsRow base e 5 (.slice (some ⟨g, 0, none⟩) n c) n (bc ys)) (i : Nat) (b : BlkM) :
    (((((w.setCell ⟨g, i * 5, none⟩ (.int .i64 b.t)).setCell ⟨g, i * 5 + 1, none⟩ (.int .i64 b.last)).setCell ⟨g, i * 5 + 2, none⟩ (.int .i64 b.level)).setCell ⟨g, i * 5 + 3, none⟩ (.int .i64 b.num)).setCell ⟨g, i * 5 + 4, none⟩ (.slice b.adr b.en b.ec)).ownsRow base e 5 (.slice (some ⟨g, 0, none⟩) n c) n (bc (ys.set i b)) := by
  have := (((((h.stored (i * 5) (.int .i64 b.t)).1.stored (i * 5 + 1) (.int .i64 b.last)).1.stored (i * 5 + 2) (.int .i64 b.level)).1.stored (i * 5 + 3) (.int .i64 b.num)).1.stored (i * 5 + 4) (.slice b.adr b.en b.ec)).1
  rw [bc_set ys i b] at this
  exact this
theorem own_blk (h : w.ownsRow base e 5 (.slice (some ⟨g, 0, none⟩) n c) n (bc ys)) {i : Nat} (hi : i < n) :
    ∃ b, ys[i]? = some b ∧ w.cell? ⟨g, i * 5, none⟩ = some (.int .i64 b.t) ∧ w.cell? ⟨g, i * 5 + 1, none⟩ = some (.int .i64 b.last) ∧ w.cell? ⟨g, i * 5 + 2, none⟩ = some (.int .i64 b.level) ∧ w.cell? ⟨g, i * 5 + 3, none⟩ = some (.int .i64 b.num) ∧ w.cell? ⟨g, i * 5 + 4, none⟩ = some (.slice b.adr b.en b.ec) := by
  have hl : ys.length = n := by have := h.1; rw [bc_length] at this; omega
  obtain ⟨h1, h2, h3, h4, h5⟩ := bc_get ys i (by omega)
  refine ⟨ys[i], List.getElem?_eq_getElem _, ?_⟩
  rw [h.cellAt _ (by omega), h.cellAt _ (by omega), h.cellAt _ (by omega), h.cellAt _ (by omega), h.cellAt _ (by omega), h1, h2, h3, h4, h5]
  exact ⟨rfl, rfl, rfl, rfl, rfl⟩
theorem Reads.appG {W w1 : World} {size n : Nat} {A : Option Addr} {xs : List Value} {row : Option Nat} (h : Reads W W.heap.size size A n xs) (hg : W.grownBy w1 row) (hd : 0 < n → ∀ ad, A = some ad → some ad.block ≠ row) : Reads w1 w1.heap.size size A n xs := by
  obtain ⟨h1, h2⟩ := h
  refine ⟨h1, fun hn => ?_⟩
  obtain ⟨ad, e, hb, hc⟩ := h2 hn
  refine ⟨ad, e, Nat.lt_of_lt_of_le hb hg.size, fun j v hv => ?_⟩
  rw [← hc j v hv]
  exact World.cell?_of_block (by rw [block_of_add]; exact hg.block _ hb (hd hn ad e))
def Ents (W : World) (g : Nat) (ys : List BlkM) : Prop := ∀ y ∈ ys, ERead W W.heap.size y.adr y.en y.es ∧ y.en ≤ y.ec ∧ y.ec ≤ maxLen ∧ (0 < y.en → ∀ ad, y.adr = some ad → ad.block ≠ g)
theorem Ents.below (h : Ents W g ys) (hb : Below W.heap.size W w') : Ents w' g ys := fun y hy => by
  obtain ⟨h1, h2, h3, h4⟩ := h y hy
  exact ⟨(ERead.below h1 hb).more hb.size, h2, h3, h4⟩
theorem Ents.set (h : Ents W g ys) (i : Nat) (u : Value) : Ents (W.setCell ⟨g, i, none⟩ u) g ys := fun y hy => by
  obtain ⟨h1, h2, h3, h4⟩ := h y hy
  exact ⟨Reads.more (rnk.Reads.far h1 _ h4 _) (by simp [World.setCell]), h2, h3, h4⟩
theorem Ents.grown {g' : Nat} (h : Ents W g ys) (hg : W.grownBy w' (some g)) (h2 : g' = g ∨ g' = W.heap.size) : Ents w' g' ys := fun y hy => by
  obtain ⟨a1, a2, a3, a4⟩ := h y hy
  refine ⟨?_, a2, a3, fun hn ad e => ?_⟩
  · obtain ⟨b1, b2⟩ := a1
    refine ⟨b1, fun hn => ?_⟩
    obtain ⟨ad, e, hb, hc⟩ := b2 hn
    refine ⟨ad, e, Nat.lt_of_lt_of_le hb hg.size, fun j v hv => ?_⟩
    rw [← hc j v hv]
    exact World.cell?_of_block (by rw [block_of_add]; exact hg.block _ hb (fun e2 => a4 hn ad e (by injection e2)))
  · have h5 := a4 hn ad e
    have h6 := rnk.Reads.blk a1 hn ad e
    rcases h2 with h2 | h2 <;> omega
theorem Ents.put {b : BlkM} {i : Nat} (h : Ents W g ys) (hb : ERead W W.heap.size b.adr b.en b.es ∧ b.en ≤ b.ec ∧ b.ec ≤ maxLen ∧ (0 < b.en → ∀ ad, b.adr = some ad → ad.block ≠ g)) : Ents W g (ys.set i b) := fun y hy => by
  rcases List.mem_or_eq_of_mem_set hy with hy | rfl
  · exact h y hy
  · exact hb
theorem own_lt (h : w.ownsRow base e 5 (.slice (some ⟨g, 0, none⟩) n c) n (bc ys)) : g < w.heap.size := (World.ownsRow.lt h g rfl).2
theorem own_cells (h : w.ownsRow base e 5 (.slice (some ⟨g, 0, none⟩) n c) n (bc ys)) {i : Nat} (hi : i < n) :
    ∃ b, ys[i]? = some b ∧ Hid (∀ W, Below w.heap.size w W → W.cell? ⟨g, i * 5, none⟩ = some (.int .i64 b.t) ∧ W.cell? ⟨g, i * 5 + 1, none⟩ = some (.int .i64 b.last) ∧ W.cell? ⟨g, i * 5 + 2, none⟩ = some (.int .i64 b.level) ∧ W.cell? ⟨g, i * 5 + 3, none⟩ = some (.int .i64 b.num) ∧ W.cell? ⟨g, i * 5 + 4, none⟩ = some (.slice b.adr b.en b.ec)) := by
  obtain ⟨b, hb, h1, h2, h3, h4, h5⟩ := own_blk h hi
  have hl := own_lt h
  exact ⟨b, hb, fun W hW => ⟨(hW.cell hl).trans h1, (hW.cell hl).trans h2, (hW.cell hl).trans h3, (hW.cell hl).trans h4, (hW.cell hl).trans h5⟩⟩
theorem Ents.mem {zs : List BlkM} (h : Ents W g ys) (hz : ∀ z ∈ zs, z ∈ ys) : Ents W g zs := fun z hz' => h z (hz z hz')
theorem Ents.cons {b : BlkM} (h : Ents W g ys) (hb : ERead W W.heap.size b.adr b.en b.es ∧ b.en ≤ b.ec ∧ b.ec ≤ maxLen ∧ (0 < b.en → ∀ ad, b.adr = some ad → ad.block ≠ g)) : Ents W g (b :: ys) := fun y hy => by
  rcases List.mem_cons.1 hy with rfl | hy
  · exact hb
  · exact h y hy
theorem bc_take (xs : List BlkM) (k : Nat) : bc (xs.take k) = (bc xs).take (k * 5) := by
  induction xs generalizing k with
  | nil => simp [bc]
  | cons p xs ih =>
    cases k with
    | zero => simp [bc]
    | succ k => rw [List.take_succ_cons, bc_cons, ih, bc_cons, show (k + 1) * 5 = k * 5 + 1 + 1 + 1 + 1 + 1 by omega, List.take_succ_cons, List.take_succ_cons, List.take_succ_cons, List.take_succ_cons, List.take_succ_cons]
theorem Bx.put5 {L : List (Nat × TypeId × Array Value)} {t : TypeId} {x0 x1 x2 x3 x4 u0 u1 u2 u3 u4 : Value} (h : Bx W ((g, t, #[x0, x1, x2, x3, x4]) :: L)) (hd : ∀ q ∈ L, q.1 ≠ g) :
    Bx (((((W.setCell ⟨g, 0, none⟩ u0).setCell ⟨g, 1, none⟩ u1).setCell ⟨g, 2, none⟩ u2).setCell ⟨g, 3, none⟩ u3).setCell ⟨g, 4, none⟩ u4) ((g, t, #[u0, u1, u2, u3, u4]) :: L) := by
  have := ((((h.puti hd 0 u0).puti hd 1 u1).puti hd 2 u2).puti hd 3 u3).puti hd 4 u4
  simpa using this
end
def joinM (ys : List BlkM) (s : Nat) (b : BlkM) : List BlkM := ys.take s ++ b :: ys.drop (s + 2)
theorem joinM_eq {ys : List BlkM} {s : Nat} {b : BlkM} (h : s < ys.length) : (ys.set s b).take (s + 1) ++ (ys.set s b).drop (s + 2) = joinM ys s b := by
  rw [List.take_set, List.drop_set_of_lt (by omega), List.take_succ_eq_append_getElem h, List.set_append_right _ _ (by rw [List.length_take]; omega)]
  have : s - (ys.take s).length = 0 := by rw [List.length_take]; omega
  rw [this, joinM]
  simp
theorem joinM_len {ys : List BlkM} {s : Nat} {b : BlkM} (h : s + 1 < ys.length) : (joinM ys s b).length = ys.length - 1 := by
  simp [joinM]; omega
theorem joinM_key {bb : Int} {ys : List BlkM} {s : Nat} {l : Int} {b x y : BlkM} (hx : ys[s]? = some x) (hy : ys[s + 1]? = some y) (hb : bkey b = (y.t, y.last, l + 1, (twoR bb (bkey x) (bkey y)).1, (twoR bb (bkey x) (bkey y)).2)) : (joinM ys s b).map bkey = joinK bb (ys.map bkey) s l := by
  have e1 : atK (ys.map bkey) s = bkey x := by unfold atK; rw [List.getElem?_map, hx]; rfl
  have e2 : atK (ys.map bkey) (s + 1) = bkey y := by unfold atK; rw [List.getElem?_map, hy]; rfl
  unfold joinM joinK bothK
  rw [e1, e2]
  simp only [List.map_append, List.map_take, List.map_cons, List.map_drop, hb]
  rfl
theorem ents_le : ∀ {ys : List BlkM} {y : BlkM}, y ∈ ys → y.es.length ≤ entsK (ys.map bkey)
  | x :: ys, y, h => by
    have e : entsK ((x :: ys).map bkey) = x.es.length + entsK (ys.map bkey) := by simp [entsK, bkey]
    rcases List.mem_cons.1 h with rfl | h
    · omega
    · have := ents_le h; omega
end Go.Proofs.YtjapjfcennemeaaGreat.blk
end
section
namespace Go.Proofs.YtjapjfcennemeaaGreat.rnk
open Go.RowKit Go.Proofs.YtjapjfcennemeaaGreat.mem Go.Proofs.YtjapjfcennemeaaGreat.gro
set_option linter.unusedVariables false
set_option linter.unusedSimpArgs false
set_option pp.maxSteps 200000
theorem forTo_yes {es : L3} {r : Int} {i q : Nat} (h : forTo es r i = q) (h2 : far (at3 es i) r < far (at3 es q) r) : forTo es r (i + 1) = i := by unfold forTo; rw [h, if_pos h2]
theorem forTo_no {es : L3} {r : Int} {i q : Nat} (h : forTo es r i = q) (h2 : ¬ far (at3 es i) r < far (at3 es q) r) : forTo es r (i + 1) = q := by unfold forTo; rw [h, if_neg h2]
theorem far_if (e : Int × Int × Int) (n : Int) : far e n = max (n - e.2.1) (e.2.2 - n) := rfl
set_option maxHeartbeats 8000000 in
set_option maxRecDepth 100000 in
theorem For_any (A : Option Addr) (n c : Nat) (es : L3) (r : Int) (w : World) (h1 : ERead w w.heap.size A n es) (hs : n ≤ 16777216) (hr : 0 ≤ r ∧ r ≤ 1099511627776) (hb : ∀ i < n, (0 ≤ (at3 es i).2.1 ∧ (at3 es i).2.1 ≤ 1099511627776) ∧ 0 ≤ (at3 es i).2.2 ∧ (at3 es i).2.2 ≤ 1099511627776) : Calls Tryz.prog 92 #[.slice A n c, .int .i64 r] w fun e w' => e = .returned (.int .i64 (forN es r)) ∧ Below w.heap.size w w' := by
  have H1 := Lib.hid h1
  have HL := Lib.hid h1.len
  have HBd := Lib.hid hb
  clear h1 hb
  go_enter Tryz.func92, Tryz.ntmps92
  go_wp2_with fail
  go_loopg [5, 10] n (fun kx s5 s10 wr => ∃ (i q : Nat), s5 = .int .i64 q ∧ s10 = .int .i64 i ∧ i ≤ n ∧ n - i ≤ kx ∧ (0 < n → q < n) ∧ Hid (forTo es r i = q) ∧ Hid (Below w.heap.size w wr))
  case atStart => exact ⟨0, 0, rfl, rfl, Nat.zero_le _, by omega, id, rfl, Below.refl _ _⟩
  case round =>
    obtain ⟨i, q, rfl, rfl, hi, hik, hq, HF, BB⟩ := hrel
    by_cases hlt : i < n
    case neg =>
      obtain rfl : i = n := by omega
      go_wp2
      go_ret
      exact ⟨ret_int (by rw [show forN es r = q by unfold forN; rw [HL.out]; exact HF.out]), BB.out⟩
    have hqn := hq (by omega)
    obtain ⟨ad, rfl, hbl, HC⟩ := ERead.cells H1.out hlt
    obtain ⟨ad', e, _, HD⟩ := ERead.cells H1.out hqn
    injection e with e
    subst e
    have b1 := HBd.out i hlt
    have b2 := HBd.out q hqn
    have HY := Lib.hid (fun h => forTo_yes (es := es) (r := r) HF.out h)
    have HN := Lib.hid (fun h => forTo_no (es := es) (r := r) HF.out h)
    rw [far_if, far_if] at HY HN
    clear hq HF
    obtain ⟨gi, hgi⟩ : ∃ s, wr.heap.size = s := ⟨_, rfl⟩
    generalize (at3 es i).1 = v0 at *
    generalize (at3 es i).2.1 = m0 at *
    generalize (at3 es i).2.2 = x0 at *
    generalize (at3 es q).1 = v1 at *
    generalize (at3 es q).2.1 = m1 at *
    generalize (at3 es q).2.2 = x1 at *
    have s1 : IntKind.i64.wrap (r - m0) = r - m0 := IntWalk.i64_in _ (by omega)
    have s2 : IntKind.i64.wrap (x0 - r) = x0 - r := IntWalk.i64_in _ (by omega)
    have s3 : IntKind.i64.wrap (r - m1) = r - m1 := IntWalk.i64_in _ (by omega)
    have s4 : IntKind.i64.wrap (x1 - r) = x1 - r := IntWalk.i64_in _ (by omega)
    have BZ := Lib.hid (BB.out.alloc BB.out.size (.cells #[Value.int IntKind.i64 v0, Value.int IntKind.i64 m0, Value.int IntKind.i64 x0] 79))
    have KZ := Lib.hid ((Bx.nil_ (W := wr)).new (t := 79) (c := #[Value.int IntKind.i64 v0, Value.int IntKind.i64 m0, Value.int IntKind.i64 x0]) hgi)
    obtain ⟨g1, g2, g3⟩ := HC.out _ BB.out
    go_wp2_with fail
    obtain ⟨W3, hW, K3, B3, z3⟩ := name_world KZ.out BZ.out (s := gi + 1) (by simp; omega)
    rw [hW]
    clear hW KZ BZ g1 g2 g3
    have BB := Lib.hid B3
    have R := K3.rules
    simp only [Rules] at R
    obtain ⟨g1, g2, g3⟩ := HC.out _ BB.out
    obtain ⟨k1, k2, k3⟩ := HD.out _ BB.out
    clear K3 B3
    (refine gro.wp_region_grown (by kernel_rfl) (by kernel_rfl) ?_; (repeat (go_big_quiet_step ((fail)))); refine wpQuiet_nil ?_; intro _ hw'; obtain ⟨nx, hw''⟩ := hw'; subst hw'')
    replace BB := Lib.hid (BB.out.trans ((below_grown _ nx).mono BB.out.size))
    clear R g1 g2 g3 k1 k2 k3
    generalize grown _ nx = W7 at *
    by_cases hc : max (r - m0) (x0 - r) < max (r - m1) (x1 - r)
    · have HX := Lib.hid (HY.out (by omega))
      clear HY HN
      go_wp2
      all_goals (try (exfalso; omega))
      all_goals (go_roundg (n - (i + 1)); (case measure => omega); (case rel => exact ⟨i + 1, i, rfl, by go_num, by omega, by omega, fun _ => hlt, HX.out, BB⟩))
    · have HX := Lib.hid (HN.out (by omega))
      clear HY HN
      go_wp2
      all_goals (try (exfalso; omega))
      all_goals (go_roundg (n - (i + 1)); (case measure => omega); (case rel => exact ⟨i + 1, q, rfl, by go_num, by omega, by omega, fun _ => hqn, HX.out, BB⟩))
end Go.Proofs.YtjapjfcennemeaaGreat.rnk
end
