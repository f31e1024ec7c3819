/- Rows of blocks of the call's own, with entries elsewhere. -/
import Derived.Test.YtjapjfcennemeaaBVal
import Derived.Test.YtjapjfcennemeaaMgExpire
import Derived.Test.YtjapjfcennemeaaMgBox3
import Derived.Test.YtjapjfcennemeaaMgRMrg
set_option linter.unusedSimpArgs false
namespace Go.Proofs.Ytjapjfcennemeaa.blk
open Go.RowKit Go.Proofs.Ytjapjfcennemeaa.mem Go.Proofs.Ytjapjfcennemeaa.rnk Go.Proofs.Ytjapjfcennemeaa.gro Go.Proofs.Ytjapjfcennemeaa.buk
set_option linter.unusedVariables false
def blkCells (b : BlkM) : Array Value := #[.int .i64 b.t, .int .i64 b.last, .int .i64 b.level, .int .i64 b.num, .slice b.adr b.en b.ec]
theorem bc_set (ys : List BlkM) (i : Nat) (b : BlkM) : (((((bc ys).set (i * 5) (.int .i64 b.t)).set (i * 5 + 1) (.int .i64 b.last)).set (i * 5 + 2) (.int .i64 b.level)).set (i * 5 + 3) (.int .i64 b.num)).set (i * 5 + 4) (.slice b.adr b.en b.ec) = bc (ys.set i b) := by
  induction ys generalizing i with
  | nil => simp [bc]
  | cons q ys ih =>
    cases i with
    | zero => simp [bc_cons]
    | succ i =>
      rw [bc_cons, show (i + 1) * 5 = i * 5 + 1 + 1 + 1 + 1 + 1 by omega]
      simp only [List.set_cons_succ, Nat.add_right_comm _ 1 _]
      rw [bc_cons]
      simp only [← ih i]
section
variable {w w' W : World} {base : Nat} {e : TypeId} {n c g : Nat} {ys : List BlkM}
theorem own_store5 (h : w.ownsRow base e 5 (.slice (some ⟨g, 0, none⟩) n c) n (bc ys)) (i : Nat) (b : BlkM) :
    (((((w.setCell ⟨g, i * 5, none⟩ (.int .i64 b.t)).setCell ⟨g, i * 5 + 1, none⟩ (.int .i64 b.last)).setCell ⟨g, i * 5 + 2, none⟩ (.int .i64 b.level)).setCell ⟨g, i * 5 + 3, none⟩ (.int .i64 b.num)).setCell ⟨g, i * 5 + 4, none⟩ (.slice b.adr b.en b.ec)).ownsRow base e 5 (.slice (some ⟨g, 0, none⟩) n c) n (bc (ys.set i b)) := by
  have := (((((h.stored (i * 5) (.int .i64 b.t)).1.stored (i * 5 + 1) (.int .i64 b.last)).1.stored (i * 5 + 2) (.int .i64 b.level)).1.stored (i * 5 + 3) (.int .i64 b.num)).1.stored (i * 5 + 4) (.slice b.adr b.en b.ec)).1
  rw [bc_set ys i b] at this
  exact this
theorem own_blk (h : w.ownsRow base e 5 (.slice (some ⟨g, 0, none⟩) n c) n (bc ys)) {i : Nat} (hi : i < n) :
    ∃ b, ys[i]? = some b ∧ w.cell? ⟨g, i * 5, none⟩ = some (.int .i64 b.t) ∧ w.cell? ⟨g, i * 5 + 1, none⟩ = some (.int .i64 b.last) ∧ w.cell? ⟨g, i * 5 + 2, none⟩ = some (.int .i64 b.level) ∧ w.cell? ⟨g, i * 5 + 3, none⟩ = some (.int .i64 b.num) ∧ w.cell? ⟨g, i * 5 + 4, none⟩ = some (.slice b.adr b.en b.ec) := by
  have hl : ys.length = n := by have := h.1; rw [bc_length] at this; omega
  obtain ⟨h1, h2, h3, h4, h5⟩ := bc_get ys i (by omega)
  refine ⟨ys[i], List.getElem?_eq_getElem _, ?_⟩
  rw [h.cellAt _ (by omega), h.cellAt _ (by omega), h.cellAt _ (by omega), h.cellAt _ (by omega), h.cellAt _ (by omega), h1, h2, h3, h4, h5]
  exact ⟨rfl, rfl, rfl, rfl, rfl⟩
theorem Reads.appG {W w1 : World} {size n : Nat} {A : Option Addr} {xs : List Value} {row : Option Nat} (h : Reads W W.heap.size size A n xs) (hg : W.grownBy w1 row) (hd : 0 < n → ∀ ad, A = some ad → some ad.block ≠ row) : Reads w1 w1.heap.size size A n xs := by
  obtain ⟨h1, h2⟩ := h
  refine ⟨h1, fun hn => ?_⟩
  obtain ⟨ad, e, hb, hc⟩ := h2 hn
  refine ⟨ad, e, Nat.lt_of_lt_of_le hb hg.size, fun j v hv => ?_⟩
  rw [← hc j v hv]
  exact World.cell?_of_block (by rw [block_of_add]; exact hg.block _ hb (hd hn ad e))
/-- The entries of all blocks lie outside of block g. -/
def Ents (W : World) (g : Nat) (ys : List BlkM) : Prop := ∀ y ∈ ys, ERead W W.heap.size y.adr y.en y.es ∧ y.en ≤ y.ec ∧ y.ec ≤ maxLen ∧ (0 < y.en → ∀ ad, y.adr = some ad → ad.block ≠ g)
theorem Ents.below (h : Ents W g ys) (hb : Below W.heap.size W w') : Ents w' g ys := fun y hy => by
  obtain ⟨h1, h2, h3, h4⟩ := h y hy
  exact ⟨(ERead.below h1 hb).more hb.size, h2, h3, h4⟩
theorem Ents.set (h : Ents W g ys) (i : Nat) (u : Value) : Ents (W.setCell ⟨g, i, none⟩ u) g ys := fun y hy => by
  obtain ⟨h1, h2, h3, h4⟩ := h y hy
  exact ⟨Reads.more (rnk.Reads.far h1 _ h4 _) (by simp [World.setCell]), h2, h3, h4⟩
theorem Ents.grown {g' : Nat} (h : Ents W g ys) (hg : W.grownBy w' (some g)) (h2 : g' = g ∨ g' = W.heap.size) : Ents w' g' ys := fun y hy => by
  obtain ⟨a1, a2, a3, a4⟩ := h y hy
  refine ⟨?_, a2, a3, fun hn ad e => ?_⟩
  · obtain ⟨b1, b2⟩ := a1
    refine ⟨b1, fun hn => ?_⟩
    obtain ⟨ad, e, hb, hc⟩ := b2 hn
    refine ⟨ad, e, Nat.lt_of_lt_of_le hb hg.size, fun j v hv => ?_⟩
    rw [← hc j v hv]
    exact World.cell?_of_block (by rw [block_of_add]; exact hg.block _ hb (fun e2 => a4 hn ad e (by injection e2)))
  · have h5 := a4 hn ad e
    have h6 := rnk.Reads.blk a1 hn ad e
    rcases h2 with h2 | h2 <;> omega
theorem Ents.put {b : BlkM} {i : Nat} (h : Ents W g ys) (hb : ERead W W.heap.size b.adr b.en b.es ∧ b.en ≤ b.ec ∧ b.ec ≤ maxLen ∧ (0 < b.en → ∀ ad, b.adr = some ad → ad.block ≠ g)) : Ents W g (ys.set i b) := fun y hy => by
  rcases List.mem_or_eq_of_mem_set hy with hy | rfl
  · exact h y hy
  · exact hb
theorem own_lt (h : w.ownsRow base e 5 (.slice (some ⟨g, 0, none⟩) n c) n (bc ys)) : g < w.heap.size := (World.ownsRow.lt h g rfl).2
/-- The cells of a block of an own row, in all worlds that only grew. -/
theorem own_cells (h : w.ownsRow base e 5 (.slice (some ⟨g, 0, none⟩) n c) n (bc ys)) {i : Nat} (hi : i < n) :
    ∃ b, ys[i]? = some b ∧ Hid (∀ W, Below w.heap.size w W → W.cell? ⟨g, i * 5, none⟩ = some (.int .i64 b.t) ∧ W.cell? ⟨g, i * 5 + 1, none⟩ = some (.int .i64 b.last) ∧ W.cell? ⟨g, i * 5 + 2, none⟩ = some (.int .i64 b.level) ∧ W.cell? ⟨g, i * 5 + 3, none⟩ = some (.int .i64 b.num) ∧ W.cell? ⟨g, i * 5 + 4, none⟩ = some (.slice b.adr b.en b.ec)) := by
  obtain ⟨b, hb, h1, h2, h3, h4, h5⟩ := own_blk h hi
  have hl := own_lt h
  exact ⟨b, hb, fun W hW => ⟨(hW.cell hl).trans h1, (hW.cell hl).trans h2, (hW.cell hl).trans h3, (hW.cell hl).trans h4, (hW.cell hl).trans h5⟩⟩
theorem Ents.mem {zs : List BlkM} (h : Ents W g ys) (hz : ∀ z ∈ zs, z ∈ ys) : Ents W g zs := fun z hz' => h z (hz z hz')
theorem Ents.cons {b : BlkM} (h : Ents W g ys) (hb : ERead W W.heap.size b.adr b.en b.es ∧ b.en ≤ b.ec ∧ b.ec ≤ maxLen ∧ (0 < b.en → ∀ ad, b.adr = some ad → ad.block ≠ g)) : Ents W g (b :: ys) := fun y hy => by
  rcases List.mem_cons.1 hy with rfl | hy
  · exact hb
  · exact h y hy
theorem bc_take (xs : List BlkM) (k : Nat) : bc (xs.take k) = (bc xs).take (k * 5) := by
  induction xs generalizing k with
  | nil => simp [bc]
  | cons p xs ih =>
    cases k with
    | zero => simp [bc]
    | succ k => rw [List.take_succ_cons, bc_cons, ih, bc_cons, show (k + 1) * 5 = k * 5 + 1 + 1 + 1 + 1 + 1 by omega, List.take_succ_cons, List.take_succ_cons, List.take_succ_cons, List.take_succ_cons, List.take_succ_cons]
/-- Five cells of a box of its own are written. -/
theorem Bx.put5 {L : List (Nat × TypeId × Array Value)} {t : TypeId} {x0 x1 x2 x3 x4 u0 u1 u2 u3 u4 : Value} (h : Bx W ((g, t, #[x0, x1, x2, x3, x4]) :: L)) (hd : ∀ q ∈ L, q.1 ≠ g) :
    Bx (((((W.setCell ⟨g, 0, none⟩ u0).setCell ⟨g, 1, none⟩ u1).setCell ⟨g, 2, none⟩ u2).setCell ⟨g, 3, none⟩ u3).setCell ⟨g, 4, none⟩ u4) ((g, t, #[u0, u1, u2, u3, u4]) :: L) := by
  have := ((((h.puti hd 0 u0).puti hd 1 u1).puti hd 2 u2).puti hd 3 u3).puti hd 4 u4
  simpa using this
end
/-- Blocks joined, as they lie in memory. -/
def joinM (ys : List BlkM) (s : Nat) (b : BlkM) : List BlkM := ys.take s ++ b :: ys.drop (s + 2)
theorem joinM_eq {ys : List BlkM} {s : Nat} {b : BlkM} (h : s < ys.length) : (ys.set s b).take (s + 1) ++ (ys.set s b).drop (s + 2) = joinM ys s b := by
  rw [List.take_set, List.drop_set_of_lt (by omega), List.take_succ_eq_append_getElem h, List.set_append_right _ _ (by rw [List.length_take]; omega)]
  have : s - (ys.take s).length = 0 := by rw [List.length_take]; omega
  rw [this, joinM]
  simp
theorem joinM_len {ys : List BlkM} {s : Nat} {b : BlkM} (h : s + 1 < ys.length) : (joinM ys s b).length = ys.length - 1 := by
  simp [joinM]; omega
theorem joinM_key {bb : Int} {ys : List BlkM} {s : Nat} {l : Int} {b x y : BlkM} (hx : ys[s]? = some x) (hy : ys[s + 1]? = some y) (hb : bkey b = (y.t, y.last, l + 1, (twoR bb (bkey x) (bkey y)).1, (twoR bb (bkey x) (bkey y)).2)) : (joinM ys s b).map bkey = joinK bb (ys.map bkey) s l := by
  have e1 : atK (ys.map bkey) s = bkey x := by unfold atK; rw [List.getElem?_map, hx]; rfl
  have e2 : atK (ys.map bkey) (s + 1) = bkey y := by unfold atK; rw [List.getElem?_map, hy]; rfl
  unfold joinM joinK bothK
  rw [e1, e2]
  simp only [List.map_append, List.map_take, List.map_cons, List.map_drop, hb]
  rfl
theorem ents_le : ∀ {ys : List BlkM} {y : BlkM}, y ∈ ys → y.es.length ≤ entsK (ys.map bkey)
  | x :: ys, y, h => by
    have e : entsK ((x :: ys).map bkey) = x.es.length + entsK (ys.map bkey) := by simp [entsK, bkey]
    rcases List.mem_cons.1 h with rfl | h
    · omega
    · have := ents_le h; omega
end Go.Proofs.Ytjapjfcennemeaa.blk
