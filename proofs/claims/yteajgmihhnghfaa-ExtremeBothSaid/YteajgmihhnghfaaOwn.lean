/- More facts on rows of the call's own: their form, prefixes, stores of pairs. -/
import Derived.Test.YteajgmihhnghfaaApp
set_option linter.unusedVariables false
namespace Go.Proofs.Yteajgmihhnghfaa.mem
open Go.RowKit
section
variable {w w' : World} {base : Nat} {e : TypeId} {size n c g : Nat} {v : Value} {xs : List Value}
theorem own_form2 (h : w.ownsRow base e size v n xs) (hn : 0 < n) :
    ∃ g c, v = .slice (some ⟨g, 0, none⟩) n c ∧ n ≤ c ∧ c ≤ 9223372036854775807 ∧ base ≤ g ∧ g < w.heap.size := by
  rcases h.2 with ⟨rfl, rfl⟩ | ⟨g, cap, cur, rfl, hb, hh, hnc, hcm, _⟩
  · omega
  · refine ⟨g, cap, rfl, hnc, hcm, hb, ?_⟩
    rcases Nat.lt_or_ge g w.heap.size with h1 | h1
    · exact h1
    · rw [Array.getElem?_eq_none h1] at hh; cases hh
theorem own_prefix (h : w.ownsRow base e size (.slice (some ⟨g, 0, none⟩) n c) n xs) {k : Nat} (hk : k ≤ n) :
    w.ownsRow base e size (.slice (some ⟨g, 0, none⟩) k c) k (xs.take (k * size)) := by
  rcases h.2 with ⟨h1, _⟩ | ⟨g', cap, cur, h1, hb, hh, hnc, hcm, hs, hx⟩
  · cases h1
  · simp only [Value.slice.injEq, Option.some.injEq, Addr.mk.injEq, and_true, true_and] at h1
    obtain ⟨rfl, rfl⟩ := h1
    have hks : k * size ≤ n * size := Nat.mul_le_mul_right _ hk
    refine ⟨by rw [List.length_take, h.1]; exact Nat.min_eq_left hks, .inr ⟨g, c, cur, rfl, hb, hh, by omega, hcm, hs, ?_⟩⟩
    rw [← hx, List.take_take, Nat.min_eq_left hks]
theorem own_reads (h : w.ownsRow base e size (.slice (some ⟨g, 0, none⟩) n c) n xs) {k : Nat} (hk : k ≤ n) :
    Reads w (g + 1) size (some ⟨g, k * size, none⟩) (n - k) (xs.drop (k * size)) := by
  refine ⟨by rw [List.length_drop, h.1, Nat.sub_mul], fun hn => ⟨_, rfl, by simp, fun j u hu => ?_⟩⟩
  have hj : k * size + j < n * size := by
    rcases Nat.lt_or_ge (k * size + j) (n * size) with h1 | h1
    · exact h1
    · rw [List.getElem?_eq_none (by rw [List.length_drop, h.1]; omega)] at hu; cases hu
  have hadd : (⟨g, k * size, none⟩ : Addr).add j = ⟨g, k * size + j, none⟩ := by unfold Addr.add; split <;> simp_all
  rw [hadd, h.cellAt _ hj, ← hu, List.getElem?_drop]
theorem own_cut (h : w.ownsRow base e size (.slice (some ⟨g, 0, none⟩) n c) n xs) {k : Nat} (hk : k ≤ n) (hc : n ≤ c) :
    Reads w (g + 1) size (if c = k then some ⟨g, 0, none⟩ else some ⟨g, k * size, none⟩) (n - k) (xs.drop (k * size)) := by
  split
  · have hz : n - k = 0 := by omega
    refine ⟨by rw [List.length_drop, h.1, ← Nat.sub_mul], fun h0 => by omega⟩
  · exact own_reads h hk
theorem own_keep (h : w.ownsRow base e size v n xs) (hb : Below w.heap.size w w') : w'.ownsRow base e size v n xs := by
  refine ⟨h.1, ?_⟩
  rcases h.2 with h2 | ⟨g, cap, cur, hv, hg, hh, r⟩
  · exact .inl h2
  · have hlt : g < w.heap.size := by
      rcases Nat.lt_or_ge g w.heap.size with h1 | h1
      · exact h1
      · rw [Array.getElem?_eq_none h1] at hh; cases hh
    exact .inr ⟨g, cap, cur, hv, hg, by rw [hb.block g hlt]; exact hh, r⟩
theorem below_box2 {w w1 : World} (hbase : base ≤ w.heap.size) (hown : w.ownsRow base e size v n xs) {o : Obj} (hg : (w.alloc o).grownBy w1 v.ownBlock) : Below base w w1 :=
  ((Below.refl _ _).alloc hbase o).grown hg (by simp; omega) (own_block_ge hown)
/-- A pair is stored at place b. -/
theorem pc_set (ys : List (Int × Int)) (b : Nat) (p : Int × Int) : ((pc ys).set (b * 2) (.int .i64 p.1)).set (b * 2 + 1) (.int .i64 p.2) = pc (ys.set b p) := by
  induction ys generalizing b with
  | nil => simp [pc]
  | cons q ys ih =>
    cases b with
    | zero => simp [pc_cons]
    | succ b =>
      rw [pc_cons, show (b + 1) * 2 = b * 2 + 1 + 1 by omega, List.set_cons_succ, List.set_cons_succ, List.set_cons_succ, List.set_cons_succ, ih, List.set_cons_succ, pc_cons]
theorem own_store2 {ys : List (Int × Int)} (h : w.ownsRow base e 2 (.slice (some ⟨g, 0, none⟩) n c) n (pc ys)) (b : Nat) (x y : Int) :
    ((w.setCell ⟨g, b * 2, none⟩ (.int .i64 x)).setCell ⟨g, b * 2 + 1, none⟩ (.int .i64 y)).ownsRow base e 2 (.slice (some ⟨g, 0, none⟩) n c) n (pc (ys.set b (x, y))) := by
  have := ((h.stored (b * 2) (.int .i64 x)).1.stored (b * 2 + 1) (.int .i64 y)).1
  rw [pc_set ys b (x, y)] at this
  exact this
theorem own_pair {ys : List (Int × Int)} (h : w.ownsRow base e 2 (.slice (some ⟨g, 0, none⟩) n c) n (pc ys)) {i : Nat} (hi : i < n) :
    w.cell? ⟨g, i * 2, none⟩ = some (.int .i64 (ys[i]?.getD (0, 0)).1) ∧ w.cell? ⟨g, i * 2 + 1, none⟩ = some (.int .i64 (ys[i]?.getD (0, 0)).2) := by
  have hl : ys.length = n := by have := h.1; rw [pc_length] at this; omega
  obtain ⟨h1, h2⟩ := pc_get ys i (by omega)
  rw [h.cellAt _ (by omega), h.cellAt _ (by omega), h1, h2, List.getElem?_eq_getElem (by omega)]
  exact ⟨rfl, rfl⟩
theorem own_empty2 {t : TypeId} (hg : w.heap.size = g) (hb : base ≤ g) : (w.alloc (.cells #[] t)).ownsRow base t size (.slice (some ⟨g, 0, none⟩) 0 0) 0 [] := by
  subst hg
  exact ⟨by simp, .inr ⟨w.heap.size, 0, #[], rfl, hb, heap_alloc_new w _, Nat.le_refl _, Nat.zero_le _, by simp, by simp⟩⟩
theorem blk_new2 {t : TypeId} {cs : Array Value} (hg : w.heap.size = g) : Blk (w.alloc (.cells cs t)) g t cs := by subst hg; exact Blk.new w t cs
theorem reads_blk {t : TypeId} {cs : Array Value} (h : Blk w g t cs) (hs : cs.size = n * size) : Reads w (g + 1) size (some ⟨g, 0, none⟩) n cs.toList := by
  refine ⟨by simpa using hs, fun _ => ⟨_, rfl, by simp, fun j u hu => ?_⟩⟩
  have hadd : (⟨g, 0, none⟩ : Addr).add j = ⟨g, j, none⟩ := by unfold Addr.add; split <;> simp_all
  rw [hadd, h.cell]
  simpa using hu
end
end Go.Proofs.Yteajgmihhnghfaa.mem
