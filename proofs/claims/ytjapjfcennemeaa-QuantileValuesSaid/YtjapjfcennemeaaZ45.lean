/- RunQ, QRunL, QtE: proved here in one text, no conditions beyond those that each theorem states. -/
import Derived.Test.YtjapjfcennemeaaZ27
import Derived.Test.YtjapjfcennemeaaZ35
import Derived.Test.YtjapjfcennemeaaZ3
import Derived.Test.YtjapjfcennemeaaZ28
import Derived.Test.YtjapjfcennemeaaZ34
import Derived.Test.YtjapjfcennemeaaZ44
set_option linter.unusedVariables false
set_option linter.unusedSimpArgs false
section
namespace Go.Proofs.Ytjapjfcennemeaa.qtl
open Go.Proofs.Ytjapjfcennemeaa.mem Go.Proofs.Ytjapjfcennemeaa.rnk Go.Proofs.Ytjapjfcennemeaa.buk Go.Proofs.Ytjapjfcennemeaa.blk
set_option linter.unusedVariables false
theorem ord_tick' {xs : List (Int × Int)} (h : buk.ordOk xs xs.length) : ∀ d a, a + d < xs.length → (buk.at_ xs a).1 ≤ (buk.at_ xs (a + d)).1 := by
  intro d
  induction d with
  | zero => intro a _; exact Int.le_refl _
  | succ d ih =>
    intro a ha
    have h1 := ih a (by omega)
    have h2 := ((h (a + (d + 1)) ha).2.2 (by omega)).1
    rw [show a + (d + 1) - 1 = a + d by omega] at h2
    omega
structure RunQ (xs : List K5) (k p w now : Int) (its : Its) : Prop where
  run : RunB xs (2 * k) (sizeQ k p) w now its
  tot : (totalK xs : Int) ≤ p
  hk : 1 ≤ k ∧ k ≤ 64
  hp : 1 ≤ p ∧ p ≤ 65536
  hw : 1 ≤ w ∧ w ≤ 1048576
  hn : now ≤ 16777216
section
variable {xs : List K5} {k p w now : Int} {its : Its}
theorem RunQ.nil (hk : 1 ≤ k ∧ k ≤ 64) (hp : 1 ≤ p ∧ p ≤ 65536) (hw : 1 ≤ w ∧ w ≤ 1048576) : RunQ [] k p w 0 [] := by
  have hb := two_bd hk.1 hk.2 (num.bitsN_le p)
  refine ⟨RunB.nil ⟨by omega, by omega⟩ ⟨by rw [sizeQ_t ⟨hk, hp⟩]; omega, by rw [sizeQ_t ⟨hk, hp⟩]; omega⟩ w (Int.le_refl 0), ?_, hk, hp, hw, by omega⟩
  have : totalK [] = 0 := rfl
  rw [this]; omega
theorem RunQ.fit (h : RunQ xs k p w now its) : fitQ xs w k p now = true := by
  refine fitQ_iff.2 ⟨goodC_iff.2 ⟨h.hw, h.hk, h.hp, h.run.pos, h.hn⟩, h.run.valid, h.tot, fun i hi => ?_⟩
  have hv := validB_iff.1 (validK_iff.1 h.run.valid).2.1
  have hx : atK xs i ∈ xs := by rw [atK_eq hi]; exact List.getElem_mem hi
  have h1 := h.run.live _ hx
  have hl : i < (plainK xs).length := by rw [plainK_length]; exact hi
  have h2 : 0 ≤ (atK xs i).1 := by
    have := (hv.2.1 i hl).1
    rw [at_plainK] at this
    exact this.1
  have h3 := ord_tick' hv.2.1 (xs.length - 1 - i) i (by rw [plainK_length]; omega)
  rw [at_plainK, at_plainK, show i + (xs.length - 1 - i) = xs.length - 1 by omega] at h3
  have h4 := h.run.last
  unfold lastK at h4
  rw [if_neg (by omega)] at h4
  have h5 := h.run.pos
  have h6 := h.hn
  have h7 := h.hw
  exact clk.live_iff.2 ⟨h5, h6, h7.1, h7.2, by omega, by omega, h1, by omega⟩
theorem exp_first {f : Int} : ∀ xs : List K5, (∀ x ∈ xs, 0 ≤ x.1) → expQ (max 0 f) xs = expK f xs
  | [], _ => rfl
  | x :: r, h => by
    have h0 := h x (List.mem_cons_self ..)
    unfold expQ expK
    rw [List.dropWhile_cons, List.dropWhile_cons]
    by_cases hf : x.1 < f
    · rw [if_pos (by simp; omega), if_pos (by simpa using hf)]
      exact exp_first r (fun y hy => h y (List.mem_cons_of_mem _ hy))
    · rw [if_neg (by simp; omega), if_neg (by simpa using hf)]
theorem RunQ.adv (h : RunQ xs k p w now its) {T : Int} (hT : now ≤ T) (hT2 : T ≤ 16777216) : advQ xs w k p now T = ((w, k, p, T, expK (T - w + 1) xs), 0) ∧ RunQ (expK (T - w + 1) xs) k p w T its := by
  have hpos : ∀ x ∈ xs, 0 ≤ x.1 := fun x hx => by
    obtain ⟨i, hi, rfl⟩ := List.mem_iff_getElem.1 hx
    have hv := validB_iff.1 (validK_iff.1 h.run.valid).2.1
    have h2 := (hv.2.1 i (by rw [plainK_length]; exact hi)).1
    rw [at_plainK, atK_eq hi] at h2
    exact h2.1
  have h0 := h.run.pos
  have ht : timeE now T = 0 := by unfold timeE; rw [if_neg (by omega)]
  refine ⟨?_, h.run.adv hT, ?_, h.hk, h.hp, h.hw, hT2⟩
  · unfold advQ
    rw [if_pos h.fit, if_pos ht, clk.first_t (by omega) hT2 h.hw.1 h.hw.2, exp_first xs hpos]
  · obtain ⟨i, hi⟩ := expK_drop (T - w + 1) xs
    have := (valid_drop h.run.valid i).2.1
    rw [hi]
    have := h.tot
    omega
theorem RunQ.full (h : RunQ xs k p w now its) {V : Int} (hV : -4096 ≤ V ∧ V ≤ 4096) (hf : (totalK xs : Int) = p) : addQ xs w k p now V = ((0, 0, 0, 0, []), 5) := by
  unfold addQ
  rw [if_pos h.fit, if_pos (inV_iff.2 hV), if_pos hf]
theorem RunQ.add (h : RunQ xs k p w now its) {V : Int} (hV : -4096 ≤ V ∧ V ≤ 4096) (hl : its.length ≤ 1000000) (hf : ¬ (totalK xs : Int) = p) : addQ xs w k p now V = ((w, k, p, now, insKC xs (2 * k).toNat (sizeQ k p) now V), 0) ∧ RunQ (insKC xs (2 * k).toNat (sizeQ k p) now V) k p w now (its ++ [(now, V)]) := by
  have hm := h.run.may h.hn hV hl
  have ho := insKC_ok hm
  refine ⟨?_, h.run.ins h.hw.1 h.hn hV hl, ?_, h.hk, h.hp, h.hw, h.hn⟩
  · unfold addQ
    rw [if_pos h.fit, if_pos (inV_iff.2 hV), if_neg hf, insK_t hm]
  · have := h.tot; omega
theorem RunQ.most (h : RunQ xs k p w now its) : ((entsK xs : Nat) : Int) ≤ mostQ k p := ents_most h.hk h.hp h.run.valid h.tot
theorem RunQ.small (h : RunQ xs k p w now its) (hl : its.length ≤ 400) : xs.length ≤ 400 ∧ entsK xs ≤ 4000000 := by
  have h1 := h.run.total
  have hv := validB_iff.1 (validK_iff.1 h.run.valid).2.1
  have h2 := wgt_tot hv.2.1
  have h3 := buk.len_wgt (plainK xs)
  rw [plainK_length] at h3
  have h4 : xs.length ≤ 400 := by unfold totalK at h1; omega
  refine ⟨h4, ?_⟩
  have h5 := ents_valid h.run.valid
  have hb := two_bd h.hk.1 h.hk.2 (num.bitsN_le p)
  rw [sizeQ_t ⟨h.hk, h.hp⟩] at h5
  have h6 : xs.length * (2 * k * ((num.bitsN p : Int) + 2) + 1).toNat ≤ 400 * 8449 := Nat.mul_le_mul h4 (by omega)
  omega
end
end Go.Proofs.Ytjapjfcennemeaa.qtl
end
section
namespace Go.Proofs.Ytjapjfcennemeaa.qtl
open Go.RowKit Go.Proofs.Ytjapjfcennemeaa.mem Go.Proofs.Ytjapjfcennemeaa.gro Go.Proofs.Ytjapjfcennemeaa.rnk Go.Proofs.Ytjapjfcennemeaa.buk Go.Proofs.Ytjapjfcennemeaa.blk
set_option linter.unusedVariables false
def Clr (gx : Nat) (row : Option Nat) (n : Nat) (A : Option Addr) (ys : List BlkM) : Prop :=
  (0 < n → ∀ ad, A = some ad → gx < ad.block ∧ some ad.block ≠ row) ∧ ∀ y ∈ ys, 0 < y.en → ∀ ad, y.adr = some ad → gx < ad.block ∧ some ad.block ≠ row
section
variable {W w w1 : World} {L : List (Nat × TypeId × Array Value)} {g gx B base size n m : Nat} {t e : TypeId} {x0 x1 x2 x3 x4 : Value} {u v1 : Value} {xs : List Value} {A : Option Addr} {ys : List BlkM} {o : Obj} {row : Option Nat}
theorem Clr.nil_ : Clr gx row 0 none [] := ⟨fun h => absurd h (by omega), fun y hy => by cases hy⟩
theorem Clr.p (h : Clr gx row n A ys) : ∀ y ∈ ys, 0 < y.en → ∀ ad, y.adr = some ad → (fun b => gx < b ∧ some b ≠ row) ad.block := h.2
theorem clr_new {hi : Nat} (hg : gx < hi) (hr : ∀ k, row = some k → k < hi) (h1 : ∀ ad, A = some ad → (fun b => gx < b ∧ some b ≠ row) ad.block ∨ hi ≤ ad.block) (h2 : Apt (fun b => gx < b ∧ some b ≠ row) hi ys) : Clr gx row n A ys := by
  have key : ∀ b : Nat, ((gx < b ∧ some b ≠ row) ∨ hi ≤ b) → gx < b ∧ some b ≠ row := by
    rintro b (h | h)
    · exact h
    · exact ⟨by omega, fun e => by have := hr b e.symm; omega⟩
  exact ⟨fun _ ad e => key _ (h1 ad e), fun y hy h0 ad e => key _ (h2 y hy h0 ad e)⟩
theorem BRead.appG (h : BRead W W.heap.size A n ys) (hg : W.grownBy w1 row) (hc : Clr gx row n A ys) : BRead w1 w1.heap.size A n ys :=
  ⟨blk.Reads.appG h.1 hg (fun h0 ad e => (hc.1 h0 ad e).2), fun y hy => ⟨blk.Reads.appG (h.2 y hy).1 hg (fun h0 ad e => (hc.2 y hy h0 ad e).2), (h.2 y hy).2⟩⟩
theorem clr_app (h : BRead W W.heap.size A n ys) (hc : Clr gx u.ownBlock n A ys) (hat : v1.ownBlock = u.ownBlock ∨ v1.ownBlock = some W.heap.size) : Clr gx v1.ownBlock n A ys := by
  rcases hat with h1 | h1
  · rw [h1]; exact hc
  · rw [h1]
    refine ⟨fun h0 ad e => ⟨(hc.1 h0 ad e).1, fun e2 => ?_⟩, fun y hy h0 ad e => ⟨(hc.2 y hy h0 ad e).1, fun e2 => ?_⟩⟩
    · have := rnk.Reads.blk h.1 h0 ad e
      injection e2 with e2; omega
    · have := rnk.Reads.blk (h.2 y hy).1 h0 ad e
      injection e2 with e2; omega
theorem Bx.put5q {u0 u1 u2 u3 u4 : Value} (h : Bx W ((g, t, #[x0, x1, x2, x3, x4]) :: L)) (hd : ∀ q ∈ L, q.1 ≠ g) :
    Bx (((((W.setCell ⟨g, 0, none⟩ u0).setCell ⟨g, 1, none⟩ u1).setCell ⟨g, 2, none⟩ u2).setCell ⟨g, 3, none⟩ u3).setCell ⟨g, 4, none⟩ u4) ((g, t, #[u0, u1, u2, u3, u4]) :: L) := by
  have := ((((h.puti hd 0 u0).puti hd 1 u1).puti hd 2 u2).puti hd 3 u3).puti hd 4 u4
  simpa using this
theorem putQ (u0 u1 u2 u3 u4 : Value) (K : Bx W ((g, t, #[x0, x1, x2, x3, x4]) :: L)) (hd : ∀ q ∈ L, q.1 ≠ g) (BB : Below B w W) (hg : B ≤ g) :
    ∃ W', ((((W.setCell ⟨g, 0, none⟩ u0).setCell ⟨g, 1, none⟩ u1).setCell ⟨g, 2, none⟩ u2).setCell ⟨g, 3, none⟩ u3).setCell ⟨g, 4, none⟩ u4 = W' ∧ Bx W' ((g, t, #[u0, u1, u2, u3, u4]) :: L) ∧ Below B w W' ∧ W'.heap.size = W.heap.size ∧
      (∀ A n ys row gx, g ≤ gx → BRead W W.heap.size A n ys → Clr gx row n A ys → BRead W' W'.heap.size A n ys) ∧ ∀ base e size u m xs, W.ownsRow base e size u m xs → g < base → W'.ownsRow base e size u m xs := by
  refine ⟨_, rfl, Bx.put5q K hd, ((((BB.setCell (p := ⟨g, 0, none⟩) hg _).setCell (p := ⟨g, 1, none⟩) hg _).setCell (p := ⟨g, 2, none⟩) hg _).setCell (p := ⟨g, 3, none⟩) hg _).setCell (p := ⟨g, 4, none⟩) hg _, by simp [World.setCell], fun A n ys row gx hgx h hc => ?_, fun base e size u m xs h hb => ?_⟩
  · have h1 : ∀ i : Nat, 0 < n → ∀ ad, A = some ad → ad.block ≠ (⟨g, i, none⟩ : Addr).block := fun i h0 ad e => by have := (hc.1 h0 ad e).1; show ad.block ≠ g; omega
    have h2 : ∀ i : Nat, ∀ y ∈ ys, 0 < y.en → ∀ ad, y.adr = some ad → ad.block ≠ (⟨g, i, none⟩ : Addr).block := fun i y hy h0 ad e => by have := (hc.2 y hy h0 ad e).1; show ad.block ≠ g; omega
    have key := BRead.far (BRead.far (BRead.far (BRead.far (BRead.far h ⟨g, 0, none⟩ (h1 0) (h2 0) u0) ⟨g, 1, none⟩ (h1 1) (h2 1) u1) ⟨g, 2, none⟩ (h1 2) (h2 2) u2) ⟨g, 3, none⟩ (h1 3) (h2 3) u3) ⟨g, 4, none⟩ (h1 4) (h2 4) u4
    exact key.more (by simp [World.setCell])
  · exact ownsRow_setCell_below (ownsRow_setCell_below (ownsRow_setCell_below (ownsRow_setCell_below (ownsRow_setCell_below h (a := ⟨g, 0, none⟩) hb u0) (a := ⟨g, 1, none⟩) hb u1) (a := ⟨g, 2, none⟩) hb u2) (a := ⟨g, 3, none⟩) hb u3) (a := ⟨g, 4, none⟩) hb u4
theorem newboxQ (t : TypeId) (c : Array Value) (K : Bx W L) (hg : W.heap.size = g) (BB : Below B w W) (hB : B ≤ W.heap.size) :
    ∃ W', W.alloc (.cells c t) = W' ∧ Bx W' ((g, t, c) :: L) ∧ Below B w W' ∧ W'.heap.size = g + 1 ∧ Below W.heap.size W W' :=
  ⟨_, rfl, K.new hg, BB.alloc hB _, by simp; omega, (Below.refl _ _).alloc (Nat.le_refl _) _⟩
end
end Go.Proofs.Ytjapjfcennemeaa.qtl
end
section
namespace Go.Proofs.Ytjapjfcennemeaa.qtl
open Go.Proofs.Ytjapjfcennemeaa.mem Go.Proofs.Ytjapjfcennemeaa.rnk Go.Proofs.Ytjapjfcennemeaa.blk
set_option linter.unusedVariables false
def LL : Nat → List K5
  | 0 => []
  | 1 => [(0, 1, 0, 1, [(1, 1, 1)])]
  | 2 => [(0, 1, 0, 1, [(1, 1, 1)]), (0, 2, 0, 1, [(2, 1, 1)])]
  | 3 => [(0, 1, 0, 1, [(1, 1, 1)]), (0, 2, 0, 1, [(2, 1, 1)]), (0, 3, 0, 1, [(3, 1, 1)])]
  | 4 => [(0, 2, 1, 2, [(1, 1, 1), (2, 2, 2)]), (0, 3, 0, 1, [(3, 1, 1)]), (0, 4, 0, 1, [(4, 1, 1)])]
  | _ => [(0, 2, 1, 2, [(1, 1, 1), (2, 2, 2)]), (0, 3, 0, 1, [(3, 1, 1)]), (0, 4, 0, 1, [(4, 1, 1)]), (0, 5, 0, 1, [(5, 1, 1)])]
theorem LL_1 : insKC (LL 0) 2 18 0 1 = LL 1 := by rfl
theorem LL_2 : insKC (LL 1) 2 18 0 2 = LL 2 := by rfl
theorem LL_3 : insKC (LL 2) 2 18 0 3 = LL 3 := by rfl
theorem LL_4 : insKC (LL 3) 2 18 0 4 = LL 4 := by rfl
theorem LL_5 : insKC (LL 4) 2 18 0 5 = LL 5 := by rfl
theorem size_ex : sizeQ 1 100 = 18 := by rfl
theorem step_ex {xs ys : List K5} {j : Nat} {v : Int} (h : validK xs 2 18 = true ∧ totalK xs = j) (hj : j ≤ 10) (hl : lastK xs ≤ 0) (hv : -4096 ≤ v ∧ v ≤ 4096) (e : insKC xs 2 18 0 v = ys) : insK xs 2 18 0 v = ys ∧ validK ys 2 18 = true ∧ totalK ys = j + 1 := by
  have hm : mayK xs 2 18 0 v = true := mayK_iff2.2 ⟨h.1, by omega, hl, hv, by omega⟩
  obtain ⟨g1, g2, g3, _⟩ := insKC_ok hm
  have h1 : insK xs 2 18 0 v = insKC xs (2 : Int).toNat 18 0 v := insK_t hm
  have h2 : insKC xs (2 : Int).toNat 18 0 v = ys := e
  rw [h2] at h1 g1 g2
  exact ⟨h1, g1, by omega⟩
theorem LL_all : (insK (LL 0) 2 18 0 1 = LL 1 ∧ insK (LL 1) 2 18 0 2 = LL 2 ∧ insK (LL 2) 2 18 0 3 = LL 3 ∧ insK (LL 3) 2 18 0 4 = LL 4 ∧ insK (LL 4) 2 18 0 5 = LL 5) ∧ ∀ j, j ≤ 5 → validK (LL j) 2 18 = true ∧ totalK (LL j) = j := by
  have v0 : validK (LL 0) 2 18 = true ∧ totalK (LL 0) = 0 := ⟨validK_nil (by omega) (by omega), rfl⟩
  obtain ⟨a1, v1⟩ := step_ex v0 (by omega) (by decide) (by omega) LL_1
  obtain ⟨a2, v2⟩ := step_ex v1 (by omega) (by decide) (by omega) LL_2
  obtain ⟨a3, v3⟩ := step_ex v2 (by omega) (by decide) (by omega) LL_3
  obtain ⟨a4, v4⟩ := step_ex v3 (by omega) (by decide) (by omega) LL_4
  obtain ⟨a5, v5⟩ := step_ex v4 (by omega) (by decide) (by omega) LL_5
  refine ⟨⟨a1, a2, a3, a4, a5⟩, fun j hj => ?_⟩
  match j, hj with
  | 0, _ => exact v0
  | 1, _ => exact v1
  | 2, _ => exact v2
  | 3, _ => exact v3
  | 4, _ => exact v4
  | 5, _ => exact v5
theorem LL_len (j : Nat) : (LL j).length ≤ 4 := by
  match j with
  | 0 | 1 | 2 | 3 | 4 => decide
  | n + 5 => exact Nat.le_refl 4
theorem LL_live : ∀ j, j ≤ 5 → liveK (LL j) 0 10 = true := fun j hj => by
  match j, hj with
  | 0, _ => rfl
  | 1, _ => rfl
  | 2, _ => rfl
  | 3, _ => rfl
  | 4, _ => rfl
  | 5, _ => rfl
theorem LL_fit {j : Nat} (hj : j ≤ 5) : fitQ (LL j) 10 1 100 0 = true := by
  obtain ⟨h1, h2⟩ := LL_all.2 j hj
  unfold fitQ
  rw [show goodC 10 1 100 0 = true from goodC_iff.2 ⟨by omega, by omega, by omega, by omega⟩, size_ex, show (2 * 1 : Int) = 2 from rfl, h1, LL_live j hj, decide_eq_true (by omega)]
  rfl
theorem LL_add {j : Nat} (hj : j < 5) : addQ (LL j) 10 1 100 0 ((j : Int) + 1) = ((10, 1, 100, 0, LL (j + 1)), 0) := by
  obtain ⟨h1, h2⟩ := LL_all.2 j (by omega)
  unfold addQ
  rw [if_pos (LL_fit (by omega)), if_pos (inV_iff.2 (by omega)), if_neg (by omega), size_ex, show (2 * 1 : Int) = 2 from rfl]
  obtain ⟨a1, a2, a3, a4, a5⟩ := LL_all.1
  match j, hj with
  | 0, _ => rw [show ((0 : Nat) : Int) + 1 = 1 from rfl, a1]
  | 1, _ => rw [show ((1 : Nat) : Int) + 1 = 2 from rfl, a2]
  | 2, _ => rw [show ((2 : Nat) : Int) + 1 = 3 from rfl, a3]
  | 3, _ => rw [show ((3 : Nat) : Int) + 1 = 4 from rfl, a4]
  | 4, _ => rw [show ((4 : Nat) : Int) + 1 = 5 from rfl, a5]
theorem LL_val : quK (LL 5) 1 2 = (3, 0) := by rfl
end Go.Proofs.Ytjapjfcennemeaa.qtl
end
