/- BValR, BOwn, RPl, Box2: proved here in one text, no conditions beyond those that each theorem states. -/
import Derived.LoopN
import Derived.Test.YtjapjfcennemeaaZ24
import Derived.Test.YtjapjfcennemeaaZ4
import Derived.Test.YtjapjfcennemeaaZ19
import Derived.Test.YtjapjfcennemeaaZ23
import Derived.Test.YtjapjfcennemeaaZ9
import Derived.Test.YtjapjfcennemeaaZ3
import Derived.Test.YtjapjfcennemeaaZ7
import Derived.Test.YtjapjfcennemeaaZ13
set_option linter.unusedVariables false
set_option linter.unusedSimpArgs false
section
namespace Go.Proofs.Ytjapjfcennemeaa.blk
open Go.RowKit Go.Proofs.Ytjapjfcennemeaa.mem Go.Proofs.Ytjapjfcennemeaa.rnk Go.Proofs.Ytjapjfcennemeaa.gro Go.Proofs.Ytjapjfcennemeaa.buk
open Go.Proofs.Ytjapjfcennemeaa.lst (BOk)
set_option linter.unusedVariables false
set_option linter.unusedSimpArgs false
set_option pp.maxSteps 200000
def valB (v : Int) : Bool := decide (-4096 ≤ v ∧ v ≤ 4096)
theorem Value_any (v : Int) (w : World) : Calls Try.prog 72 #[.int .i64 v] w fun e w' => e = .returned (.bool (valB v)) ∧ w = w' := by
  go_enter Try.func72, Try.ntmps72
  go_wp2
  all_goals (go_ret; exact ⟨ret_bool (by unfold valB; simp; omega), rfl⟩)
end Go.Proofs.Ytjapjfcennemeaa.blk
end
section
set_option linter.unusedSimpArgs false
namespace Go.Proofs.Ytjapjfcennemeaa.blk
open Go.RowKit Go.Proofs.Ytjapjfcennemeaa.mem Go.Proofs.Ytjapjfcennemeaa.rnk Go.Proofs.Ytjapjfcennemeaa.gro Go.Proofs.Ytjapjfcennemeaa.buk
set_option linter.unusedVariables false
theorem bc_set (ys : List BlkM) (i : Nat) (b : BlkM) : (((((bc ys).set (i * 5) (.int .i64 b.t)).set (i * 5 + 1) (.int .i64 b.last)).set (i * 5 + 2) (.int .i64 b.level)).set (i * 5 + 3) (.int .i64 b.num)).set (i * 5 + 4) (.slice b.adr b.en b.ec) = bc (ys.set i b) := by
  induction ys generalizing i with
  | nil => simp [bc]
  | cons q ys ih =>
    cases i with
    | zero => simp [bc_cons]
    | succ i =>
      rw [bc_cons, show (i + 1) * 5 = i * 5 + 1 + 1 + 1 + 1 + 1 by omega]
      simp only [List.set_cons_succ, Nat.add_right_comm _ 1 _]
      rw [bc_cons]
      simp only [← ih i]
section
variable {w w' W : World} {base : Nat} {e : TypeId} {n c g : Nat} {ys : List BlkM}
theorem own_store5 (h : w.ownsRow base e 5 (.slice (some ⟨g, 0, none⟩) n c) n (bc ys)) (i : Nat) (b : BlkM) :
    (((((w.setCell ⟨g, i * 5, none⟩ (.int .i64 b.t)).setCell ⟨g, i * 5 + 1, none⟩ (.int .i64 b.last)).setCell ⟨g, i * 5 + 2, none⟩ (.int .i64 b.level)).setCell ⟨g, i * 5 + 3, none⟩ (.int .i64 b.num)).setCell ⟨g, i * 5 + 4, none⟩ (.slice b.adr b.en b.ec)).ownsRow base e 5 (.slice (some ⟨g, 0, none⟩) n c) n (bc (ys.set i b)) := by
  have := (((((h.stored (i * 5) (.int .i64 b.t)).1.stored (i * 5 + 1) (.int .i64 b.last)).1.stored (i * 5 + 2) (.int .i64 b.level)).1.stored (i * 5 + 3) (.int .i64 b.num)).1.stored (i * 5 + 4) (.slice b.adr b.en b.ec)).1
  rw [bc_set ys i b] at this
  exact this
theorem own_blk (h : w.ownsRow base e 5 (.slice (some ⟨g, 0, none⟩) n c) n (bc ys)) {i : Nat} (hi : i < n) :
    ∃ b, ys[i]? = some b ∧ w.cell? ⟨g, i * 5, none⟩ = some (.int .i64 b.t) ∧ w.cell? ⟨g, i * 5 + 1, none⟩ = some (.int .i64 b.last) ∧ w.cell? ⟨g, i * 5 + 2, none⟩ = some (.int .i64 b.level) ∧ w.cell? ⟨g, i * 5 + 3, none⟩ = some (.int .i64 b.num) ∧ w.cell? ⟨g, i * 5 + 4, none⟩ = some (.slice b.adr b.en b.ec) := by
  have hl : ys.length = n := by have := h.1; rw [bc_length] at this; omega
  obtain ⟨h1, h2, h3, h4, h5⟩ := bc_get ys i (by omega)
  refine ⟨ys[i], List.getElem?_eq_getElem _, ?_⟩
  rw [h.cellAt _ (by omega), h.cellAt _ (by omega), h.cellAt _ (by omega), h.cellAt _ (by omega), h.cellAt _ (by omega), h1, h2, h3, h4, h5]
  exact ⟨rfl, rfl, rfl, rfl, rfl⟩
theorem Reads.appG {W w1 : World} {size n : Nat} {A : Option Addr} {xs : List Value} {row : Option Nat} (h : Reads W W.heap.size size A n xs) (hg : W.grownBy w1 row) (hd : 0 < n → ∀ ad, A = some ad → some ad.block ≠ row) : Reads w1 w1.heap.size size A n xs := by
  obtain ⟨h1, h2⟩ := h
  refine ⟨h1, fun hn => ?_⟩
  obtain ⟨ad, e, hb, hc⟩ := h2 hn
  refine ⟨ad, e, Nat.lt_of_lt_of_le hb hg.size, fun j v hv => ?_⟩
  rw [← hc j v hv]
  exact World.cell?_of_block (by rw [block_of_add]; exact hg.block _ hb (hd hn ad e))
def Ents (W : World) (g : Nat) (ys : List BlkM) : Prop := ∀ y ∈ ys, ERead W W.heap.size y.adr y.en y.es ∧ y.en ≤ y.ec ∧ y.ec ≤ maxLen ∧ (0 < y.en → ∀ ad, y.adr = some ad → ad.block ≠ g)
theorem Ents.below (h : Ents W g ys) (hb : Below W.heap.size W w') : Ents w' g ys := fun y hy => by
  obtain ⟨h1, h2, h3, h4⟩ := h y hy
  exact ⟨(ERead.below h1 hb).more hb.size, h2, h3, h4⟩
theorem Ents.set (h : Ents W g ys) (i : Nat) (u : Value) : Ents (W.setCell ⟨g, i, none⟩ u) g ys := fun y hy => by
  obtain ⟨h1, h2, h3, h4⟩ := h y hy
  exact ⟨Reads.more (rnk.Reads.far h1 _ h4 _) (by simp [World.setCell]), h2, h3, h4⟩
theorem Ents.grown {g' : Nat} (h : Ents W g ys) (hg : W.grownBy w' (some g)) (h2 : g' = g ∨ g' = W.heap.size) : Ents w' g' ys := fun y hy => by
  obtain ⟨a1, a2, a3, a4⟩ := h y hy
  refine ⟨?_, a2, a3, fun hn ad e => ?_⟩
  · obtain ⟨b1, b2⟩ := a1
    refine ⟨b1, fun hn => ?_⟩
    obtain ⟨ad, e, hb, hc⟩ := b2 hn
    refine ⟨ad, e, Nat.lt_of_lt_of_le hb hg.size, fun j v hv => ?_⟩
    rw [← hc j v hv]
    exact World.cell?_of_block (by rw [block_of_add]; exact hg.block _ hb (fun e2 => a4 hn ad e (by injection e2)))
  · have h5 := a4 hn ad e
    have h6 := rnk.Reads.blk a1 hn ad e
    rcases h2 with h2 | h2 <;> omega
theorem Ents.put {b : BlkM} {i : Nat} (h : Ents W g ys) (hb : ERead W W.heap.size b.adr b.en b.es ∧ b.en ≤ b.ec ∧ b.ec ≤ maxLen ∧ (0 < b.en → ∀ ad, b.adr = some ad → ad.block ≠ g)) : Ents W g (ys.set i b) := fun y hy => by
  rcases List.mem_or_eq_of_mem_set hy with hy | rfl
  · exact h y hy
  · exact hb
theorem own_lt (h : w.ownsRow base e 5 (.slice (some ⟨g, 0, none⟩) n c) n (bc ys)) : g < w.heap.size := (World.ownsRow.lt h g rfl).2
theorem own_cells (h : w.ownsRow base e 5 (.slice (some ⟨g, 0, none⟩) n c) n (bc ys)) {i : Nat} (hi : i < n) :
    ∃ b, ys[i]? = some b ∧ Hid (∀ W, Below w.heap.size w W → W.cell? ⟨g, i * 5, none⟩ = some (.int .i64 b.t) ∧ W.cell? ⟨g, i * 5 + 1, none⟩ = some (.int .i64 b.last) ∧ W.cell? ⟨g, i * 5 + 2, none⟩ = some (.int .i64 b.level) ∧ W.cell? ⟨g, i * 5 + 3, none⟩ = some (.int .i64 b.num) ∧ W.cell? ⟨g, i * 5 + 4, none⟩ = some (.slice b.adr b.en b.ec)) := by
  obtain ⟨b, hb, h1, h2, h3, h4, h5⟩ := own_blk h hi
  have hl := own_lt h
  exact ⟨b, hb, fun W hW => ⟨(hW.cell hl).trans h1, (hW.cell hl).trans h2, (hW.cell hl).trans h3, (hW.cell hl).trans h4, (hW.cell hl).trans h5⟩⟩
theorem Ents.mem {zs : List BlkM} (h : Ents W g ys) (hz : ∀ z ∈ zs, z ∈ ys) : Ents W g zs := fun z hz' => h z (hz z hz')
theorem Ents.cons {b : BlkM} (h : Ents W g ys) (hb : ERead W W.heap.size b.adr b.en b.es ∧ b.en ≤ b.ec ∧ b.ec ≤ maxLen ∧ (0 < b.en → ∀ ad, b.adr = some ad → ad.block ≠ g)) : Ents W g (b :: ys) := fun y hy => by
  rcases List.mem_cons.1 hy with rfl | hy
  · exact hb
  · exact h y hy
theorem bc_take (xs : List BlkM) (k : Nat) : bc (xs.take k) = (bc xs).take (k * 5) := by
  induction xs generalizing k with
  | nil => simp [bc]
  | cons p xs ih =>
    cases k with
    | zero => simp [bc]
    | succ k => rw [List.take_succ_cons, bc_cons, ih, bc_cons, show (k + 1) * 5 = k * 5 + 1 + 1 + 1 + 1 + 1 by omega, List.take_succ_cons, List.take_succ_cons, List.take_succ_cons, List.take_succ_cons, List.take_succ_cons]
theorem Bx.put5 {L : List (Nat × TypeId × Array Value)} {t : TypeId} {x0 x1 x2 x3 x4 u0 u1 u2 u3 u4 : Value} (h : Bx W ((g, t, #[x0, x1, x2, x3, x4]) :: L)) (hd : ∀ q ∈ L, q.1 ≠ g) :
    Bx (((((W.setCell ⟨g, 0, none⟩ u0).setCell ⟨g, 1, none⟩ u1).setCell ⟨g, 2, none⟩ u2).setCell ⟨g, 3, none⟩ u3).setCell ⟨g, 4, none⟩ u4) ((g, t, #[u0, u1, u2, u3, u4]) :: L) := by
  have := ((((h.puti hd 0 u0).puti hd 1 u1).puti hd 2 u2).puti hd 3 u3).puti hd 4 u4
  simpa using this
end
def joinM (ys : List BlkM) (s : Nat) (b : BlkM) : List BlkM := ys.take s ++ b :: ys.drop (s + 2)
theorem joinM_eq {ys : List BlkM} {s : Nat} {b : BlkM} (h : s < ys.length) : (ys.set s b).take (s + 1) ++ (ys.set s b).drop (s + 2) = joinM ys s b := by
  rw [List.take_set, List.drop_set_of_lt (by omega), List.take_succ_eq_append_getElem h, List.set_append_right _ _ (by rw [List.length_take]; omega)]
  have : s - (ys.take s).length = 0 := by rw [List.length_take]; omega
  rw [this, joinM]
  simp
theorem joinM_len {ys : List BlkM} {s : Nat} {b : BlkM} (h : s + 1 < ys.length) : (joinM ys s b).length = ys.length - 1 := by
  simp [joinM]; omega
theorem joinM_key {bb : Int} {ys : List BlkM} {s : Nat} {l : Int} {b x y : BlkM} (hx : ys[s]? = some x) (hy : ys[s + 1]? = some y) (hb : bkey b = (y.t, y.last, l + 1, (twoR bb (bkey x) (bkey y)).1, (twoR bb (bkey x) (bkey y)).2)) : (joinM ys s b).map bkey = joinK bb (ys.map bkey) s l := by
  have e1 : atK (ys.map bkey) s = bkey x := by unfold atK; rw [List.getElem?_map, hx]; rfl
  have e2 : atK (ys.map bkey) (s + 1) = bkey y := by unfold atK; rw [List.getElem?_map, hy]; rfl
  unfold joinM joinK bothK
  rw [e1, e2]
  simp only [List.map_append, List.map_take, List.map_cons, List.map_drop, hb]
  rfl
theorem ents_le : ∀ {ys : List BlkM} {y : BlkM}, y ∈ ys → y.es.length ≤ entsK (ys.map bkey)
  | x :: ys, y, h => by
    have e : entsK ((x :: ys).map bkey) = x.es.length + entsK (ys.map bkey) := by simp [entsK, bkey]
    rcases List.mem_cons.1 h with rfl | h
    · omega
    · have := ents_le h; omega
end Go.Proofs.Ytjapjfcennemeaa.blk
end
section
namespace Go.Proofs.Ytjapjfcennemeaa.rnk
open Go.RowKit Go.Proofs.Ytjapjfcennemeaa.mem Go.Proofs.Ytjapjfcennemeaa.gro
set_option linter.unusedVariables false
set_option linter.unusedSimpArgs false
set_option pp.maxSteps 200000
set_option maxHeartbeats 8000000 in
set_option maxRecDepth 100000 in
theorem place_any (A : Option Addr) (n c : Nat) (es : L3) (r : Int) (s : Nat) (w : World) (h1 : ERead w w.heap.size A n es) (hs : n ≤ 16777216) (h0 : s < n) (hr : 0 ≤ r ∧ r ≤ 1099511627776) (hb : ∀ i < n, (0 ≤ (at3 es i).2.1 ∧ (at3 es i).2.1 ≤ 1099511627776) ∧ 0 ≤ (at3 es i).2.2 ∧ (at3 es i).2.2 ≤ 1099511627776) : Calls Try.prog 121 #[.slice A n c, .int .i64 r, .int .i64 s] w fun e w' => e = .returned (.int .i64 (place es r s)) ∧ Below w.heap.size w w' := by
  have H1 := Lib.hid h1
  have HL := Lib.hid h1.len
  have HBd := Lib.hid hb
  clear h1 hb
  go_enter Try.func121, Try.ntmps121
  go_wp2_with fail
  go_loopg [2] n (fun kx s2 wr => ∃ i : Nat, i < n ∧ s2 = .int .i64 i ∧ n - i ≤ kx ∧ Hid (Below w.heap.size w wr) ∧ Hid (place es r i = place es r s))
  case atStart => exact ⟨s, h0, rfl, by omega, Below.refl _ _, (rfl : place es r s = place es r s)⟩
  case round =>
    obtain ⟨i, hi, rfl, hik, BB, HP⟩ := hrel
    have s1 : IntKind.i64.wrap ((i : Int) + 1) = (i : Int) + 1 := IntWalk.i64_in _ (by omega)
    by_cases hl : i + 1 < n
    case neg =>
      have HS := Lib.hid (place_stop (es := es) (n := r) (s := i) (fun h => hl (by have := h.1; rw [HL.out] at this; exact this)))
      have hd1 : decide ((i : Int) + 1 < (n : Int)) = false := by simp; omega
      go_wp2_with fail
      (refine gro.wp_region_grown (by kernel_rfl) (by kernel_rfl) ?_; (repeat (go_big_quiet_step ((fail)))); refine wpQuiet_nil ?_; intro _ hw'; obtain ⟨nx, hw''⟩ := hw'; subst hw'')
      replace BB := Lib.hid (BB.out.trans ((below_grown _ nx).mono BB.out.size))
      generalize grown _ nx = W7 at *
      go_wp2
      go_ret
      exact ⟨ret_int (by rw [← HP.out, HS.out]), BB.out⟩
    have hd1 : decide ((i : Int) + 1 < (n : Int)) = true := by simp; omega
    have H2 := H1.out.below BB.out
    obtain ⟨ad, rfl, hbl, hc1, hc2, hc3⟩ := ERead.at_ H2 hi
    obtain ⟨ad', e, _, hd1', hd2', hd3'⟩ := ERead.at_ H2 hl
    injection e with e
    subst e
    have b1 := HBd.out i hi
    have b2 := HBd.out (i + 1) hl
    have HGo := Lib.hid (fun h => place_go (es := es) (n := r) (s := i) (by rw [HL.out]; exact hl) h)
    have HSt := Lib.hid (fun (h : ¬ far (at3 es (i + 1)) r < far (at3 es i) r) => place_stop (es := es) (n := r) (s := i) (fun h2 => h h2.2))
    have HF1 := Lib.hid (fun W => far_any (at3 es i).1 (at3 es i).2.1 (at3 es i).2.2 r W (by omega) (by omega) (by omega))
    have HF2 := Lib.hid (fun W => far_any (at3 es (i + 1)).1 (at3 es (i + 1)).2.1 (at3 es (i + 1)).2.2 r W (by omega) (by omega) (by omega))
    have e1 : Hid (at3 es i = ((at3 es i).1, (at3 es i).2.1, (at3 es i).2.2)) := rfl
    have e2 : Hid (at3 es (i + 1) = ((at3 es (i + 1)).1, (at3 es (i + 1)).2.1, (at3 es (i + 1)).2.2)) := rfl
    clear H2 b1 b2
    have s2 : 0 ≤ (i : Int) + 1 := by omega
    have s3 : ((i : Int) + 1).toNat = i + 1 := by omega
    have s4 : (i : Int) + 1 < n := by omega
    generalize (at3 es i).1 = v0 at *
    generalize (at3 es i).2.1 = m0 at *
    generalize (at3 es i).2.2 = x0 at *
    generalize (at3 es (i + 1)).1 = v1 at *
    generalize (at3 es (i + 1)).2.1 = m1 at *
    generalize (at3 es (i + 1)).2.2 = x1 at *
    rw [e1.out, e2.out] at HGo HSt
    clear e1 e2
    generalize far (v0, m0, x0) r = f0 at *
    generalize far (v1, m1, x1) r = f1 at *
    by_cases hf : f1 < f0
    case neg =>
      have HS := Lib.hid (HSt.out hf)
      have hd2 : decide (f1 < f0) = false := by simp; omega
      clear HGo HSt hf
      go_wp2_with fail
      (refine gro.wp_region_grown (by kernel_rfl) (by kernel_rfl) ?_; (repeat (go_big_quiet_step (((go_at_call 146; first | (with_reducible exact call_grown (HF2.out _)) | (with_reducible exact call_grown (HF1.out _))))))); refine wpQuiet_nil ?_; intro _ hw'; obtain ⟨nx, hw''⟩ := hw'; subst hw'')
      replace BB := Lib.hid (BB.out.trans ((below_grown _ nx).mono BB.out.size))
      generalize grown _ nx = W7 at *
      go_wp2
      go_ret
      exact ⟨ret_int (by rw [← HP.out, HS.out]), BB.out⟩
    have HS := Lib.hid (HGo.out hf)
    have hd2 : decide (f1 < f0) = true := by simp; omega
    clear HGo HSt hf
    go_wp2_with fail
    (refine gro.wp_region_grown (by kernel_rfl) (by kernel_rfl) ?_; (repeat (go_big_quiet_step (((go_at_call 146; first | (with_reducible exact call_grown (HF2.out _)) | (with_reducible exact call_grown (HF1.out _))))))); refine wpQuiet_nil ?_; intro _ hw'; obtain ⟨nx, hw''⟩ := hw'; subst hw'')
    replace BB := Lib.hid (BB.out.trans ((below_grown _ nx).mono BB.out.size))
    clear hc1 hc2 hc3 hd1' hd2' hd3'
    generalize grown _ nx = W7 at *
    go_wp2
    go_roundg (n - (i + 1))
    case measure => omega
    case rel => exact ⟨i + 1, hl, by go_num, by omega, BB, by rw [← HS.out]; exact HP.out⟩
end Go.Proofs.Ytjapjfcennemeaa.rnk
end
section
namespace Go.Proofs.Ytjapjfcennemeaa.gro
open Go.RowKit Go.Proofs.Ytjapjfcennemeaa.mem
set_option linter.unusedVariables false
theorem start6 (w : World) (t1 t2 t3 t4 t5 t6 : TypeId) (c1 c2 c3 c4 c5 c6 : Array Value) :
    ∃ W, (((((w.alloc (.cells c1 t1)).alloc (.cells c2 t2)).alloc (.cells c3 t3)).alloc (.cells c4 t4)).alloc (.cells c5 t5)).alloc (.cells c6 t6) = W ∧ W.heap.size = w.heap.size + 1 + 1 + 1 + 1 + 1 + 1 ∧
      Bx W [(w.heap.size + 1 + 1 + 1 + 1 + 1, t6, c6), (w.heap.size + 1 + 1 + 1 + 1, t5, c5), (w.heap.size + 1 + 1 + 1, t4, c4), (w.heap.size + 1 + 1, t3, c3), (w.heap.size + 1, t2, c2), (w.heap.size, t1, c1)] ∧ Below w.heap.size w W := by
  obtain ⟨W, hW, hs, K, B⟩ := start4 w t1 t2 t3 t4 c1 c2 c3 c4
  rw [hW]
  exact ⟨_, rfl, by simp [hs], (K.new hs).new (by simp [hs]), (B.alloc (by omega) _).alloc (by simp; omega) _⟩
end Go.Proofs.Ytjapjfcennemeaa.gro
end
