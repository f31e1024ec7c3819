/- BSame; Own; Own2; Expire: texts in one. -/
import Derived.Test.YtjapjfcennemeaaMgTri
import Derived.Test.YtjapjfcennemeaaMgBox
import Derived.Test.YtjapjfcennemeaaSteady
import Derived.LoopN
import Derived.Test.YtjapjfcennemeaaApp
import Derived.Deep.QuietTactic
import Derived.BigQuiet
import Derived.Deep.LoopGhost
import Derived.LoopTactic
import Derived.Outline
set_option linter.unusedVariables false
set_option linter.unusedSimpArgs false
/- Contract of the reference's Same of summaries, at equal ones. -/
namespace Go.Proofs.Ytjapjfcennemeaa.blk
open Go.RowKit Go.Proofs.Ytjapjfcennemeaa.mem Go.Proofs.Ytjapjfcennemeaa.gro
set_option linter.unusedVariables false
set_option maxHeartbeats 4000000 in
set_option maxRecDepth 100000 in
theorem SameR_ok (n : Int) (A1 A2 : Option Addr) (k1 c1 k2 c2 : Nat) (es : L3) (w : World) (h1 : ERead w w.heap.size A1 k1 es) (h2 : ERead w w.heap.size A2 k2 es) (hm : k1 ≤ 9223372036854775807) :
    Calls Try.prog 37 #[.agg #[.int .i64 n, .slice A1 k1 c1], .agg #[.int .i64 n, .slice A2 k2 c2]] w fun e w' => e = .returned (.bool true) ∧ Below w.heap.size w w' := by
  obtain rfl : k1 = k2 := by rw [← h1.len, h2.len]
  have H1 := Lib.hid h1
  have H2 := Lib.hid h2
  clear h1 h2
  go_enter Try.func37, Try.ntmps37
  go_wp2_with fail
  obtain ⟨W0, hW, hs0, K0, B0⟩ := start2 w 46 46 #[Value.int IntKind.i64 n, Value.slice A1 k1 c1] #[Value.int IntKind.i64 n, Value.slice A2 k1 c2]
  rw [hW]
  clear hW
  have KK := Lib.hid K0
  have BB := Lib.hid B0
  have R := K0.rules
  simp only [Rules] at R
  clear K0 B0 hs0
  go_wp2_with fail
  clear R
  go_loopg [23] k1 (fun kx s wr => ∃ k : Nat, k ≤ k1 ∧ s = .int .i64 k ∧ k1 - k ≤ kx ∧ Hid (Bx wr [(w.heap.size + 1, 46, #[Value.int IntKind.i64 n, Value.slice A2 k1 c2]), (w.heap.size, 46, #[Value.int IntKind.i64 n, Value.slice A1 k1 c1])]) ∧ Hid (Below w.heap.size w wr))
  case atStart => exact ⟨0, Nat.zero_le _, rfl, by omega, KK, BB⟩
  case round =>
    clear KK BB
    obtain ⟨k, hk, rfl, hg, KK, BB⟩ := hrel
    have R := KK.out.rules
    simp only [Rules] at R
    by_cases hlt : k < k1
    case neg =>
      obtain rfl : k1 = k := by omega
      go_wp2
      go_ret
      exact ⟨rfl, BB.out⟩
    obtain ⟨ad, rfl, hb1, a1, a2, a3⟩ := ERead.at_ (Reads.below H1.out BB.out) hlt
    obtain ⟨ae, rfl, hb2, d1, d2, d3⟩ := ERead.at_ (Reads.below H2.out BB.out) hlt
    generalize (at3 es k).1 = x at *
    generalize (at3 es k).2.1 = y at *
    generalize (at3 es k).2.2 = z at *
    go_wp2_with fail
    (refine gro.wp_region_grown (by kernel_rfl) (by kernel_rfl) ?_; (repeat (go_big_quiet_step ((fail)))); refine wpQuiet_nil ?_; intro _ hw'; obtain ⟨nx, hw''⟩ := hw'; subst hw'')
    replace KK := Lib.hid (KK.out.below (below_grown _ nx))
    replace BB := Lib.hid (BB.out.trans ((below_grown _ nx).mono BB.out.size))
    clear R
    generalize grown _ nx = W7 at *
    go_wp2
    go_roundg (k1 - (k + 1))
    case measure => omega
    case rel => exact ⟨k + 1, by omega, by go_num, by omega, KK, BB⟩
def bkey (b : BlkM) : Int × Int × Int × Int × L3 := (b.t, b.last, b.level, b.num, b.es)
set_option maxHeartbeats 8000000 in
set_option maxRecDepth 100000 in
theorem SameB_ok (A1 A2 : Option Addr) (n1 c1 n2 c2 : Nat) (xs ys : List BlkM) (w : World) (h1 : BRead w w.heap.size A1 n1 xs) (h2 : BRead w w.heap.size A2 n2 ys) (he : xs.map bkey = ys.map bkey) (hm : n1 ≤ 9223372036854775807) :
    Calls Try.prog 21 #[.slice A1 n1 c1, .slice A2 n2 c2] w fun e w' => e = .returned (.bool true) ∧ Below w.heap.size w w' := by
  have hl : xs.length = ys.length := by have := congrArg List.length he; simpa using this
  obtain rfl : n1 = n2 := by rw [← h1.len, h2.len] at *; first | exact hl | (rw [← hl])
  have H1 := Lib.hid h1
  have H2 := Lib.hid h2
  have HE := Lib.hid he
  clear h1 h2 he hl
  go_enter Try.func21, Try.ntmps21
  go_wp2_with fail
  go_loopg [13] n1 (fun kx s wr => ∃ k : Nat, k ≤ n1 ∧ s = .int .i64 k ∧ n1 - k ≤ kx ∧ Hid (Below w.heap.size w wr))
  case atStart => exact ⟨0, Nat.zero_le _, rfl, by omega, Below.refl _ _⟩
  case round =>
    obtain ⟨k, hk, rfl, hg, BB⟩ := hrel
    by_cases hlt : k < n1
    case neg =>
      obtain rfl : n1 = k := by omega
      go_wp2
      go_ret
      exact ⟨rfl, BB.out⟩
    obtain ⟨ad, b1, rfl, hb1, x1, a1, a2, a3, a4, a5, aE, aq1, aq2⟩ := BRead.at_ (H1.out.below BB.out) hlt
    obtain ⟨ae, b2, rfl, hb2, x2, d1, d2, d3, d4, d5, dE, dq1, dq2⟩ := BRead.at_ (H2.out.below BB.out) hlt
    have hkey : bkey b1 = bkey b2 := by
      have h := congrArg (fun l => l[k]?) HE.out
      simp only [List.getElem?_map, x1, x2, Option.map_some, Option.some.injEq] at h
      exact h
    obtain ⟨t1, l1, v1, m1, ar1, en1, ec1, es1⟩ := b1
    obtain ⟨t2, l2, v2, m2, ar2, en2, ec2, es2⟩ := b2
    simp only [bkey, Prod.mk.injEq] at hkey
    obtain ⟨rfl, rfl, rfl, rfl, rfl⟩ := hkey
    clear x1 x2
    have hen : en1 ≤ 9223372036854775807 := Nat.le_trans aq1 aq2
    have HS := Lib.hid (fun W (hb : Below wr.heap.size wr W) => SameR_ok m1 ar1 ar2 en1 ec1 en2 ec2 es1 W ((Reads.below (aE.more BB.out.size) hb).more hb.size) ((Reads.below (dE.more BB.out.size) hb).more hb.size) hen)
    go_wp2_with fail
    (refine gro.wp_region_grown (by kernel_rfl) (by kernel_rfl) ?_; (repeat (go_big_quiet_step ((go_at_call 37; exact gro.call_grown (HS.out _ (gro.below_grown _ _)))))); refine wpQuiet_nil ?_; intro _ hw'; obtain ⟨nx, hw''⟩ := hw'; subst hw'')
    replace BB := Lib.hid (BB.out.trans ((below_grown _ nx).mono BB.out.size))
    generalize grown _ nx = W7 at *
    go_wp2
    go_roundg (n1 - (k + 1))
    case measure => omega
    case rel => exact ⟨k + 1, by omega, by go_num, by omega, BB⟩
end Go.Proofs.Ytjapjfcennemeaa.blk

/- More facts on rows of the call's own: their form, prefixes, stores of pairs. -/
set_option linter.unusedVariables false
namespace Go.Proofs.Ytjapjfcennemeaa.mem
open Go.RowKit
section
variable {w w' : World} {base : Nat} {e : TypeId} {size n c g : Nat} {v : Value} {xs : List Value}
theorem own_form2 (h : w.ownsRow base e size v n xs) (hn : 0 < n) :
    ∃ g c, v = .slice (some ⟨g, 0, none⟩) n c ∧ n ≤ c ∧ c ≤ 9223372036854775807 ∧ base ≤ g ∧ g < w.heap.size := by
  rcases h.2 with ⟨rfl, rfl⟩ | ⟨g, cap, cur, rfl, hb, hh, hnc, hcm, _⟩
  · omega
  · refine ⟨g, cap, rfl, hnc, hcm, hb, ?_⟩
    rcases Nat.lt_or_ge g w.heap.size with h1 | h1
    · exact h1
    · rw [Array.getElem?_eq_none h1] at hh; cases hh
theorem own_prefix (h : w.ownsRow base e size (.slice (some ⟨g, 0, none⟩) n c) n xs) {k : Nat} (hk : k ≤ n) :
    w.ownsRow base e size (.slice (some ⟨g, 0, none⟩) k c) k (xs.take (k * size)) := by
  rcases h.2 with ⟨h1, _⟩ | ⟨g', cap, cur, h1, hb, hh, hnc, hcm, hs, hx⟩
  · cases h1
  · simp only [Value.slice.injEq, Option.some.injEq, Addr.mk.injEq, and_true, true_and] at h1
    obtain ⟨rfl, rfl⟩ := h1
    have hks : k * size ≤ n * size := Nat.mul_le_mul_right _ hk
    refine ⟨by rw [List.length_take, h.1]; exact Nat.min_eq_left hks, .inr ⟨g, c, cur, rfl, hb, hh, by omega, hcm, hs, ?_⟩⟩
    rw [← hx, List.take_take, Nat.min_eq_left hks]
theorem own_reads (h : w.ownsRow base e size (.slice (some ⟨g, 0, none⟩) n c) n xs) {k : Nat} (hk : k ≤ n) :
    Reads w (g + 1) size (some ⟨g, k * size, none⟩) (n - k) (xs.drop (k * size)) := by
  refine ⟨by rw [List.length_drop, h.1, Nat.sub_mul], fun hn => ⟨_, rfl, by simp, fun j u hu => ?_⟩⟩
  have hj : k * size + j < n * size := by
    rcases Nat.lt_or_ge (k * size + j) (n * size) with h1 | h1
    · exact h1
    · rw [List.getElem?_eq_none (by rw [List.length_drop, h.1]; omega)] at hu; cases hu
  have hadd : (⟨g, k * size, none⟩ : Addr).add j = ⟨g, k * size + j, none⟩ := by unfold Addr.add; split <;> simp_all
  rw [hadd, h.cellAt _ hj, ← hu, List.getElem?_drop]
theorem own_cut (h : w.ownsRow base e size (.slice (some ⟨g, 0, none⟩) n c) n xs) {k : Nat} (hk : k ≤ n) (hc : n ≤ c) :
    Reads w (g + 1) size (if c = k then some ⟨g, 0, none⟩ else some ⟨g, k * size, none⟩) (n - k) (xs.drop (k * size)) := by
  split
  · have hz : n - k = 0 := by omega
    refine ⟨by rw [List.length_drop, h.1, ← Nat.sub_mul], fun h0 => by omega⟩
  · exact own_reads h hk
theorem own_keep (h : w.ownsRow base e size v n xs) (hb : Below w.heap.size w w') : w'.ownsRow base e size v n xs := by
  refine ⟨h.1, ?_⟩
  rcases h.2 with h2 | ⟨g, cap, cur, hv, hg, hh, r⟩
  · exact .inl h2
  · have hlt : g < w.heap.size := by
      rcases Nat.lt_or_ge g w.heap.size with h1 | h1
      · exact h1
      · rw [Array.getElem?_eq_none h1] at hh; cases hh
    exact .inr ⟨g, cap, cur, hv, hg, by rw [hb.block g hlt]; exact hh, r⟩
theorem below_box2 {w w1 : World} (hbase : base ≤ w.heap.size) (hown : w.ownsRow base e size v n xs) {o : Obj} (hg : (w.alloc o).grownBy w1 v.ownBlock) : Below base w w1 :=
  ((Below.refl _ _).alloc hbase o).grown hg (by simp; omega) (own_block_ge hown)
/-- A pair is stored at place b. -/
theorem pc_set (ys : List (Int × Int)) (b : Nat) (p : Int × Int) : ((pc ys).set (b * 2) (.int .i64 p.1)).set (b * 2 + 1) (.int .i64 p.2) = pc (ys.set b p) := by
  induction ys generalizing b with
  | nil => simp [pc]
  | cons q ys ih =>
    cases b with
    | zero => simp [pc_cons]
    | succ b =>
      rw [pc_cons, show (b + 1) * 2 = b * 2 + 1 + 1 by omega, List.set_cons_succ, List.set_cons_succ, List.set_cons_succ, List.set_cons_succ, ih, List.set_cons_succ, pc_cons]
theorem own_store2 {ys : List (Int × Int)} (h : w.ownsRow base e 2 (.slice (some ⟨g, 0, none⟩) n c) n (pc ys)) (b : Nat) (x y : Int) :
    ((w.setCell ⟨g, b * 2, none⟩ (.int .i64 x)).setCell ⟨g, b * 2 + 1, none⟩ (.int .i64 y)).ownsRow base e 2 (.slice (some ⟨g, 0, none⟩) n c) n (pc (ys.set b (x, y))) := by
  have := ((h.stored (b * 2) (.int .i64 x)).1.stored (b * 2 + 1) (.int .i64 y)).1
  rw [pc_set ys b (x, y)] at this
  exact this
theorem own_pair {ys : List (Int × Int)} (h : w.ownsRow base e 2 (.slice (some ⟨g, 0, none⟩) n c) n (pc ys)) {i : Nat} (hi : i < n) :
    w.cell? ⟨g, i * 2, none⟩ = some (.int .i64 (ys[i]?.getD (0, 0)).1) ∧ w.cell? ⟨g, i * 2 + 1, none⟩ = some (.int .i64 (ys[i]?.getD (0, 0)).2) := by
  have hl : ys.length = n := by have := h.1; rw [pc_length] at this; omega
  obtain ⟨h1, h2⟩ := pc_get ys i (by omega)
  rw [h.cellAt _ (by omega), h.cellAt _ (by omega), h1, h2, List.getElem?_eq_getElem (by omega)]
  exact ⟨rfl, rfl⟩
theorem own_empty2 {t : TypeId} (hg : w.heap.size = g) (hb : base ≤ g) : (w.alloc (.cells #[] t)).ownsRow base t size (.slice (some ⟨g, 0, none⟩) 0 0) 0 [] := by
  subst hg
  exact ⟨by simp, .inr ⟨w.heap.size, 0, #[], rfl, hb, heap_alloc_new w _, Nat.le_refl _, Nat.zero_le _, by simp, by simp⟩⟩
theorem blk_new2 {t : TypeId} {cs : Array Value} (hg : w.heap.size = g) : Blk (w.alloc (.cells cs t)) g t cs := by subst hg; exact Blk.new w t cs
theorem reads_blk {t : TypeId} {cs : Array Value} (h : Blk w g t cs) (hs : cs.size = n * size) : Reads w (g + 1) size (some ⟨g, 0, none⟩) n cs.toList := by
  refine ⟨by simpa using hs, fun _ => ⟨_, rfl, by simp, fun j u hu => ?_⟩⟩
  have hadd : (⟨g, 0, none⟩ : Addr).add j = ⟨g, j, none⟩ := by unfold Addr.add; split <;> simp_all
  rw [hadd, h.cell]
  simpa using hu
end
end Go.Proofs.Ytjapjfcennemeaa.mem

/- An append onto a row of the call's own leaves what was there. -/
namespace Go.Proofs.Ytjapjfcennemeaa.mem
open Go.RowKit
theorem below_own {W w1 a : World} {B base : Nat} {e : TypeId} {size n : Nat} {v : Value} {xs : List Value} (hg : W.grownBy w1 v.ownBlock) (hown : W.ownsRow base e size v n xs) (hb : Below B a W) (hB : B ≤ base) (hW : B ≤ W.heap.size) : Below B a w1 :=
  hb.grown hg hW (fun k hk => Nat.le_trans hB (own_block_ge hown k hk))
theorem own_mono {w : World} {base base' : Nat} {e : TypeId} {size n : Nat} {v : Value} {xs : List Value} (h : w.ownsRow base e size v n xs) (hb : base' ≤ base) : w.ownsRow base' e size v n xs := by
  refine ⟨h.1, ?_⟩
  rcases h.2 with h2 | ⟨g, cap, cur, hv, hg, r⟩
  · exact .inl h2
  · exact .inr ⟨g, cap, cur, hv, Nat.le_trans hb hg, r⟩
end Go.Proofs.Ytjapjfcennemeaa.mem

/- Contracts of buckets.Expire and of its reference. -/
namespace Go.Proofs.Ytjapjfcennemeaa.lst
open Go.RowKit Go.Proofs.Ytjapjfcennemeaa.mem
set_option linter.unusedVariables false

def expireL (f : Int) (xs : List (Int × Int)) : List (Int × Int) := xs.dropWhile (fun p => decide (p.1 < f))

/-- A slice of pairs that is handed back: it lies in the world w', below its size. -/
def PSlice (w' : World) (ys : List (Int × Int)) (v : Value) : Prop := ∃ A m c, v = .slice A m c ∧ m ≤ c ∧ c ≤ maxLen ∧ PRead w' w'.heap.size A m ys

def ExpireR (xs : List (Int × Int)) (f : Int) (w : World) (B : Nat) (e : Ending) (w' : World) : Prop :=
  ∃ A m c, e = .returned (.slice A m c) ∧ m ≤ c ∧ c ≤ maxLen ∧ PRead w B A m (expireL f xs) ∧ w = w'

theorem expireL_le (f : Int) (xs : List (Int × Int)) : (expireL f xs).length ≤ xs.length := (List.dropWhile_sublist _).length_le
theorem expire_yes {f : Int} {ys : List (Int × Int)} (h : (ys[0]?.getD (0, 0)).1 < f) (h0 : 0 < ys.length) : expireL f (ys.drop 1) = expireL f ys := by
  cases ys with
  | nil => simp at h0
  | cons y ys => simp at h; simp [expireL, List.dropWhile, h]
theorem expire_no {f : Int} {ys : List (Int × Int)} (h : f ≤ (ys[0]?.getD (0, 0)).1) (h0 : 0 < ys.length) : expireL f ys = ys := by
  cases ys with
  | nil => simp at h0
  | cons y ys => simp at h; simp [expireL, List.dropWhile, show ¬ y.1 < f from by omega]

theorem bucket_info : (Try.prog.info? 102).map (fun i => (i.zero, i.size, i.bytes)) = some (some (.agg #[.int .i64 0, .int .i64 0]), 2, 16) := by kernel_rfl

end Go.Proofs.Ytjapjfcennemeaa.lst
