/- RBox, RBtw, Live: proved here in one text, no conditions beyond those that each theorem states. -/
import Derived.OneCell
import Derived.LoopN
import Derived.Test.YtjapjfcennemeaaZ4
import Derived.Test.YtjapjfcennemeaaZ19
import Derived.Test.YtjapjfcennemeaaZ3
import Derived.Test.YtjapjfcennemeaaZ20
import Derived.Test.YtjapjfcennemeaaZ21
import Derived.Test.YtjapjfcennemeaaZ13
set_option linter.unusedVariables false
set_option linter.unusedSimpArgs false
section
namespace Go.Proofs.Ytjapjfcennemeaa.rnk
open Go.RowKit Go.Proofs.Ytjapjfcennemeaa.mem Go.Proofs.Ytjapjfcennemeaa.gro
set_option linter.unusedVariables false
theorem entry_info : (Try.prog.info? 94).map (fun i => (i.zero, i.size, i.bytes)) = some (some (.agg #[.int .i64 0, .int .i64 0, .int .i64 0]), 3, 24) := by kernel_rfl
theorem ERead.below {w w' : World} {B n : Nat} {A : Option Addr} {xs : L3} (h : ERead w B A n xs) (hb : Below B w w') : ERead w' B A n xs := mem.Reads.below h hb
theorem Reads.far {W : World} {B n size : Nat} {A : Option Addr} {ys : List Value} (h : Reads W B size A n ys) (p : Addr) (hf : 0 < n → ∀ ad, A = some ad → ad.block ≠ p.block) (u : Value) : Reads (W.setCell p u) B size A n ys := by
  obtain ⟨h1, h2⟩ := h
  refine ⟨h1, fun hn => ?_⟩
  obtain ⟨ad, e, hb, hc⟩ := h2 hn
  refine ⟨ad, e, hb, fun j v hv => ?_⟩
  rw [← hc j v hv]
  exact World.cell?_of_block (Below.heap_setCell W p u _ (by rw [block_of_add]; exact hf hn ad e))
theorem Reads.blk {W : World} {B n size : Nat} {A : Option Addr} {ys : List Value} (h : Reads W B size A n ys) : 0 < n → ∀ ad, A = some ad → ad.block < B := fun hn ad e => by
  obtain ⟨ad', e', hb, _⟩ := h.2 hn
  rw [e] at e'; injection e' with e'; subst e'; exact hb
theorem Bx.app3 {W w1 : World} {L : List (Nat × TypeId × Array Value)} {row : Option Nat} (h : Bx W L) (hg : W.grownBy w1 row) (hd : ∀ p ∈ L, some p.1 ≠ row) : Bx w1 L := fun p hp => (h p hp).grown hg (hd p hp)
theorem Bx.put3 {W : World} {L : List (Nat × TypeId × Array Value)} {g : Nat} {t : TypeId} {x0 x1 x2 u0 u1 u2 : Value} (h : Bx W ((g, t, #[x0, x1, x2]) :: L)) (hd : ∀ q ∈ L, q.1 ≠ g) :
    Bx (((W.setCell ⟨g, 0, none⟩ u0).setCell ⟨g, 1, none⟩ u1).setCell ⟨g, 2, none⟩ u2) ((g, t, #[u0, u1, u2]) :: L) := by
  have := ((h.puti hd 0 u0).puti hd 1 u1).puti hd 2 u2
  simpa using this
theorem own_put3 {W : World} {base size n g : Nat} {e : TypeId} {v : Value} {xs : List Value} (h : W.ownsRow base e size v n xs) (hg : v.ownBlock ≠ some g) (u0 u1 u2 : Value) : (((W.setCell ⟨g, 0, none⟩ u0).setCell ⟨g, 1, none⟩ u1).setCell ⟨g, 2, none⟩ u2).ownsRow base e size v n xs :=
  ownsRow_setCell_other (ownsRow_setCell_other (ownsRow_setCell_other h (a := ⟨g, 0, none⟩) hg u0) (a := ⟨g, 1, none⟩) hg u1) (a := ⟨g, 2, none⟩) hg u2
theorem ERead.cells {w : World} {B n : Nat} {A : Option Addr} {xs : L3} (h : ERead w B A n xs) {i : Nat} (hi : i < n) : ∃ ad, A = some ad ∧ ad.block < B ∧ Hid (∀ W, Below B w W → W.cell? (ad.add (i * 3)) = some (.int .i64 (at3 xs i).1) ∧ W.cell? ⟨(ad.add (i * 3)).block, (ad.add (i * 3)).off + 1, none⟩ = some (.int .i64 (at3 xs i).2.1) ∧ W.cell? ⟨(ad.add (i * 3)).block, (ad.add (i * 3)).off + 2, none⟩ = some (.int .i64 (at3 xs i).2.2)) := by
  obtain ⟨ad, rfl, hb, _⟩ := ERead.at_ h hi
  refine ⟨ad, rfl, hb, fun W hW => ?_⟩
  obtain ⟨ad', e, _, h1, h2, h3⟩ := ERead.at_ (ERead.below h hW) hi
  injection e with e
  subst e
  exact ⟨h1, h2, h3⟩
def NewRF (N : Int) (es : L3) (w : World) (e : Ending) (w' : World) : Prop :=
  ∃ A m c, e = .returned (.agg #[.int .i64 N, .slice A m c]) ∧ m ≤ c ∧ c ≤ maxLen ∧ ERead w' w'.heap.size A m es ∧ Below w.heap.size w w' ∧ ∀ ad, A = some ad → w.heap.size ≤ ad.block
def NewRE (p : Int × L3) (er : Int) (w : World) (e : Ending) (w' : World) : Prop :=
  ∃ A m c, e = .returned (.tuple #[.agg #[.int .i64 p.1, .slice A m c], .int .i64 er]) ∧ m ≤ c ∧ c ≤ maxLen ∧ ERead w' w'.heap.size A m p.2 ∧ Below w.heap.size w w'
theorem put_out {w W : World} {g n : Nat} {A : Option Addr} {es : L3} (BB : Below w.heap.size w W) (hg : w.heap.size ≤ g) (HF : ERead W W.heap.size A n es) (hd : 0 < n → ∀ ad, A = some ad → ad.block ≠ g) (x y : Value) :
    ERead ((W.setCell ⟨g, 0, none⟩ x).setCell ⟨g, 1, none⟩ y) ((W.setCell ⟨g, 0, none⟩ x).setCell ⟨g, 1, none⟩ y).heap.size A n es ∧ Below w.heap.size w ((W.setCell ⟨g, 0, none⟩ x).setCell ⟨g, 1, none⟩ y) :=
  ⟨Reads.more (Reads.far (Reads.far HF ⟨g, 0, none⟩ hd x) ⟨g, 1, none⟩ hd y) (by simp [World.setCell]), (BB.setCell (p := ⟨g, 0, none⟩) hg _).setCell (p := ⟨g, 1, none⟩) hg _⟩
end Go.Proofs.Ytjapjfcennemeaa.rnk
end
section
namespace Go.Proofs.Ytjapjfcennemeaa.rnk
open Go.RowKit Go.Proofs.Ytjapjfcennemeaa.mem Go.Proofs.Ytjapjfcennemeaa.gro
set_option linter.unusedVariables false
set_option linter.unusedSimpArgs false
set_option pp.maxSteps 200000
set_option maxHeartbeats 8000000 in
set_option maxRecDepth 100000 in
theorem between_any (v mn mx : Int) (A : Option Addr) (n c : Nat) (o : L3) (i : Nat) (N : Int) (w : World) (h1 : ERead w w.heap.size A n o) (hs : n ≤ 16777216) (hi : i ≤ n) (g1 : 0 ≤ mn ∧ mn ≤ 1099511627776) (g2 : 0 ≤ mx ∧ mx ≤ 1099511627776) (g3 : 0 ≤ N ∧ N ≤ 1099511627776) (hb : ∀ i < n, (0 ≤ (at3 o i).2.1 ∧ (at3 o i).2.1 ≤ 1099511627776) ∧ 0 ≤ (at3 o i).2.2 ∧ (at3 o i).2.2 ≤ 1099511627776) : Calls Try.prog 120 #[.agg #[.int .i64 v, .int .i64 mn, .int .i64 mx], .slice A n c, .int .i64 i, .int .i64 N] w fun e w' => e = .returned (.agg #[.int .i64 (btw (v, mn, mx) o i N).1, .int .i64 (btw (v, mn, mx) o i N).2.1, .int .i64 (btw (v, mn, mx) o i N).2.2]) ∧ Below w.heap.size w w' := by
  have H1 := Lib.hid h1
  have HL := Lib.hid h1.len
  have HBd := Lib.hid hb
  clear h1 hb
  obtain ⟨lo, hlo⟩ : ∃ lo, (if 0 < i then (at3 o (i - 1)).2.1 else 0) = lo := ⟨_, rfl⟩
  obtain ⟨up, hup⟩ : ∃ up, (if i < o.length then (at3 o i).2.2 - 1 else N) = up := ⟨_, rfl⟩
  have hbt : btw (v, mn, mx) o i N = (v, mn + lo, mx + up) := by unfold btw; rw [hlo, hup]
  rw [hbt, show (v, mn + lo, mx + up).1 = v from rfl, show (v, mn + lo, mx + up).2.1 = mn + lo from rfl, show (v, mn + lo, mx + up).2.2 = mx + up from rfl]
  clear hbt
  rw [HL.out] at hup
  by_cases hin0 : 0 < i
  case pos =>
    rw [if_pos hin0] at hlo
    go_enter Try.func120, Try.ntmps120
    go_wp2_with fail
    obtain ⟨W0, hW, hs0, K0, B0⟩ := start2 w 94 94 #[Value.int IntKind.i64 v, Value.int IntKind.i64 mn, Value.int IntKind.i64 mx] #[Value.int IntKind.i64 0, Value.int IntKind.i64 0, Value.int IntKind.i64 0]
    rw [hW]
    clear hW
    have KK := Lib.hid (K0.swap)
    have BB := Lib.hid B0
    have R := K0.rules
    simp only [Rules] at R
    clear K0 B0
    obtain ⟨ad, rfl, hbl, HC⟩ := ERead.cells H1.out (show i - 1 < n by omega)
    have b1 := HBd.out (i - 1) (by omega)
    generalize (at3 o (i - 1)).1 = xv at *
    generalize (at3 o (i - 1)).2.2 = xm at *
    generalize (at3 o (i - 1)).2.1 = x0 at *
    subst hlo
    have s1 : IntKind.i64.wrap ((i : Int) - 1) = (i : Int) - 1 := IntWalk.i64_in _ (by omega)
    have s2 : IntKind.i64.wrap (mn + x0) = mn + x0 := IntWalk.i64_in _ (by omega)
    have s3 : 0 ≤ (i : Int) - 1 := by omega
    have s4 : ((i : Int) - 1).toNat = i - 1 := by omega
    have s5 : (i : Int) - 1 < n := by omega
    go_wp2_with fail
    (refine gro.wp_region_heldA [0, 1, 2, 3, 4, 5, 6, 7, 8, 9] 1 10 _ (gro.lasts_below (W0).drew) (by kernel_rfl) (by kernel_rfl) (by intro _ _ _ _ _ h; exact h) (by kernel_rfl) (by kernel_rfl) (by kernel_rfl) (by kernel_rfl) (by kernel_rfl) (by decide) (Below.refl _ _) ?_; apply Exists.intro; refine ⟨fun w0 hb0 => ?_, ?_⟩; focus (replace hb0 := (Below.drew (Below.refl _ (W0))).trans hb0; have KZ := (KK.out).below hb0; have RZ := KZ.rules; simp only [gro.Rules] at RZ; (obtain ⟨f1, f2, f3⟩ := HC.out w0 (BB.out.trans (hb0.mono BB.out.size))); simp only [gro.pickA, List.filterMap_cons, List.filterMap_nil, List.getElem?_toArray, List.getElem?_cons_succ, List.getElem?_cons_zero]; change wpQuiet _ _ _ _ (_ :: _ :: _ :: _ :: _ :: _ :: _ :: _ :: _ :: _ ::  []) _; (repeat (go_big_quiet_step ((fail)))); exact wpQuiet_nil rfl))
    refine gro.anyM_one 10 (by kernel_rfl) rfl ?_
    intro y1 hz1 K' hK'
    have hz : Below W0.heap.size W0 y1 := ((Below.refl _ _).drew).trans hz1
    have KV := KK.out.below hz
    have RV := KV.rules
    simp only [Rules] at RV
    go_simp
    refine hK' _ _ ⟨fun h => absurd (show true = false from h) (by decide), ?_⟩
    clear hK' K'
    have KT := Bx.puti KV (by simp) 1 (Value.int IntKind.i64 (mn + x0))
    replace BB := Lib.hid ((BB.out.trans (hz.mono BB.out.size)).setCell (p := ⟨w.heap.size, 1, none⟩) (Nat.le_refl _) (Value.int IntKind.i64 (mn + x0)))
    refine gro.anyM_done (by kernel_rfl) ?_
    intro y7 hz7
    replace BB := Lib.hid (BB.out.trans (hz7.mono BB.out.size))
    clear R RV KK
    have KK := Lib.hid (show Bx y7 [(w.heap.size, 94, #[Value.int IntKind.i64 v, Value.int IntKind.i64 (mn + x0), Value.int IntKind.i64 mx]), (w.heap.size + 1, 94, #[Value.int IntKind.i64 0, Value.int IntKind.i64 0, Value.int IntKind.i64 0])] from by have := KT.below hz7; simpa using this)
    clear KT KV hz hz1 hz7
    have R := KK.out.rules
    simp only [Rules] at R
    clear s1 s2 s3 s4 s5 HC hbl b1
    by_cases hin : i < n
    case pos =>
      rw [if_pos hin] at hup
      obtain ⟨ad9, e9, hbl, HC⟩ := ERead.cells H1.out hin
      injection e9 with e9
      subst e9
      have b1 := HBd.out i hin
      generalize (at3 o i).1 = xv1 at *
      generalize (at3 o i).2.1 = xm1 at *
      generalize (at3 o i).2.2 = x1 at *
      subst hup
      have s1 : IntKind.i64.wrap (x1 - 1) = x1 - 1 := IntWalk.i64_in _ (by omega)
      have s2 : IntKind.i64.wrap (mx + (x1 - 1)) = mx + (x1 - 1) := IntWalk.i64_in _ (by omega)
      go_wp2_with fail
      (refine gro.wp_region_heldA [0, 1, 2, 3, 4, 5, 6, 7, 8, 9] 1 10 _ (gro.lasts_below (y7).drew) (by kernel_rfl) (by kernel_rfl) (by intro _ _ _ _ _ h; exact h) (by kernel_rfl) (by kernel_rfl) (by kernel_rfl) (by kernel_rfl) (by kernel_rfl) (by decide) (Below.refl _ _) ?_; apply Exists.intro; refine ⟨fun w0 hb0 => ?_, ?_⟩; focus (replace hb0 := (Below.drew (Below.refl _ (y7))).trans hb0; have KZ := (KK.out).below hb0; have RZ := KZ.rules; simp only [gro.Rules] at RZ; (obtain ⟨f1, f2, f3⟩ := HC.out w0 (BB.out.trans (hb0.mono BB.out.size))); simp only [gro.pickA, List.filterMap_cons, List.filterMap_nil, List.getElem?_toArray, List.getElem?_cons_succ, List.getElem?_cons_zero]; change wpQuiet _ _ _ _ (_ :: _ :: _ :: _ :: _ :: _ :: _ :: _ :: _ :: _ ::  []) _; (repeat (go_big_quiet_step ((fail)))); exact wpQuiet_nil rfl))
      refine gro.anyM_one 10 (by kernel_rfl) rfl ?_
      intro y1 hz1 K' hK'
      have hz : Below y7.heap.size y7 y1 := ((Below.refl _ _).drew).trans hz1
      have KV := KK.out.below hz
      have RV := KV.rules
      simp only [Rules] at RV
      go_simp
      refine hK' _ _ ⟨fun h => absurd (show true = false from h) (by decide), ?_⟩
      clear hK' K'
      have KT := Bx.puti KV (by simp) 2 (Value.int IntKind.i64 (mx + (x1 - 1)))
      replace BB := Lib.hid ((BB.out.trans (hz.mono BB.out.size)).setCell (p := ⟨w.heap.size, 2, none⟩) (Nat.le_refl _) (Value.int IntKind.i64 (mx + (x1 - 1))))
      refine gro.anyM_done (by kernel_rfl) ?_
      intro y7 hz7
      replace BB := Lib.hid (BB.out.trans (hz7.mono BB.out.size))
      clear R RV KK
      have KK := Lib.hid (show Bx y7 [(w.heap.size, 94, #[Value.int IntKind.i64 v, Value.int IntKind.i64 (mn + x0), Value.int IntKind.i64 (mx + (x1 - 1))]), (w.heap.size + 1, 94, #[Value.int IntKind.i64 0, Value.int IntKind.i64 0, Value.int IntKind.i64 0])] from by have := KT.below hz7; simpa using this)
      clear KT KV hz hz1 hz7
      have R := KK.out.rules
      simp only [Rules] at R
      go_wp2
      refine bodyPost_ret (v := Value.agg #[Value.int IntKind.i64 v, Value.int IntKind.i64 (mn + x0), Value.int IntKind.i64 (mx + (x1 - 1))]) (by simp [results, Try.results120, go_sem, R]) rfl ⟨rfl, ?_⟩
      exact ((BB.out.setCell (p := ⟨w.heap.size + 1, 0, none⟩) (by simp) _).setCell (p := ⟨w.heap.size + 1, 1, none⟩) (by simp) _).setCell (p := ⟨w.heap.size + 1, 2, none⟩) (by simp) _
    rw [if_neg hin] at hup
    subst hup
    have s2 : IntKind.i64.wrap (mx + N) = mx + N := IntWalk.i64_in _ (by omega)
    have hbb := BB.out.size
    go_wp2
    have KT := Bx.puti KK.out (by simp) 2 (Value.int IntKind.i64 (mx + N))
    replace BB := Lib.hid (BB.out.setCell (p := ⟨w.heap.size, 2, none⟩) (Nat.le_refl _) (Value.int IntKind.i64 (mx + N)))
    refine bodyPost_ret (v := Value.agg #[Value.int IntKind.i64 v, Value.int IntKind.i64 (mn + x0), Value.int IntKind.i64 (mx + N)]) (by simp [results, Try.results120, go_sem, R]) rfl ⟨rfl, ?_⟩
    exact ((BB.out.setCell (p := ⟨w.heap.size + 1, 0, none⟩) (by simp) _).setCell (p := ⟨w.heap.size + 1, 1, none⟩) (by simp) _).setCell (p := ⟨w.heap.size + 1, 2, none⟩) (by simp) _
  rw [if_neg hin0] at hlo
  subst hlo
  obtain rfl : i = 0 := by omega
  rw [Int.add_zero]
  have hin1 : ¬ (0 : Int) < 0 := by omega
  by_cases hin : 0 < n
  case pos =>
    go_enter Try.func120, Try.ntmps120
    go_wp2_with fail
    obtain ⟨W0, hW, hs0, K0, B0⟩ := start2 w 94 94 #[Value.int IntKind.i64 v, Value.int IntKind.i64 mn, Value.int IntKind.i64 mx] #[Value.int IntKind.i64 0, Value.int IntKind.i64 0, Value.int IntKind.i64 0]
    rw [hW]
    clear hW
    have KK := Lib.hid (K0.swap)
    have BB := Lib.hid B0
    have R := K0.rules
    simp only [Rules] at R
    clear K0 B0
    rw [if_pos hin] at hup
    obtain ⟨ad, rfl, hbl, HC⟩ := ERead.cells H1.out hin
    rw [show ad.add (0 * 3) = ad from by simp [Addr.add]] at HC
    have b1 := HBd.out 0 hin
    generalize (at3 o 0).1 = xv1 at *
    generalize (at3 o 0).2.1 = xm1 at *
    generalize (at3 o 0).2.2 = x1 at *
    subst hup
    have s1 : IntKind.i64.wrap (x1 - 1) = x1 - 1 := IntWalk.i64_in _ (by omega)
    have s2 : IntKind.i64.wrap (mx + (x1 - 1)) = mx + (x1 - 1) := IntWalk.i64_in _ (by omega)
    go_wp2_with fail
    (refine gro.wp_region_heldA [0, 1, 2, 3, 4, 5, 6, 7, 8, 9] 1 10 _ (gro.lasts_below (W0).drew) (by kernel_rfl) (by kernel_rfl) (by intro _ _ _ _ _ h; exact h) (by kernel_rfl) (by kernel_rfl) (by kernel_rfl) (by kernel_rfl) (by kernel_rfl) (by decide) (Below.refl _ _) ?_; apply Exists.intro; refine ⟨fun w0 hb0 => ?_, ?_⟩; focus (replace hb0 := (Below.drew (Below.refl _ (W0))).trans hb0; have KZ := (KK.out).below hb0; have RZ := KZ.rules; simp only [gro.Rules] at RZ; (obtain ⟨f1, f2, f3⟩ := HC.out w0 (BB.out.trans (hb0.mono BB.out.size))); simp only [gro.pickA, List.filterMap_cons, List.filterMap_nil, List.getElem?_toArray, List.getElem?_cons_succ, List.getElem?_cons_zero]; change wpQuiet _ _ _ _ (_ :: _ :: _ :: _ :: _ :: _ :: _ :: _ :: _ :: _ ::  []) _; (repeat (go_big_quiet_step ((fail)))); exact wpQuiet_nil rfl))
    refine gro.anyM_one 10 (by kernel_rfl) rfl ?_
    intro y1 hz1 K' hK'
    have hz : Below W0.heap.size W0 y1 := ((Below.refl _ _).drew).trans hz1
    have KV := KK.out.below hz
    have RV := KV.rules
    simp only [Rules] at RV
    go_simp
    refine hK' _ _ ⟨fun h => absurd (show true = false from h) (by decide), ?_⟩
    clear hK' K'
    have KT := Bx.puti KV (by simp) 2 (Value.int IntKind.i64 (mx + (x1 - 1)))
    replace BB := Lib.hid ((BB.out.trans (hz.mono BB.out.size)).setCell (p := ⟨w.heap.size, 2, none⟩) (Nat.le_refl _) (Value.int IntKind.i64 (mx + (x1 - 1))))
    refine gro.anyM_done (by kernel_rfl) ?_
    intro y7 hz7
    replace BB := Lib.hid (BB.out.trans (hz7.mono BB.out.size))
    clear R RV KK
    have KK := Lib.hid (show Bx y7 [(w.heap.size, 94, #[Value.int IntKind.i64 v, Value.int IntKind.i64 (mn), Value.int IntKind.i64 (mx + (x1 - 1))]), (w.heap.size + 1, 94, #[Value.int IntKind.i64 0, Value.int IntKind.i64 0, Value.int IntKind.i64 0])] from by have := KT.below hz7; simpa using this)
    clear KT KV hz hz1 hz7
    have R := KK.out.rules
    simp only [Rules] at R
    go_wp2
    refine bodyPost_ret (v := Value.agg #[Value.int IntKind.i64 v, Value.int IntKind.i64 (mn), Value.int IntKind.i64 (mx + (x1 - 1))]) (by simp [results, Try.results120, go_sem, R]) rfl ⟨rfl, ?_⟩
    exact ((BB.out.setCell (p := ⟨w.heap.size + 1, 0, none⟩) (by simp) _).setCell (p := ⟨w.heap.size + 1, 1, none⟩) (by simp) _).setCell (p := ⟨w.heap.size + 1, 2, none⟩) (by simp) _
  rw [if_neg hin] at hup
  subst hup
  obtain rfl : n = 0 := by omega
  have s2 : IntKind.i64.wrap (mx + N) = mx + N := IntWalk.i64_in _ (by omega)
  go_enter Try.func120, Try.ntmps120
  go_wp2
  obtain ⟨W0, hW, hs0, K0, B0⟩ := start2 w 94 94 #[Value.int IntKind.i64 v, Value.int IntKind.i64 mn, Value.int IntKind.i64 (mx + N)] #[Value.int IntKind.i64 v, Value.int IntKind.i64 mn, Value.int IntKind.i64 (mx + N)]
  rw [hW]
  have R := K0.rules
  simp only [Rules] at R
  refine bodyPost_ret (v := Value.agg #[Value.int IntKind.i64 v, Value.int IntKind.i64 mn, Value.int IntKind.i64 (mx + N)]) (by simp [results, Try.results120, go_sem, R]) rfl ⟨rfl, B0⟩
end Go.Proofs.Ytjapjfcennemeaa.rnk
end
section
namespace Go.Proofs.Ytjapjfcennemeaa.made
open Go.RowKit Go.Proofs.Ytjapjfcennemeaa.mem
set_option linter.unusedVariables false
set_option linter.unusedSimpArgs false
def liveI (now v : Int) (its : List (Int × Int)) : List (Int × Int) := its.filter (fun p => decide (now - v < p.1) && decide (p.1 ≤ now))
theorem live_take {now v : Int} {its : List (Int × Int)} {i : Nat} (h : i < its.length) : liveI now v (its.take (i + 1)) = liveI now v (its.take i) ++ if now - v < (buk.at_ its i).1 ∧ (buk.at_ its i).1 ≤ now then [((buk.at_ its i).1, (buk.at_ its i).2)] else [] := by
  have e : buk.at_ its i = its[i] := by simp [buk.at_, List.getElem?_eq_getElem h]
  unfold liveI
  rw [e, List.take_succ_eq_append_getElem h, List.filter_append]
  congr 1
  by_cases h1 : now - v < its[i].1 ∧ its[i].1 ≤ now
  · rw [if_pos h1]; simp [h1]
  · rw [if_neg h1]; simp only [List.filter_cons, List.filter_nil]
    rw [if_neg (by simpa using h1)]
theorem live_len (now v : Int) (its : List (Int × Int)) (i : Nat) : (liveI now v (its.take i)).length ≤ i := by
  have := List.length_filter_le (fun p : Int × Int => decide (now - v < p.1) && decide (p.1 ≤ now)) (its.take i)
  rw [List.length_take] at this
  unfold liveI; omega
set_option maxHeartbeats 4000000 in
set_option maxRecDepth 100000 in
theorem Live_any (A : Option Addr) (n c : Nat) (zs : List (Int × Int)) (now v : Int) (w : World) (h1 : PRead w w.heap.size A n zs) (hnc : n ≤ c) (hcm : c ≤ maxLen) (hn : 0 ≤ now ∧ now ≤ 100000000) (hv : 1 ≤ v ∧ v ≤ 100000000) (hs : n ≤ 1000) :
    Calls Try.prog 39 #[.slice A n c, .int .i64 now, .int .i64 v] w (lst.NewF (liveI now v zs) w) := by
  have H1 := Lib.hid h1
  have HL := Lib.hid h1.len
  have hcm9 : c ≤ 9223372036854775807 := hcm
  have hnv : IntKind.i64.wrap (now - v) = now - v := IntWalk.i64_in _ (by omega)
  clear h1 hcm hn hv
  obtain ⟨i0, hi0, hz0, hz1, hz2⟩ := info_parts item_info
  have HI := Lib.hid hi0
  have HZ0 := Lib.hid hz0
  have HZ1 := Lib.hid hz1
  have HZ2 := Lib.hid hz2
  clear hi0 hz0 hz1 hz2
  go_enter Try.func39, Try.ntmps39
  go_wp2
  go_loopg [7, 12] n (fun kx s7 s12 wr => ∃ (u : Value) (ys : List (Int × Int)) (i : Nat), s12 = .int .i64 i ∧ u = s7 ∧ i ≤ n ∧ n - i ≤ kx ∧ Hid (liveI now v (zs.take i) = ys) ∧ Hid (wr.ownsRow w.heap.size 37 2 u ys.length (pc ys)) ∧ Hid (Below w.heap.size w wr))
  case atStart => exact ⟨_, [], 0, rfl, rfl, by omega, by omega, rfl, own_nil _ _ _ _, Below.refl _ _⟩
  case round =>
    obtain ⟨u, ys, i, rfl, rfl, hin, hik, HY, HO, HB⟩ := hrel
    by_cases hlt : i < n
    case neg =>
      obtain rfl : i = n := by omega
      have e : zs.take i = zs := List.take_of_length_le (by rw [HL.out]; exact Nat.le_refl _)
      rw [e] at HY
      go_wp2
      go_ret
      exact lst.newF_own HB.out HO.out (by rw [HY.out])
    have H2 := H1.out.below HB.out
    obtain ⟨ad, rfl, hbl, hc1, hc2⟩ := PRead.at_ H2 hlt
    have hs2 := HB.out.size
    have hbl2 : ad.block < wr.heap.size := by omega
    have HY2 := Lib.hid (live_take (now := now) (v := v) (its := zs) (i := i) (by rw [HL.out]; exact hlt))
    have hyl := live_len now v zs i
    rw [HY.out] at hyl HY2
    clear H2
    change wr.cell? (ad.add (i * 2)) = some (.int .i64 (buk.at_ zs i).1) at hc1
    change wr.cell? ⟨(ad.add (i * 2)).block, (ad.add (i * 2)).off + 1, none⟩ = some (.int .i64 (buk.at_ zs i).2) at hc2
    generalize (buk.at_ zs i).1 = x at *
    generalize (buk.at_ zs i).2 = y at *
    obtain ⟨s, hs3⟩ : ∃ s, wr.heap.size = s := ⟨_, rfl⟩
    have RA := (gro.Bx.nil_.new (W := wr) (t := 37) (c := #[Value.int IntKind.i64 x, Value.int IntKind.i64 y]) hs3).rules
    simp only [gro.Rules] at RA
    by_cases q1 : now - v < x
    case neg =>
      rw [if_neg (fun h => q1 h.1), List.append_nil] at HY2
      go_wp2_with fail
      go_roundg (n - (i + 1))
      case measure => omega
      case rel => exact ⟨u, ys, i + 1, by go_num, rfl, by omega, by omega, HY2.out, own_alloc HO.out _, HB.out.alloc HB.out.size _⟩
    by_cases q2 : x ≤ now
    case neg =>
      rw [if_neg (fun h => q2 h.2), List.append_nil] at HY2
      go_wp2_with fail
      go_roundg (n - (i + 1))
      case measure => omega
      case rel => exact ⟨u, ys, i + 1, by go_num, rfl, by omega, by omega, HY2.out, own_alloc HO.out _, HB.out.alloc HB.out.size _⟩
    rw [if_pos ⟨q1, q2⟩] at HY2
    have HPC := Lib.hid (pc_snoc ys x y)
    obtain ⟨W1, hW1⟩ : ∃ W, wr.alloc (.cells #[Value.int IntKind.i64 x, Value.int IntKind.i64 y] 37) = W := ⟨_, rfl⟩
    have HO1 : Hid (W1.ownsRow w.heap.size 37 2 u ys.length (pc ys)) := by rw [← hW1]; exact own_alloc HO.out _
    have HB1 : Hid (Below w.heap.size w W1) := by rw [← hW1]; exact HB.out.alloc HB.out.size _
    rw [hW1] at RA
    go_wp2_with (at_builtin; go_loud (refine wpList_append_any _ rfl (.tmp 28) (.tmp 30) 32 rfl w.heap.size 37 i0 (.agg #[.int .i64 0, .int .i64 0]) 2 16 Try.underlying32 HI.out HZ0.out HZ1.out HZ2.out rfl (by omega) u ys.length _ rfl (own_alloc HO1.out _) _ _ 1 1 _ rfl (reads_new _ _ _ rfl) (by simp [Value.oneCell']) (by unfold maxLen; omega) (by omega) (by have := HB1.out.size; simp; omega) ?_); intro v1 w1 hown1 hg1 hat1)
    go_roundg (n - (i + 1))
    case measure => omega
    case rel => exact ⟨v1, ys ++ [(x, y)], i + 1, by go_num, rfl, by omega, by omega, HY2.out, by rw [Hid, HPC.out, List.length_append]; exact hown1, below_box HB1.out HO1.out hg1⟩
end Go.Proofs.Ytjapjfcennemeaa.made
end
