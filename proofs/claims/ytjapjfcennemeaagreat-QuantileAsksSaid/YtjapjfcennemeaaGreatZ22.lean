/- RGap, RBox, RSm: proved here in one text, no conditions beyond those that each theorem states. -/
import Derived.OneCell
import Derived.LoopN
import Derived.Test.YtjapjfcennemeaaGreatZ19
import Derived.Test.YtjapjfcennemeaaGreatZ20
import Derived.Test.YtjapjfcennemeaaGreatZ6
import Derived.Test.YtjapjfcennemeaaGreatZ18
import Derived.Test.YtjapjfcennemeaaGreatZ21
set_option linter.unusedVariables false
set_option linter.unusedSimpArgs false
section
namespace Go.Proofs.YtjapjfcennemeaaGreat.rnk
open Go.RowKit Go.Proofs.YtjapjfcennemeaaGreat.mem Go.Proofs.YtjapjfcennemeaaGreat.gro
set_option linter.unusedVariables false
set_option linter.unusedSimpArgs false
set_option pp.maxSteps 200000
theorem gapR_f {N : Int} {es : L3} (h : valR N es = false) : gapR N es = 0 := by unfold gapR; rw [if_neg (fun h2 => by rw [h] at h2; cases h2.1)]
theorem gapR_0 {N : Int} {es : L3} (h : es.length = 0) : gapR N es = 0 := by unfold gapR; rw [if_neg (fun h2 => by omega)]
theorem gapR_t {N : Int} {es : L3} {n : Nat} (hl : es.length = n) (h : valR N es = true) (h0 : 0 < n) : gapR N es = gapTo es (n - 1) := by unfold gapR; rw [hl, if_pos ⟨h, h0⟩]
theorem gapTo_max {es : L3} {i : Nat} (h0 : 1 ≤ i) : gapTo es (i + 1 - 1) = max (gapTo es (i - 1)) ((at3 es i).2.2 - (at3 es (i - 1)).2.1) := by
  obtain ⟨j, rfl⟩ : ∃ j, i = j + 1 := ⟨i - 1, by omega⟩
  simp only [Nat.add_sub_cancel]
  rfl
set_option maxHeartbeats 8000000 in
set_option maxRecDepth 100000 in
theorem Gap_any (N : Int) (A : Option Addr) (n c : Nat) (es : L3) (w : World) (h1 : ERead w w.heap.size A n es) (hs : n ≤ 16777216) : Calls Tryz.prog 50 #[.agg #[.int .i64 N, .slice A n c]] w fun e w' => e = .returned (.int .i64 (gapR N es)) ∧ Below w.heap.size w w' := by
  have H1 := Lib.hid h1
  have HL := Lib.hid h1.len
  have HV := Lib.hid (fun W (hb : Below w.heap.size w W) => Validate_any N A n c es W ((h1.below hb).more hb.size) (by omega))
  clear h1
  rcases Bool.eq_false_or_eq_true (valR N es) with hv | hv
  case inr =>
    rw [hv, erS_f] at HV
    have HG := Lib.hid (gapR_f hv)
    clear hv
    go_enter Tryz.func50, Tryz.ntmps50
    go_wp2_with fail
    obtain ⟨W0, hW, hs0, K0, B0⟩ := start1 w 39 #[Value.int IntKind.i64 N, Value.slice A n c]
    rw [hW]
    clear hW
    have KK := Lib.hid K0
    have BB := Lib.hid B0
    have R := K0.rules
    simp only [Rules] at R
    clear K0 B0 hs0
    go_wp2_with fail
    (with_reducible refine (HV.out _ BB.out).mono ?_)
    rintro e wv ⟨rfl, hbv⟩; replace BB := Lib.hid (BB.out.trans (hbv.mono BB.out.size)); replace KK := Lib.hid (KK.out.below hbv); replace R := KK.out.rules; simp only [gro.Rules] at R; clear hbv
    go_wp2
    go_ret
    exact ⟨ret_int (by rw [HG.out]), BB.out⟩
  rw [hv, erS_t] at HV
  obtain ⟨⟨hN0, hN1, hN2⟩, hen, _⟩ := valR_iff.1 hv
  rw [HL.out] at hN2 hen
  by_cases h0 : 0 < n
  case neg =>
    obtain rfl : n = 0 := by omega
    obtain rfl : N = 0 := hN2.1 rfl
    have HG := Lib.hid (gapR_0 (N := 0) HL.out)
    clear hv hen hN2
    go_enter Tryz.func50, Tryz.ntmps50
    go_wp2_with fail
    obtain ⟨W0, hW, hs0, K0, B0⟩ := start1 w 39 #[Value.int IntKind.i64 0, Value.slice A (0 : Nat) c]
    rw [hW]
    clear hW
    have KK := Lib.hid K0
    have BB := Lib.hid B0
    have R := K0.rules
    simp only [Rules] at R
    clear K0 B0 hs0
    go_wp2_with fail
    (with_reducible refine (HV.out _ BB.out).mono ?_)
    rintro e wv ⟨rfl, hbv⟩; replace BB := Lib.hid (BB.out.trans (hbv.mono BB.out.size)); replace KK := Lib.hid (KK.out.below hbv); replace R := KK.out.rules; simp only [gro.Rules] at R; clear hbv
    go_wp2
    go_ret
    exact ⟨ret_int (by rw [HG.out]), BB.out⟩
  have hN3 : 1 ≤ N := by have : N ≠ 0 := fun e => by have := hN2.2 e; omega
                         omega
  have HG := Lib.hid (gapR_t HL.out hv h0)
  have HB := Lib.hid (fun i (hi : i < n) => gapTo_bd hv hN3 i (by rw [HL.out]; exact hi))
  have HE := Lib.hid (fun i (hi : i < n) => (hen i hi).1)
  have hn0 : ((n : Int) == 0) = false := by simp; omega
  have hN4 : (N == 0) = false := by simp; omega
  clear hv hen hN2
  go_enter Tryz.func50, Tryz.ntmps50
  go_wp2_with fail
  obtain ⟨W0, hW, hs0, K0, B0⟩ := start1 w 39 #[Value.int IntKind.i64 N, Value.slice A n c]
  rw [hW]
  clear hW
  have KK := Lib.hid K0
  have BB := Lib.hid B0
  have R := K0.rules
  simp only [Rules] at R
  clear K0 B0 hs0
  go_wp2_with fail
  (with_reducible refine (HV.out _ BB.out).mono ?_)
  rintro e wv ⟨rfl, hbv⟩; replace BB := Lib.hid (BB.out.trans (hbv.mono BB.out.size)); replace KK := Lib.hid (KK.out.below hbv); replace R := KK.out.rules; simp only [gro.Rules] at R; clear hbv
  go_wp2_with fail
  clear R
  go_loopg [3, 4] n (fun kx s3 s4 wr => ∃ i : Nat, 1 ≤ i ∧ i ≤ n ∧ s4 = .int .i64 i ∧ s3 = .int .i64 (gapTo es (i - 1)) ∧ n - i ≤ kx ∧ Hid (Bx wr [(w.heap.size, 39, #[Value.int IntKind.i64 N, Value.slice A n c])]) ∧ Hid (Below w.heap.size w wr))
  case atStart => exact ⟨1, Nat.le_refl _, h0, rfl, rfl, by omega, KK, BB⟩
  case round =>
    clear KK BB
    obtain ⟨i, hi1, hi, rfl, rfl, hik, KK, BB⟩ := hrel
    have R := KK.out.rules
    simp only [Rules] at R
    by_cases hlt : i < n
    case neg =>
      obtain rfl : i = n := by omega
      go_wp2
      go_ret
      exact ⟨ret_int (by rw [HG.out]), BB.out⟩
    have H2 := H1.out.below BB.out
    obtain ⟨ad, rfl, hbl, hc1, hc2, hc3⟩ := ERead.at_ H2 hlt
    obtain ⟨ad', e, _, hd1, hd2, hd3⟩ := ERead.at_ H2 (show i - 1 < n by omega)
    injection e with e
    subst e
    have hg := HB.out (i - 1) (by omega)
    have he := HE.out i hlt
    have hf := HE.out (i - 1) (by omega)
    have hM := Lib.hid (gapTo_max (es := es) hi1)
    clear H2 hc1 hc2 hd1 hd3 HB HE
    generalize (at3 es i).2.2 = x1 at *
    generalize (at3 es (i - 1)).2.1 = m0 at *
    generalize gapTo es (i - 1) = g at *
    have s2 : 0 ≤ (i : Int) - 1 := by omega
    have s3 : ((i : Int) - 1).toNat = i - 1 := by omega
    have s4 : (i : Int) - 1 < n := by omega
    have s6 : IntKind.i64.wrap ((i : Int) - 1) = (i : Int) - 1 := IntWalk.i64_in _ (by omega)
    have s7 : IntKind.i64.wrap (x1 - m0) = x1 - m0 := IntWalk.i64_in _ (by omega)
    go_wp2_with fail
    (refine gro.wp_region_grown (by kernel_rfl) (by kernel_rfl) ?_; (repeat (go_big_quiet_step ((fail)))); refine wpQuiet_nil ?_; intro _ hw'; obtain ⟨nx, hw''⟩ := hw'; subst hw'')
    replace BB := Lib.hid (BB.out.trans ((below_grown _ nx).mono BB.out.size))
    replace KK := Lib.hid (KK.out.below (below_grown _ nx))
    clear R
    generalize grown _ nx = W7 at *
    go_wp2
    all_goals (go_roundg (n - (i + 1)); (case measure => omega); (case rel => exact ⟨i + 1, by omega, by omega, by go_num, by rw [hM.out]; exact congrArg (Value.int IntKind.i64) (by omega), by omega, KK, BB⟩))
set_option maxHeartbeats 8000000 in
set_option maxRecDepth 100000 in
theorem GapR_any (N : Int) (A : Option Addr) (n c : Nat) (es : L3) (w : World) (h1 : ERead w w.heap.size A n es) (hs : n ≤ 16777216) : Calls Tryz.prog 64 #[.agg #[.int .i64 N, .slice A n c]] w fun e w' => e = .returned (.int .i64 (gapR N es)) ∧ Below w.heap.size w w' := by
  have H1 := Lib.hid h1
  have HL := Lib.hid h1.len
  have HV := Lib.hid (fun W (hb : Below w.heap.size w W) => ValidateR_any N A n c es W ((h1.below hb).more hb.size) (by omega))
  clear h1
  rcases Bool.eq_false_or_eq_true (valR N es) with hv | hv
  case inr =>
    rw [hv, erS_f] at HV
    have HG := Lib.hid (gapR_f hv)
    clear hv
    go_enter Tryz.func64, Tryz.ntmps64
    go_wp2_with fail
    obtain ⟨W0, hW, hs0, K0, B0⟩ := start1 w 39 #[Value.int IntKind.i64 N, Value.slice A n c]
    rw [hW]
    clear hW
    have KK := Lib.hid K0
    have BB := Lib.hid B0
    have R := K0.rules
    simp only [Rules] at R
    clear K0 B0 hs0
    go_wp2_with fail
    (with_reducible refine (HV.out _ BB.out).mono ?_)
    rintro e wv ⟨rfl, hbv⟩; replace BB := Lib.hid (BB.out.trans (hbv.mono BB.out.size)); replace KK := Lib.hid (KK.out.below hbv); replace R := KK.out.rules; simp only [gro.Rules] at R; clear hbv
    go_wp2
    go_ret
    exact ⟨ret_int (by rw [HG.out]), BB.out⟩
  rw [hv, erS_t] at HV
  obtain ⟨⟨hN0, hN1, hN2⟩, hen, _⟩ := valR_iff.1 hv
  rw [HL.out] at hN2 hen
  by_cases h0 : 0 < n
  case neg =>
    obtain rfl : n = 0 := by omega
    obtain rfl : N = 0 := hN2.1 rfl
    have HG := Lib.hid (gapR_0 (N := 0) HL.out)
    clear hv hen hN2
    go_enter Tryz.func64, Tryz.ntmps64
    go_wp2_with fail
    obtain ⟨W0, hW, hs0, K0, B0⟩ := start1 w 39 #[Value.int IntKind.i64 0, Value.slice A (0 : Nat) c]
    rw [hW]
    clear hW
    have KK := Lib.hid K0
    have BB := Lib.hid B0
    have R := K0.rules
    simp only [Rules] at R
    clear K0 B0 hs0
    go_wp2_with fail
    (with_reducible refine (HV.out _ BB.out).mono ?_)
    rintro e wv ⟨rfl, hbv⟩; replace BB := Lib.hid (BB.out.trans (hbv.mono BB.out.size)); replace KK := Lib.hid (KK.out.below hbv); replace R := KK.out.rules; simp only [gro.Rules] at R; clear hbv
    go_wp2
    go_ret
    exact ⟨ret_int (by rw [HG.out]), BB.out⟩
  have hN3 : 1 ≤ N := by have : N ≠ 0 := fun e => by have := hN2.2 e; omega
                         omega
  have HG := Lib.hid (gapR_t HL.out hv h0)
  have HB := Lib.hid (fun i (hi : i < n) => gapTo_bd hv hN3 i (by rw [HL.out]; exact hi))
  have HE := Lib.hid (fun i (hi : i < n) => (hen i hi).1)
  have hn0 : ((n : Int) == 0) = false := by simp; omega
  have hN4 : (N == 0) = false := by simp; omega
  clear hv hen hN2
  go_enter Tryz.func64, Tryz.ntmps64
  go_wp2_with fail
  obtain ⟨W0, hW, hs0, K0, B0⟩ := start1 w 39 #[Value.int IntKind.i64 N, Value.slice A n c]
  rw [hW]
  clear hW
  have KK := Lib.hid K0
  have BB := Lib.hid B0
  have R := K0.rules
  simp only [Rules] at R
  clear K0 B0 hs0
  go_wp2_with fail
  (with_reducible refine (HV.out _ BB.out).mono ?_)
  rintro e wv ⟨rfl, hbv⟩; replace BB := Lib.hid (BB.out.trans (hbv.mono BB.out.size)); replace KK := Lib.hid (KK.out.below hbv); replace R := KK.out.rules; simp only [gro.Rules] at R; clear hbv
  go_wp2_with fail
  clear R
  go_loopg [3, 4] n (fun kx s3 s4 wr => ∃ i : Nat, 1 ≤ i ∧ i ≤ n ∧ s4 = .int .i64 i ∧ s3 = .int .i64 (gapTo es (i - 1)) ∧ n - i ≤ kx ∧ Hid (Bx wr [(w.heap.size, 39, #[Value.int IntKind.i64 N, Value.slice A n c])]) ∧ Hid (Below w.heap.size w wr))
  case atStart => exact ⟨1, Nat.le_refl _, h0, rfl, rfl, by omega, KK, BB⟩
  case round =>
    clear KK BB
    obtain ⟨i, hi1, hi, rfl, rfl, hik, KK, BB⟩ := hrel
    have R := KK.out.rules
    simp only [Rules] at R
    by_cases hlt : i < n
    case neg =>
      obtain rfl : i = n := by omega
      go_wp2
      go_ret
      exact ⟨ret_int (by rw [HG.out]), BB.out⟩
    have H2 := H1.out.below BB.out
    obtain ⟨ad, rfl, hbl, hc1, hc2, hc3⟩ := ERead.at_ H2 hlt
    obtain ⟨ad', e, _, hd1, hd2, hd3⟩ := ERead.at_ H2 (show i - 1 < n by omega)
    injection e with e
    subst e
    have hg := HB.out (i - 1) (by omega)
    have he := HE.out i hlt
    have hf := HE.out (i - 1) (by omega)
    have hM := Lib.hid (gapTo_max (es := es) hi1)
    clear H2 hc1 hc2 hd1 hd3 HB HE
    generalize (at3 es i).2.2 = x1 at *
    generalize (at3 es (i - 1)).2.1 = m0 at *
    generalize gapTo es (i - 1) = g at *
    have s2 : 0 ≤ (i : Int) - 1 := by omega
    have s3 : ((i : Int) - 1).toNat = i - 1 := by omega
    have s4 : (i : Int) - 1 < n := by omega
    have s6 : IntKind.i64.wrap ((i : Int) - 1) = (i : Int) - 1 := IntWalk.i64_in _ (by omega)
    have s7 : IntKind.i64.wrap (x1 - m0) = x1 - m0 := IntWalk.i64_in _ (by omega)
    go_wp2_with fail
    (refine gro.wp_region_grown (by kernel_rfl) (by kernel_rfl) ?_; (repeat (go_big_quiet_step ((fail)))); refine wpQuiet_nil ?_; intro _ hw'; obtain ⟨nx, hw''⟩ := hw'; subst hw'')
    replace BB := Lib.hid (BB.out.trans ((below_grown _ nx).mono BB.out.size))
    replace KK := Lib.hid (KK.out.below (below_grown _ nx))
    clear R
    generalize grown _ nx = W7 at *
    go_wp2
    all_goals (go_roundg (n - (i + 1)); (case measure => omega); (case rel => exact ⟨i + 1, by omega, by omega, by go_num, by rw [hM.out]; exact congrArg (Value.int IntKind.i64) (by omega), by omega, KK, BB⟩))
end Go.Proofs.YtjapjfcennemeaaGreat.rnk
end
section
namespace Go.Proofs.YtjapjfcennemeaaGreat.rnk
open Go.RowKit Go.Proofs.YtjapjfcennemeaaGreat.mem Go.Proofs.YtjapjfcennemeaaGreat.gro
set_option linter.unusedVariables false
theorem entry_info : (Tryz.prog.info? 79).map (fun i => (i.zero, i.size, i.bytes)) = some (some (.agg #[.int .i64 0, .int .i64 0, .int .i64 0]), 3, 24) := by kernel_rfl
theorem ERead.below {w w' : World} {B n : Nat} {A : Option Addr} {xs : L3} (h : ERead w B A n xs) (hb : Below B w w') : ERead w' B A n xs := mem.Reads.below h hb
theorem Reads.far {W : World} {B n size : Nat} {A : Option Addr} {ys : List Value} (h : Reads W B size A n ys) (p : Addr) (hf : 0 < n → ∀ ad, A = some ad → ad.block ≠ p.block) (u : Value) : Reads (W.setCell p u) B size A n ys := by
  obtain ⟨h1, h2⟩ := h
  refine ⟨h1, fun hn => ?_⟩
  obtain ⟨ad, e, hb, hc⟩ := h2 hn
  refine ⟨ad, e, hb, fun j v hv => ?_⟩
  rw [← hc j v hv]
  exact World.cell?_of_block (Below.heap_setCell W p u _ (by rw [block_of_add]; exact hf hn ad e))
theorem Reads.blk {W : World} {B n size : Nat} {A : Option Addr} {ys : List Value} (h : Reads W B size A n ys) : 0 < n → ∀ ad, A = some ad → ad.block < B := fun hn ad e => by
  obtain ⟨ad', e', hb, _⟩ := h.2 hn
  rw [e] at e'; injection e' with e'; subst e'; exact hb
theorem Bx.app3 {W w1 : World} {L : List (Nat × TypeId × Array Value)} {row : Option Nat} (h : Bx W L) (hg : W.grownBy w1 row) (hd : ∀ p ∈ L, some p.1 ≠ row) : Bx w1 L := fun p hp => (h p hp).grown hg (hd p hp)
theorem Bx.put3 {W : World} {L : List (Nat × TypeId × Array Value)} {g : Nat} {t : TypeId} {x0 x1 x2 u0 u1 u2 : Value} (h : Bx W ((g, t, #[x0, x1, x2]) :: L)) (hd : ∀ q ∈ L, q.1 ≠ g) :
    Bx (((W.setCell ⟨g, 0, none⟩ u0).setCell ⟨g, 1, none⟩ u1).setCell ⟨g, 2, none⟩ u2) ((g, t, #[u0, u1, u2]) :: L) := by
  have := ((h.puti hd 0 u0).puti hd 1 u1).puti hd 2 u2
  simpa using this
theorem own_put3 {W : World} {base size n g : Nat} {e : TypeId} {v : Value} {xs : List Value} (h : W.ownsRow base e size v n xs) (hg : v.ownBlock ≠ some g) (u0 u1 u2 : Value) : (((W.setCell ⟨g, 0, none⟩ u0).setCell ⟨g, 1, none⟩ u1).setCell ⟨g, 2, none⟩ u2).ownsRow base e size v n xs :=
  ownsRow_setCell_other (ownsRow_setCell_other (ownsRow_setCell_other h (a := ⟨g, 0, none⟩) hg u0) (a := ⟨g, 1, none⟩) hg u1) (a := ⟨g, 2, none⟩) hg u2
theorem ERead.cells {w : World} {B n : Nat} {A : Option Addr} {xs : L3} (h : ERead w B A n xs) {i : Nat} (hi : i < n) : ∃ ad, A = some ad ∧ ad.block < B ∧ Hid (∀ W, Below B w W → W.cell? (ad.add (i * 3)) = some (.int .i64 (at3 xs i).1) ∧ W.cell? ⟨(ad.add (i * 3)).block, (ad.add (i * 3)).off + 1, none⟩ = some (.int .i64 (at3 xs i).2.1) ∧ W.cell? ⟨(ad.add (i * 3)).block, (ad.add (i * 3)).off + 2, none⟩ = some (.int .i64 (at3 xs i).2.2)) := by
  obtain ⟨ad, rfl, hb, _⟩ := ERead.at_ h hi
  refine ⟨ad, rfl, hb, fun W hW => ?_⟩
  obtain ⟨ad', e, _, h1, h2, h3⟩ := ERead.at_ (ERead.below h hW) hi
  injection e with e
  subst e
  exact ⟨h1, h2, h3⟩
def NewRF (N : Int) (es : L3) (w : World) (e : Ending) (w' : World) : Prop :=
  ∃ A m c, e = .returned (.agg #[.int .i64 N, .slice A m c]) ∧ m ≤ c ∧ c ≤ maxLen ∧ ERead w' w'.heap.size A m es ∧ Below w.heap.size w w' ∧ ∀ ad, A = some ad → w.heap.size ≤ ad.block
def NewRE (p : Int × L3) (er : Int) (w : World) (e : Ending) (w' : World) : Prop :=
  ∃ A m c, e = .returned (.tuple #[.agg #[.int .i64 p.1, .slice A m c], .int .i64 er]) ∧ m ≤ c ∧ c ≤ maxLen ∧ ERead w' w'.heap.size A m p.2 ∧ Below w.heap.size w w'
theorem put_out {w W : World} {g n : Nat} {A : Option Addr} {es : L3} (BB : Below w.heap.size w W) (hg : w.heap.size ≤ g) (HF : ERead W W.heap.size A n es) (hd : 0 < n → ∀ ad, A = some ad → ad.block ≠ g) (x y : Value) :
    ERead ((W.setCell ⟨g, 0, none⟩ x).setCell ⟨g, 1, none⟩ y) ((W.setCell ⟨g, 0, none⟩ x).setCell ⟨g, 1, none⟩ y).heap.size A n es ∧ Below w.heap.size w ((W.setCell ⟨g, 0, none⟩ x).setCell ⟨g, 1, none⟩ y) :=
  ⟨Reads.more (Reads.far (Reads.far HF ⟨g, 0, none⟩ hd x) ⟨g, 1, none⟩ hd y) (by simp [World.setCell]), (BB.setCell (p := ⟨g, 0, none⟩) hg _).setCell (p := ⟨g, 1, none⟩) hg _⟩
end Go.Proofs.YtjapjfcennemeaaGreat.rnk
end
section
namespace Go.Proofs.YtjapjfcennemeaaGreat.rnk
open Go.RowKit Go.Proofs.YtjapjfcennemeaaGreat.mem Go.Proofs.YtjapjfcennemeaaGreat.gro
set_option linter.unusedVariables false
set_option linter.unusedSimpArgs false
set_option pp.maxSteps 200000
set_option maxHeartbeats 4000000 in
set_option maxRecDepth 100000 in
theorem single_any (v : Int) (w : World) : Calls Tryz.prog 44 #[.int .i64 v] w (NewRF 1 [(v, 1, 1)] w) := by
  go_enter Tryz.func44, Tryz.ntmps44
  go_wp2
  obtain ⟨W0, hW, hs0, K0, B0⟩ := start2 w 39 79 #[Value.int IntKind.i64 1, Value.slice (some ⟨w.heap.size + 1, 0, none⟩) 1 1] #[Value.int IntKind.i64 v, Value.int IntKind.i64 1, Value.int IntKind.i64 1]
  rw [hW]
  have R := K0.rules
  simp only [Rules] at R
  have HE : ERead W0 W0.heap.size (some ⟨w.heap.size + 1, 0, none⟩) 1 [(v, 1, 1)] := Reads.more (reads_blk (K0 _ (List.mem_cons_self ..)) rfl) (by omega)
  refine bodyPost_ret (v := Value.agg #[.int .i64 1, .slice (some ⟨w.heap.size + 1, 0, none⟩) 1 1]) (by simp [results, Tryz.results44, go_sem, R]) rfl ⟨_, 1, 1, rfl, Nat.le_refl _, by decide, HE, B0, fun ad h => by injection h with h; subst h; exact Nat.le_succ _⟩
set_option maxHeartbeats 4000000 in
set_option maxRecDepth 100000 in
theorem singleR_any (v : Int) (w : World) : Calls Tryz.prog 68 #[.int .i64 v] w (NewRF 1 [(v, 1, 1)] w) := by
  go_enter Tryz.func68, Tryz.ntmps68
  go_wp2
  obtain ⟨W0, hW, hs0, K0, B0⟩ := start2 w 39 79 #[Value.int IntKind.i64 1, Value.slice (some ⟨w.heap.size + 1, 0, none⟩) 1 1] #[Value.int IntKind.i64 v, Value.int IntKind.i64 1, Value.int IntKind.i64 1]
  rw [hW]
  have R := K0.rules
  simp only [Rules] at R
  have HE : ERead W0 W0.heap.size (some ⟨w.heap.size + 1, 0, none⟩) 1 [(v, 1, 1)] := Reads.more (reads_blk (K0 _ (List.mem_cons_self ..)) rfl) (by omega)
  refine bodyPost_ret (v := Value.agg #[.int .i64 1, .slice (some ⟨w.heap.size + 1, 0, none⟩) 1 1]) (by simp [results, Tryz.results68, go_sem, R]) rfl ⟨_, 1, 1, rfl, Nat.le_refl _, by decide, HE, B0, fun ad h => by injection h with h; subst h; exact Nat.le_succ _⟩
set_option maxHeartbeats 4000000 in
set_option maxRecDepth 100000 in
theorem copied_any (N : Int) (A : Option Addr) (n c : Nat) (es : L3) (w : World) (h1 : ERead w w.heap.size A n es) (hs : n ≤ 16777216) : Calls Tryz.prog 78 #[.agg #[.int .i64 N, .slice A n c]] w (NewRF N es w) := by
  have H1 := Lib.hid h1
  clear h1
  obtain ⟨i0, hi0, hz0, hz1, hz2⟩ := info_parts entry_info
  have HI := Lib.hid hi0
  have HZ0 := Lib.hid hz0
  have HZ1 := Lib.hid hz1
  have HZ2 := Lib.hid hz2
  clear hi0 hz0 hz1 hz2
  go_enter Tryz.func78, Tryz.ntmps78
  go_wp2_with fail
  obtain ⟨W0, hW, hs0, K0, B0⟩ := start2 w 39 39 #[Value.int IntKind.i64 N, Value.slice A n c] #[Value.int IntKind.i64 0, Value.slice none 0 0]
  rw [hW]
  clear hW
  have KK := Lib.hid K0
  have BB := Lib.hid B0
  have R := K0.rules
  simp only [Rules] at R
  clear K0 B0
  (refine gro.wp_region_heldA [0, 1, 3, 4] 4 7 _ (gro.lasts_bx _) (by kernel_rfl) (by kernel_rfl) (by intro _ _ _ _ _ h; exact h) (by kernel_rfl) (by kernel_rfl) (by kernel_rfl) (by kernel_rfl) (by kernel_rfl) (by decide) (KK.out).drew ?_; apply Exists.intro; refine ⟨fun w0 hb0 => ?_, ?_⟩; focus (have RZ := gro.Bx.rules hb0; simp only [gro.Rules] at RZ; simp only [gro.pickA, List.filterMap_cons, List.filterMap_nil, List.getElem?_toArray, List.getElem?_cons_succ, List.getElem?_cons_zero]; change wpQuiet _ _ _ _ (_ :: _ :: _ :: _ ::  []) _; (repeat (go_big_quiet_step ((fail)))); exact wpQuiet_nil rfl))
  have B0 : Below W0.heap.size W0 W0.drew := (Below.refl _ _).drew
  refine gro.anyM_one 2 (by kernel_rfl) rfl ?_
  intro y2 hz2 K' hK'
  have B2 := B0.trans (hz2.mono B0.size)
  go_simp
  refine hK' _ _ ⟨fun _ => (KK.out.below B2).alloc _, ?_⟩
  clear hK' K'
  obtain ⟨z2, hy2⟩ : ∃ z, y2.alloc (.cells #[] 79) = z := ⟨_, rfl⟩
  have hA2 : Below y2.heap.size y2 z2 := by rw [← hy2]; exact (Below.refl _ _).alloc (Nat.le_refl _) _
  have B3 := B2.trans (hA2.mono B2.size)
  have HV : z2.ownsRow W0.heap.size 79 3 (.slice (some ⟨y2.heap.size, 0, none⟩) 0 0) 0 [] := by rw [← hy2]; exact own_empty2 rfl B2.size
  rw [hy2]
  refine gro.anyM_one 5 (by kernel_rfl) rfl ?_
  intro y3 hz3 K' hK'
  have B4 := B3.trans (hz3.mono B3.size)
  have HU := own_keep HV hz3
  have HR := (H1.out.below BB.out).below (B4.mono BB.out.size)
  refine step_append_any _ (by rfl) (.tmp 5) (.tmp 7) 37 rfl W0.heap.size 79 i0 (.agg #[.int .i64 0, .int .i64 0, .int .i64 0]) 3 24 Tryz.underlying37 HI.out HZ0.out HZ1.out HZ2.out rfl (by omega) (.slice (some ⟨y2.heap.size, 0, none⟩) 0 0) 0 [] (by rfl) HU w.heap.size A n c (tc es) (by rfl) HR (tc_oneCell _) (by unfold maxLen; omega) (by omega) B4.size ?_
  intro v4 w4 hown4 hg4 hat4
  have B5 := below_own hg4 HU B4 (Nat.le_refl _) B4.size
  have KW := KK.out.below B5
  refine hK' _ _ ⟨fun _ => KW, ?_⟩
  clear hK' K'
  obtain ⟨A4, c4, rfl, m1, m2, m3⟩ := own_form hown4
  have hge := fun ad (h : A4 = some ad) => own_block_ge hown4 ad.block (by rw [h]; rfl)
  simp only [Nat.zero_add, List.nil_append] at m1 m2 m3 hown4
  refine gro.anyM_one 6 (by kernel_rfl) rfl ?_
  intro y5 hz5 K' hK'
  go_simp
  refine hK' _ _ ⟨fun _ => KW.below hz5, ?_⟩
  clear hK' K'
  refine gro.anyM_one 7 (by kernel_rfl) rfl ?_
  intro y6 hz6 K' hK'
  have hz56 := hz5.trans (hz6.mono hz5.size)
  have KV := KW.below hz56
  have RV := KV.rules
  simp only [Rules] at RV
  go_simp
  refine hK' _ _ ⟨fun h => absurd (show true = false from h) (by decide), ?_⟩
  clear hK' K'
  have HF : ERead y6 y6.heap.size A4 n es := Reads.more (Reads.below m3 hz56) hz56.size
  obtain ⟨p1, p2⟩ := put_out (g := w.heap.size + 1) ((BB.out.trans (B5.mono BB.out.size)).trans (hz56.mono (BB.out.trans (B5.mono BB.out.size)).size)) (by omega) HF (fun _ ad h => by have := hge ad h; omega) (Value.int IntKind.i64 N) (.slice A4 n c4)
  have KT := Bx.put2 (u := Value.int IntKind.i64 N) (v := Value.slice A4 n c4) KV (by simp)
  refine gro.anyM_done (by kernel_rfl) ?_
  intro y7 hz7
  have KS := KT.below hz7
  have RS := KS.rules
  simp only [Rules] at RS
  clear R RV
  go_wp2
  refine bodyPost_ret (v := Value.agg #[.int .i64 N, .slice A4 n c4]) (by simp [results, Tryz.results78, go_sem, RS]) rfl ⟨A4, n, c4, rfl, by omega, m2, (ERead.below p1 hz7).more hz7.size, p2.trans (hz7.mono p2.size), fun ad h => by have := hge ad h; omega⟩
theorem far_form (v mn mx n : Int) : far (v, mn, mx) n = max (n - mn) (mx - n) := rfl
set_option maxHeartbeats 4000000 in
theorem far_any (v mn mx n : Int) (w : World) (h1 : -4398046511104 ≤ mn ∧ mn ≤ 4398046511104) (h2 : -4398046511104 ≤ mx ∧ mx ≤ 4398046511104) (h3 : -4398046511104 ≤ n ∧ n ≤ 4398046511104) : Calls Tryz.prog 89 #[.agg #[.int .i64 v, .int .i64 mn, .int .i64 mx], .int .i64 n] w fun e w' => e = .returned (.int .i64 (far (v, mn, mx) n)) ∧ Below w.heap.size w w' := by
  have HF := Lib.hid (far_form v mn mx n)
  have s1 : IntKind.i64.wrap (n - mn) = n - mn := IntWalk.i64_in _ (by omega)
  have s2 : IntKind.i64.wrap (mx - n) = mx - n := IntWalk.i64_in _ (by omega)
  by_cases h : n - mn < mx - n
  all_goals
    go_enter Tryz.func89, Tryz.ntmps89
    go_wp2
    all_goals (go_ret; exact ⟨ret_int (by rw [HF.out]; omega), (Below.refl _ _).alloc (Nat.le_refl _) _⟩)
end Go.Proofs.YtjapjfcennemeaaGreat.rnk
end
