/- Contracts of the empty deque, of Same at empty lists, of the law's awake. -/
import Derived.Test.YteajgmihhnghfaaClk
import Derived.Test.YteajgmihhnghfaaOwn
import Derived.Test.YteajgmihhnghfaaBox3
import Derived.Test.YteajgmihhnghfaaSteady
import Derived.LoopN
namespace Go.Proofs.Yteajgmihhnghfaa.ext
open Go.RowKit Go.Proofs.Yteajgmihhnghfaa.mem Go.Proofs.Yteajgmihhnghfaa.gro
set_option linter.unusedVariables false
set_option linter.unusedSimpArgs false
theorem Bx.one {W : World} {L : List (Nat × TypeId × Array Value)} {g : Nat} {t : TypeId} {c d : Array Value} (i : Nat) (u : Value) (h : Bx W ((g, t, c) :: L)) (hd : ∀ q ∈ L, q.1 ≠ g) (hc : c.setIfInBounds i u = d) : Bx (W.setCell ⟨g, i, none⟩ u) ((g, t, d) :: L) := by
  subst hc
  exact h.puti hd i u
theorem heap_cell {W W' : World} {p : Addr} (h : W'.heap[p.block]? = W.heap[p.block]?) : W'.cell? p = W.cell? p := by
  unfold World.cell?
  rw [h]
/-- A store elsewhere. -/
theorem PRead.far {W : World} {B n : Nat} {A : Option Addr} {ys : List (Int × Int)} (h : PRead W B A n ys) (p : Addr) (hf : 0 < n → ∀ ad, A = some ad → ad.block ≠ p.block) (u : Value) : PRead (W.setCell p u) B A n ys := by
  obtain ⟨h1, h2⟩ := h
  refine ⟨h1, fun hn => ?_⟩
  obtain ⟨ad, e, hb, hc⟩ := h2 hn
  refine ⟨ad, e, hb, fun j v hv => ?_⟩
  rw [← hc j v hv]
  exact heap_cell (Below.heap_setCell W p u _ (by rw [block_of_add]; exact hf hn ad e))
theorem PRead.blk {W : World} {B n : Nat} {A : Option Addr} {ys : List (Int × Int)} (h : PRead W B A n ys) : 0 < n → ∀ ad, A = some ad → ad.block < B := fun hn ad e => by
  obtain ⟨_, h2⟩ := h
  obtain ⟨ad', e', hb, _⟩ := h2 hn
  rw [e] at e'
  injection e' with e'
  subst e'
  exact hb
theorem PRead.sz {W W' : World} {n : Nat} {A : Option Addr} {ys : List (Int × Int)} (h : PRead W W'.heap.size A n ys) (e : W'.heap.size ≤ W.heap.size) : PRead W W.heap.size A n ys := h.more e
def mayB (v p o : Int) : Bool := decide ((1 ≤ v ∧ v ≤ 1048576) ∧ (1 ≤ p ∧ p ≤ 65536) ∧ (0 ≤ o ∧ o ≤ 16777216))
theorem mayB_iff {v p o : Int} : mayB v p o = true ↔ (1 ≤ v ∧ v ≤ 1048576) ∧ (1 ≤ p ∧ p ≤ 65536) ∧ (0 ≤ o ∧ o ≤ 16777216) := decide_eq_true_iff
theorem mayB_iff0 {v p o : Int} : mayB v p o = false ↔ ¬ ((1 ≤ v ∧ v ≤ 1048576) ∧ (1 ≤ p ∧ p ≤ 65536) ∧ (0 ≤ o ∧ o ≤ 16777216)) := decide_eq_false_iff_not
def kp (b : Bool) (x : Int) : Int := if b = true then x else 0
theorem kp_t (x : Int) : kp true x = x := rfl
theorem kp_f (x : Int) : kp false x = 0 := rfl
def kb (b : Bool) (x : Bool) : Bool := if b = true then x else false
theorem kb_t (x : Bool) : kb true x = x := rfl
theorem kb_f (x : Bool) : kb false x = false := rfl
def er1 (b : Bool) : Int := if b = true then 0 else 1
theorem er1_t : er1 true = 0 := rfl
theorem er1_f : er1 false = 1 := rfl
set_option maxHeartbeats 4000000 in
set_option maxRecDepth 100000 in
theorem good_any (v p o : Int) (w : World) : Calls Try.prog 31 #[.int .i64 v, .int .i64 p, .int .i64 o] w fun e w' => e = .returned (.bool (mayB v p o)) ∧ w = w' := by
  go_enter Try.func31, Try.ntmps31
  go_wp2
  all_goals (go_ret; refine ⟨clk.ret_bool ?_, rfl⟩; first | (symm; rw [mayB_iff]; omega) | (symm; rw [mayB_iff0]; omega) | (rw [Bool.eq_iff_iff, mayB_iff]; simp; omega))
set_option maxHeartbeats 4000000 in
set_option maxRecDepth 100000 in
theorem May_any (v p o : Int) (w : World) : Calls Try.prog 32 #[.int .i64 v, .int .i64 p, .int .i64 o] w fun e w' => e = .returned (.bool (mayB v p o)) ∧ w = w' := by
  have HW := Lib.hid (fun W => clk.Window_any v W)
  have HT := Lib.hid (fun W => clk.Tick_any o W)
  rcases Bool.eq_false_or_eq_true (clk.winB v) with hw | hw <;> rcases Bool.eq_false_or_eq_true (clk.tickB o) with ht | ht <;> rw [hw] at HW <;> rw [ht] at HT
  all_goals first | rw [clk.winB_iff] at hw | rw [clk.winB_iff0] at hw
  all_goals first | rw [clk.tickB_iff] at ht | rw [clk.tickB_iff0] at ht
  all_goals
    go_enter Try.func32, Try.ntmps32
    go_wp2_with (first | (go_at_call 43; refine (HW.out _).mono ?_; rintro e w1 ⟨rfl, rfl⟩) | (go_at_call 44; refine (HT.out _).mono ?_; rintro e w1 ⟨rfl, rfl⟩))
  all_goals (go_ret; refine ⟨clk.ret_bool ?_, rfl⟩; first | (symm; rw [mayB_iff]; omega) | (symm; rw [mayB_iff0]; omega))
set_option maxHeartbeats 4000000 in
set_option maxRecDepth 100000 in
theorem New_any (m : Bool) (v p o : Int) (w : World) : Calls Try.prog 9 #[.bool m, .int .i64 v, .int .i64 p, .int .i64 o] w fun e w' => e = .returned (.tuple #[.agg #[.bool (kb (mayB v p o) m), .int .i64 (kp (mayB v p o) v), .int .i64 (kp (mayB v p o) p), .int .i64 (kp (mayB v p o) o), .slice none 0 0], .int .i64 (er1 (mayB v p o))]) ∧ Below w.heap.size w w' := by
  have HG := Lib.hid (fun W => good_any v p o W)
  generalize mayB v p o = g at *
  cases g
  case false =>
    simp only [kp_t, kp_f, kb_t, kb_f, er1_t, er1_f]
    go_enter Try.func9, Try.ntmps9
    go_wp2_with fail
    obtain ⟨W0, hW, hs0, K0, B0⟩ := start1 w 24 #[Value.bool false, Value.int IntKind.i64 0, Value.int IntKind.i64 0, Value.int IntKind.i64 0, Value.slice none 0 0]
    rw [hW]
    clear hW
    have BB := Lib.hid B0
    have R := K0.rules
    simp only [Rules] at R
    clear K0 B0 hs0
    (with_reducible refine (HG.out _).mono ?_)
    rintro e w1 ⟨rfl, rfl⟩
    go_wp2
    refine bodyPost_ret (v := Value.tuple #[.agg #[Value.bool false, Value.int IntKind.i64 0, Value.int IntKind.i64 0, Value.int IntKind.i64 0, Value.slice none 0 0], .int .i64 1]) (by simp [results, Try.results9, go_sem, R]) rfl ⟨rfl, ?_⟩
    exact ((((BB.out.setCell (by first | (simp; done) | (simp; omega)) _).setCell (by first | (simp; done) | (simp; omega)) _).setCell (by first | (simp; done) | (simp; omega)) _).setCell (by first | (simp; done) | (simp; omega)) _).setCell (by first | (simp; done) | (simp; omega)) _
  case true =>
    simp only [kp_t, kp_f, kb_t, kb_f, er1_t, er1_f]
    go_enter Try.func9, Try.ntmps9
    go_wp2_with fail
    obtain ⟨W0, hW, hs0, K0, B0⟩ := start1 w 24 #[Value.bool false, Value.int IntKind.i64 0, Value.int IntKind.i64 0, Value.int IntKind.i64 0, Value.slice none 0 0]
    rw [hW]
    clear hW
    have BB := Lib.hid B0
    have R := K0.rules
    simp only [Rules] at R
    clear K0 B0 hs0
    (with_reducible refine (HG.out _).mono ?_)
    rintro e w1 ⟨rfl, rfl⟩
    go_wp2
    refine bodyPost_ret (v := Value.tuple #[.agg #[Value.bool m, Value.int IntKind.i64 v, Value.int IntKind.i64 p, Value.int IntKind.i64 o, Value.slice none 0 0], .int .i64 0]) (by simp [results, Try.results9, go_sem, R]) rfl ⟨rfl, ?_⟩
    exact ((((BB.out.setCell (by first | (simp; done) | (simp; omega)) _).setCell (by first | (simp; done) | (simp; omega)) _).setCell (by first | (simp; done) | (simp; omega)) _).setCell (by first | (simp; done) | (simp; omega)) _).setCell (by first | (simp; done) | (simp; omega)) _
set_option maxHeartbeats 4000000 in
set_option maxRecDepth 100000 in
theorem NewR_any (m : Bool) (v p o : Int) (w : World) : Calls Try.prog 10 #[.bool m, .int .i64 v, .int .i64 p, .int .i64 o] w fun e w' => e = .returned (.tuple #[.agg #[.bool (kb (mayB v p o) m), .int .i64 (kp (mayB v p o) v), .int .i64 (kp (mayB v p o) p), .int .i64 (kp (mayB v p o) o), .slice none 0 0], .int .i64 (er1 (mayB v p o))]) ∧ Below w.heap.size w w' := by
  have HG := Lib.hid (fun W => May_any v p o W)
  generalize mayB v p o = g at *
  cases g
  case false =>
    simp only [kp_t, kp_f, kb_t, kb_f, er1_t, er1_f]
    go_enter Try.func10, Try.ntmps10
    go_wp2_with fail
    obtain ⟨W0, hW, hs0, K0, B0⟩ := start1 w 24 #[Value.bool false, Value.int IntKind.i64 0, Value.int IntKind.i64 0, Value.int IntKind.i64 0, Value.slice none 0 0]
    rw [hW]
    clear hW
    have BB := Lib.hid B0
    have R := K0.rules
    simp only [Rules] at R
    clear K0 B0 hs0
    (with_reducible refine (HG.out _).mono ?_)
    rintro e w1 ⟨rfl, rfl⟩
    go_wp2
    refine bodyPost_ret (v := Value.tuple #[.agg #[Value.bool false, Value.int IntKind.i64 0, Value.int IntKind.i64 0, Value.int IntKind.i64 0, Value.slice none 0 0], .int .i64 1]) (by simp [results, Try.results10, go_sem, R]) rfl ⟨rfl, ?_⟩
    exact ((((BB.out.setCell (by first | (simp; done) | (simp; omega)) _).setCell (by first | (simp; done) | (simp; omega)) _).setCell (by first | (simp; done) | (simp; omega)) _).setCell (by first | (simp; done) | (simp; omega)) _).setCell (by first | (simp; done) | (simp; omega)) _
  case true =>
    simp only [kp_t, kp_f, kb_t, kb_f, er1_t, er1_f]
    go_enter Try.func10, Try.ntmps10
    go_wp2_with fail
    obtain ⟨W0, hW, hs0, K0, B0⟩ := start1 w 24 #[Value.bool false, Value.int IntKind.i64 0, Value.int IntKind.i64 0, Value.int IntKind.i64 0, Value.slice none 0 0]
    rw [hW]
    clear hW
    have BB := Lib.hid B0
    have R := K0.rules
    simp only [Rules] at R
    clear K0 B0 hs0
    (with_reducible refine (HG.out _).mono ?_)
    rintro e w1 ⟨rfl, rfl⟩
    go_wp2
    refine bodyPost_ret (v := Value.tuple #[.agg #[Value.bool m, Value.int IntKind.i64 v, Value.int IntKind.i64 p, Value.int IntKind.i64 o, Value.slice none 0 0], .int .i64 0]) (by simp [results, Try.results10, go_sem, R]) rfl ⟨rfl, ?_⟩
    exact ((((BB.out.setCell (by first | (simp; done) | (simp; omega)) _).setCell (by first | (simp; done) | (simp; omega)) _).setCell (by first | (simp; done) | (simp; omega)) _).setCell (by first | (simp; done) | (simp; omega)) _).setCell (by first | (simp; done) | (simp; omega)) _
set_option maxHeartbeats 4000000 in
set_option maxRecDepth 100000 in
theorem items_none (w : World) : Calls Try.prog 25 #[.slice none 0 0, .slice none 0 0] w fun e w' => e = .returned (.bool true) ∧ Below w.heap.size w w' := by
  go_enter Try.func25, Try.ntmps25
  go_wp2_with fail
  refine wp_loop_rounds 1 ?_
  rw [rounds_succ]
  go_wp2
  go_ret
  exact ⟨rfl, Below.refl _ _⟩
set_option maxHeartbeats 4000000 in
set_option maxRecDepth 100000 in
theorem Same_none (m : Bool) (v p o : Int) (w : World) : Calls Try.prog 11 #[.agg #[Value.bool m, Value.int IntKind.i64 v, Value.int IntKind.i64 p, Value.int IntKind.i64 o, Value.slice none 0 0], .agg #[Value.bool m, Value.int IntKind.i64 v, Value.int IntKind.i64 p, Value.int IntKind.i64 o, Value.slice none 0 0]] w fun e w' => e = .returned (.bool true) ∧ Below w.heap.size w w' := by
  have HS := Lib.hid (fun W => items_none W)
  go_enter Try.func11, Try.ntmps11
  go_wp2_with fail
  obtain ⟨W0, hW, hs0, K0, B0⟩ := start2 w 24 24 #[Value.bool m, Value.int IntKind.i64 v, Value.int IntKind.i64 p, Value.int IntKind.i64 o, Value.slice none 0 0] #[Value.bool m, Value.int IntKind.i64 v, Value.int IntKind.i64 p, Value.int IntKind.i64 o, Value.slice none 0 0]
  rw [hW]
  clear hW
  have KK := Lib.hid K0
  have BB := Lib.hid B0
  have R := K0.rules
  simp only [Rules] at R
  clear K0 B0 hs0
  (with_reducible refine (HS.out _).mono ?_)
  rintro e wv ⟨rfl, hbv⟩; replace BB := Lib.hid (BB.out.trans (hbv.mono BB.out.size)); replace KK := Lib.hid (KK.out.below hbv); replace R := KK.out.rules; simp only [gro.Rules] at R; clear hbv
  go_wp2
  go_ret
  exact ⟨rfl, BB.out⟩
set_option maxHeartbeats 4000000 in
set_option maxRecDepth 100000 in
theorem Validate_none (w : World) : Calls Try.prog 20 #[.agg #[Value.bool true, Value.int IntKind.i64 3, Value.int IntKind.i64 9, Value.int IntKind.i64 0, Value.slice none 0 0]] w fun e w' => e = .returned (.int .i64 0) ∧ Below w.heap.size w w' := by
  have HG : Hid (∀ W, Calls Try.prog 31 #[.int .i64 3, .int .i64 9, .int .i64 0] W fun e w' => e = .returned (.bool true) ∧ W = w') := fun W => by
    have := good_any 3 9 0 W
    rwa [mayB_iff.2 (by omega)] at this
  go_enter Try.func20, Try.ntmps20
  go_wp2_with fail
  obtain ⟨W0, hW, hs0, K0, B0⟩ := start1 w 24 #[Value.bool true, Value.int IntKind.i64 3, Value.int IntKind.i64 9, Value.int IntKind.i64 0, Value.slice none 0 0]
  rw [hW]
  clear hW
  have KK := Lib.hid K0
  have BB := Lib.hid B0
  have R := K0.rules
  simp only [Rules] at R
  clear K0 B0 hs0
  (with_reducible refine (HG.out _).mono ?_)
  rintro e w1 ⟨rfl, rfl⟩
  go_wp2_with fail
  refine wp_loop_rounds 1 ?_
  rw [rounds_succ]
  go_wp2
  go_ret
  exact ⟨rfl, BB.out⟩
set_option maxHeartbeats 4000000 in
set_option maxRecDepth 100000 in
theorem Validate_one (A : Option Addr) (c : Nat) (w : World) (h1 : PRead w w.heap.size A 1 [(0, 5)]) : Calls Try.prog 20 #[.agg #[Value.bool true, Value.int IntKind.i64 3, Value.int IntKind.i64 9, Value.int IntKind.i64 0, Value.slice A 1 c]] w fun e w' => e = .returned (.int .i64 0) ∧ Below w.heap.size w w' := by
  have HG : Hid (∀ W, Calls Try.prog 31 #[.int .i64 3, .int .i64 9, .int .i64 0] W fun e w' => e = .returned (.bool true) ∧ W = w') := fun W => by
    have := good_any 3 9 0 W
    rwa [mayB_iff.2 (by omega)] at this
  have HL : Hid (∀ W, Calls Try.prog 34 #[.int .i64 0, .int .i64 3, .int .i64 0] W fun e w' => e = .returned (.bool true) ∧ W = w') := fun W => by
    have := clk.live_any 0 3 0 W
    rwa [clk.live_iff.2 (by omega)] at this
  obtain ⟨ad, rfl, hbl, hc1, hc2⟩ := PRead.at_ h1 (show 0 < 1 by omega)
  rw [show ad.add (0 * 2) = ad from by simp [Addr.add]] at hc1 hc2
  change w.cell? ad = some (.int .i64 0) at hc1
  change w.cell? ⟨ad.block, ad.off + 1, none⟩ = some (.int .i64 5) at hc2
  clear h1
  go_enter Try.func20, Try.ntmps20
  go_wp2_with fail
  obtain ⟨W0, hW, hs0, K0, B0⟩ := start1 w 24 #[Value.bool true, Value.int IntKind.i64 3, Value.int IntKind.i64 9, Value.int IntKind.i64 0, Value.slice (some ad) 1 c]
  rw [hW]
  clear hW
  have KK := Lib.hid K0
  have BB := Lib.hid B0
  have R := K0.rules
  simp only [Rules] at R
  clear K0 B0 hs0
  (with_reducible refine (HG.out _).mono ?_)
  rintro e w1 ⟨rfl, rfl⟩
  have hd1 := BB.out.cell (p := ad) hbl
  have hd2 := BB.out.cell (p := ⟨ad.block, ad.off + 1, none⟩) hbl
  rw [hc1] at hd1
  rw [hc2] at hd2
  have hbs : ad.block < W0.heap.size := Nat.lt_of_lt_of_le hbl BB.out.size
  go_wp2_with fail
  refine wp_loop_rounds 2 ?_
  rw [rounds_succ]
  obtain ⟨sB, hsB⟩ : ∃ s, W0.heap.size = s := ⟨_, rfl⟩
  have KZ := Lib.hid (KK.out.new (t := 40) (c := #[Value.int IntKind.i64 0, Value.int IntKind.i64 5]) hsB)
  have BZ := Lib.hid (BB.out.alloc BB.out.size (.cells #[Value.int IntKind.i64 0, Value.int IntKind.i64 5] 40))
  have RZ := KZ.out.rules
  simp only [Rules] at RZ
  go_wp2_with fail
  (with_reducible refine (HL.out _).mono ?_)
  rintro e w1 ⟨rfl, rfl⟩
  go_wp2_with fail
  obtain ⟨W5, hW, K5, B5, z5⟩ := name_world KZ.out BZ.out (s := 0) (by omega)
  rw [hW]
  clear hW KK BB R KZ BZ RZ
  have KK := Lib.hid K5
  have BB := Lib.hid B5
  have R := K5.rules
  simp only [Rules] at R
  clear K5 B5 z5
  (refine gro.wp_region_grown (by kernel_rfl) (by kernel_rfl) ?_; (repeat (go_big_quiet_step ((fail)))); refine wpQuiet_nil ?_; intro _ hw'; obtain ⟨nx, hw''⟩ := hw'; subst hw'')
  replace KK := Lib.hid (KK.out.below (below_grown _ nx))
  replace BB := Lib.hid (BB.out.trans ((below_grown _ nx).mono BB.out.size))
  clear R
  generalize grown _ nx = W7 at *
  have R := KK.out.rules
  simp only [Rules] at R
  go_wp2_with fail
  rw [rounds_succ]
  go_wp2
  go_ret
  exact ⟨rfl, BB.out⟩
set_option maxHeartbeats 4000000 in
set_option maxRecDepth 100000 in
theorem Ask_one (A : Option Addr) (c : Nat) (w : World) (h1 : PRead w w.heap.size A 1 [(0, 5)]) : Calls Try.prog 18 #[.agg #[Value.bool true, Value.int IntKind.i64 3, Value.int IntKind.i64 9, Value.int IntKind.i64 0, Value.slice A 1 c]] w fun e w' => e = .returned (.tuple #[.int .i64 5, .int .i64 0]) ∧ Below w.heap.size w w' := by
  have HV := Lib.hid (fun W (hb : Below w.heap.size w W) => Validate_one A c W ((h1.below hb).more hb.size))
  obtain ⟨ad, rfl, hbl, hc1, hc2⟩ := PRead.at_ h1 (show 0 < 1 by omega)
  rw [show ad.add (0 * 2) = ad from by simp [Addr.add]] at hc1 hc2
  change w.cell? ⟨ad.block, ad.off + 1, none⟩ = some (.int .i64 5) at hc2
  clear h1 hc1
  go_enter Try.func18, Try.ntmps18
  go_wp2_with fail
  obtain ⟨W0, hW, hs0, K0, B0⟩ := start1 w 24 #[Value.bool true, Value.int IntKind.i64 3, Value.int IntKind.i64 9, Value.int IntKind.i64 0, Value.slice (some ad) 1 c]
  rw [hW]
  clear hW
  have KK := Lib.hid K0
  have BB := Lib.hid B0
  have R := K0.rules
  simp only [Rules] at R
  clear K0 B0 hs0
  (with_reducible refine (HV.out _ BB.out).mono ?_)
  rintro e wv ⟨rfl, hbv⟩; replace BB := Lib.hid (BB.out.trans (hbv.mono BB.out.size)); replace KK := Lib.hid (KK.out.below hbv); replace R := KK.out.rules; simp only [gro.Rules] at R; clear hbv
  have hd2 := BB.out.cell (p := ⟨ad.block, ad.off + 1, none⟩) hbl
  rw [hc2] at hd2
  go_wp2
  go_ret2
  exact ⟨rfl, BB.out⟩
set_option maxHeartbeats 4000000 in
set_option maxRecDepth 100000 in
theorem item_info : (Try.prog.info? 40).map (fun i => (i.zero, i.size, i.bytes)) = some (some (.agg #[.int .i64 0, .int .i64 0]), 2, 16) := by kernel_rfl
set_option maxHeartbeats 4000000 in
set_option maxRecDepth 100000 in
theorem Add_one (w : World) : Calls Try.prog 16 #[.agg #[Value.bool true, Value.int IntKind.i64 3, Value.int IntKind.i64 9, Value.int IntKind.i64 0, Value.slice none 0 0], .int .i64 5] w fun e w' => ∃ A c, e = .returned (.tuple #[.agg #[.bool true, .int .i64 3, .int .i64 9, .int .i64 0, .slice A 1 c], .int .i64 0]) ∧ (∀ ad, A = some ad → w.heap.size ≤ ad.block) ∧ PRead w' w'.heap.size A 1 [(0, 5)] ∧ Below w.heap.size w w' := by
  obtain ⟨i0, hi0, hz0, hz1, hz2⟩ := info_parts item_info
  have HI := Lib.hid hi0
  have HZ0 := Lib.hid hz0
  have HZ1 := Lib.hid hz1
  have HZ2 := Lib.hid hz2
  clear hi0 hz0 hz1 hz2
  have HV := Lib.hid (fun W => Validate_none W)
  go_enter Try.func16, Try.ntmps16
  go_wp2_with fail
  obtain ⟨W0, hW, hs0, K0, B0⟩ := start2 w 24 24 #[Value.bool true, Value.int IntKind.i64 3, Value.int IntKind.i64 9, Value.int IntKind.i64 0, Value.slice none 0 0] #[Value.bool false, Value.int IntKind.i64 0, Value.int IntKind.i64 0, Value.int IntKind.i64 0, Value.slice none 0 0]
  rw [hW]
  clear hW
  have KK := Lib.hid K0
  have BB := Lib.hid B0
  have sz : w.heap.size + 1 + 1 ≤ W0.heap.size := by omega
  have R := K0.rules
  simp only [Rules] at R
  clear K0 B0 hs0
  (with_reducible refine (HV.out _).mono ?_)
  rintro e wv ⟨rfl, hbv⟩
  replace BB := Lib.hid (BB.out.trans (hbv.mono BB.out.size))
  replace KK := Lib.hid (KK.out.below hbv)
  replace sz := Nat.le_trans sz hbv.size
  replace R := KK.out.rules
  simp only [Rules] at R
  clear hbv
  go_wp2_with fail
  refine wp_loop_rounds 1 ?_
  rw [rounds_succ]
  go_wp2_with fail
  (refine gro.wp_region_grown (by kernel_rfl) (by kernel_rfl) ?_; (repeat (go_big_quiet_step ((fail)))); refine wpQuiet_nil ?_; intro _ hw'; obtain ⟨nx, hw''⟩ := hw'; subst hw'')
  replace KK := Lib.hid (KK.out.below (below_grown _ nx))
  replace BB := Lib.hid (BB.out.trans ((below_grown _ nx).mono BB.out.size))
  replace sz := Nat.le_trans sz (below_grown _ nx).size
  clear R
  generalize grown _ nx = W7 at *
  have R := KK.out.rules
  simp only [Rules] at R
  go_wp2_with (first | (at_builtin; refine wpList_append_any _ rfl (.tmp 44) (.tmp 45) 22 rfl W7.heap.size 40 i0 (.agg #[.int .i64 0, .int .i64 0]) 2 16 Try.underlying22 HI.out HZ0.out HZ1.out HZ2.out rfl (by omega) (.slice (some ⟨W7.heap.size, 0, none⟩) 0 0) 0 [] rfl (own_empty W7 40) 0 none 0 0 [] rfl Reads.none_ (by simp) (by unfold maxLen; omega) (by omega) (by simp) ?_; intro v1 w1 hown1 hg1 hat1; simp only [Nat.add_zero, List.append_nil] at hown1; obtain ⟨A4, c4, rfl, q1, q2, q3⟩ := own_form hown1; have HB1 : Hid (Below W7.heap.size W7 w1) := ((Below.refl _ _).alloc (Nat.le_refl _) _).grown hg1 (by simp) (by simp [Value.ownBlock]); have HO1 := Lib.hid hown1; clear hown1 hg1 hat1 q1 q2 q3))
  replace BB := Lib.hid (BB.out.trans (HB1.out.mono BB.out.size))
  replace KK := Lib.hid (KK.out.below HB1.out)
  have sz1 := HB1.out.size
  replace R := KK.out.rules
  simp only [Rules] at R
  obtain ⟨base, hbase⟩ : ∃ b, W7.heap.size = b := ⟨_, rfl⟩
  rw [hbase] at sz HO1 sz1
  clear HB1 hbase
  (refine gro.wp_region_grown (by kernel_rfl) (by kernel_rfl) ?_; (repeat (go_big_quiet_step ((fail)))); refine wpQuiet_nil ?_; intro _ hw'; obtain ⟨nx, hw''⟩ := hw'; subst hw'')
  replace HO1 := Lib.hid (own_keep HO1.out (below_grown _ nx))
  replace KK := Lib.hid (KK.out.below (below_grown _ nx))
  replace BB := Lib.hid (BB.out.trans ((below_grown _ nx).mono BB.out.size))
  replace sz1 := Nat.le_trans sz1 (below_grown _ nx).size
  clear R
  generalize grown _ nx = W8 at *
  have R := KK.out.rules
  simp only [Rules] at R
  go_wp2_with (at_builtin; go_loud (refine wpList_append_any _ rfl (.tmp 68) (.tmp 73) 22 rfl base 40 i0 (.agg #[.int .i64 0, .int .i64 0]) 2 16 Try.underlying22 HI.out HZ0.out HZ1.out HZ2.out rfl (by omega) (.slice A4 0 c4) 0 [] rfl (own_alloc HO1.out _) _ _ 1 1 _ rfl (reads_new _ _ _ rfl) (by simp [Value.oneCell']) (by unfold maxLen; omega) (by omega) (by simp; omega) ?_); intro v2 w2 hown2 hg2 hat2; simp only [Nat.zero_add, List.nil_append] at hown2; obtain ⟨A6, c6, rfl, r1, r2, r3⟩ := own_form hown2; have HB2 := Lib.hid (below_box2 sz1 HO1.out hg2); have HO2 := Lib.hid hown2; clear hown2 hg2 hat2; have K2 : Bx w2 [(w.heap.size, 24, #[Value.bool true, Value.int IntKind.i64 3, Value.int IntKind.i64 9, Value.int IntKind.i64 0, Value.slice none 0 0]), (w.heap.size + 1, 24, #[Value.bool false, Value.int IntKind.i64 0, Value.int IntKind.i64 0, Value.int IntKind.i64 0, Value.slice none 0 0])] := (fun q hq => (KK.out q (by simp at hq ⊢; rcases hq with h | h <;> simp [h])).below HB2.out (by simp at hq; rcases hq with h | h <;> rw [h] <;> simp <;> omega)); have R2 := K2.rules; simp only [Rules] at R2; have K3 := Bx.one (d := #[Value.bool true, Value.int IntKind.i64 3, Value.int IntKind.i64 9, Value.int IntKind.i64 0, Value.slice A6 1 c6]) 4 (.slice A6 1 c6) K2 (by simp) (by simp); have R3 := K3.rules; simp only [Rules] at R3)
  have BF := Lib.hid (BB.out.trans (HB2.out.mono (show w.heap.size ≤ base by omega)))
  have fr : ∀ ad, A6 = some ad → base ≤ ad.block := fun ad e => by
    subst e
    exact own_block_ge HO2.out ad.block rfl
  have HR : Hid (PRead w2 w2.heap.size A6 1 [(0, 5)]) := r3
  refine bodyPost_ret (v := Value.tuple #[.agg #[Value.bool true, Value.int IntKind.i64 3, Value.int IntKind.i64 9, Value.int IntKind.i64 0, Value.slice A6 1 c6], .int .i64 0]) (by simp [results, Try.results16, go_sem, R2, R3]) rfl ⟨A6, c6, rfl, fun ad h => by have := fr ad h; omega, ?_, ?_⟩
  · exact PRead.sz ((PRead.far (PRead.far (PRead.far (PRead.far (PRead.far (PRead.far HR.out ⟨w.heap.size, 4, none⟩ (fun h0 ad h => by have := fr ad h; simp; omega) _) ⟨w.heap.size + 1, 0, none⟩ (fun h0 ad h => by have := fr ad h; simp; omega) _) ⟨w.heap.size + 1, 1, none⟩ (fun h0 ad h => by have := fr ad h; simp; omega) _) ⟨w.heap.size + 1, 2, none⟩ (fun h0 ad h => by have := fr ad h; simp; omega) _) ⟨w.heap.size + 1, 3, none⟩ (fun h0 ad h => by have := fr ad h; simp; omega) _) ⟨w.heap.size + 1, 4, none⟩ (fun h0 ad h => by have := fr ad h; simp; omega) _)) (by simp [World.setCell])
  · exact (((((BF.out.setCell (by first | (simp; done) | (simp; omega)) _).setCell (by first | (simp; done) | (simp; omega)) _).setCell (by first | (simp; done) | (simp; omega)) _).setCell (by first | (simp; done) | (simp; omega)) _).setCell (by first | (simp; done) | (simp; omega)) _).setCell (by first | (simp; done) | (simp; omega)) _
end Go.Proofs.Yteajgmihhnghfaa.ext
