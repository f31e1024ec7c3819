/- States that come back; Ask and Same of states of histograms; a law's few. -/
import Derived.Test.YtofgjcfiinmimaaCst2
import Derived.Test.YtofgjcfiinmimaaQuery
import Derived.Test.YtofgjcfiinmimaaBox3
namespace Go.Proofs.Ytofgjcfiinmimaa.cst
open Go.RowKit Go.Proofs.Ytofgjcfiinmimaa.mem Go.Proofs.Ytofgjcfiinmimaa.lst Go.Proofs.Ytofgjcfiinmimaa.gro
set_option linter.unusedVariables false
set_option linter.unusedSimpArgs false
theorem Bx.one {W : World} {L : List (Nat × TypeId × Array Value)} {g : Nat} {t : TypeId} {c d : Array Value} (i : Nat) (u : Value) (h : Bx W ((g, t, c) :: L)) (hd : ∀ q ∈ L, q.1 ≠ g) (hc : c.setIfInBounds i u = d) : Bx (W.setCell ⟨g, i, none⟩ u) ((g, t, d) :: L) := by
  subst hc
  exact h.puti hd i u
theorem heap_cell {W W' : World} {p : Addr} (h : W'.heap[p.block]? = W.heap[p.block]?) : W'.cell? p = W.cell? p := by
  unfold World.cell?
  rw [h]
/-- A store elsewhere. -/
theorem PRead.far {W : World} {B n : Nat} {A : Option Addr} {ys : List (Int × Int)} (h : PRead W B A n ys) (p : Addr) (hf : 0 < n → ∀ ad, A = some ad → ad.block ≠ p.block) (u : Value) : PRead (W.setCell p u) B A n ys := by
  obtain ⟨h1, h2⟩ := h
  refine ⟨h1, fun hn => ?_⟩
  obtain ⟨ad, e, hb, hc⟩ := h2 hn
  refine ⟨ad, e, hb, fun j v hv => ?_⟩
  rw [← hc j v hv]
  exact heap_cell (Below.heap_setCell W p u _ (by rw [block_of_add]; exact hf hn ad e))
theorem PRead.blk {W : World} {B n : Nat} {A : Option Addr} {ys : List (Int × Int)} (h : PRead W B A n ys) : 0 < n → ∀ ad, A = some ad → ad.block < B := fun hn ad e => by
  obtain ⟨_, h2⟩ := h
  obtain ⟨ad', e', hb, _⟩ := h2 hn
  rw [e] at e'
  injection e' with e'
  subst e'
  exact hb
theorem PRead.sz {W W' : World} {n : Nat} {A : Option Addr} {ys : List (Int × Int)} (h : PRead W W'.heap.size A n ys) (e : W'.heap.size ≤ W.heap.size) : PRead W W.heap.size A n ys := h.more e
def lsK (b : Bool) (ys : List (Int × Int)) : List (Int × Int) := if b = true then ys else []
theorem lsK_t (ys : List (Int × Int)) : lsK true ys = ys := rfl
theorem lsK_f (ys : List (Int × Int)) : lsK false ys = [] := rfl
/-- The error of an item and of a value. -/
def addE (ft full : Bool) : Int := if ft = true then (if full = true then 5 else 0) else 2
theorem addE_f (b : Bool) : addE false b = 2 := rfl
theorem addE_t : addE true true = 5 := rfl
theorem addE_k : addE true false = 0 := rfl
def addSE (ft rg full : Bool) : Int := if ft = true then (if rg = true then (if full = true then 5 else 0) else 4) else 2
theorem addSE_f (b c : Bool) : addSE false b c = 2 := rfl
theorem addSE_r (c : Bool) : addSE true false c = 4 := rfl
theorem addSE_t : addSE true true true = 5 := rfl
theorem addSE_k : addSE true true false = 0 := rfl
/-- A state that comes back with an error; its list is new. -/
def NewCst (x0 x1 x2 x3 : Int) (ys : List (Int × Int)) (er : Int) (w : World) (e : Ending) (w' : World) : Prop :=
  ∃ A m c, e = .returned (.tuple #[.agg #[.int .i64 x0, .int .i64 x1, .int .i64 x2, .int .i64 x3, .slice A m c], .int .i64 er]) ∧ m ≤ c ∧ c ≤ maxLen ∧ PRead w' w'.heap.size A m ys ∧ Below w.heap.size w w'
def NewCsf (x0 x1 x2 x3 : Int) (ys : List (Int × Int)) (er : Int) (w : World) (e : Ending) (w' : World) : Prop :=
  ∃ A m c, e = .returned (.tuple #[.agg #[.int .i64 x0, .int .i64 x1, .int .i64 x2, .int .i64 x3, .slice A m c], .int .i64 er]) ∧ m ≤ c ∧ (c ≤ maxLen ∧ ∀ ad, A = some ad → w.heap.size ≤ ad.block) ∧ PRead w' w'.heap.size A m ys ∧ Below w.heap.size w w'
theorem NewCsf.st {x0 x1 x2 x3 : Int} {ys : List (Int × Int)} {er : Int} {w w' : World} {e : Ending} (h : NewCsf x0 x1 x2 x3 ys er w e w') : NewCst x0 x1 x2 x3 ys er w e w' := by
  obtain ⟨A, m, c, a1, a2, a3, a4, a5⟩ := h
  exact ⟨A, m, c, a1, a2, a3.1, a4, a5⟩
/-- A state that comes back with an error; its list is new. -/
def NewSst (x0 x1 x2 x3 x4 : Int) (ys : List (Int × Int)) (er : Int) (w : World) (e : Ending) (w' : World) : Prop :=
  ∃ A m c, e = .returned (.tuple #[.agg #[.int .i64 x0, .int .i64 x1, .int .i64 x2, .int .i64 x3, .int .i64 x4, .slice A m c], .int .i64 er]) ∧ m ≤ c ∧ c ≤ maxLen ∧ PRead w' w'.heap.size A m ys ∧ Below w.heap.size w w'
def NewSsf (x0 x1 x2 x3 x4 : Int) (ys : List (Int × Int)) (er : Int) (w : World) (e : Ending) (w' : World) : Prop :=
  ∃ A m c, e = .returned (.tuple #[.agg #[.int .i64 x0, .int .i64 x1, .int .i64 x2, .int .i64 x3, .int .i64 x4, .slice A m c], .int .i64 er]) ∧ m ≤ c ∧ (c ≤ maxLen ∧ ∀ ad, A = some ad → w.heap.size ≤ ad.block) ∧ PRead w' w'.heap.size A m ys ∧ Below w.heap.size w w'
theorem NewSsf.st {x0 x1 x2 x3 x4 : Int} {ys : List (Int × Int)} {er : Int} {w w' : World} {e : Ending} (h : NewSsf x0 x1 x2 x3 x4 ys er w e w') : NewSst x0 x1 x2 x3 x4 ys er w e w' := by
  obtain ⟨A, m, c, a1, a2, a3, a4, a5⟩ := h
  exact ⟨A, m, c, a1, a2, a3.1, a4, a5⟩
/-- The answer of a state. -/
noncomputable def askV (ft : Bool) (xs : List (Int × Int)) : Value := if ft = true then qv xs else .agg #[.int .i64 0, .int .i64 0, .int .i64 0, .int .i64 0, .int .i64 0, .int .i64 0]
set_option maxHeartbeats 2000000 in
set_option maxRecDepth 100000 in
theorem AskC_any (v k p o : Int) (A : Option Addr) (n c : Nat) (xs : List (Int × Int)) (w : World) (h1 : PRead w w.heap.size A n xs) (hnc : n ≤ c) (hcm : c ≤ maxLen) (hsmall : n ≤ 2000) :
    Calls Try.prog 27 #[(Value.agg #[.int .i64 v, .int .i64 k, .int .i64 p, .int .i64 o, .slice A n c])] w fun e w' => e = .returned (.tuple #[askV (fitB xs v k p o) xs, .int .i64 (okE (fitB xs v k p o))]) ∧ Below w.heap.size w w' := by
  have HV := Lib.hid (fun W (hb : Below w.heap.size w W) => ValidateC_any v k p o A n c xs W ((h1.below hb).more hb.size) hnc hcm hsmall)
  have hlv : fitB xs v k p o = true → 0 < n → 0 ≤ (buk.at_ xs 0).2 ∧ (buk.at_ xs 0).2 ≤ 30 := fun h hp => ((buk.validB_iff.1 (fit_iff.1 h).2.1).2.1 0 (by rw [PRead.len h1]; exact hp)).2.1
  obtain ⟨m0, m1, m2, m4, hqv⟩ : ∃ m0 m1 m2 m4 : Int, qv xs = .agg #[.int .i64 m0, .int .i64 m1, .int .i64 m2, .int .i64 m1, .int .i64 m4, .int .i64 m1] := ⟨_, _, _, _, rfl⟩
  have HQ : Hid (fitB xs v k p o = true → ∀ W, Below w.heap.size w W → Calls Try.prog 69 #[.slice A n c] W fun e w' => e = .returned (.agg #[.int .i64 m0, .int .i64 m1, .int .i64 m2, .int .i64 m1, .int .i64 m4, .int .i64 m1]) ∧ Below W.heap.size W w') := fun h W hb => by
    have := Query_any A n c xs W ((h1.below hb).more hb.size) (by omega) (hlv h)
    rwa [hqv] at this
  clear h1 hnc hcm hsmall hlv
  unfold askV
  rw [hqv]
  clear hqv
  generalize fitB xs v k p o = ft at *
  cases ft
  case false =>
    simp only [okE_f, Bool.false_eq_true, if_false]
    go_enter Try.func27, Try.ntmps27
    go_wp2_with fail
    obtain ⟨W0, hW, hs0, K0, B0⟩ := start2 w 24 43 #[Value.int IntKind.i64 v, Value.int IntKind.i64 k, Value.int IntKind.i64 p, Value.int IntKind.i64 o, Value.slice A n c] #[Value.int IntKind.i64 0, Value.int IntKind.i64 0, Value.int IntKind.i64 0, Value.int IntKind.i64 0, Value.int IntKind.i64 0, Value.int IntKind.i64 0]
    rw [hW]
    clear hW
    have KK := Lib.hid K0
    have BB := Lib.hid B0
    have sz : w.heap.size + 1 + 1 ≤ W0.heap.size := by omega
    have R := K0.rules
    simp only [Rules] at R
    clear K0 B0 hs0
    (with_reducible refine (HV.out _ BB.out).mono ?_)
    rintro e wv ⟨rfl, hbv⟩
    replace BB := Lib.hid (BB.out.trans (hbv.mono BB.out.size))
    replace KK := Lib.hid (KK.out.below hbv)
    replace sz := Nat.le_trans sz hbv.size
    replace R := KK.out.rules
    simp only [Rules] at R
    clear hbv
    go_wp2
    refine bodyPost_ret (v := Value.tuple #[.agg #[Value.int IntKind.i64 0, Value.int IntKind.i64 0, Value.int IntKind.i64 0, Value.int IntKind.i64 0, Value.int IntKind.i64 0, Value.int IntKind.i64 0], .int .i64 2]) (by simp [results, Try.results27, go_sem, R, okE_t, okE_f]) rfl ⟨rfl, ?_⟩
    exact ((((((BB.out.setCell (by first | (simp; done) | (simp; omega)) _).setCell (by first | (simp; done) | (simp; omega)) _).setCell (by first | (simp; done) | (simp; omega)) _).setCell (by first | (simp; done) | (simp; omega)) _).setCell (by first | (simp; done) | (simp; omega)) _).setCell (by first | (simp; done) | (simp; omega)) _)
  replace HQ := Lib.hid (HQ.out rfl)
  simp only [okE_t, if_true]
  go_enter Try.func27, Try.ntmps27
  go_wp2_with fail
  obtain ⟨W0, hW, hs0, K0, B0⟩ := start2 w 24 43 #[Value.int IntKind.i64 v, Value.int IntKind.i64 k, Value.int IntKind.i64 p, Value.int IntKind.i64 o, Value.slice A n c] #[Value.int IntKind.i64 0, Value.int IntKind.i64 0, Value.int IntKind.i64 0, Value.int IntKind.i64 0, Value.int IntKind.i64 0, Value.int IntKind.i64 0]
  rw [hW]
  clear hW
  have KK := Lib.hid K0
  have BB := Lib.hid B0
  have sz : w.heap.size + 1 + 1 ≤ W0.heap.size := by omega
  have R := K0.rules
  simp only [Rules] at R
  clear K0 B0 hs0
  (with_reducible refine (HV.out _ BB.out).mono ?_)
  rintro e wv ⟨rfl, hbv⟩
  replace BB := Lib.hid (BB.out.trans (hbv.mono BB.out.size))
  replace KK := Lib.hid (KK.out.below hbv)
  replace sz := Nat.le_trans sz hbv.size
  replace R := KK.out.rules
  simp only [Rules] at R
  clear hbv
  go_wp2_with fail
  (with_reducible refine (HQ.out _ BB.out).mono ?_)
  rintro e wv ⟨rfl, hbv⟩
  replace BB := Lib.hid (BB.out.trans (hbv.mono BB.out.size))
  replace KK := Lib.hid (KK.out.below hbv)
  replace sz := Nat.le_trans sz hbv.size
  replace R := KK.out.rules
  simp only [Rules] at R
  clear hbv
  go_wp2
  refine bodyPost_ret (v := Value.tuple #[.agg #[Value.int IntKind.i64 m0, Value.int IntKind.i64 m1, Value.int IntKind.i64 m2, Value.int IntKind.i64 m1, Value.int IntKind.i64 m4, Value.int IntKind.i64 m1], .int .i64 0]) (by simp [results, Try.results27, go_sem, R, okE_t, okE_f]) rfl ⟨rfl, ?_⟩
  exact ((((((BB.out.setCell (by first | (simp; done) | (simp; omega)) _).setCell (by first | (simp; done) | (simp; omega)) _).setCell (by first | (simp; done) | (simp; omega)) _).setCell (by first | (simp; done) | (simp; omega)) _).setCell (by first | (simp; done) | (simp; omega)) _).setCell (by first | (simp; done) | (simp; omega)) _)
set_option maxHeartbeats 2000000 in
set_option maxRecDepth 100000 in
theorem AskCR_any (v k p o : Int) (A : Option Addr) (n c : Nat) (xs : List (Int × Int)) (w : World) (h1 : PRead w w.heap.size A n xs) (hnc : n ≤ c) (hcm : c ≤ maxLen) (hsmall : n ≤ 2000) :
    Calls Try.prog 28 #[(Value.agg #[.int .i64 v, .int .i64 k, .int .i64 p, .int .i64 o, .slice A n c])] w fun e w' => e = .returned (.tuple #[askV (fitB xs v k p o) xs, .int .i64 (okE (fitB xs v k p o))]) ∧ Below w.heap.size w w' := by
  have HV := Lib.hid (fun W (hb : Below w.heap.size w W) => ValidateCR_any v k p o A n c xs W ((h1.below hb).more hb.size) hnc hcm hsmall)
  have hlv : fitB xs v k p o = true → 0 < n → 0 ≤ (buk.at_ xs 0).2 ∧ (buk.at_ xs 0).2 ≤ 30 := fun h hp => ((buk.validB_iff.1 (fit_iff.1 h).2.1).2.1 0 (by rw [PRead.len h1]; exact hp)).2.1
  obtain ⟨m0, m1, m2, m4, hqv⟩ : ∃ m0 m1 m2 m4 : Int, qv xs = .agg #[.int .i64 m0, .int .i64 m1, .int .i64 m2, .int .i64 m1, .int .i64 m4, .int .i64 m1] := ⟨_, _, _, _, rfl⟩
  have HQ : Hid (fitB xs v k p o = true → ∀ W, Below w.heap.size w W → Calls Try.prog 70 #[.slice A n c] W fun e w' => e = .returned (.agg #[.int .i64 m0, .int .i64 m1, .int .i64 m2, .int .i64 m1, .int .i64 m4, .int .i64 m1]) ∧ Below W.heap.size W w') := fun h W hb => by
    have := QueryR_any A n c xs W ((h1.below hb).more hb.size) (by omega) (hlv h)
    rwa [hqv] at this
  clear h1 hnc hcm hsmall hlv
  unfold askV
  rw [hqv]
  clear hqv
  generalize fitB xs v k p o = ft at *
  cases ft
  case false =>
    simp only [okE_f, Bool.false_eq_true, if_false]
    go_enter Try.func28, Try.ntmps28
    go_wp2_with fail
    obtain ⟨W0, hW, hs0, K0, B0⟩ := start2 w 24 43 #[Value.int IntKind.i64 v, Value.int IntKind.i64 k, Value.int IntKind.i64 p, Value.int IntKind.i64 o, Value.slice A n c] #[Value.int IntKind.i64 0, Value.int IntKind.i64 0, Value.int IntKind.i64 0, Value.int IntKind.i64 0, Value.int IntKind.i64 0, Value.int IntKind.i64 0]
    rw [hW]
    clear hW
    have KK := Lib.hid K0
    have BB := Lib.hid B0
    have sz : w.heap.size + 1 + 1 ≤ W0.heap.size := by omega
    have R := K0.rules
    simp only [Rules] at R
    clear K0 B0 hs0
    (with_reducible refine (HV.out _ BB.out).mono ?_)
    rintro e wv ⟨rfl, hbv⟩
    replace BB := Lib.hid (BB.out.trans (hbv.mono BB.out.size))
    replace KK := Lib.hid (KK.out.below hbv)
    replace sz := Nat.le_trans sz hbv.size
    replace R := KK.out.rules
    simp only [Rules] at R
    clear hbv
    go_wp2
    refine bodyPost_ret (v := Value.tuple #[.agg #[Value.int IntKind.i64 0, Value.int IntKind.i64 0, Value.int IntKind.i64 0, Value.int IntKind.i64 0, Value.int IntKind.i64 0, Value.int IntKind.i64 0], .int .i64 2]) (by simp [results, Try.results28, go_sem, R, okE_t, okE_f]) rfl ⟨rfl, ?_⟩
    exact ((((((BB.out.setCell (by first | (simp; done) | (simp; omega)) _).setCell (by first | (simp; done) | (simp; omega)) _).setCell (by first | (simp; done) | (simp; omega)) _).setCell (by first | (simp; done) | (simp; omega)) _).setCell (by first | (simp; done) | (simp; omega)) _).setCell (by first | (simp; done) | (simp; omega)) _)
  replace HQ := Lib.hid (HQ.out rfl)
  simp only [okE_t, if_true]
  go_enter Try.func28, Try.ntmps28
  go_wp2_with fail
  obtain ⟨W0, hW, hs0, K0, B0⟩ := start2 w 24 43 #[Value.int IntKind.i64 v, Value.int IntKind.i64 k, Value.int IntKind.i64 p, Value.int IntKind.i64 o, Value.slice A n c] #[Value.int IntKind.i64 0, Value.int IntKind.i64 0, Value.int IntKind.i64 0, Value.int IntKind.i64 0, Value.int IntKind.i64 0, Value.int IntKind.i64 0]
  rw [hW]
  clear hW
  have KK := Lib.hid K0
  have BB := Lib.hid B0
  have sz : w.heap.size + 1 + 1 ≤ W0.heap.size := by omega
  have R := K0.rules
  simp only [Rules] at R
  clear K0 B0 hs0
  (with_reducible refine (HV.out _ BB.out).mono ?_)
  rintro e wv ⟨rfl, hbv⟩
  replace BB := Lib.hid (BB.out.trans (hbv.mono BB.out.size))
  replace KK := Lib.hid (KK.out.below hbv)
  replace sz := Nat.le_trans sz hbv.size
  replace R := KK.out.rules
  simp only [Rules] at R
  clear hbv
  go_wp2_with fail
  (with_reducible refine (HQ.out _ BB.out).mono ?_)
  rintro e wv ⟨rfl, hbv⟩
  replace BB := Lib.hid (BB.out.trans (hbv.mono BB.out.size))
  replace KK := Lib.hid (KK.out.below hbv)
  replace sz := Nat.le_trans sz hbv.size
  replace R := KK.out.rules
  simp only [Rules] at R
  clear hbv
  go_wp2
  refine bodyPost_ret (v := Value.tuple #[.agg #[Value.int IntKind.i64 m0, Value.int IntKind.i64 m1, Value.int IntKind.i64 m2, Value.int IntKind.i64 m1, Value.int IntKind.i64 m4, Value.int IntKind.i64 m1], .int .i64 0]) (by simp [results, Try.results28, go_sem, R, okE_t, okE_f]) rfl ⟨rfl, ?_⟩
  exact ((((((BB.out.setCell (by first | (simp; done) | (simp; omega)) _).setCell (by first | (simp; done) | (simp; omega)) _).setCell (by first | (simp; done) | (simp; omega)) _).setCell (by first | (simp; done) | (simp; omega)) _).setCell (by first | (simp; done) | (simp; omega)) _).setCell (by first | (simp; done) | (simp; omega)) _)
set_option maxHeartbeats 2000000 in
set_option maxRecDepth 100000 in
theorem SameC_any (v k p o : Int) (A1 A2 : Option Addr) (n1 c1 n2 c2 : Nat) (xs : List (Int × Int)) (w : World) (h1 : PRead w w.heap.size A1 n1 xs) (h2 : PRead w w.heap.size A2 n2 xs) (hm : n1 ≤ 4611686018427387904) :
    Calls Try.prog 16 #[(Value.agg #[.int .i64 v, .int .i64 k, .int .i64 p, .int .i64 o, .slice A1 n1 c1]), (Value.agg #[.int .i64 v, .int .i64 k, .int .i64 p, .int .i64 o, .slice A2 n2 c2])] w fun e w' => e = .returned (.bool true) ∧ Below w.heap.size w w' := by
  have HS : Hid (∀ W, Below w.heap.size w W → Calls Try.prog 45 #[.slice A1 n1 c1, .slice A2 n2 c2] W fun e w' => e = .returned (.bool true) ∧ Below W.heap.size W w') := fun W hb => by
    have := Same_any A1 A2 n1 c1 n2 c2 xs xs W w.heap.size (h1.below hb) (h2.below hb) hm
    rw [decide_eq_true rfl] at this
    refine this.mono ?_
    rintro e w' ⟨rfl, q, rfl⟩
    exact ⟨rfl, below_drewN (Below.refl _ _) q⟩
  clear h1 h2 hm
  go_enter Try.func16, Try.ntmps16
  go_wp2_with fail
  obtain ⟨W0, hW, hs0, K0, B0⟩ := start2 w 24 24 #[Value.int IntKind.i64 v, Value.int IntKind.i64 k, Value.int IntKind.i64 p, Value.int IntKind.i64 o, Value.slice A1 n1 c1] #[Value.int IntKind.i64 v, Value.int IntKind.i64 k, Value.int IntKind.i64 p, Value.int IntKind.i64 o, Value.slice A2 n2 c2]
  rw [hW]
  clear hW
  have KK := Lib.hid K0
  have BB := Lib.hid B0
  have R := K0.rules
  simp only [Rules] at R
  clear K0 B0 hs0
  (with_reducible refine (HS.out _ BB.out).mono ?_)
  rintro e wv ⟨rfl, hbv⟩; replace BB := Lib.hid (BB.out.trans (hbv.mono BB.out.size)); replace KK := Lib.hid (KK.out.below hbv); replace R := KK.out.rules; simp only [gro.Rules] at R; clear hbv
  go_wp2
  go_ret
  exact ⟨rfl, BB.out⟩
set_option maxHeartbeats 2000000 in
set_option maxRecDepth 100000 in
theorem fewC_any (v k p o : Int) (A : Option Addr) (n c : Nat) (w : World) (hn : n ≤ maxLen) :
    Calls Try.prog 22 #[(Value.agg #[.int .i64 v, .int .i64 k, .int .i64 p, .int .i64 o, .slice A n c])] w fun e w' => e = .returned (.bool (decide (n ≤ 300))) ∧ Below w.heap.size w w' := by
  have hn9 : n ≤ 9223372036854775807 := hn
  clear hn
  by_cases h : n ≤ 300
  · have HD : Hid (decide (n ≤ 300) = true) := decide_eq_true h
    go_enter Try.func22, Try.ntmps22
    go_wp2
    go_ret
    exact ⟨clk.ret_bool (by rw [HD.out]; simp; omega), (Below.refl _ _).alloc (Nat.le_refl _) _⟩
  · have HD : Hid (decide (n ≤ 300) = false) := decide_eq_false h
    go_enter Try.func22, Try.ntmps22
    go_wp2
    go_ret
    exact ⟨clk.ret_bool (by rw [HD.out]; simp; omega), (Below.refl _ _).alloc (Nat.le_refl _) _⟩
set_option maxHeartbeats 2000000 in
set_option maxRecDepth 100000 in
theorem AskS_any (v k p m o : Int) (A : Option Addr) (n c : Nat) (xs : List (Int × Int)) (w : World) (h1 : PRead w w.heap.size A n xs) (hnc : n ≤ c) (hcm : c ≤ maxLen) (hsmall : n ≤ 2000) :
    Calls Try.prog 39 #[(Value.agg #[.int .i64 v, .int .i64 k, .int .i64 p, .int .i64 m, .int .i64 o, .slice A n c])] w fun e w' => e = .returned (.tuple #[askV (fitS xs v k p m o) xs, .int .i64 (okE (fitS xs v k p m o))]) ∧ Below w.heap.size w w' := by
  have HV := Lib.hid (fun W (hb : Below w.heap.size w W) => ValidateS_any v k p m o A n c xs W ((h1.below hb).more hb.size) hnc hcm hsmall)
  have hlv : fitS xs v k p m o = true → 0 < n → 0 ≤ (buk.at_ xs 0).2 ∧ (buk.at_ xs 0).2 ≤ 30 := fun h hp => ((buk.validB_iff.1 (fitS_iff.1 h).2.1).2.1 0 (by rw [PRead.len h1]; exact hp)).2.1
  obtain ⟨m0, m1, m2, m4, hqv⟩ : ∃ m0 m1 m2 m4 : Int, qv xs = .agg #[.int .i64 m0, .int .i64 m1, .int .i64 m2, .int .i64 m1, .int .i64 m4, .int .i64 m1] := ⟨_, _, _, _, rfl⟩
  have HQ : Hid (fitS xs v k p m o = true → ∀ W, Below w.heap.size w W → Calls Try.prog 69 #[.slice A n c] W fun e w' => e = .returned (.agg #[.int .i64 m0, .int .i64 m1, .int .i64 m2, .int .i64 m1, .int .i64 m4, .int .i64 m1]) ∧ Below W.heap.size W w') := fun h W hb => by
    have := Query_any A n c xs W ((h1.below hb).more hb.size) (by omega) (hlv h)
    rwa [hqv] at this
  clear h1 hnc hcm hsmall hlv
  unfold askV
  rw [hqv]
  clear hqv
  generalize fitS xs v k p m o = ft at *
  cases ft
  case false =>
    simp only [okE_f, Bool.false_eq_true, if_false]
    go_enter Try.func39, Try.ntmps39
    go_wp2_with fail
    obtain ⟨W0, hW, hs0, K0, B0⟩ := start2 w 32 43 #[Value.int IntKind.i64 v, Value.int IntKind.i64 k, Value.int IntKind.i64 p, Value.int IntKind.i64 m, Value.int IntKind.i64 o, Value.slice A n c] #[Value.int IntKind.i64 0, Value.int IntKind.i64 0, Value.int IntKind.i64 0, Value.int IntKind.i64 0, Value.int IntKind.i64 0, Value.int IntKind.i64 0]
    rw [hW]
    clear hW
    have KK := Lib.hid K0
    have BB := Lib.hid B0
    have sz : w.heap.size + 1 + 1 ≤ W0.heap.size := by omega
    have R := K0.rules
    simp only [Rules] at R
    clear K0 B0 hs0
    (with_reducible refine (HV.out _ BB.out).mono ?_)
    rintro e wv ⟨rfl, hbv⟩
    replace BB := Lib.hid (BB.out.trans (hbv.mono BB.out.size))
    replace KK := Lib.hid (KK.out.below hbv)
    replace sz := Nat.le_trans sz hbv.size
    replace R := KK.out.rules
    simp only [Rules] at R
    clear hbv
    go_wp2
    refine bodyPost_ret (v := Value.tuple #[.agg #[Value.int IntKind.i64 0, Value.int IntKind.i64 0, Value.int IntKind.i64 0, Value.int IntKind.i64 0, Value.int IntKind.i64 0, Value.int IntKind.i64 0], .int .i64 2]) (by simp [results, Try.results39, go_sem, R, okE_t, okE_f]) rfl ⟨rfl, ?_⟩
    exact ((((((BB.out.setCell (by first | (simp; done) | (simp; omega)) _).setCell (by first | (simp; done) | (simp; omega)) _).setCell (by first | (simp; done) | (simp; omega)) _).setCell (by first | (simp; done) | (simp; omega)) _).setCell (by first | (simp; done) | (simp; omega)) _).setCell (by first | (simp; done) | (simp; omega)) _)
  replace HQ := Lib.hid (HQ.out rfl)
  simp only [okE_t, if_true]
  go_enter Try.func39, Try.ntmps39
  go_wp2_with fail
  obtain ⟨W0, hW, hs0, K0, B0⟩ := start2 w 32 43 #[Value.int IntKind.i64 v, Value.int IntKind.i64 k, Value.int IntKind.i64 p, Value.int IntKind.i64 m, Value.int IntKind.i64 o, Value.slice A n c] #[Value.int IntKind.i64 0, Value.int IntKind.i64 0, Value.int IntKind.i64 0, Value.int IntKind.i64 0, Value.int IntKind.i64 0, Value.int IntKind.i64 0]
  rw [hW]
  clear hW
  have KK := Lib.hid K0
  have BB := Lib.hid B0
  have sz : w.heap.size + 1 + 1 ≤ W0.heap.size := by omega
  have R := K0.rules
  simp only [Rules] at R
  clear K0 B0 hs0
  (with_reducible refine (HV.out _ BB.out).mono ?_)
  rintro e wv ⟨rfl, hbv⟩
  replace BB := Lib.hid (BB.out.trans (hbv.mono BB.out.size))
  replace KK := Lib.hid (KK.out.below hbv)
  replace sz := Nat.le_trans sz hbv.size
  replace R := KK.out.rules
  simp only [Rules] at R
  clear hbv
  go_wp2_with fail
  (with_reducible refine (HQ.out _ BB.out).mono ?_)
  rintro e wv ⟨rfl, hbv⟩
  replace BB := Lib.hid (BB.out.trans (hbv.mono BB.out.size))
  replace KK := Lib.hid (KK.out.below hbv)
  replace sz := Nat.le_trans sz hbv.size
  replace R := KK.out.rules
  simp only [Rules] at R
  clear hbv
  go_wp2
  refine bodyPost_ret (v := Value.tuple #[.agg #[Value.int IntKind.i64 m0, Value.int IntKind.i64 m1, Value.int IntKind.i64 m2, Value.int IntKind.i64 m1, Value.int IntKind.i64 m4, Value.int IntKind.i64 m1], .int .i64 0]) (by simp [results, Try.results39, go_sem, R, okE_t, okE_f]) rfl ⟨rfl, ?_⟩
  exact ((((((BB.out.setCell (by first | (simp; done) | (simp; omega)) _).setCell (by first | (simp; done) | (simp; omega)) _).setCell (by first | (simp; done) | (simp; omega)) _).setCell (by first | (simp; done) | (simp; omega)) _).setCell (by first | (simp; done) | (simp; omega)) _).setCell (by first | (simp; done) | (simp; omega)) _)
set_option maxHeartbeats 2000000 in
set_option maxRecDepth 100000 in
theorem AskSR_any (v k p m o : Int) (A : Option Addr) (n c : Nat) (xs : List (Int × Int)) (w : World) (h1 : PRead w w.heap.size A n xs) (hnc : n ≤ c) (hcm : c ≤ maxLen) (hsmall : n ≤ 2000) :
    Calls Try.prog 40 #[(Value.agg #[.int .i64 v, .int .i64 k, .int .i64 p, .int .i64 m, .int .i64 o, .slice A n c])] w fun e w' => e = .returned (.tuple #[askV (fitS xs v k p m o) xs, .int .i64 (okE (fitS xs v k p m o))]) ∧ Below w.heap.size w w' := by
  have HV := Lib.hid (fun W (hb : Below w.heap.size w W) => ValidateSR_any v k p m o A n c xs W ((h1.below hb).more hb.size) hnc hcm hsmall)
  have hlv : fitS xs v k p m o = true → 0 < n → 0 ≤ (buk.at_ xs 0).2 ∧ (buk.at_ xs 0).2 ≤ 30 := fun h hp => ((buk.validB_iff.1 (fitS_iff.1 h).2.1).2.1 0 (by rw [PRead.len h1]; exact hp)).2.1
  obtain ⟨m0, m1, m2, m4, hqv⟩ : ∃ m0 m1 m2 m4 : Int, qv xs = .agg #[.int .i64 m0, .int .i64 m1, .int .i64 m2, .int .i64 m1, .int .i64 m4, .int .i64 m1] := ⟨_, _, _, _, rfl⟩
  have HQ : Hid (fitS xs v k p m o = true → ∀ W, Below w.heap.size w W → Calls Try.prog 70 #[.slice A n c] W fun e w' => e = .returned (.agg #[.int .i64 m0, .int .i64 m1, .int .i64 m2, .int .i64 m1, .int .i64 m4, .int .i64 m1]) ∧ Below W.heap.size W w') := fun h W hb => by
    have := QueryR_any A n c xs W ((h1.below hb).more hb.size) (by omega) (hlv h)
    rwa [hqv] at this
  clear h1 hnc hcm hsmall hlv
  unfold askV
  rw [hqv]
  clear hqv
  generalize fitS xs v k p m o = ft at *
  cases ft
  case false =>
    simp only [okE_f, Bool.false_eq_true, if_false]
    go_enter Try.func40, Try.ntmps40
    go_wp2_with fail
    obtain ⟨W0, hW, hs0, K0, B0⟩ := start2 w 32 43 #[Value.int IntKind.i64 v, Value.int IntKind.i64 k, Value.int IntKind.i64 p, Value.int IntKind.i64 m, Value.int IntKind.i64 o, Value.slice A n c] #[Value.int IntKind.i64 0, Value.int IntKind.i64 0, Value.int IntKind.i64 0, Value.int IntKind.i64 0, Value.int IntKind.i64 0, Value.int IntKind.i64 0]
    rw [hW]
    clear hW
    have KK := Lib.hid K0
    have BB := Lib.hid B0
    have sz : w.heap.size + 1 + 1 ≤ W0.heap.size := by omega
    have R := K0.rules
    simp only [Rules] at R
    clear K0 B0 hs0
    (with_reducible refine (HV.out _ BB.out).mono ?_)
    rintro e wv ⟨rfl, hbv⟩
    replace BB := Lib.hid (BB.out.trans (hbv.mono BB.out.size))
    replace KK := Lib.hid (KK.out.below hbv)
    replace sz := Nat.le_trans sz hbv.size
    replace R := KK.out.rules
    simp only [Rules] at R
    clear hbv
    go_wp2
    refine bodyPost_ret (v := Value.tuple #[.agg #[Value.int IntKind.i64 0, Value.int IntKind.i64 0, Value.int IntKind.i64 0, Value.int IntKind.i64 0, Value.int IntKind.i64 0, Value.int IntKind.i64 0], .int .i64 2]) (by simp [results, Try.results40, go_sem, R, okE_t, okE_f]) rfl ⟨rfl, ?_⟩
    exact ((((((BB.out.setCell (by first | (simp; done) | (simp; omega)) _).setCell (by first | (simp; done) | (simp; omega)) _).setCell (by first | (simp; done) | (simp; omega)) _).setCell (by first | (simp; done) | (simp; omega)) _).setCell (by first | (simp; done) | (simp; omega)) _).setCell (by first | (simp; done) | (simp; omega)) _)
  replace HQ := Lib.hid (HQ.out rfl)
  simp only [okE_t, if_true]
  go_enter Try.func40, Try.ntmps40
  go_wp2_with fail
  obtain ⟨W0, hW, hs0, K0, B0⟩ := start2 w 32 43 #[Value.int IntKind.i64 v, Value.int IntKind.i64 k, Value.int IntKind.i64 p, Value.int IntKind.i64 m, Value.int IntKind.i64 o, Value.slice A n c] #[Value.int IntKind.i64 0, Value.int IntKind.i64 0, Value.int IntKind.i64 0, Value.int IntKind.i64 0, Value.int IntKind.i64 0, Value.int IntKind.i64 0]
  rw [hW]
  clear hW
  have KK := Lib.hid K0
  have BB := Lib.hid B0
  have sz : w.heap.size + 1 + 1 ≤ W0.heap.size := by omega
  have R := K0.rules
  simp only [Rules] at R
  clear K0 B0 hs0
  (with_reducible refine (HV.out _ BB.out).mono ?_)
  rintro e wv ⟨rfl, hbv⟩
  replace BB := Lib.hid (BB.out.trans (hbv.mono BB.out.size))
  replace KK := Lib.hid (KK.out.below hbv)
  replace sz := Nat.le_trans sz hbv.size
  replace R := KK.out.rules
  simp only [Rules] at R
  clear hbv
  go_wp2_with fail
  (with_reducible refine (HQ.out _ BB.out).mono ?_)
  rintro e wv ⟨rfl, hbv⟩
  replace BB := Lib.hid (BB.out.trans (hbv.mono BB.out.size))
  replace KK := Lib.hid (KK.out.below hbv)
  replace sz := Nat.le_trans sz hbv.size
  replace R := KK.out.rules
  simp only [Rules] at R
  clear hbv
  go_wp2
  refine bodyPost_ret (v := Value.tuple #[.agg #[Value.int IntKind.i64 m0, Value.int IntKind.i64 m1, Value.int IntKind.i64 m2, Value.int IntKind.i64 m1, Value.int IntKind.i64 m4, Value.int IntKind.i64 m1], .int .i64 0]) (by simp [results, Try.results40, go_sem, R, okE_t, okE_f]) rfl ⟨rfl, ?_⟩
  exact ((((((BB.out.setCell (by first | (simp; done) | (simp; omega)) _).setCell (by first | (simp; done) | (simp; omega)) _).setCell (by first | (simp; done) | (simp; omega)) _).setCell (by first | (simp; done) | (simp; omega)) _).setCell (by first | (simp; done) | (simp; omega)) _).setCell (by first | (simp; done) | (simp; omega)) _)
set_option maxHeartbeats 2000000 in
set_option maxRecDepth 100000 in
theorem SameS_any (v k p m o : Int) (A1 A2 : Option Addr) (n1 c1 n2 c2 : Nat) (xs : List (Int × Int)) (w : World) (h1 : PRead w w.heap.size A1 n1 xs) (h2 : PRead w w.heap.size A2 n2 xs) (hm : n1 ≤ 4611686018427387904) :
    Calls Try.prog 20 #[(Value.agg #[.int .i64 v, .int .i64 k, .int .i64 p, .int .i64 m, .int .i64 o, .slice A1 n1 c1]), (Value.agg #[.int .i64 v, .int .i64 k, .int .i64 p, .int .i64 m, .int .i64 o, .slice A2 n2 c2])] w fun e w' => e = .returned (.bool true) ∧ Below w.heap.size w w' := by
  have HS : Hid (∀ W, Below w.heap.size w W → Calls Try.prog 45 #[.slice A1 n1 c1, .slice A2 n2 c2] W fun e w' => e = .returned (.bool true) ∧ Below W.heap.size W w') := fun W hb => by
    have := Same_any A1 A2 n1 c1 n2 c2 xs xs W w.heap.size (h1.below hb) (h2.below hb) hm
    rw [decide_eq_true rfl] at this
    refine this.mono ?_
    rintro e w' ⟨rfl, q, rfl⟩
    exact ⟨rfl, below_drewN (Below.refl _ _) q⟩
  clear h1 h2 hm
  go_enter Try.func20, Try.ntmps20
  go_wp2_with fail
  obtain ⟨W0, hW, hs0, K0, B0⟩ := start2 w 32 32 #[Value.int IntKind.i64 v, Value.int IntKind.i64 k, Value.int IntKind.i64 p, Value.int IntKind.i64 m, Value.int IntKind.i64 o, Value.slice A1 n1 c1] #[Value.int IntKind.i64 v, Value.int IntKind.i64 k, Value.int IntKind.i64 p, Value.int IntKind.i64 m, Value.int IntKind.i64 o, Value.slice A2 n2 c2]
  rw [hW]
  clear hW
  have KK := Lib.hid K0
  have BB := Lib.hid B0
  have R := K0.rules
  simp only [Rules] at R
  clear K0 B0 hs0
  (with_reducible refine (HS.out _ BB.out).mono ?_)
  rintro e wv ⟨rfl, hbv⟩; replace BB := Lib.hid (BB.out.trans (hbv.mono BB.out.size)); replace KK := Lib.hid (KK.out.below hbv); replace R := KK.out.rules; simp only [gro.Rules] at R; clear hbv
  go_wp2
  go_ret
  exact ⟨rfl, BB.out⟩
set_option maxHeartbeats 2000000 in
set_option maxRecDepth 100000 in
theorem fewS_any (v k p m o : Int) (A : Option Addr) (n c : Nat) (w : World) (hn : n ≤ maxLen) :
    Calls Try.prog 34 #[(Value.agg #[.int .i64 v, .int .i64 k, .int .i64 p, .int .i64 m, .int .i64 o, .slice A n c])] w fun e w' => e = .returned (.bool (decide (n ≤ 300))) ∧ Below w.heap.size w w' := by
  have hn9 : n ≤ 9223372036854775807 := hn
  clear hn
  by_cases h : n ≤ 300
  · have HD : Hid (decide (n ≤ 300) = true) := decide_eq_true h
    go_enter Try.func34, Try.ntmps34
    go_wp2
    go_ret
    exact ⟨clk.ret_bool (by rw [HD.out]; simp; omega), (Below.refl _ _).alloc (Nat.le_refl _) _⟩
  · have HD : Hid (decide (n ≤ 300) = false) := decide_eq_false h
    go_enter Try.func34, Try.ntmps34
    go_wp2
    go_ret
    exact ⟨clk.ret_bool (by rw [HD.out]; simp; omega), (Below.refl _ _).alloc (Nat.le_refl _) _⟩
end Go.Proofs.Ytofgjcfiinmimaa.cst
