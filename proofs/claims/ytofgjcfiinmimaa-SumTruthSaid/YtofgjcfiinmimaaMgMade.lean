/- RunC; Made: texts in one. -/
import Derived.Test.YtofgjcfiinmimaaRunL
import Derived.Test.YtofgjcfiinmimaaCst5
import Derived.Test.YtofgjcfiinmimaaCst8
import Derived.Test.YtofgjcfiinmimaaBox3
import Derived.Test.YtofgjcfiinmimaaMgClk
/- Steps of histograms of counts and of sums that go well, or are full. -/
namespace Go.Proofs.Ytofgjcfiinmimaa.cst
open Go.RowKit Go.Proofs.Ytofgjcfiinmimaa.mem Go.Proofs.Ytofgjcfiinmimaa.lst Go.Proofs.Ytofgjcfiinmimaa.gro
set_option linter.unusedVariables false
theorem timeE_ok {o tt : Int} (h : o ≤ tt ∧ tt ≤ 16777216) : timeE o tt = 0 := if_neg (by omega)
theorem NewS_ok {v k p m o : Int} (h : goodS v k p m o = true) (w : World) : Calls Try.prog 18 #[.int .i64 v, .int .i64 k, .int .i64 p, .int .i64 m, .int .i64 o] w fun e w' => e = .returned (.tuple #[.agg #[.int .i64 v, .int .i64 k, .int .i64 p, .int .i64 m, .int .i64 o, .slice none 0 0], .int .i64 0]) ∧ Below w.heap.size w w' := by
  have := NewS_any v k p m o w
  rw [h] at this
  simpa only [kp_t, if_true] using this
theorem NewC_ok {v k p o : Int} (h : goodC v k p o = true) (w : World) : Calls Try.prog 14 #[.int .i64 v, .int .i64 k, .int .i64 p, .int .i64 o] w fun e w' => e = .returned (.tuple #[.agg #[.int .i64 v, .int .i64 k, .int .i64 p, .int .i64 o, .slice none 0 0], .int .i64 0]) ∧ Below w.heap.size w w' := by
  have := NewC_any v k p o w
  rw [h] at this
  simpa only [kp_t, if_true] using this
section
variable {v k p m o x tt : Int} {A : Option Addr} {n c : Nat} {xs : List (Int × Int)} {w : World}
theorem AdvS_ok (h1 : PRead w w.heap.size A n xs) (hnc : n ≤ c) (hcm : c ≤ maxLen) (hsmall : n ≤ 2000) (hf : fitS xs v k p m o = true) (ht : o ≤ tt ∧ tt ≤ 16777216) :
    Calls Try.prog 35 #[(Value.agg #[.int .i64 v, .int .i64 k, .int .i64 p, .int .i64 m, .int .i64 o, .slice A n c]), .int .i64 tt] w (NewSsf v k p m tt (expireL (clk.firstI tt v) xs) 0 w) := by
  have := AdvanceS_f v k p m o tt A n c xs w h1 hnc hcm hsmall
  rw [hf, timeE_ok ht, okT_0] at this
  simpa only [kp_t, lsK_t, advE_t, Bool.true_and] using this
theorem AdvC_ok (h1 : PRead w w.heap.size A n xs) (hnc : n ≤ c) (hcm : c ≤ maxLen) (hsmall : n ≤ 2000) (hf : fitB xs v k p o = true) (ht : o ≤ tt ∧ tt ≤ 16777216) :
    Calls Try.prog 23 #[(Value.agg #[.int .i64 v, .int .i64 k, .int .i64 p, .int .i64 o, .slice A n c]), .int .i64 tt] w (NewCsf v k p tt (expireL (clk.firstI tt v) xs) 0 w) := by
  have := AdvanceC_f v k p o tt A n c xs w h1 hnc hcm hsmall
  rw [hf, timeE_ok ht, okT_0] at this
  simpa only [kp_t, lsK_t, advE_t, Bool.true_and] using this
theorem AddS_ok (h1 : PRead w w.heap.size A n xs) (hnc : n ≤ c) (hcm : c ≤ maxLen) (hsmall : n ≤ 2000) (hf : fitS xs v k p m o = true) (hx : 0 ≤ x ∧ x ≤ m) (hx2 : x ≤ 1024) (ht : (totalN xs : Int) + x ≤ p) :
    Calls Try.prog 37 #[(Value.agg #[.int .i64 v, .int .i64 k, .int .i64 p, .int .i64 m, .int .i64 o, .slice A n c]), .int .i64 x] w (NewSsf v k p m o (insM xs k o x) 0 w) := by
  have := AddS_any v k p m o x A n c xs w h1 hnc hcm hsmall (by omega)
  rw [hf, decide_eq_true hx, decide_eq_false (show ¬ p < (totalN xs : Int) + x by omega)] at this
  simpa only [kp_t, lsK_t, addSE_k, Bool.true_and, Bool.not_false] using this
theorem AddS_full (h1 : PRead w w.heap.size A n xs) (hnc : n ≤ c) (hcm : c ≤ maxLen) (hsmall : n ≤ 2000) (hf : fitS xs v k p m o = true) (hx : 0 ≤ x ∧ x ≤ m) (hx2 : x ≤ 1024) (ht : p < (totalN xs : Int) + x) :
    Calls Try.prog 37 #[(Value.agg #[.int .i64 v, .int .i64 k, .int .i64 p, .int .i64 m, .int .i64 o, .slice A n c]), .int .i64 x] w (NewSsf 0 0 0 0 0 [] 5 w) := by
  have := AddS_any v k p m o x A n c xs w h1 hnc hcm hsmall (by omega)
  rw [hf, decide_eq_true hx, decide_eq_true ht] at this
  simpa only [kp_f, lsK_f, addSE_t, Bool.true_and, Bool.not_true] using this
theorem AddC_ok (h1 : PRead w w.heap.size A n xs) (hnc : n ≤ c) (hcm : c ≤ maxLen) (hsmall : n ≤ 2000) (hf : fitB xs v k p o = true) (ht : (totalN xs : Int) ≠ p) :
    Calls Try.prog 25 #[(Value.agg #[.int .i64 v, .int .i64 k, .int .i64 p, .int .i64 o, .slice A n c])] w (NewCsf v k p o (insI xs k o) 0 w) := by
  have := AddC_any v k p o A n c xs w h1 hnc hcm hsmall
  rw [hf, decide_eq_false ht] at this
  simpa only [kp_t, lsK_t, addE_k, Bool.true_and, Bool.not_false] using this
theorem AddC_full (h1 : PRead w w.heap.size A n xs) (hnc : n ≤ c) (hcm : c ≤ maxLen) (hsmall : n ≤ 2000) (hf : fitB xs v k p o = true) (ht : (totalN xs : Int) = p) :
    Calls Try.prog 25 #[(Value.agg #[.int .i64 v, .int .i64 k, .int .i64 p, .int .i64 o, .slice A n c])] w (NewCsf 0 0 0 0 [] 5 w) := by
  have := AddC_any v k p o A n c xs w h1 hnc hcm hsmall
  rw [hf, decide_eq_true ht] at this
  simpa only [kp_f, lsK_f, addE_t, Bool.true_and, Bool.not_true] using this
theorem AskS_ok (h1 : PRead w w.heap.size A n xs) (hnc : n ≤ c) (hcm : c ≤ maxLen) (hsmall : n ≤ 2000) (hf : fitS xs v k p m o = true) (hq : qlo xs ≤ totalN xs) :
    Calls Try.prog 39 #[(Value.agg #[.int .i64 v, .int .i64 k, .int .i64 p, .int .i64 m, .int .i64 o, .slice A n c])] w fun e w' => e = .returned (.tuple #[.agg #[.int .i64 (qlo xs), .int .i64 1, .int .i64 ((qlo xs + totalN xs) / 2), .int .i64 1, .int .i64 (totalN xs), .int .i64 1], .int .i64 0]) ∧ Below w.heap.size w w' := by
  have := AskS_any v k p m o A n c xs w h1 hnc hcm hsmall
  have q : ∀ v, wid.whl (qlo xs) (totalN xs) v = v := fun v => if_pos hq
  have e : askV true xs = qv xs := by unfold askV; rfl
  rw [hf, e] at this
  unfold qv at this
  simpa only [okE_t, q] using this
theorem AskC_ok (h1 : PRead w w.heap.size A n xs) (hnc : n ≤ c) (hcm : c ≤ maxLen) (hsmall : n ≤ 2000) (hf : fitB xs v k p o = true) (hq : qlo xs ≤ totalN xs) :
    Calls Try.prog 27 #[(Value.agg #[.int .i64 v, .int .i64 k, .int .i64 p, .int .i64 o, .slice A n c])] w fun e w' => e = .returned (.tuple #[.agg #[.int .i64 (qlo xs), .int .i64 1, .int .i64 ((qlo xs + totalN xs) / 2), .int .i64 1, .int .i64 (totalN xs), .int .i64 1], .int .i64 0]) ∧ Below w.heap.size w w' := by
  have := AskC_any v k p o A n c xs w h1 hnc hcm hsmall
  have q : ∀ v, wid.whl (qlo xs) (totalN xs) v = v := fun v => if_pos hq
  have e : askV true xs = qv xs := by unfold askV; rfl
  rw [hf, e] at this
  unfold qv at this
  simpa only [okE_t, q] using this
end
section
variable {W w : World} {L : List (Nat × TypeId × Array Value)} {g B : Nat} {t : TypeId} {x0 x1 x2 x3 x4 x5 : Value}
theorem putS (u0 u1 u2 u3 u4 u5 : Value) (K : Bx W ((g, t, #[x0, x1, x2, x3, x4, x5]) :: L)) (hd : ∀ q ∈ L, q.1 ≠ g) (BB : Below B w W) (hg : B ≤ g) :
    ∃ W', (((((W.setCell ⟨g, 0, none⟩ u0).setCell ⟨g, 1, none⟩ u1).setCell ⟨g, 2, none⟩ u2).setCell ⟨g, 3, none⟩ u3).setCell ⟨g, 4, none⟩ u4).setCell ⟨g, 5, none⟩ u5 = W' ∧ Bx W' ((g, t, #[u0, u1, u2, u3, u4, u5]) :: L) ∧ Below B w W' ∧ W'.heap.size = W.heap.size ∧ ∀ A n ys, PRead W W.heap.size A n ys → (0 < n → ∀ ad, A = some ad → ad.block ≠ g) → PRead W' W'.heap.size A n ys :=
  ⟨_, rfl, K.put6 hd, Below.set6 BB hg _ _ _ _ _ _, by simp [World.setCell], fun A n ys h hf =>
    PRead.sz (PRead.far (PRead.far (PRead.far (PRead.far (PRead.far (PRead.far h ⟨g, 0, none⟩ hf _) ⟨g, 1, none⟩ hf _) ⟨g, 2, none⟩ hf _) ⟨g, 3, none⟩ hf _) ⟨g, 4, none⟩ hf _) ⟨g, 5, none⟩ hf _) (by simp [World.setCell])⟩
theorem putC (u0 u1 u2 u3 u4 : Value) (K : Bx W ((g, t, #[x0, x1, x2, x3, x4]) :: L)) (hd : ∀ q ∈ L, q.1 ≠ g) (BB : Below B w W) (hg : B ≤ g) :
    ∃ W', ((((W.setCell ⟨g, 0, none⟩ u0).setCell ⟨g, 1, none⟩ u1).setCell ⟨g, 2, none⟩ u2).setCell ⟨g, 3, none⟩ u3).setCell ⟨g, 4, none⟩ u4 = W' ∧ Bx W' ((g, t, #[u0, u1, u2, u3, u4]) :: L) ∧ Below B w W' ∧ W'.heap.size = W.heap.size ∧ ∀ A n ys, PRead W W.heap.size A n ys → (0 < n → ∀ ad, A = some ad → ad.block ≠ g) → PRead W' W'.heap.size A n ys :=
  ⟨_, rfl, Bx.put5c K hd, ((((BB.setCell (p := ⟨g, 0, none⟩) hg _).setCell (p := ⟨g, 1, none⟩) hg _).setCell (p := ⟨g, 2, none⟩) hg _).setCell (p := ⟨g, 3, none⟩) hg _).setCell (p := ⟨g, 4, none⟩) hg _, by simp [World.setCell], fun A n ys h hf =>
    PRead.sz (PRead.far (PRead.far (PRead.far (PRead.far (PRead.far h ⟨g, 0, none⟩ hf _) ⟨g, 1, none⟩ hf _) ⟨g, 2, none⟩ hf _) ⟨g, 3, none⟩ hf _) ⟨g, 4, none⟩ hf _) (by simp [World.setCell])⟩
theorem newbox (t : TypeId) (c : Array Value) (K : Bx W L) (hg : W.heap.size = g) (BB : Below B w W) (hB : B ≤ W.heap.size) :
    ∃ W', W.alloc (.cells c t) = W' ∧ Bx W' ((g, t, c) :: L) ∧ Below B w W' ∧ W'.heap.size = g + 1 ∧ ∀ A n ys, PRead W W.heap.size A n ys → PRead W' W'.heap.size A n ys ∧ (0 < n → ∀ ad, A = some ad → ad.block ≠ g) :=
  ⟨_, rfl, K.new hg, BB.alloc hB _, by simp; omega, fun A n ys h => by
    have hba : Below W.heap.size W (W.alloc (.cells c t)) := (Below.refl _ _).alloc (Nat.le_refl _) _
    exact ⟨(h.below hba).more hba.size, fun h0 ad e => by have := PRead.blk h h0 ad e; omega⟩⟩
end
end Go.Proofs.Ytofgjcfiinmimaa.cst

/- Contract of the statements' own Mod and Int. -/
namespace Go.Proofs.Ytofgjcfiinmimaa.made
open Go.RowKit Go.Proofs.Ytofgjcfiinmimaa.mem
set_option linter.unusedVariables false
set_option maxHeartbeats 1000000 in
theorem Mod_any (a n : Int) (w : World) (ha : -9223372036854775808 ≤ a ∧ a ≤ 9223372036854775807) (hn : 1 ≤ n) (hn2 : n ≤ 4611686018427387904) :
    Calls Try.prog 31 #[.int .i64 a, .int .i64 n] w fun e w' => e = .returned (.int .i64 (a % n)) ∧ w = w' := by
  obtain ⟨a1, a2⟩ := ha
  have e1 : a.tmod n = if 0 ≤ a ∨ a % n = 0 then a % n else a % n - n := by
    rw [Int.tmod_eq_emod]
    have : n ∣ a ↔ a % n = 0 := Int.dvd_iff_emod_eq_zero
    simp only [this]
    by_cases hc : 0 ≤ a ∨ a % n = 0
    · rw [if_pos hc, if_pos hc]; simp
    · rw [if_neg hc, if_neg hc]; omega
  have h0 : 0 ≤ a % n := Int.emod_nonneg _ (by omega)
  have h1 : a % n < n := Int.emod_lt_of_pos _ (by omega)
  have HE := Lib.hid e1
  clear e1
  by_cases hneg : 0 ≤ a
  · go_enter Try.func31, Try.ntmps31
    go_wp2
    go_ret
    exact ⟨rfl, rfl⟩
  · by_cases hz : a % n = 0
    · have ht : a.tmod n = 0 := by rw [HE.out, if_pos (.inr hz), hz]
      have HZ := Lib.hid hz
      clear hz h0 h1
      go_enter Try.func31, Try.ntmps31
      go_wp2
      go_ret
      exact ⟨ret_int HZ.out.symm, rfl⟩
    · have ht : a.tmod n = a % n - n := by rw [HE.out, if_neg (by omega)]
      generalize a % n = r at *
      have HQ := Lib.hid ht
      have hq1 : a.tmod n < 0 := by omega
      have hq2 : 0 ≤ a.tmod n + n := by omega
      have hq3 : a.tmod n + n ≤ 4611686018427387904 := by omega
      clear ht h0 h1 hz
      go_enter Try.func31, Try.ntmps31
      go_wp2
      go_ret
      exact ⟨ret_int (by rw [HQ.out]; omega), rfl⟩
set_option maxHeartbeats 1000000 in
theorem Int_any (a n : Int) (w : World) (ha : -9223372036854775808 ≤ a ∧ a ≤ 9223372036854775807) (hn : 1 ≤ n) (hn2 : n ≤ 4611686018427387904) :
    Calls Try.prog 44 #[.int .i64 a, .int .i64 n] w fun e w' => e = .returned (.int .i64 (a % n)) ∧ w = w' := by
  have hM := Lib.hid (Mod_any a n w ha hn hn2)
  have h0 : 0 ≤ a % n := Int.emod_nonneg _ (by omega)
  have h1 : a % n < n := Int.emod_lt_of_pos _ (by omega)
  generalize a % n = r at *
  obtain ⟨a1, a2⟩ := ha
  go_enter Try.func44, Try.ntmps44
  go_wp2_with (go_at_call 31; refine hM.out.mono ?_; rintro e w' ⟨rfl, rfl⟩)
  go_ret
  exact ⟨rfl, rfl⟩
end Go.Proofs.Ytofgjcfiinmimaa.made
