/- Contracts of rank.between. -/
import Derived.Test.YtjapjfcennemeaaMgRBox
import Derived.LoopN
namespace Go.Proofs.Ytjapjfcennemeaa.rnk
open Go.RowKit Go.Proofs.Ytjapjfcennemeaa.mem Go.Proofs.Ytjapjfcennemeaa.gro
set_option linter.unusedVariables false
set_option linter.unusedSimpArgs false
set_option pp.maxSteps 200000
set_option maxHeartbeats 8000000 in
set_option maxRecDepth 100000 in
theorem between_any (v mn mx : Int) (A : Option Addr) (n c : Nat) (o : L3) (i : Nat) (N : Int) (w : World) (h1 : ERead w w.heap.size A n o) (hs : n ≤ 16777216) (hi : i ≤ n) (g1 : 0 ≤ mn ∧ mn ≤ 1099511627776) (g2 : 0 ≤ mx ∧ mx ≤ 1099511627776) (g3 : 0 ≤ N ∧ N ≤ 1099511627776) (hb : ∀ i < n, (0 ≤ (at3 o i).2.1 ∧ (at3 o i).2.1 ≤ 1099511627776) ∧ 0 ≤ (at3 o i).2.2 ∧ (at3 o i).2.2 ≤ 1099511627776) : Calls Try.prog 120 #[.agg #[.int .i64 v, .int .i64 mn, .int .i64 mx], .slice A n c, .int .i64 i, .int .i64 N] w fun e w' => e = .returned (.agg #[.int .i64 (btw (v, mn, mx) o i N).1, .int .i64 (btw (v, mn, mx) o i N).2.1, .int .i64 (btw (v, mn, mx) o i N).2.2]) ∧ Below w.heap.size w w' := by
  have H1 := Lib.hid h1
  have HL := Lib.hid h1.len
  have HBd := Lib.hid hb
  clear h1 hb
  obtain ⟨lo, hlo⟩ : ∃ lo, (if 0 < i then (at3 o (i - 1)).2.1 else 0) = lo := ⟨_, rfl⟩
  obtain ⟨up, hup⟩ : ∃ up, (if i < o.length then (at3 o i).2.2 - 1 else N) = up := ⟨_, rfl⟩
  have hbt : btw (v, mn, mx) o i N = (v, mn + lo, mx + up) := by unfold btw; rw [hlo, hup]
  rw [hbt, show (v, mn + lo, mx + up).1 = v from rfl, show (v, mn + lo, mx + up).2.1 = mn + lo from rfl, show (v, mn + lo, mx + up).2.2 = mx + up from rfl]
  clear hbt
  rw [HL.out] at hup
  by_cases hin0 : 0 < i
  case pos =>
    rw [if_pos hin0] at hlo
    go_enter Try.func120, Try.ntmps120
    go_wp2_with fail
    obtain ⟨W0, hW, hs0, K0, B0⟩ := start2 w 94 94 #[Value.int IntKind.i64 v, Value.int IntKind.i64 mn, Value.int IntKind.i64 mx] #[Value.int IntKind.i64 0, Value.int IntKind.i64 0, Value.int IntKind.i64 0]
    rw [hW]
    clear hW
    have KK := Lib.hid (K0.swap)
    have BB := Lib.hid B0
    have R := K0.rules
    simp only [Rules] at R
    clear K0 B0

    obtain ⟨ad, rfl, hbl, HC⟩ := ERead.cells H1.out (show i - 1 < n by omega)
    have b1 := HBd.out (i - 1) (by omega)
    generalize (at3 o (i - 1)).1 = xv at *
    generalize (at3 o (i - 1)).2.2 = xm at *
    generalize (at3 o (i - 1)).2.1 = x0 at *
    subst hlo
    have s1 : IntKind.i64.wrap ((i : Int) - 1) = (i : Int) - 1 := IntWalk.i64_in _ (by omega)
    have s2 : IntKind.i64.wrap (mn + x0) = mn + x0 := IntWalk.i64_in _ (by omega)
    have s3 : 0 ≤ (i : Int) - 1 := by omega
    have s4 : ((i : Int) - 1).toNat = i - 1 := by omega
    have s5 : (i : Int) - 1 < n := by omega
    go_wp2_with fail
    (refine gro.wp_region_heldA [0, 1, 2, 3, 4, 5, 6, 7, 8, 9] 1 10 _ (gro.lasts_below (W0).drew) (by kernel_rfl) (by kernel_rfl) (by intro _ _ _ _ _ h; exact h) (by kernel_rfl) (by kernel_rfl) (by kernel_rfl) (by kernel_rfl) (by kernel_rfl) (by decide) (Below.refl _ _) ?_; apply Exists.intro; refine ⟨fun w0 hb0 => ?_, ?_⟩; focus (replace hb0 := (Below.drew (Below.refl _ (W0))).trans hb0; have KZ := (KK.out).below hb0; have RZ := KZ.rules; simp only [gro.Rules] at RZ; (obtain ⟨f1, f2, f3⟩ := HC.out w0 (BB.out.trans (hb0.mono BB.out.size))); simp only [gro.pickA, List.filterMap_cons, List.filterMap_nil, List.getElem?_toArray, List.getElem?_cons_succ, List.getElem?_cons_zero]; change wpQuiet _ _ _ _ (_ :: _ :: _ :: _ :: _ :: _ :: _ :: _ :: _ :: _ ::  []) _; (repeat (go_big_quiet_step ((fail)))); exact wpQuiet_nil rfl))
    refine gro.anyM_one 10 (by kernel_rfl) rfl ?_
    intro y1 hz1 K' hK'
    have hz : Below W0.heap.size W0 y1 := ((Below.refl _ _).drew).trans hz1
    have KV := KK.out.below hz
    have RV := KV.rules
    simp only [Rules] at RV
    go_simp
    refine hK' _ _ ⟨fun h => absurd (show true = false from h) (by decide), ?_⟩
    clear hK' K'
    have KT := Bx.puti KV (by simp) 1 (Value.int IntKind.i64 (mn + x0))
    replace BB := Lib.hid ((BB.out.trans (hz.mono BB.out.size)).setCell (p := ⟨w.heap.size, 1, none⟩) (Nat.le_refl _) (Value.int IntKind.i64 (mn + x0)))
    refine gro.anyM_done (by kernel_rfl) ?_
    intro y7 hz7
    replace BB := Lib.hid (BB.out.trans (hz7.mono BB.out.size))
    clear R RV KK
    have KK := Lib.hid (show Bx y7 [(w.heap.size, 94, #[Value.int IntKind.i64 v, Value.int IntKind.i64 (mn + x0), Value.int IntKind.i64 mx]), (w.heap.size + 1, 94, #[Value.int IntKind.i64 0, Value.int IntKind.i64 0, Value.int IntKind.i64 0])] from by have := KT.below hz7; simpa using this)
    clear KT KV hz hz1 hz7
    have R := KK.out.rules
    simp only [Rules] at R
    clear s1 s2 s3 s4 s5 HC hbl b1
    by_cases hin : i < n
    case pos =>
      rw [if_pos hin] at hup
      obtain ⟨ad9, e9, hbl, HC⟩ := ERead.cells H1.out hin
      injection e9 with e9
      subst e9
      have b1 := HBd.out i hin
      generalize (at3 o i).1 = xv1 at *
      generalize (at3 o i).2.1 = xm1 at *
      generalize (at3 o i).2.2 = x1 at *
      subst hup
      have s1 : IntKind.i64.wrap (x1 - 1) = x1 - 1 := IntWalk.i64_in _ (by omega)
      have s2 : IntKind.i64.wrap (mx + (x1 - 1)) = mx + (x1 - 1) := IntWalk.i64_in _ (by omega)
      go_wp2_with fail
      (refine gro.wp_region_heldA [0, 1, 2, 3, 4, 5, 6, 7, 8, 9] 1 10 _ (gro.lasts_below (y7).drew) (by kernel_rfl) (by kernel_rfl) (by intro _ _ _ _ _ h; exact h) (by kernel_rfl) (by kernel_rfl) (by kernel_rfl) (by kernel_rfl) (by kernel_rfl) (by decide) (Below.refl _ _) ?_; apply Exists.intro; refine ⟨fun w0 hb0 => ?_, ?_⟩; focus (replace hb0 := (Below.drew (Below.refl _ (y7))).trans hb0; have KZ := (KK.out).below hb0; have RZ := KZ.rules; simp only [gro.Rules] at RZ; (obtain ⟨f1, f2, f3⟩ := HC.out w0 (BB.out.trans (hb0.mono BB.out.size))); simp only [gro.pickA, List.filterMap_cons, List.filterMap_nil, List.getElem?_toArray, List.getElem?_cons_succ, List.getElem?_cons_zero]; change wpQuiet _ _ _ _ (_ :: _ :: _ :: _ :: _ :: _ :: _ :: _ :: _ :: _ ::  []) _; (repeat (go_big_quiet_step ((fail)))); exact wpQuiet_nil rfl))
      refine gro.anyM_one 10 (by kernel_rfl) rfl ?_
      intro y1 hz1 K' hK'
      have hz : Below y7.heap.size y7 y1 := ((Below.refl _ _).drew).trans hz1
      have KV := KK.out.below hz
      have RV := KV.rules
      simp only [Rules] at RV
      go_simp
      refine hK' _ _ ⟨fun h => absurd (show true = false from h) (by decide), ?_⟩
      clear hK' K'
      have KT := Bx.puti KV (by simp) 2 (Value.int IntKind.i64 (mx + (x1 - 1)))
      replace BB := Lib.hid ((BB.out.trans (hz.mono BB.out.size)).setCell (p := ⟨w.heap.size, 2, none⟩) (Nat.le_refl _) (Value.int IntKind.i64 (mx + (x1 - 1))))
      refine gro.anyM_done (by kernel_rfl) ?_
      intro y7 hz7
      replace BB := Lib.hid (BB.out.trans (hz7.mono BB.out.size))
      clear R RV KK
      have KK := Lib.hid (show Bx y7 [(w.heap.size, 94, #[Value.int IntKind.i64 v, Value.int IntKind.i64 (mn + x0), Value.int IntKind.i64 (mx + (x1 - 1))]), (w.heap.size + 1, 94, #[Value.int IntKind.i64 0, Value.int IntKind.i64 0, Value.int IntKind.i64 0])] from by have := KT.below hz7; simpa using this)
      clear KT KV hz hz1 hz7
      have R := KK.out.rules
      simp only [Rules] at R
      go_wp2
      refine bodyPost_ret (v := Value.agg #[Value.int IntKind.i64 v, Value.int IntKind.i64 (mn + x0), Value.int IntKind.i64 (mx + (x1 - 1))]) (by simp [results, Try.results120, go_sem, R]) rfl ⟨rfl, ?_⟩
      exact ((BB.out.setCell (p := ⟨w.heap.size + 1, 0, none⟩) (by simp) _).setCell (p := ⟨w.heap.size + 1, 1, none⟩) (by simp) _).setCell (p := ⟨w.heap.size + 1, 2, none⟩) (by simp) _
    rw [if_neg hin] at hup
    subst hup
    have s2 : IntKind.i64.wrap (mx + N) = mx + N := IntWalk.i64_in _ (by omega)
    have hbb := BB.out.size
    go_wp2
    have KT := Bx.puti KK.out (by simp) 2 (Value.int IntKind.i64 (mx + N))
    replace BB := Lib.hid (BB.out.setCell (p := ⟨w.heap.size, 2, none⟩) (Nat.le_refl _) (Value.int IntKind.i64 (mx + N)))
    refine bodyPost_ret (v := Value.agg #[Value.int IntKind.i64 v, Value.int IntKind.i64 (mn + x0), Value.int IntKind.i64 (mx + N)]) (by simp [results, Try.results120, go_sem, R]) rfl ⟨rfl, ?_⟩
    exact ((BB.out.setCell (p := ⟨w.heap.size + 1, 0, none⟩) (by simp) _).setCell (p := ⟨w.heap.size + 1, 1, none⟩) (by simp) _).setCell (p := ⟨w.heap.size + 1, 2, none⟩) (by simp) _
  rw [if_neg hin0] at hlo
  subst hlo
  obtain rfl : i = 0 := by omega
  rw [Int.add_zero]
  have hin1 : ¬ (0 : Int) < 0 := by omega
  by_cases hin : 0 < n
  case pos =>
    go_enter Try.func120, Try.ntmps120
    go_wp2_with fail
    obtain ⟨W0, hW, hs0, K0, B0⟩ := start2 w 94 94 #[Value.int IntKind.i64 v, Value.int IntKind.i64 mn, Value.int IntKind.i64 mx] #[Value.int IntKind.i64 0, Value.int IntKind.i64 0, Value.int IntKind.i64 0]
    rw [hW]
    clear hW
    have KK := Lib.hid (K0.swap)
    have BB := Lib.hid B0
    have R := K0.rules
    simp only [Rules] at R
    clear K0 B0
    rw [if_pos hin] at hup
    obtain ⟨ad, rfl, hbl, HC⟩ := ERead.cells H1.out hin
    rw [show ad.add (0 * 3) = ad from by simp [Addr.add]] at HC
    have b1 := HBd.out 0 hin
    generalize (at3 o 0).1 = xv1 at *
    generalize (at3 o 0).2.1 = xm1 at *
    generalize (at3 o 0).2.2 = x1 at *
    subst hup
    have s1 : IntKind.i64.wrap (x1 - 1) = x1 - 1 := IntWalk.i64_in _ (by omega)
    have s2 : IntKind.i64.wrap (mx + (x1 - 1)) = mx + (x1 - 1) := IntWalk.i64_in _ (by omega)
    go_wp2_with fail
    (refine gro.wp_region_heldA [0, 1, 2, 3, 4, 5, 6, 7, 8, 9] 1 10 _ (gro.lasts_below (W0).drew) (by kernel_rfl) (by kernel_rfl) (by intro _ _ _ _ _ h; exact h) (by kernel_rfl) (by kernel_rfl) (by kernel_rfl) (by kernel_rfl) (by kernel_rfl) (by decide) (Below.refl _ _) ?_; apply Exists.intro; refine ⟨fun w0 hb0 => ?_, ?_⟩; focus (replace hb0 := (Below.drew (Below.refl _ (W0))).trans hb0; have KZ := (KK.out).below hb0; have RZ := KZ.rules; simp only [gro.Rules] at RZ; (obtain ⟨f1, f2, f3⟩ := HC.out w0 (BB.out.trans (hb0.mono BB.out.size))); simp only [gro.pickA, List.filterMap_cons, List.filterMap_nil, List.getElem?_toArray, List.getElem?_cons_succ, List.getElem?_cons_zero]; change wpQuiet _ _ _ _ (_ :: _ :: _ :: _ :: _ :: _ :: _ :: _ :: _ :: _ ::  []) _; (repeat (go_big_quiet_step ((fail)))); exact wpQuiet_nil rfl))
    refine gro.anyM_one 10 (by kernel_rfl) rfl ?_
    intro y1 hz1 K' hK'
    have hz : Below W0.heap.size W0 y1 := ((Below.refl _ _).drew).trans hz1
    have KV := KK.out.below hz
    have RV := KV.rules
    simp only [Rules] at RV
    go_simp
    refine hK' _ _ ⟨fun h => absurd (show true = false from h) (by decide), ?_⟩
    clear hK' K'
    have KT := Bx.puti KV (by simp) 2 (Value.int IntKind.i64 (mx + (x1 - 1)))
    replace BB := Lib.hid ((BB.out.trans (hz.mono BB.out.size)).setCell (p := ⟨w.heap.size, 2, none⟩) (Nat.le_refl _) (Value.int IntKind.i64 (mx + (x1 - 1))))
    refine gro.anyM_done (by kernel_rfl) ?_
    intro y7 hz7
    replace BB := Lib.hid (BB.out.trans (hz7.mono BB.out.size))
    clear R RV KK
    have KK := Lib.hid (show Bx y7 [(w.heap.size, 94, #[Value.int IntKind.i64 v, Value.int IntKind.i64 (mn), Value.int IntKind.i64 (mx + (x1 - 1))]), (w.heap.size + 1, 94, #[Value.int IntKind.i64 0, Value.int IntKind.i64 0, Value.int IntKind.i64 0])] from by have := KT.below hz7; simpa using this)
    clear KT KV hz hz1 hz7
    have R := KK.out.rules
    simp only [Rules] at R
    go_wp2
    refine bodyPost_ret (v := Value.agg #[Value.int IntKind.i64 v, Value.int IntKind.i64 (mn), Value.int IntKind.i64 (mx + (x1 - 1))]) (by simp [results, Try.results120, go_sem, R]) rfl ⟨rfl, ?_⟩
    exact ((BB.out.setCell (p := ⟨w.heap.size + 1, 0, none⟩) (by simp) _).setCell (p := ⟨w.heap.size + 1, 1, none⟩) (by simp) _).setCell (p := ⟨w.heap.size + 1, 2, none⟩) (by simp) _
  rw [if_neg hin] at hup
  subst hup
  obtain rfl : n = 0 := by omega
  have s2 : IntKind.i64.wrap (mx + N) = mx + N := IntWalk.i64_in _ (by omega)
  go_enter Try.func120, Try.ntmps120
  go_wp2
  obtain ⟨W0, hW, hs0, K0, B0⟩ := start2 w 94 94 #[Value.int IntKind.i64 v, Value.int IntKind.i64 mn, Value.int IntKind.i64 (mx + N)] #[Value.int IntKind.i64 v, Value.int IntKind.i64 mn, Value.int IntKind.i64 (mx + N)]
  rw [hW]
  have R := K0.rules
  simp only [Rules] at R
  refine bodyPost_ret (v := Value.agg #[Value.int IntKind.i64 v, Value.int IntKind.i64 mn, Value.int IntKind.i64 (mx + N)]) (by simp [results, Try.results120, go_sem, R]) rfl ⟨rfl, B0⟩
end Go.Proofs.Ytjapjfcennemeaa.rnk
