/- RSm; RHlp: texts in one. -/
import Derived.Test.YtjapjfcennemeaaMgRBox
import Derived.LoopN
import Derived.Test.YtjapjfcennemeaaRBtw
import Derived.Test.YtjapjfcennemeaaRVal
set_option linter.unusedVariables false
set_option linter.unusedSimpArgs false
/- Contracts of the small parts of package rank: the exact summary of a value, copied, between, far, place. -/
namespace Go.Proofs.Ytjapjfcennemeaa.rnk
open Go.RowKit Go.Proofs.Ytjapjfcennemeaa.mem Go.Proofs.Ytjapjfcennemeaa.gro
set_option linter.unusedVariables false
set_option linter.unusedSimpArgs false
set_option pp.maxSteps 200000
set_option maxHeartbeats 4000000 in
set_option maxRecDepth 100000 in
theorem single_any (v : Int) (w : World) : Calls Try.prog 76 #[.int .i64 v] w (NewRF 1 [(v, 1, 1)] w) := by
  go_enter Try.func76, Try.ntmps76
  go_wp2
  obtain ⟨W0, hW, hs0, K0, B0⟩ := start2 w 46 94 #[Value.int IntKind.i64 1, Value.slice (some ⟨w.heap.size + 1, 0, none⟩) 1 1] #[Value.int IntKind.i64 v, Value.int IntKind.i64 1, Value.int IntKind.i64 1]
  rw [hW]
  have R := K0.rules
  simp only [Rules] at R
  have HE : ERead W0 W0.heap.size (some ⟨w.heap.size + 1, 0, none⟩) 1 [(v, 1, 1)] := Reads.more (reads_blk (K0 _ (List.mem_cons_self ..)) rfl) (by omega)
  refine bodyPost_ret (v := Value.agg #[.int .i64 1, .slice (some ⟨w.heap.size + 1, 0, none⟩) 1 1]) (by simp [results, Try.results76, go_sem, R]) rfl ⟨_, 1, 1, rfl, Nat.le_refl _, by decide, HE, B0, fun ad h => by injection h with h; subst h; exact Nat.le_succ _⟩
set_option maxHeartbeats 4000000 in
set_option maxRecDepth 100000 in
theorem singleR_any (v : Int) (w : World) : Calls Try.prog 80 #[.int .i64 v] w (NewRF 1 [(v, 1, 1)] w) := by
  go_enter Try.func80, Try.ntmps80
  go_wp2
  obtain ⟨W0, hW, hs0, K0, B0⟩ := start2 w 46 94 #[Value.int IntKind.i64 1, Value.slice (some ⟨w.heap.size + 1, 0, none⟩) 1 1] #[Value.int IntKind.i64 v, Value.int IntKind.i64 1, Value.int IntKind.i64 1]
  rw [hW]
  have R := K0.rules
  simp only [Rules] at R
  have HE : ERead W0 W0.heap.size (some ⟨w.heap.size + 1, 0, none⟩) 1 [(v, 1, 1)] := Reads.more (reads_blk (K0 _ (List.mem_cons_self ..)) rfl) (by omega)
  refine bodyPost_ret (v := Value.agg #[.int .i64 1, .slice (some ⟨w.heap.size + 1, 0, none⟩) 1 1]) (by simp [results, Try.results80, go_sem, R]) rfl ⟨_, 1, 1, rfl, Nat.le_refl _, by decide, HE, B0, fun ad h => by injection h with h; subst h; exact Nat.le_succ _⟩
set_option maxHeartbeats 4000000 in
set_option maxRecDepth 100000 in
theorem copied_any (N : Int) (A : Option Addr) (n c : Nat) (es : L3) (w : World) (h1 : ERead w w.heap.size A n es) (hs : n ≤ 16777216) : Calls Try.prog 119 #[.agg #[.int .i64 N, .slice A n c]] w (NewRF N es w) := by
  have H1 := Lib.hid h1
  clear h1
  obtain ⟨i0, hi0, hz0, hz1, hz2⟩ := info_parts entry_info
  have HI := Lib.hid hi0
  have HZ0 := Lib.hid hz0
  have HZ1 := Lib.hid hz1
  have HZ2 := Lib.hid hz2
  clear hi0 hz0 hz1 hz2
  go_enter Try.func119, Try.ntmps119
  go_wp2_with fail
  obtain ⟨W0, hW, hs0, K0, B0⟩ := start2 w 46 46 #[Value.int IntKind.i64 N, Value.slice A n c] #[Value.int IntKind.i64 0, Value.slice none 0 0]
  rw [hW]
  clear hW
  have KK := Lib.hid K0
  have BB := Lib.hid B0
  have R := K0.rules
  simp only [Rules] at R
  clear K0 B0
  (refine gro.wp_region_heldA [0, 1, 3, 4] 4 7 _ (gro.lasts_bx _) (by kernel_rfl) (by kernel_rfl) (by intro _ _ _ _ _ h; exact h) (by kernel_rfl) (by kernel_rfl) (by kernel_rfl) (by kernel_rfl) (by kernel_rfl) (by decide) (KK.out).drew ?_; apply Exists.intro; refine ⟨fun w0 hb0 => ?_, ?_⟩; focus (have RZ := gro.Bx.rules hb0; simp only [gro.Rules] at RZ; simp only [gro.pickA, List.filterMap_cons, List.filterMap_nil, List.getElem?_toArray, List.getElem?_cons_succ, List.getElem?_cons_zero]; change wpQuiet _ _ _ _ (_ :: _ :: _ :: _ ::  []) _; (repeat (go_big_quiet_step ((fail)))); exact wpQuiet_nil rfl))
  have B0 : Below W0.heap.size W0 W0.drew := (Below.refl _ _).drew
  refine gro.anyM_one 2 (by kernel_rfl) rfl ?_
  intro y2 hz2 K' hK'
  have B2 := B0.trans (hz2.mono B0.size)
  go_simp
  refine hK' _ _ ⟨fun _ => (KK.out.below B2).alloc _, ?_⟩
  clear hK' K'
  obtain ⟨z2, hy2⟩ : ∃ z, y2.alloc (.cells #[] 94) = z := ⟨_, rfl⟩
  have hA2 : Below y2.heap.size y2 z2 := by rw [← hy2]; exact (Below.refl _ _).alloc (Nat.le_refl _) _
  have B3 := B2.trans (hA2.mono B2.size)
  have HV : z2.ownsRow W0.heap.size 94 3 (.slice (some ⟨y2.heap.size, 0, none⟩) 0 0) 0 [] := by rw [← hy2]; exact own_empty2 rfl B2.size
  rw [hy2]
  refine gro.anyM_one 5 (by kernel_rfl) rfl ?_
  intro y3 hz3 K' hK'
  have B4 := B3.trans (hz3.mono B3.size)
  have HU := own_keep HV hz3
  have HR := (H1.out.below BB.out).below (B4.mono BB.out.size)
  refine step_append_any _ (by rfl) (.tmp 5) (.tmp 7) 44 rfl W0.heap.size 94 i0 (.agg #[.int .i64 0, .int .i64 0, .int .i64 0]) 3 24 Try.underlying44 HI.out HZ0.out HZ1.out HZ2.out rfl (by omega) (.slice (some ⟨y2.heap.size, 0, none⟩) 0 0) 0 [] (by rfl) HU w.heap.size A n c (tc es) (by rfl) HR (tc_oneCell _) (by unfold maxLen; omega) (by omega) B4.size ?_
  intro v4 w4 hown4 hg4 hat4
  have B5 := below_own hg4 HU B4 (Nat.le_refl _) B4.size
  have KW := KK.out.below B5
  refine hK' _ _ ⟨fun _ => KW, ?_⟩
  clear hK' K'
  obtain ⟨A4, c4, rfl, m1, m2, m3⟩ := own_form hown4
  have hge := fun ad (h : A4 = some ad) => own_block_ge hown4 ad.block (by rw [h]; rfl)
  simp only [Nat.zero_add, List.nil_append] at m1 m2 m3 hown4
  refine gro.anyM_one 6 (by kernel_rfl) rfl ?_
  intro y5 hz5 K' hK'
  go_simp
  refine hK' _ _ ⟨fun _ => KW.below hz5, ?_⟩
  clear hK' K'
  refine gro.anyM_one 7 (by kernel_rfl) rfl ?_
  intro y6 hz6 K' hK'
  have hz56 := hz5.trans (hz6.mono hz5.size)
  have KV := KW.below hz56
  have RV := KV.rules
  simp only [Rules] at RV
  go_simp
  refine hK' _ _ ⟨fun h => absurd (show true = false from h) (by decide), ?_⟩
  clear hK' K'
  have HF : ERead y6 y6.heap.size A4 n es := Reads.more (Reads.below m3 hz56) hz56.size
  obtain ⟨p1, p2⟩ := put_out (g := w.heap.size + 1) ((BB.out.trans (B5.mono BB.out.size)).trans (hz56.mono (BB.out.trans (B5.mono BB.out.size)).size)) (by omega) HF (fun _ ad h => by have := hge ad h; omega) (Value.int IntKind.i64 N) (.slice A4 n c4)
  have KT := Bx.put2 (u := Value.int IntKind.i64 N) (v := Value.slice A4 n c4) KV (by simp)
  refine gro.anyM_done (by kernel_rfl) ?_
  intro y7 hz7
  have KS := KT.below hz7
  have RS := KS.rules
  simp only [Rules] at RS
  clear R RV
  go_wp2
  refine bodyPost_ret (v := Value.agg #[.int .i64 N, .slice A4 n c4]) (by simp [results, Try.results119, go_sem, RS]) rfl ⟨A4, n, c4, rfl, by omega, m2, (ERead.below p1 hz7).more hz7.size, p2.trans (hz7.mono p2.size), fun ad h => by have := hge ad h; omega⟩
theorem far_form (v mn mx n : Int) : far (v, mn, mx) n = max (n - mn) (mx - n) := rfl
set_option maxHeartbeats 4000000 in
theorem far_any (v mn mx n : Int) (w : World) (h1 : -4398046511104 ≤ mn ∧ mn ≤ 4398046511104) (h2 : -4398046511104 ≤ mx ∧ mx ≤ 4398046511104) (h3 : -4398046511104 ≤ n ∧ n ≤ 4398046511104) : Calls Try.prog 146 #[.agg #[.int .i64 v, .int .i64 mn, .int .i64 mx], .int .i64 n] w fun e w' => e = .returned (.int .i64 (far (v, mn, mx) n)) ∧ Below w.heap.size w w' := by
  have HF := Lib.hid (far_form v mn mx n)
  have s1 : IntKind.i64.wrap (n - mn) = n - mn := IntWalk.i64_in _ (by omega)
  have s2 : IntKind.i64.wrap (mx - n) = mx - n := IntWalk.i64_in _ (by omega)
  by_cases h : n - mn < mx - n
  all_goals
    go_enter Try.func146, Try.ntmps146
    go_wp2
    all_goals (go_ret; exact ⟨ret_int (by rw [HF.out]; omega), (Below.refl _ _).alloc (Nat.le_refl _) _⟩)
end Go.Proofs.Ytjapjfcennemeaa.rnk

/- Small facts for the walks of merging and pruning. -/
namespace Go.Proofs.Ytjapjfcennemeaa.rnk
open Go.RowKit Go.Proofs.Ytjapjfcennemeaa.mem Go.Proofs.Ytjapjfcennemeaa.gro
set_option linter.unusedVariables false
set_option linter.unusedSimpArgs false
set_option pp.maxSteps 200000
theorem mrgP_f {a b : Int} {x y : L3} (h : mrgOk a x b y = false) : mrgP a x b y = (0, []) := by unfold mrgP; rw [if_neg (by rw [h]; exact Bool.false_ne_true)]
theorem mrgP_t {a b : Int} {x y : L3} (h1 : valR a x = true) (h2 : valR b y = true) (h3 : a + b ≤ 1099511627776) : mrgP a x b y = (a + b, mergeL x y a b) := by unfold mrgP; rw [if_pos (by unfold mrgOk; rw [h1, h2]; simpa using h3)]
theorem mrgE_f {a b : Int} {x y : L3} (h : ¬ (valR a x = true ∧ valR b y = true)) : mrgE a x b y = 2 := by unfold mrgE; rw [if_neg h]
theorem mrgE_t {a b : Int} {x y : L3} (h1 : valR a x = true) (h2 : valR b y = true) : mrgE a x b y = if a + b ≤ 1099511627776 then 0 else 5 := by unfold mrgE; rw [if_pos ⟨h1, h2⟩]
theorem newRE_nil {w W : World} {g : Nat} (er : Int) (BB : Below w.heap.size w W) (hg : w.heap.size ≤ g) (x y : Value) : NewRE (0, []) er w (.returned (.tuple #[.agg #[.int .i64 0, .slice none 0 0], .int .i64 er])) ((W.setCell ⟨g, 0, none⟩ x).setCell ⟨g, 1, none⟩ y) :=
  ⟨none, 0, 0, rfl, Nat.le_refl _, Nat.zero_le _, ERead.nil_, (BB.setCell (p := ⟨g, 0, none⟩) hg _).setCell (p := ⟨g, 1, none⟩) hg _⟩
/-- .. in a new row. -/
def NewREF (p : Int × L3) (er : Int) (w : World) (e : Ending) (w' : World) : Prop :=
  ∃ A m c, e = .returned (.tuple #[.agg #[.int .i64 p.1, .slice A m c], .int .i64 er]) ∧ m ≤ c ∧ c ≤ maxLen ∧ ERead w' w'.heap.size A m p.2 ∧ Below w.heap.size w w' ∧ ∀ ad, A = some ad → w.heap.size ≤ ad.block
theorem newREF_nil {w W : World} {g : Nat} (er : Int) (BB : Below w.heap.size w W) (hg : w.heap.size ≤ g) (x y : Value) : NewREF (0, []) er w (.returned (.tuple #[.agg #[.int .i64 0, .slice none 0 0], .int .i64 er])) ((W.setCell ⟨g, 0, none⟩ x).setCell ⟨g, 1, none⟩ y) :=
  ⟨none, 0, 0, rfl, Nat.le_refl _, Nat.zero_le _, ERead.nil_, (BB.setCell (p := ⟨g, 0, none⟩) hg _).setCell (p := ⟨g, 1, none⟩) hg _, fun _ h => by cases h⟩
theorem bnds_of_val {N : Int} {es : L3} {n : Nat} (hl : es.length = n) (h : valR N es = true) : ∀ i < n, (0 ≤ (at3 es i).2.1 ∧ (at3 es i).2.1 ≤ 1099511627776) ∧ 0 ≤ (at3 es i).2.2 ∧ (at3 es i).2.2 ≤ 1099511627776 := fun i hi => by
  obtain ⟨⟨_, h1, _⟩, h2, _⟩ := valR_iff.1 h
  have := (h2 i (by omega)).1
  omega
theorem step_x {x y : L3} {a b : Int} {i j n1 n2 : Nat} {o R : L3} (hl : x.length = n1) (hi : i < n1) (hj : j ≤ n2) (h : takeX x y i j) (HE : o ++ mrg x y a b (n1 - i + (n2 - j)) i j = R) : (o ++ [btw (at3 x i) y j b]) ++ mrg x y a b (n1 - (i + 1) + (n2 - j)) (i + 1) j = R := by
  rw [show n1 - i + (n2 - j) = (n1 - (i + 1) + (n2 - j)) + 1 by omega, mrg_x h] at HE
  rw [← HE]; simp
theorem step_y {x y : L3} {a b : Int} {i j n1 n2 : Nat} {o R : L3} (hl : y.length = n2) (hi : i ≤ n1) (hj : j < n2) (h : ¬ takeX x y i j) (HE : o ++ mrg x y a b (n1 - i + (n2 - j)) i j = R) : (o ++ [btw (at3 y j) x i a]) ++ mrg x y a b (n1 - i + (n2 - (j + 1))) i (j + 1) = R := by
  rw [show n1 - i + (n2 - j) = (n1 - i + (n2 - (j + 1))) + 1 by omega, mrg_y h] at HE
  rw [← HE]; simp
theorem not_take {x y : L3} {i j n2 : Nat} (hl : y.length = n2) (hj : j < n2) (h : ¬ (at3 x i).1 ≤ (at3 y j).1) : ¬ takeX x y i j := fun h2 => by
  unfold takeX at h2
  rcases h2 with h2 | h2
  · omega
  · exact h h2.2
theorem not_take2 {x y : L3} {i j n2 : Nat} (hl : y.length = n2) (hj : j < n2) (h : x.length = i) : ¬ takeX x y i j := fun h2 => by
  unfold takeX at h2
  omega
theorem tc_one (e : Int × Int × Int) : tc [e] = [.int .i64 e.1, .int .i64 e.2.1, .int .i64 e.2.2] := rfl
/-- Boxes and three cells. -/
def SC (L : List (Nat × TypeId × Array Value)) (p1 p2 p3 : Addr) (v1 v2 v3 : Value) : World → Prop := fun w' => Bx w' L ∧ w'.cell? p1 = some v1 ∧ w'.cell? p2 = some v2 ∧ w'.cell? p3 = some v3
theorem lasts_sc (L : List (Nat × TypeId × Array Value)) (p1 p2 p3 : Addr) (v1 v2 v3 : Value) : Lasts (SC L p1 p2 p3 v1 v2 v3) := fun w w' h hb => ⟨h.1.below hb, (hb.cell (World.block_lt_of_cell? w p1 h.2.1)).trans h.2.1, (hb.cell (World.block_lt_of_cell? w p2 h.2.2.1)).trans h.2.2.1, (hb.cell (World.block_lt_of_cell? w p3 h.2.2.2)).trans h.2.2.2⟩
end Go.Proofs.Ytjapjfcennemeaa.rnk
