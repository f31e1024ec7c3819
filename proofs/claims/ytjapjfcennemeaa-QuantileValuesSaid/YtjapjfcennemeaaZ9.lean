/- RepL, Valid: proved here in one text, no conditions beyond those that each theorem states. -/
import Derived.Deep.QuietTactic
import Derived.BigQuiet
import Derived.Deep.LoopGhost
import Derived.LoopTactic
import Derived.Outline
import Derived.Test.YtjapjfcennemeaaZ8
import Derived.Test.YtjapjfcennemeaaZ1
import Derived.Test.YtjapjfcennemeaaZ5
import Derived.Test.YtjapjfcennemeaaZ6
set_option linter.unusedVariables false
set_option linter.unusedSimpArgs false
section
namespace Go.Proofs.Ytjapjfcennemeaa.rnk
open Go.Proofs.Ytjapjfcennemeaa.mem Go.Proofs.Ytjapjfcennemeaa.buk
set_option linter.unusedVariables false
def rk (M : List Int) (v : Int) : Int := ((M.countP fun x => decide (x ≤ v) : Nat) : Int)
def bl (M : List Int) (v : Int) : Int := ((M.countP fun x => decide (x < v) : Nat) : Int)
theorem rk_app (M N : List Int) (v : Int) : rk (M ++ N) v = rk M v + rk N v := by simp [rk]
theorem bl_app (M N : List Int) (v : Int) : bl (M ++ N) v = bl M v + bl N v := by simp [bl]
theorem rk_nn (M : List Int) (v : Int) : 0 ≤ rk M v := Int.natCast_nonneg _
theorem bl_nn (M : List Int) (v : Int) : 0 ≤ bl M v := Int.natCast_nonneg _
theorem rk_le (M : List Int) (v : Int) : rk M v ≤ M.length := Int.ofNat_le.2 List.countP_le_length
theorem bl_le (M : List Int) (v : Int) : bl M v ≤ M.length := Int.ofNat_le.2 List.countP_le_length
theorem rk_mono (M : List Int) {u v : Int} (h : u ≤ v) : rk M u ≤ rk M v :=
  Int.ofNat_le.2 (List.countP_mono_left fun x _ hx => by simp at hx ⊢; omega)
theorem bl_mono (M : List Int) {u v : Int} (h : u ≤ v) : bl M u ≤ bl M v :=
  Int.ofNat_le.2 (List.countP_mono_left fun x _ hx => by simp at hx ⊢; omega)
theorem rk_bl (M : List Int) {u v : Int} (h : u < v) : rk M u ≤ bl M v :=
  Int.ofNat_le.2 (List.countP_mono_left fun x _ hx => by simp at hx ⊢; omega)
theorem bl_rk (M : List Int) (v : Int) : bl M v ≤ rk M v :=
  Int.ofNat_le.2 (List.countP_mono_left fun x _ hx => by simp at hx ⊢; omega)
theorem bl_mem : ∀ {M : List Int} {v : Int}, v ∈ M → bl M v + 1 ≤ rk M v
  | x :: M, v, h => by
    have h1 : bl (x :: M) v = bl [x] v + bl M v := bl_app [x] M v
    have h2 : rk (x :: M) v = rk [x] v + rk M v := rk_app [x] M v
    have h3 := bl_rk M v
    have h4 := bl_rk [x] v
    rcases List.mem_cons.1 h with rfl | h
    · have : bl [v] v = 0 := by simp [bl]
      have : rk [v] v = 1 := by simp [rk]
      omega
    · have := bl_mem h
      omega
def Stands (M : List Int) (N : Int) (es : L3) : Prop := (M.length : Int) = N ∧ ∀ i < es.length, (at3 es i).1 ∈ M ∧ (at3 es i).2.1 ≤ rk M (at3 es i).1 ∧ bl M (at3 es i).1 + 1 ≤ (at3 es i).2.2
theorem Stands.nil : Stands [] 0 [] := ⟨rfl, fun i h => absurd h (Nat.not_lt_zero _)⟩
theorem Stands.one (v : Int) : Stands [v] 1 [(v, 1, 1)] := ⟨rfl, fun i h => by
  have : i = 0 := by simpa using h
  subst this
  have e : at3 [(v, (1 : Int), (1 : Int))] 0 = (v, 1, 1) := rfl
  rw [e]
  have h1 : bl [v] v = 0 := by simp [bl]
  have h2 : rk [v] v = 1 := by simp [rk]
  refine ⟨by simp, ?_, ?_⟩ <;> simp only <;> omega⟩
theorem Stands.swap {M1 M2 : List Int} {N : Int} {es : L3} (h : Stands (M1 ++ M2) N es) : Stands (M2 ++ M1) N es :=
  ⟨by have := h.1; simp at this ⊢; omega, fun i hi => by
    obtain ⟨h1, h2, h3⟩ := h.2 i hi
    rw [rk_app] at h2 ⊢
    rw [bl_app] at h3 ⊢
    exact ⟨by simp at h1 ⊢; exact h1.symm, by omega, by omega⟩⟩
theorem nxt_mono' {x y : L3} (hx : asc x) (hy : asc y) {s : Nat} : ∀ d, s + d < x.length + y.length → nxt x y s ≤ nxt x y (s + d)
  | 0, _ => Int.le_refl _
  | d + 1, h => Int.le_trans (nxt_mono' hx hy d (by omega)) (nxt_mono hx hy (s := s + d) h)
theorem path_nxt {x y : L3} : ∀ s, s ≤ x.length + y.length → (∀ i < (path x y s).1, ∃ r < s, nxt x y r = (at3 x i).1) ∧ (∀ j < (path x y s).2, ∃ r < s, nxt x y r = (at3 y j).1)
  | 0, _ => ⟨fun i h => absurd h (Nat.not_lt_zero _), fun i h => absurd h (Nat.not_lt_zero _)⟩
  | s + 1, hs => by
    obtain ⟨h1, h2⟩ := path_nxt (x := x) (y := y) s (by omega)
    rcases path_cases (x := x) (y := y) (s := s) (by omega) with ⟨g1, g2, g3, _⟩ | ⟨g1, g2, g3, _⟩
    · rw [g1]
      refine ⟨fun i hi => ?_, fun j hj => ?_⟩
      · simp only at hi
        by_cases e : i = (path x y s).1
        · exact ⟨s, by omega, by rw [e]; exact g3⟩
        · obtain ⟨r, hr, e2⟩ := h1 i (by omega); exact ⟨r, by omega, e2⟩
      · obtain ⟨r, hr, e2⟩ := h2 j hj; exact ⟨r, by omega, e2⟩
    · rw [g1]
      refine ⟨fun i hi => ?_, fun j hj => ?_⟩
      · obtain ⟨r, hr, e2⟩ := h1 i hi; exact ⟨r, by omega, e2⟩
      · simp only at hj
        by_cases e : j = (path x y s).2
        · exact ⟨s, by omega, by rw [e]; exact g3⟩
        · obtain ⟨r, hr, e2⟩ := h2 j (by omega); exact ⟨r, by omega, e2⟩
section
variable {a b : Int} {x y : L3} {M1 M2 M : List Int} {N : Int} {es : L3}
theorem taken_le (hx : asc x) (hy : asc y) {s : Nat} (hs : s < x.length + y.length) : (∀ i < (path x y (s + 1)).1, (at3 x i).1 ≤ nxt x y s) ∧ (∀ j < (path x y (s + 1)).2, (at3 y j).1 ≤ nxt x y s) := by
  obtain ⟨h1, h2⟩ := path_nxt (x := x) (y := y) (s + 1) (by omega)
  refine ⟨fun i hi => ?_, fun j hj => ?_⟩
  · obtain ⟨r, hr, e⟩ := h1 i hi
    have := nxt_mono' hx hy (s := r) (s - r) (by omega)
    rw [show r + (s - r) = s by omega] at this
    omega
  · obtain ⟨r, hr, e⟩ := h2 j hj
    have := nxt_mono' hx hy (s := r) (s - r) (by omega)
    rw [show r + (s - r) = s by omega] at this
    omega
theorem left_ge (hx : asc x) (hy : asc y) {s : Nat} (hs : s < x.length + y.length) : ((path x y s).1 < x.length → nxt x y s ≤ (at3 x (path x y s).1).1) ∧ ((path x y s).2 < y.length → nxt x y s ≤ (at3 y (path x y s).2).1) := by
  rcases path_cases hs with ⟨g1, g2, g3, g4⟩ | ⟨g1, g2, g3, g4⟩
  · exact ⟨fun _ => by rw [g3]; exact Int.le_refl _, fun h => by rw [g3]; exact g4 h⟩
  · exact ⟨fun h => by rw [g3]; exact Int.le_of_lt (g4 h), fun _ => by rw [g3]; exact Int.le_refl _⟩
theorem Stands.lw_rk (h : Stands M1 a x) {i : Nat} (hi : i ≤ x.length) {v : Int} (hv : ∀ j < i, (at3 x j).1 ≤ v) : lw x i ≤ rk M1 v := by
  unfold lw
  split
  · have h1 := (h.2 (i - 1) (by omega)).2.1
    have := rk_mono M1 (hv (i - 1) (by omega))
    omega
  · exact rk_nn _ _
theorem Stands.bl_up (h : Stands M1 a x) {i : Nat} {v : Int} (hv : i < x.length → v ≤ (at3 x i).1) : bl M1 v ≤ up x a i := by
  unfold up
  split
  · rename_i hi
    have h1 := (h.2 i hi).2.2
    have := bl_mono M1 (hv hi)
    omega
  · have := bl_le M1 v; have := h.1; omega
theorem Stands.merge (h1 : Stands M1 a x) (h2 : Stands M2 b y) (hx : asc x) (hy : asc y) : Stands (M1 ++ M2) (a + b) (mergeL x y a b) := by
  refine ⟨by have := h1.1; have := h2.1; simp; omega, fun s hs => ?_⟩
  rw [merge_len] at hs
  rw [merge_at hs]
  obtain ⟨t1, t2⟩ := taken_le hx hy hs
  obtain ⟨l1, l2⟩ := left_ge hx hy hs
  obtain ⟨p1, p2, p3⟩ := path_le (x := x) (y := y) (s + 1) (by omega)
  have e1 := h1.lw_rk p1 t1
  have e2 := h2.lw_rk p2 t2
  have e3 := h1.bl_up l1
  have e4 := h2.bl_up l2
  simp only
  rw [rk_app, bl_app]
  refine ⟨?_, by omega, by omega⟩
  rcases path_cases hs with ⟨g1, g2, g3, g4⟩ | ⟨g1, g2, g3, g4⟩
  · rw [g3]; exact List.mem_append_left _ (h1.2 _ g2).1
  · rw [g3]; exact List.mem_append_right _ (h2.2 _ g2).1
theorem pruTo_mem {N b : Int} {es : L3} (h : 0 < es.length) : ∀ i, ∀ k < (pruTo N b es i).2.2.length, ∃ j < es.length, at3 (pruTo N b es i).2.2 k = at3 es j
  | 0, k, hk => absurd hk (by simp [pruTo])
  | i + 1, k, hk => by
    have ih := pruTo_mem (N := N) (b := b) h i
    obtain ⟨h1, h2⟩ := pruTo_lt (N := N) (b := b) h i
    rcases hp : pruTo N b es i with ⟨l, s, o⟩
    rw [hp] at ih h1 h2
    simp only at ih h1
    by_cases e : (place es (tgt N b i) s : Int) = l
    · rw [pruTo_same hp e] at hk ⊢; exact ih k hk
    · rw [pruTo_new hp e] at hk ⊢
      simp only [List.length_append, List.length_singleton] at hk ⊢
      by_cases e2 : k < o.length
      · rw [at3_app e2]; exact ih k e2
      · obtain rfl : k = o.length := by omega
        rw [at3_end]
        exact ⟨_, (place_lt h1).2, rfl⟩
theorem Stands.prune (h : Stands M N es) (h0 : 0 < es.length) (b : Int) : Stands M N (pruL N b es) := by
  unfold pruL
  split
  · exact h
  · refine ⟨h.1, fun k hk => ?_⟩
    obtain ⟨j, hj, e⟩ := pruTo_mem h0 _ k hk
    rw [e]
    exact h.2 j hj
theorem Stands.ranks (h : Stands M N es) {v : Int} {i : Nat} (hi : i ≤ es.length) (h1 : ∀ j < i, (at3 es j).1 ≤ v) (h2 : i < es.length → v < (at3 es i).1) : lw es i ≤ rk M v ∧ rk M v ≤ up es N i := by
  refine ⟨h.lw_rk hi h1, ?_⟩
  unfold up
  split
  · rename_i hl
    have h3 := (h.2 i hl).2.2
    have := rk_bl M (h2 hl)
    omega
  · have := rk_le M v; have := h.1; omega
end
end Go.Proofs.Ytjapjfcennemeaa.rnk
end
section
namespace Go.Proofs.Ytjapjfcennemeaa.lst
open Go.RowKit Go.Proofs.Ytjapjfcennemeaa.mem Go.Proofs.Ytjapjfcennemeaa.buk
set_option linter.unusedVariables false
def BOk (b : Bool) (w : World) (e : Ending) (w' : World) : Prop := e = .returned (.bool b) ∧ Below w.heap.size w w'
def tickB (t : Int) : Bool := decide (0 ≤ t) && decide (t ≤ 16777216)
theorem tickB_iff {t : Int} : tickB t = true ↔ 0 ≤ t ∧ t ≤ 16777216 := by simp [tickB]
theorem tickB_iff0 {t : Int} : tickB t = false ↔ ¬ (0 ≤ t ∧ t ≤ 16777216) := by rw [← tickB_iff]; simp
set_option maxHeartbeats 400000 in
theorem tick_any (t : Int) (w : World) :
    Calls Try.prog 116 #[.int .i64 t] w fun e w' => e = .returned (.bool (tickB t)) ∧ w = w' := by
  go_enter Try.func116, Try.ntmps116
  go_wp2
  all_goals (go_ret; refine ⟨ret_bool ?_, rfl⟩; first | (symm; rw [tickB_iff]; omega) | (symm; rw [tickB_iff0]; omega) | (rw [Bool.eq_iff_iff, tickB_iff]; simp; omega))
def cntArr (ys : List (Int × Int)) : Array Value := ((List.range 31).map fun l => Value.int .i64 (cnt ys l)).toArray
theorem cntArr_get (ys : List (Int × Int)) (l : Nat) (h : l < 31) : (cntArr ys)[l]? = some (.int .i64 (cnt ys l)) := by
  simp [cntArr, h]
theorem cntArr_step {xs : List (Int × Int)} {i : Nat} (hi : i < xs.length) (h : 0 ≤ (at_ xs i).2 ∧ (at_ xs i).2 ≤ 30) :
    (cntArr (xs.take i)).setIfInBounds (at_ xs i).2.toNat (.int .i64 ((cnt (xs.take i) (at_ xs i).2.toNat : Int) + 1)) = cntArr (xs.take (i + 1)) := by
  apply Array.ext'
  apply List.ext_getElem?
  intro j
  simp only [cntArr, Array.toList_setIfInBounds, List.getElem?_set, List.length_map, List.length_range, List.getElem?_map]
  by_cases hj : j < 31
  · simp only [List.getElem?_range, hj, Option.map_some]
    rw [cnt_take hi]
    by_cases e : (at_ xs i).2.toNat = j
    · subst e
      rw [if_pos rfl, if_pos (by simp; omega), if_pos (by omega)]
      simp
    · rw [if_neg e, if_neg (by omega)]
      simp
  · rw [List.getElem?_eq_none (by simpa using hj)]
    rw [if_neg (by omega)]
    simp
set_option maxHeartbeats 4000000 in
set_option maxRecDepth 100000 in
theorem Valid_any (A : Option Addr) (n c : Nat) (xs : List (Int × Int)) (k : Int) (w : World) (h1 : PRead w w.heap.size A n xs) (hsmall : n ≤ 65536) :
    Calls Try.prog 67 #[.slice A n c, .int .i64 k] w (BOk (validB xs k) w) := by
  have HL := Lib.hid h1.len
  have H1 := Lib.hid h1
  clear h1
  by_cases hk : 1 ≤ k ∧ k ≤ 128
  · obtain ⟨hk1, hk2⟩ := hk
    go_enter Try.func67, Try.ntmps67
    go_wp2
    go_loopg [18] n (fun kx s18 wr => ∃ i : Nat, i ≤ n ∧ s18 = .int .i64 i ∧ n - i ≤ kx ∧ w.heap.size < wr.heap.size ∧ Hid (Below w.heap.size w wr) ∧ Hid (Blk wr w.heap.size 129 (cntArr (xs.take i))) ∧ Hid (ordOk xs i))
    case atStart => exact ⟨0, Nat.zero_le _, rfl, by omega, by simp, (Below.refl _ _).alloc (Nat.le_refl _) _, Blk.new w 129 (cntArr []), ordOk_zero xs⟩
    case round =>
      obtain ⟨i, hi, rfl, hg, hws, HB, HK, HO⟩ := hrel
      by_cases hlt : i < n
      · have H2 := H1.out.below HB.out
        obtain ⟨ad, rfl, hbl, hc1, hc2⟩ := PRead.at_ H2 hlt
        have hs := HB.out.size
        have hbl2 : ad.block < wr.heap.size := by omega
        have hp : 0 < i → wr.cell? (ad.add ((i - 1) * 2)) = some (.int .i64 (at_ xs (i - 1)).1) ∧ wr.cell? ⟨(ad.add ((i - 1) * 2)).block, (ad.add ((i - 1) * 2)).off + 1, none⟩ = some (.int .i64 (at_ xs (i - 1)).2) := fun h => by
          obtain ⟨ad', e, _, hd1, hd2⟩ := PRead.at_ H2 (show i - 1 < n by omega)
          injection e with e; subst e; exact ⟨hd1, hd2⟩
        clear H2
        have hY := Lib.hid (ordOk_succ HO.out)
        have hN := Lib.hid (fun h => validB_f (xs := xs) (k := k) (fun hv => ordOk_not (xs := xs) (k := i) (m := xs.length) (by rw [HL.out]; exact hlt) h hv.2.1))
        have hO : Hid (ordAt xs i = ((0 ≤ (at_ xs i).1 ∧ (at_ xs i).1 ≤ 16777216) ∧ (0 ≤ (at_ xs i).2 ∧ (at_ xs i).2 ≤ 30) ∧ (0 < i → (at_ xs (i - 1)).1 ≤ (at_ xs i).1 ∧ (at_ xs i).2 ≤ (at_ xs (i - 1)).2))) := rfl
        have hS := Lib.hid (cntArr_step (xs := xs) (i := i) (by rw [HL.out]; exact hlt))
        have hca := Lib.hid (fun l (h : l < 31) => (HK.out.cell l).trans (cntArr_get (xs.take i) l h))
        have hcb := Lib.hid (fun l => cnt_le (xs.take i) l)
        change wr.cell? (ad.add (i * 2)) = some (.int .i64 (at_ xs i).1) at hc1
        change wr.cell? ⟨(ad.add (i * 2)).block, (ad.add (i * 2)).off + 1, none⟩ = some (.int .i64 (at_ xs i).2) at hc2
        generalize (at_ xs i).1 = t1 at *
        generalize (at_ xs i).2 = l1 at *
        have HV := Lib.hid (fun W => level_any l1 W)
        have HT := Lib.hid (fun W => tick_any t1 W)
        by_cases ht : 0 ≤ t1 ∧ t1 ≤ 16777216
        · rw [tickB_iff.2 ht] at HT
          by_cases hl : 0 ≤ l1 ∧ l1 ≤ 30
          · rw [levelB_iff.2 hl] at HV
            obtain ⟨hl1, hl2⟩ := hl
            have hcell := hca.out l1.toNat (by omega)
            have hfr := HK.out.frozen l1.toNat
            have hcv := hcb.out l1.toNat
            rw [List.length_take] at hcv
            generalize cnt (xs.take i) l1.toNat = v at *
            have hcell2 := cell_box hcell
            have hfr2 := frozen_box (p := ⟨w.heap.size, l1.toNat, none⟩) hws hfr
            clear hcell hfr
            by_cases h0 : 0 < i
            · obtain ⟨hd1, hd2⟩ := hp h0
              clear hp
              have hd3 := cell_box hd1
              have hd4 := cell_box hd2
              clear hd1 hd2
              generalize (at_ xs (i - 1)).1 = t0 at *
              generalize (at_ xs (i - 1)).2 = l0 at *
              by_cases e1 : t0 ≤ t1
              · by_cases e2 : l1 ≤ l0
                · go_wp2_with (first | (go_at_call 117; refine (HV.out _).mono ?_; rintro e w' ⟨rfl, rfl⟩) | (go_at_call 116; refine (HT.out _).mono ?_; rintro e w' ⟨rfl, rfl⟩))
                  have s1 : IntKind.i64.wrap ((i : Int) - 1) = (i : Int) - 1 := IntWalk.i64_in _ (by omega)
                  have s2 : 0 ≤ (i : Int) - 1 := by omega
                  have s3 : ((i : Int) - 1).toNat = i - 1 := by omega
                  have s4 : (i : Int) - 1 < n := by omega
                  have s5 : 1 ≤ (i : Int) := by omega
                  go_quiet (fail)
                  clear s1 s2 s3 s4 s5
                  go_wp2
                  have HK2 : Blk ((((wr.alloc (Obj.cells #[Value.int IntKind.i64 t1, Value.int IntKind.i64 l1] 102)).drewN nq).setCell ⟨w.heap.size, l1.toNat, none⟩ (Value.int IntKind.i64 (↑v + 1)))) w.heap.size 129 (cntArr (xs.take (i + 1))) := by
                    rw [← hS.out ⟨hl1, hl2⟩]
                    exact ((HK.out.alloc _).drewN nq).set_ _ _
                  go_roundg (n - (i + 1))
                  case measure => omega
                  case rel => exact ⟨i + 1, by omega, by go_num, by omega, HK2.lt, (below_drewN (HB.out.alloc HB.out.size _) nq).setCell (Nat.le_refl _) _, HK2, hY.out (by rw [hO.out]; exact ⟨ht, ⟨hl1, hl2⟩, fun _ => ⟨e1, e2⟩⟩)⟩
                · go_wp2_with (first | (go_at_call 117; refine (HV.out _).mono ?_; rintro e w' ⟨rfl, rfl⟩) | (go_at_call 116; refine (HT.out _).mono ?_; rintro e w' ⟨rfl, rfl⟩))
                  have s1 : IntKind.i64.wrap ((i : Int) - 1) = (i : Int) - 1 := IntWalk.i64_in _ (by omega)
                  have s2 : 0 ≤ (i : Int) - 1 := by omega
                  have s3 : ((i : Int) - 1).toNat = i - 1 := by omega
                  have s4 : (i : Int) - 1 < n := by omega
                  have s5 : 1 ≤ (i : Int) := by omega
                  go_quiet (fail)
                  clear s1 s2 s3 s4 s5
                  go_wp2
                  go_ret
                  exact ⟨ret_bool (hN.out (by rw [hO.out]; omega)).symm, below_drewN (HB.out.alloc HB.out.size _) _⟩
              · go_wp2_with (first | (go_at_call 117; refine (HV.out _).mono ?_; rintro e w' ⟨rfl, rfl⟩) | (go_at_call 116; refine (HT.out _).mono ?_; rintro e w' ⟨rfl, rfl⟩))
                have s1 : IntKind.i64.wrap ((i : Int) - 1) = (i : Int) - 1 := IntWalk.i64_in _ (by omega)
                have s2 : 0 ≤ (i : Int) - 1 := by omega
                have s3 : ((i : Int) - 1).toNat = i - 1 := by omega
                have s4 : (i : Int) - 1 < n := by omega
                have s5 : 1 ≤ (i : Int) := by omega
                go_quiet (fail)
                clear s1 s2 s3 s4 s5
                go_wp2
                go_ret
                exact ⟨ret_bool (hN.out (by rw [hO.out]; omega)).symm, below_drewN (HB.out.alloc HB.out.size _) _⟩
            · obtain rfl : i = 0 := by omega
              clear hp
              rw [show ad.add (0 * 2) = ad from by simp [Addr.add]] at hc1 hc2
              generalize (at_ xs (0 - 1)).1 = t0 at *
              generalize (at_ xs (0 - 1)).2 = l0 at *
              go_wp2_with (first | (go_at_call 117; refine (HV.out _).mono ?_; rintro e w' ⟨rfl, rfl⟩) | (go_at_call 116; refine (HT.out _).mono ?_; rintro e w' ⟨rfl, rfl⟩))
              go_quiet (fail)
              go_wp2
              have HK2 : Blk ((((wr.alloc (Obj.cells #[Value.int IntKind.i64 t1, Value.int IntKind.i64 l1] 102)).drewN nq).setCell ⟨w.heap.size, l1.toNat, none⟩ (Value.int IntKind.i64 (↑v + 1)))) w.heap.size 129 (cntArr (xs.take (0 + 1))) := by
                rw [← hS.out ⟨hl1, hl2⟩]
                exact ((HK.out.alloc _).drewN nq).set_ _ _
              go_roundg (n - (0 + 1))
              case measure => omega
              case rel => exact ⟨0 + 1, by omega, by go_num, by omega, HK2.lt, (below_drewN (HB.out.alloc HB.out.size _) nq).setCell (Nat.le_refl _) _, HK2, hY.out (by rw [hO.out]; exact ⟨ht, ⟨hl1, hl2⟩, fun h => absurd h (Nat.lt_irrefl 0)⟩)⟩
          · rw [levelB_iff0.2 hl] at HV
            have hNN := Lib.hid (hN.out (by rw [hO.out]; exact fun h => hl h.2.1))
            clear hp
            go_wp2_with (first | (go_at_call 117; refine (HV.out _).mono ?_; rintro e w' ⟨rfl, rfl⟩) | (go_at_call 116; refine (HT.out _).mono ?_; rintro e w' ⟨rfl, rfl⟩))
            go_ret
            exact ⟨ret_bool hNN.out.symm, HB.out.alloc HB.out.size _⟩
        · rw [tickB_iff0.2 ht] at HT
          have hNN := Lib.hid (hN.out (by rw [hO.out]; exact fun h => ht h.1))
          clear hp
          go_wp2_with (first | (go_at_call 117; refine (HV.out _).mono ?_; rintro e w' ⟨rfl, rfl⟩) | (go_at_call 116; refine (HT.out _).mono ?_; rintro e w' ⟨rfl, rfl⟩))
          go_ret
          exact ⟨ret_bool hNN.out.symm, HB.out.alloc HB.out.size _⟩
      · obtain rfl : i = n := by omega
        have hfull : xs.take i = xs := List.take_of_length_le (by rw [HL.out]; exact Nat.le_refl _)
        rw [hfull] at HK
        have HO2 : Hid (ordOk xs xs.length) := by have := HO.out; rw [Hid, HL.out]; exact this
        clear hfull HO
        by_cases h0 : 0 < i
        · obtain ⟨ad, rfl, hbl, hc1, hc2⟩ := PRead.at_ (H1.out.below HB.out) h0
          rw [show ad.add (0 * 2) = ad from by simp [Addr.add]] at hc2
          clear hc1
          have hup := Lib.hid (ord_le HO2.out)
          have h30 : 0 ≤ (at_ xs 0).2 ∧ (at_ xs 0).2 ≤ 30 := (HO2.out 0 (by rw [HL.out]; exact h0)).2.1
          have hT := Lib.hid (fun h => validB_t (xs := xs) (k := k) ⟨⟨hk1, hk2⟩, HO2.out, fun _ => h⟩)
          have hN := Lib.hid (fun l (h31 : l < 31) (h : ¬ levAt xs k l) => validB_f (xs := xs) (k := k) (fun hv => h (hv.2.2 (by rw [HL.out]; exact h0) l h31)))
          have hA : Hid (∀ l : Nat, levAt xs k l = ((l : Int) ≤ (at_ xs 0).2 → (cnt xs l : Int) ≤ k + 1 ∧ ((l : Int) < (at_ xs 0).2 → k ≤ cnt xs l))) := fun _ => rfl
          change wr.cell? ⟨ad.block, ad.off + 1, none⟩ = some (.int .i64 (at_ xs 0).2) at hc2
          generalize (at_ xs 0).2 = top at *
          go_wp2
          go_loop [9] (fun s9 => ∃ l : Nat, s9 = .int .i64 l ∧ (l : Int) ≤ top + 1 ∧ Hid (levOk xs k l)) (fun s9 => 32 - (intOf s9).toNat)
          case atStart => exact ⟨0, rfl, by omega, levOk_zero xs k⟩
          case round =>
            obtain ⟨l, rfl, hl, HV⟩ := hrel
            by_cases hlt2 : (l : Int) ≤ top
            · have hcell := (HK.out.cell l).trans (cntArr_get xs l (by omega))
              have hcv := cnt_le xs l
              rw [HL.out] at hcv
              have hE := Lib.hid (hA.out l)
              have hn := Lib.hid (hN.out l (by omega))
              have hs := Lib.hid (levOk_succ HV.out)
              generalize cnt xs l = v at *
              by_cases e1 : (v : Int) ≤ k + 1
              · by_cases e2 : (l : Int) < top
                · by_cases e3 : k ≤ v
                  · go_wp2
                    refine ⟨⟨l + 1, by go_num, by omega, hs.out (by rw [hE.out]; omega)⟩, by simp [intOf]; omega⟩
                  · go_wp2
                    go_ret
                    exact ⟨ret_bool (hn.out (by rw [hE.out]; omega)).symm, HB.out⟩
                · go_wp2
                  refine ⟨⟨l + 1, by go_num, by omega, hs.out (by rw [hE.out]; omega)⟩, by simp [intOf]; omega⟩
              · go_wp2
                go_ret
                exact ⟨ret_bool (hn.out (by rw [hE.out]; omega)).symm, HB.out⟩
            · have hall : levOk xs k 31 := fun l' _ => by
                rcases Nat.lt_or_ge l' l with h | h
                · exact HV.out l' h
                · rw [hA.out]; intro h'; omega
              have hTT := Lib.hid (hT.out hall)
              clear hall
              go_wp2
              go_ret
              exact ⟨ret_bool hTT.out.symm, HB.out⟩
        · obtain rfl : i = 0 := by omega
          have hT := Lib.hid (validB_t (xs := xs) (k := k) ⟨⟨hk1, hk2⟩, HO2.out, fun h => by rw [HL.out] at h; exact absurd h (Nat.lt_irrefl 0)⟩)
          go_wp2
          go_ret
          exact ⟨ret_bool hT.out.symm, HB.out⟩
  · have HF := Lib.hid (validB_f (xs := xs) (k := k) (fun h => hk h.1))
    by_cases a1 : 1 ≤ k
    · have a2 : 128 < k := by omega
      clear hk
      go_enter Try.func67, Try.ntmps67
      go_wp2
      go_ret
      exact ⟨ret_bool HF.out.symm, Below.refl _ _⟩
    · clear hk
      go_enter Try.func67, Try.ntmps67
      go_wp2
      go_ret
      exact ⟨ret_bool HF.out.symm, Below.refl _ _⟩
end Go.Proofs.Ytjapjfcennemeaa.lst
end
