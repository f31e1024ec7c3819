/- BExp, Expire, Canon, BLawP, RepL, RAskL: proved here in one text, no conditions beyond those that each theorem states. -/
import Derived.Deep.QuietTactic
import Derived.BigQuiet
import Derived.Deep.LoopGhost
import Derived.LoopTactic
import Derived.Outline
import Derived.OwnWalk
import Derived.Test.YtjapjfcennemeaaGreatZ5
import Derived.Test.YtjapjfcennemeaaGreatZ1
import Derived.Test.YtjapjfcennemeaaGreatZ12
set_option linter.unusedVariables false
set_option linter.unusedSimpArgs false
section
namespace Go.Proofs.YtjapjfcennemeaaGreat.blk
open Go.RowKit Go.Proofs.YtjapjfcennemeaaGreat.mem
set_option linter.unusedVariables false
theorem block_info : (Tryz.prog.info? 41).map (fun i => (i.zero, i.size, i.bytes)) = some (some (.agg #[.int .i64 0, .int .i64 0, .int .i64 0, .int .i64 0, .slice none 0 0]), 5, 56) := by kernel_rfl
theorem entry_info : (Tryz.prog.info? 79).map (fun i => (i.zero, i.size, i.bytes)) = some (some (.agg #[.int .i64 0, .int .i64 0, .int .i64 0]), 3, 24) := by kernel_rfl
end Go.Proofs.YtjapjfcennemeaaGreat.blk
end
section
namespace Go.Proofs.YtjapjfcennemeaaGreat.lst
open Go.RowKit Go.Proofs.YtjapjfcennemeaaGreat.mem
set_option linter.unusedVariables false
theorem bucket_info : (Tryz.prog.info? 96).map (fun i => (i.zero, i.size, i.bytes)) = some (some (.agg #[.int .i64 0, .int .i64 0]), 2, 16) := by kernel_rfl
end Go.Proofs.YtjapjfcennemeaaGreat.lst
end
section
namespace Go.Proofs.YtjapjfcennemeaaGreat.lst
open Go.RowKit Go.Proofs.YtjapjfcennemeaaGreat.mem
set_option linter.unusedVariables false
def mayKB (k : Int) : Bool := decide (1 ≤ k) && decide (k ≤ 128)
theorem mayKB_iff {k : Int} : mayKB k = true ↔ 1 ≤ k ∧ k ≤ 128 := by simp [mayKB]
theorem mayKB_iff0 {k : Int} : mayKB k = false ↔ ¬ (1 ≤ k ∧ k ≤ 128) := by rw [← mayKB_iff]; simp
set_option maxHeartbeats 400000 in
theorem MayK_any (k : Int) (w : World) :
    Calls Tryz.prog 90 #[.int .i64 k] w fun e w' => e = .returned (.bool (mayKB k)) ∧ w = w' := by
  go_enter Tryz.func90, Tryz.ntmps90
  go_wp2
  all_goals (go_ret; refine ⟨ret_bool ?_, rfl⟩; first | (symm; rw [mayKB_iff]; omega) | (symm; rw [mayKB_iff0]; omega) | (rw [Bool.eq_iff_iff, mayKB_iff]; simp; omega))
end Go.Proofs.YtjapjfcennemeaaGreat.lst
end
section
namespace Go.Proofs.YtjapjfcennemeaaGreat.rnk
open Go.Proofs.YtjapjfcennemeaaGreat.mem Go.Proofs.YtjapjfcennemeaaGreat.buk
set_option linter.unusedVariables false
theorem mayK_iff2 {xs : List K5} {k b t v : Int} : mayK xs k b t v = true ↔ validK xs k b = true ∧ (0 ≤ t ∧ t ≤ 16777216) ∧ lastK xs ≤ t ∧ (-4096 ≤ v ∧ v ≤ 4096) ∧ totalK xs < 1073741824 := by
  unfold mayK
  simp only [Bool.and_eq_true, decide_eq_true_eq, and_assoc]
theorem ents_bd {B : Nat} : ∀ {xs : List K5}, (∀ x ∈ xs, x.2.2.2.2.length ≤ B) → entsK xs ≤ xs.length * B
  | [], _ => by simp [entsK]
  | x :: xs, h => by
    have h1 := h x (List.mem_cons_self ..)
    have h2 := ents_bd (xs := xs) (fun y hy => h y (List.mem_cons_of_mem _ hy))
    have e : entsK (x :: xs) = x.2.2.2.2.length + entsK xs := by simp [entsK]
    rw [e, List.length_cons, Nat.succ_mul]
    omega
theorem ents_valid {xs : List K5} {k b : Int} (h : validK xs k b = true) : entsK xs ≤ xs.length * (b + 1).toNat := by
  obtain ⟨hb, _, h3⟩ := validK_iff.1 h
  refine ents_bd fun x hx => ?_
  obtain ⟨i, hi, rfl⟩ := List.mem_iff_getElem.1 hx
  have h4 := (blkOk_iff.1 (h3 i hi)).len
  rw [show atK xs i = xs[i] by simp [atK, List.getElem?_eq_getElem hi]] at h4
  omega
theorem insK_t {xs : List K5} {k b t v : Int} (h : mayK xs k b t v = true) : insK xs k b t v = insKC xs k.toNat b t v := if_pos h
theorem insK_f {xs : List K5} {k b t v : Int} (h : ¬ mayK xs k b t v = true) : insK xs k b t v = [] := if_neg h
theorem validK_nil {k b : Int} (hk : 1 ≤ k ∧ k ≤ 128) (hb : 1 ≤ b ∧ b ≤ 65536) : validK [] k b = true :=
  validK_iff.2 ⟨hb, validB_t ⟨hk, fun i hi => absurd hi (Nat.not_lt_zero _), fun h => absurd h (Nat.lt_irrefl _)⟩, fun i hi => absurd hi (Nat.not_lt_zero _)⟩
end Go.Proofs.YtjapjfcennemeaaGreat.rnk
end
section
namespace Go.Proofs.YtjapjfcennemeaaGreat.rnk
open Go.Proofs.YtjapjfcennemeaaGreat.mem Go.Proofs.YtjapjfcennemeaaGreat.buk
set_option linter.unusedVariables false
def rk (M : List Int) (v : Int) : Int := ((M.countP fun x => decide (x ≤ v) : Nat) : Int)
def bl (M : List Int) (v : Int) : Int := ((M.countP fun x => decide (x < v) : Nat) : Int)
theorem rk_app (M N : List Int) (v : Int) : rk (M ++ N) v = rk M v + rk N v := by simp [rk]
theorem bl_app (M N : List Int) (v : Int) : bl (M ++ N) v = bl M v + bl N v := by simp [bl]
theorem rk_nn (M : List Int) (v : Int) : 0 ≤ rk M v := Int.natCast_nonneg _
theorem bl_le (M : List Int) (v : Int) : bl M v ≤ M.length := Int.ofNat_le.2 List.countP_le_length
theorem rk_mono (M : List Int) {u v : Int} (h : u ≤ v) : rk M u ≤ rk M v :=
  Int.ofNat_le.2 (List.countP_mono_left fun x _ hx => by simp at hx ⊢; omega)
theorem bl_mono (M : List Int) {u v : Int} (h : u ≤ v) : bl M u ≤ bl M v :=
  Int.ofNat_le.2 (List.countP_mono_left fun x _ hx => by simp at hx ⊢; omega)
def Stands (M : List Int) (N : Int) (es : L3) : Prop := (M.length : Int) = N ∧ ∀ i < es.length, (at3 es i).1 ∈ M ∧ (at3 es i).2.1 ≤ rk M (at3 es i).1 ∧ bl M (at3 es i).1 + 1 ≤ (at3 es i).2.2
theorem Stands.nil : Stands [] 0 [] := ⟨rfl, fun i h => absurd h (Nat.not_lt_zero _)⟩
theorem Stands.one (v : Int) : Stands [v] 1 [(v, 1, 1)] := ⟨rfl, fun i h => by
  have : i = 0 := by simpa using h
  subst this
  have e : at3 [(v, (1 : Int), (1 : Int))] 0 = (v, 1, 1) := rfl
  rw [e]
  have h1 : bl [v] v = 0 := by simp [bl]
  have h2 : rk [v] v = 1 := by simp [rk]
  refine ⟨by simp, ?_, ?_⟩ <;> simp only <;> omega⟩
theorem Stands.swap {M1 M2 : List Int} {N : Int} {es : L3} (h : Stands (M1 ++ M2) N es) : Stands (M2 ++ M1) N es :=
  ⟨by have := h.1; simp at this ⊢; omega, fun i hi => by
    obtain ⟨h1, h2, h3⟩ := h.2 i hi
    rw [rk_app] at h2 ⊢
    rw [bl_app] at h3 ⊢
    exact ⟨by simp at h1 ⊢; exact h1.symm, by omega, by omega⟩⟩
theorem nxt_mono' {x y : L3} (hx : asc x) (hy : asc y) {s : Nat} : ∀ d, s + d < x.length + y.length → nxt x y s ≤ nxt x y (s + d)
  | 0, _ => Int.le_refl _
  | d + 1, h => Int.le_trans (nxt_mono' hx hy d (by omega)) (nxt_mono hx hy (s := s + d) h)
theorem path_nxt {x y : L3} : ∀ s, s ≤ x.length + y.length → (∀ i < (path x y s).1, ∃ r < s, nxt x y r = (at3 x i).1) ∧ (∀ j < (path x y s).2, ∃ r < s, nxt x y r = (at3 y j).1)
  | 0, _ => ⟨fun i h => absurd h (Nat.not_lt_zero _), fun i h => absurd h (Nat.not_lt_zero _)⟩
  | s + 1, hs => by
    obtain ⟨h1, h2⟩ := path_nxt (x := x) (y := y) s (by omega)
    rcases path_cases (x := x) (y := y) (s := s) (by omega) with ⟨g1, g2, g3, _⟩ | ⟨g1, g2, g3, _⟩
    · rw [g1]
      refine ⟨fun i hi => ?_, fun j hj => ?_⟩
      · simp only at hi
        by_cases e : i = (path x y s).1
        · exact ⟨s, by omega, by rw [e]; exact g3⟩
        · obtain ⟨r, hr, e2⟩ := h1 i (by omega); exact ⟨r, by omega, e2⟩
      · obtain ⟨r, hr, e2⟩ := h2 j hj; exact ⟨r, by omega, e2⟩
    · rw [g1]
      refine ⟨fun i hi => ?_, fun j hj => ?_⟩
      · obtain ⟨r, hr, e2⟩ := h1 i hi; exact ⟨r, by omega, e2⟩
      · simp only at hj
        by_cases e : j = (path x y s).2
        · exact ⟨s, by omega, by rw [e]; exact g3⟩
        · obtain ⟨r, hr, e2⟩ := h2 j (by omega); exact ⟨r, by omega, e2⟩
section
variable {a b : Int} {x y : L3} {M1 M2 M : List Int} {N : Int} {es : L3}
theorem taken_le (hx : asc x) (hy : asc y) {s : Nat} (hs : s < x.length + y.length) : (∀ i < (path x y (s + 1)).1, (at3 x i).1 ≤ nxt x y s) ∧ (∀ j < (path x y (s + 1)).2, (at3 y j).1 ≤ nxt x y s) := by
  obtain ⟨h1, h2⟩ := path_nxt (x := x) (y := y) (s + 1) (by omega)
  refine ⟨fun i hi => ?_, fun j hj => ?_⟩
  · obtain ⟨r, hr, e⟩ := h1 i hi
    have := nxt_mono' hx hy (s := r) (s - r) (by omega)
    rw [show r + (s - r) = s by omega] at this
    omega
  · obtain ⟨r, hr, e⟩ := h2 j hj
    have := nxt_mono' hx hy (s := r) (s - r) (by omega)
    rw [show r + (s - r) = s by omega] at this
    omega
theorem left_ge (hx : asc x) (hy : asc y) {s : Nat} (hs : s < x.length + y.length) : ((path x y s).1 < x.length → nxt x y s ≤ (at3 x (path x y s).1).1) ∧ ((path x y s).2 < y.length → nxt x y s ≤ (at3 y (path x y s).2).1) := by
  rcases path_cases hs with ⟨g1, g2, g3, g4⟩ | ⟨g1, g2, g3, g4⟩
  · exact ⟨fun _ => by rw [g3]; exact Int.le_refl _, fun h => by rw [g3]; exact g4 h⟩
  · exact ⟨fun h => by rw [g3]; exact Int.le_of_lt (g4 h), fun _ => by rw [g3]; exact Int.le_refl _⟩
theorem Stands.lw_rk (h : Stands M1 a x) {i : Nat} (hi : i ≤ x.length) {v : Int} (hv : ∀ j < i, (at3 x j).1 ≤ v) : lw x i ≤ rk M1 v := by
  unfold lw
  split
  · have h1 := (h.2 (i - 1) (by omega)).2.1
    have := rk_mono M1 (hv (i - 1) (by omega))
    omega
  · exact rk_nn _ _
theorem Stands.bl_up (h : Stands M1 a x) {i : Nat} {v : Int} (hv : i < x.length → v ≤ (at3 x i).1) : bl M1 v ≤ up x a i := by
  unfold up
  split
  · rename_i hi
    have h1 := (h.2 i hi).2.2
    have := bl_mono M1 (hv hi)
    omega
  · have := bl_le M1 v; have := h.1; omega
theorem Stands.merge (h1 : Stands M1 a x) (h2 : Stands M2 b y) (hx : asc x) (hy : asc y) : Stands (M1 ++ M2) (a + b) (mergeL x y a b) := by
  refine ⟨by have := h1.1; have := h2.1; simp; omega, fun s hs => ?_⟩
  rw [merge_len] at hs
  rw [merge_at hs]
  obtain ⟨t1, t2⟩ := taken_le hx hy hs
  obtain ⟨l1, l2⟩ := left_ge hx hy hs
  obtain ⟨p1, p2, p3⟩ := path_le (x := x) (y := y) (s + 1) (by omega)
  have e1 := h1.lw_rk p1 t1
  have e2 := h2.lw_rk p2 t2
  have e3 := h1.bl_up l1
  have e4 := h2.bl_up l2
  simp only
  rw [rk_app, bl_app]
  refine ⟨?_, by omega, by omega⟩
  rcases path_cases hs with ⟨g1, g2, g3, g4⟩ | ⟨g1, g2, g3, g4⟩
  · rw [g3]; exact List.mem_append_left _ (h1.2 _ g2).1
  · rw [g3]; exact List.mem_append_right _ (h2.2 _ g2).1
theorem pruTo_mem {N b : Int} {es : L3} (h : 0 < es.length) : ∀ i, ∀ k < (pruTo N b es i).2.2.length, ∃ j < es.length, at3 (pruTo N b es i).2.2 k = at3 es j
  | 0, k, hk => absurd hk (by simp [pruTo])
  | i + 1, k, hk => by
    have ih := pruTo_mem (N := N) (b := b) h i
    obtain ⟨h1, h2⟩ := pruTo_lt (N := N) (b := b) h i
    rcases hp : pruTo N b es i with ⟨l, s, o⟩
    rw [hp] at ih h1 h2
    simp only at ih h1
    by_cases e : (place es (tgt N b i) s : Int) = l
    · rw [pruTo_same hp e] at hk ⊢; exact ih k hk
    · rw [pruTo_new hp e] at hk ⊢
      simp only [List.length_append, List.length_singleton] at hk ⊢
      by_cases e2 : k < o.length
      · rw [at3_app e2]; exact ih k e2
      · obtain rfl : k = o.length := by omega
        rw [at3_end]
        exact ⟨_, (place_lt h1).2, rfl⟩
theorem Stands.prune (h : Stands M N es) (h0 : 0 < es.length) (b : Int) : Stands M N (pruL N b es) := by
  unfold pruL
  split
  · exact h
  · refine ⟨h.1, fun k hk => ?_⟩
    obtain ⟨j, hj, e⟩ := pruTo_mem h0 _ k hk
    rw [e]
    exact h.2 j hj
end
end Go.Proofs.YtjapjfcennemeaaGreat.rnk
end
section
namespace Go.Proofs.YtjapjfcennemeaaGreat.rnk
open Go.Proofs.YtjapjfcennemeaaGreat.mem
set_option linter.unusedVariables false
def cutV (es : L3) (v : Int) : Nat := (es.takeWhile (fun e => decide (e.1 ≤ v))).length
theorem cutV_spec (v : Int) : ∀ es : L3, cutV es v ≤ es.length ∧ (∀ j < cutV es v, (at3 es j).1 ≤ v) ∧ (cutV es v < es.length → v < (at3 es (cutV es v)).1)
  | [] => ⟨Nat.le_refl _, fun j h => absurd h (Nat.not_lt_zero _), fun h => absurd h (Nat.not_lt_zero _)⟩
  | e :: es => by
    obtain ⟨h1, h2, h3⟩ := cutV_spec v es
    by_cases h : e.1 ≤ v
    · have hc : cutV (e :: es) v = cutV es v + 1 := by simp [cutV, List.takeWhile_cons, h]
      rw [hc]
      refine ⟨by simp; exact h1, fun j hj => ?_, fun hl => ?_⟩
      · cases j with
        | zero => exact h
        | succ j => exact h2 j (by omega)
      · exact h3 (by simpa using hl)
    · have hc : cutV (e :: es) v = 0 := by simp [cutV, List.takeWhile_cons, h]
      rw [hc]
      refine ⟨Nat.zero_le _, fun j hj => absurd hj (Nat.not_lt_zero _), fun _ => ?_⟩
      show v < e.1
      omega
theorem cutV_uniq {es : L3} {v : Int} {p : Nat} (hp : p ≤ es.length) (h1 : ∀ j < p, (at3 es j).1 ≤ v) (h2 : p < es.length → v < (at3 es p).1) : cutV es v = p := by
  obtain ⟨g1, g2, g3⟩ := cutV_spec v es
  rcases Nat.lt_trichotomy (cutV es v) p with h | h | h
  · have := g3 (by omega); have := h1 _ h; omega
  · exact h
  · have := h2 (by omega); have := g2 _ h; omega
def bnd6 (x y : Int) : Array Go.Value := #[.int .i64 x, .int .i64 1, .int .i64 ((x + y) / 2), .int .i64 1, .int .i64 y, .int .i64 1]
end Go.Proofs.YtjapjfcennemeaaGreat.rnk
end
