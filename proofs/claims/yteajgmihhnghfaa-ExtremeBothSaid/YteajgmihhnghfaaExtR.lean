/- Deques along a stream of items; the best value of a list. No program. -/
import Derived.Test.YteajgmihhnghfaaExtF
import Derived.Test.YteajgmihhnghfaaExtD
import Derived.Test.YteajgmihhnghfaaLive
namespace Go.Proofs.Yteajgmihhnghfaa.ext
open Go.Proofs.Yteajgmihhnghfaa.buk (at_)
open Go.Proofs.Yteajgmihhnghfaa.lst (expireL expireL_le)
set_option linter.unusedVariables false
def late (f : Int) (its : L2) : L2 := its.filter (fun q => decide (f ≤ q.1))
structure ERun (m : Bool) (ys : L2) (now v : Int) (its : L2) : Prop where
  kept : IsKept m (late (now - v + 1) its) ys
  bd : ∀ q ∈ its, 0 ≤ q.1 ∧ q.1 ≤ now ∧ -4096 ≤ q.2 ∧ q.2 ≤ 4096
theorem ERun.nil (m : Bool) (v : Int) : ERun m [] 0 v [] := ⟨⟨List.Pairwise.nil, fun x => ⟨fun h => absurd h List.not_mem_nil, fun h => absurd h.1 List.not_mem_nil⟩⟩, fun q h => absurd h List.not_mem_nil⟩
theorem ERun.mem {m : Bool} {ys its : L2} {now v : Int} (h : ERun m ys now v its) {q : Int × Int} (hq : q ∈ ys) : q ∈ its ∧ now - v + 1 ≤ q.1 := by
  have := ((h.kept.mem q).1 hq).1
  obtain ⟨a, b⟩ := List.mem_filter.1 this
  exact ⟨a, of_decide_eq_true b⟩
theorem ERun.val {m : Bool} {ys its : L2} {now v p : Int} (h : ERun m ys now v its) (h0 : 0 ≤ now ∧ now ≤ 16777216) (hv : 1 ≤ v ∧ v ≤ 1048576) (hp : 1 ≤ p ∧ p ≤ 65536) (hl : (ys.length : Int) ≤ p) : valE m v p now ys = true :=
  good_valE (mayB_iff.2 ⟨hv, hp, h0⟩) hl h.kept.good (fun q hq => by
    obtain ⟨a, b⟩ := h.mem hq
    have := h.bd q a
    exact ⟨clk.live_iff.2 (by omega), valB_iff.2 ⟨this.2.2.1, this.2.2.2⟩⟩)
theorem expire_late {f : Int} {xs : L2} (h : xs.Pairwise (fun a b => a.1 < b.1)) : expireL f xs = late f xs := by
  rw [expire_filter h]
  exact List.filter_congr (fun q _ => by
    by_cases hc : q.1 < f
    · rw [decide_eq_true hc, decide_eq_false (by omega)]; rfl
    · rw [decide_eq_false hc, decide_eq_true (by omega)]; rfl)
theorem late_late {f g : Int} (h : f ≤ g) (xs : L2) : late g (late f xs) = late g xs := by
  unfold late
  rw [List.filter_filter]
  exact List.filter_congr (fun q _ => by
    by_cases hc : g ≤ q.1
    · rw [decide_eq_true hc, decide_eq_true (by omega)]; rfl
    · rw [decide_eq_false hc]; rfl)
theorem ERun.adv {m : Bool} {ys its : L2} {now v t : Int} (h : ERun m ys now v its) (ht : now ≤ t) : ERun m (expireL (t - v + 1) ys) t v its := by
  have hg := h.kept.good
  refine ⟨?_, fun q hq => by have := h.bd q hq; omega⟩
  rw [expire_late (hg.imp (fun h => h.1))]
  have hc := h.kept.cov.late (t - v + 1)
  rw [← late_late (f := now - v + 1) (by omega)]
  exact Cov.kept hc (Good.kept (hg.sub List.filter_sublist))
theorem ERun.add {m : Bool} {ys its : L2} {now v x : Int} (h : ERun m ys now v its) (h0 : 0 ≤ now) (hv : 1 ≤ v) (hx : -4096 ≤ x ∧ x ≤ 4096) : ERun m (addL m x now ys) now v (its ++ [(now, x)]) := by
  refine ⟨?_, fun q hq => ?_⟩
  · have e : late (now - v + 1) (its ++ [(now, x)]) = late (now - v + 1) its ++ [(now, x)] := by
      unfold late
      rw [List.filter_append, List.filter_cons, if_pos (by simp; omega)]
      rfl
    rw [e]
    exact Cov.kept (h.kept.cov.append (Cov.refl _)) (add_kept h.kept.good (fun q hq => by have := h.bd q (h.mem hq).1; omega))
  · rcases List.mem_append.1 hq with hq | hq
    · exact h.bd q hq
    · obtain rfl := List.mem_singleton.1 hq
      exact ⟨h0, Int.le_refl _, hx.1, hx.2⟩
theorem late_live {its : L2} {now v : Int} (h : ∀ q ∈ its, q.1 ≤ now) : made.liveI now v its = late (now - v + 1) its := by
  unfold made.liveI late
  exact List.filter_congr (fun q hq => by
    have := h q hq
    rw [Bool.eq_iff_iff]
    simp
    omega)
theorem asc_len : ∀ {xs : L2} {a b : Int}, xs.Pairwise (fun x y => x.1 < y.1) → (∀ q ∈ xs, a ≤ q.1 ∧ q.1 < b) → a ≤ b → (xs.length : Int) ≤ b - a
  | [], a, b, _, _, h => by simp; omega
  | q :: r, a, b, hp, hb, h => by
    rw [List.pairwise_cons] at hp
    have h1 := hb q List.mem_cons_self
    have := asc_len (a := q.1 + 1) (b := b) hp.2 (fun x hx => by have := hp.1 x hx; have := hb x (List.mem_cons_of_mem _ hx); omega) (by omega)
    rw [List.length_cons]
    omega
theorem ERun.len {m : Bool} {ys its : L2} {now v : Int} (h : ERun m ys now v its) (hv : 0 ≤ v) : (ys.length : Int) ≤ v := by
  have := asc_len (a := now - v + 1) (b := now + 1) h.kept.asc (fun q hq => by have := h.mem hq; have := h.bd q this.1; omega) (by omega)
  omega
def bestN (m : Bool) (xs : L2) : Nat → Int
  | 0 => (at_ xs 0).2
  | i + 1 => if key m (bestN m xs i) < key m (at_ xs i).2 then (at_ xs i).2 else bestN m xs i
theorem bestN_succ (m : Bool) (xs : L2) (i : Nat) : bestN m xs (i + 1) = if key m (bestN m xs i) < key m (at_ xs i).2 then (at_ xs i).2 else bestN m xs i := rfl
theorem bestN_ge {m : Bool} {xs : L2} : ∀ {i j : Nat}, j < i → key m (at_ xs j).2 ≤ key m (bestN m xs i)
  | 0, j, h => absurd h (by omega)
  | i + 1, j, h => by
    rw [bestN_succ]
    by_cases hc : key m (bestN m xs i) < key m (at_ xs i).2
    · rw [if_pos hc]
      by_cases e : j = i
      · rw [e]; exact Int.le_refl _
      · have := bestN_ge (m := m) (xs := xs) (i := i) (j := j) (by omega); omega
    · rw [if_neg hc]
      by_cases e : j = i
      · rw [e]; omega
      · exact bestN_ge (by omega)
theorem bestN_mem {m : Bool} {xs : L2} (h0 : 0 < xs.length) : ∀ i, i ≤ xs.length → ∃ j, j < xs.length ∧ bestN m xs i = (at_ xs j).2
  | 0, _ => ⟨0, h0, rfl⟩
  | i + 1, h => by
    rw [bestN_succ]
    by_cases hc : key m (bestN m xs i) < key m (at_ xs i).2
    · rw [if_pos hc]; exact ⟨i, by omega, rfl⟩
    · rw [if_neg hc]; exact bestN_mem h0 i (by omega)
/-- The first item of what is kept has the best value. -/
theorem kept_best {m : Bool} {xs ys : L2} (h : IsKept m xs ys) : (at_ ys 0).2 = bestN m xs xs.length ∧ (ys.length = 0 ↔ xs.length = 0) := by
  have hc := h.cov
  by_cases h0 : 0 < xs.length
  · obtain ⟨j, hj, hb⟩ := bestN_mem (m := m) h0 xs.length (Nat.le_refl _)
    obtain ⟨y, hy, hd⟩ := hc.2 _ (at_mem hj)
    have hyl : 0 < ys.length := List.length_pos_of_mem hy
    obtain ⟨i, hi, e⟩ := mem_at hy
    have h1 : key m (at_ ys i).2 ≤ key m (at_ ys 0).2 := by
      by_cases e0 : i = 0
      · rw [e0]; exact Int.le_refl _
      · have := List.pairwise_iff_getElem.1 h.good 0 i hyl hi (by omega)
        rw [at_eq hi, at_eq hyl]
        omega
    have hm0 := hc.1 _ (at_mem hyl)
    obtain ⟨k, hk, ek⟩ := mem_at hm0
    have h2 := bestN_ge (m := m) (xs := xs) (i := xs.length) hk
    rw [ek] at h2
    rw [e] at h1
    have h3 := hd.2
    refine ⟨key_inj (m := m) (by rw [hb] at h2 ⊢; omega), by omega⟩
  · have e : xs = [] := List.eq_nil_of_length_eq_zero (by omega)
    subst e
    have e2 : ys = [] := List.eq_nil_iff_forall_not_mem.2 (fun q hq => absurd (hc.1 q hq) List.not_mem_nil)
    subst e2
    exact ⟨rfl, Iff.rfl⟩
end Go.Proofs.Yteajgmihhnghfaa.ext
