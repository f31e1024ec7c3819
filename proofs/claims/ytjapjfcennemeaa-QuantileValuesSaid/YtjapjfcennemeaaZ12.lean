/- NearL: proved here in one text, no conditions beyond those that each theorem states. -/
import Derived.Test.YtjapjfcennemeaaZ11
set_option linter.unusedVariables false
set_option linter.unusedSimpArgs false
namespace Go.Proofs.Ytjapjfcennemeaa.rnk
open Go.Proofs.Ytjapjfcennemeaa.mem Go.Proofs.Ytjapjfcennemeaa.buk
set_option linter.unusedVariables false
def expK (f : Int) (xs : List K5) : List K5 := xs.dropWhile (fun x => decide (x.1 < f))
theorem expK_drop (f : Int) : ∀ xs : List K5, ∃ i, expK f xs = xs.drop i
  | [] => ⟨0, rfl⟩
  | p :: r => by
    unfold expK
    rw [List.dropWhile_cons]
    split
    · obtain ⟨i, hi⟩ := expK_drop f r
      exact ⟨i + 1, by rw [List.drop_succ_cons]; exact hi⟩
    · exact ⟨0, rfl⟩
theorem plainK_drop (xs : List K5) (i : Nat) : plainK (xs.drop i) = (plainK xs).drop i := by simp [plainK]
theorem atK_drop (xs : List K5) (i j : Nat) : atK (xs.drop i) j = atK xs (i + j) := by simp [atK]
theorem lastK_nn {xs : List K5} {k b : Int} (h : validK xs k b = true) : 0 ≤ lastK xs := by
  unfold lastK
  split
  · exact Int.le_refl _
  · have h1 := (validB_iff.1 (validK_iff.1 h).2.1).2.1 (xs.length - 1) (by rw [plainK_length]; omega)
    rw [ordAt, at_plainK] at h1
    exact h1.1.1
theorem valid_drop {xs : List K5} {k b : Int} (h : validK xs k b = true) (i : Nat) : validK (xs.drop i) k b = true ∧ totalK (xs.drop i) ≤ totalK xs ∧ lastK (xs.drop i) ≤ lastK xs := by
  obtain ⟨hb, hv, ha⟩ := validK_iff.1 h
  have hp := validB_iff.1 hv
  have hp2 := drop_valid hp i
  rw [← plainK_drop] at hp2
  refine ⟨validK_iff.2 ⟨hb, validB_t hp2, fun j hj => ?_⟩, ?_, ?_⟩
  · rw [List.length_drop] at hj
    rw [atK_drop]; exact ha _ (by omega)
  · have h1 := wgt_tot hp.2.1
    have h2 := wgt_tot hp2.2.1
    have h3 := wgt_drop (plainK xs) i
    rw [← plainK_drop] at h3
    unfold totalK; omega
  · have h0 := lastK_nn h
    unfold lastK at h0 ⊢
    rw [List.length_drop]
    split
    · exact h0
    · rename_i hn
      rw [if_neg (by omega), atK_drop, show i + (xs.length - i - 1) = xs.length - 1 by omega]
      exact Int.le_refl _
theorem expK_first {f k b : Int} {xs : List K5} (h : validK xs k b = true) : ∀ x ∈ expK f xs, f ≤ x.1 := by
  have ho := (validB_iff.1 (validK_iff.1 h).2.1).2.1
  have hh : ∀ xs : List K5, ∀ q r, expK f xs = q :: r → f ≤ q.1 := by
    intro xs
    induction xs with
    | nil => intro q r h; simp [expK] at h
    | cons a az ih =>
      intro q r h
      unfold expK at h
      rw [List.dropWhile_cons] at h
      split at h
      · exact ih q r h
      · injection h with h1 h2; subst h1; rename_i h; simp at h; exact h
  obtain ⟨i, hi⟩ := expK_drop f xs
  intro x hx
  cases hz : expK f xs with
  | nil => rw [hz] at hx; cases hx
  | cons q r =>
    have hq := hh xs q r hz
    rw [hi] at hx hz
    obtain ⟨j, hj, rfl⟩ := List.getElem_of_mem hx
    rw [List.length_drop] at hj
    have mono : ∀ d a, a + d < xs.length → (atK xs a).1 ≤ (atK xs (a + d)).1 := by
      intro d
      induction d with
      | zero => intro a _; exact Int.le_refl _
      | succ d ih =>
        intro a hl
        have h1 := ih a (by omega)
        have h2 := ((ho (a + (d + 1)) (by rw [plainK_length]; exact hl)).2.2 (by omega)).1
        rw [at_plainK, at_plainK, show a + (d + 1) - 1 = a + d by omega] at h2
        exact Int.le_trans h1 h2
    have h1 := mono j i (by omega)
    have e0 : atK xs i = q := by
      have : (xs.drop i)[0]? = some q := by rw [hz]; rfl
      rw [List.getElem?_drop, Nat.add_zero] at this
      simp [atK, this]
    rw [List.getElem_drop, ← atK_eq (by omega)]
    rw [e0] at h1
    omega
theorem RepK.expire (f : Int) : ∀ {xs : List K5} {s : Its}, RepK xs s → s.Pairwise (fun p q => p.1 ≤ q.1) → ∃ d s', s = d ++ s' ∧ RepK (expK f xs) s' ∧ ∀ p ∈ d, p.1 < f
  | [], s, h, _ => ⟨[], s, rfl, h, fun p h => by simp at h⟩
  | x :: r, s, h, hs => by
    unfold expK
    rw [List.dropWhile_cons]
    split
    · rename_i hlt
      obtain ⟨g, u, rfl, a, b, e, c⟩ := h
      obtain ⟨d, s', rfl, h1, h2⟩ := RepK.expire f c (List.pairwise_append.1 hs).2.1
      refine ⟨g ++ d, s', (List.append_assoc ..).symm, h1, fun p hp => ?_⟩
      rcases List.mem_append.1 hp with h | h
      · obtain ⟨ys, rfl⟩ := List.getLast?_eq_some_iff.1 b
        simp at hlt
        rcases List.mem_append.1 h with h | h
        · have := (List.pairwise_append.1 (List.pairwise_append.1 hs).1).2.2 p h (x.1, x.2.1) (by simp)
          simp only at this
          omega
        · obtain rfl : p = (x.1, x.2.1) := by simpa using h
          exact hlt
      · exact h2 p h
    · exact ⟨[], s, rfl, h, fun p h => by simp at h⟩
theorem RepK.len : ∀ {xs : List K5} {s : Its}, RepK xs s → s.length = wgt (plainK xs)
  | [], s, h => by obtain rfl : s = [] := h; rfl
  | x :: r, s, h => by
    obtain ⟨g, u, rfl, a, b, d, c⟩ := h
    rw [List.length_append, a, c.len]; rfl
theorem joined_tick {xs : L2} {b : Nat} {l : Int} (hb : b + 1 < xs.length) {p : Int × Int} (hp : p ∈ joined xs b l) : ∃ q ∈ xs, q.1 = p.1 := by
  unfold buk.joined at hp
  rcases List.mem_append.1 hp with h | h
  · exact ⟨p, List.mem_of_mem_take h, rfl⟩
  · rcases List.mem_cons.1 h with rfl | h
    · exact ⟨xs[b + 1], List.getElem_mem _, by simp [at_, List.getElem?_eq_getElem hb]⟩
    · exact ⟨p, List.mem_of_mem_drop h, rfl⟩
theorem casc_ticks (k : Nat) : ∀ (f : Nat) (xs : L2) (l e : Nat), e ≤ xs.length → ∀ p ∈ casc k f xs l e, ∃ q ∈ xs, q.1 = p.1
  | 0, xs, _, _, _ => fun p h => ⟨p, h, rfl⟩
  | f + 1, xs, l, e, he => by
    by_cases h : e - runB xs l e < k + 2
    · rw [casc_stop h]; exact fun p h => ⟨p, h, rfl⟩
    · rw [casc_go h]
      have hb := runB_le xs l e
      have hj := joined_length (xs := xs) (b := runB xs l e) (l := l) (by omega)
      intro p hp
      obtain ⟨q, hq, e1⟩ := casc_ticks k f (joined xs (runB xs l e) l) (l + 1) (runB xs l e + 1) (by omega) p hp
      obtain ⟨q2, hq2, e2⟩ := joined_tick (by omega) hq
      exact ⟨q2, hq2, e2.trans e1⟩
theorem insC_ticks' (k : Nat) (t : Int) {xs : L2} {a : Int} (h : ∀ p ∈ xs, a < p.1) (ht : a < t) : ∀ p ∈ insC xs k t, a < p.1 := fun p hp => by
  obtain ⟨q, hq, e⟩ := casc_ticks k _ (xs ++ [(t, 0)]) 0 (xs.length + 1) (by simp) p hp
  rcases List.mem_append.1 hq with h1 | h1
  · have := h q h1; omega
  · obtain rfl : q = (t, 0) := by simpa using h1
    simp at e; omega
structure RunB (xs : List K5) (k b w now : Int) (its : Its) : Prop where
  valid : validK xs k b = true
  live : ∀ x ∈ xs, now - w < x.1
  last : lastK xs ≤ now
  pos : 0 ≤ now
  srt : its.Pairwise (fun p q => p.1 ≤ q.1)
  bd : ∀ p ∈ its, 0 ≤ p.1 ∧ p.1 ≤ now
  rep : ∃ d s, its = d ++ s ∧ RepK xs s ∧ ∀ p ∈ d, p.1 ≤ now - w
section
variable {xs : List K5} {k b w now : Int} {its : Its}
theorem RunB.nil (hk : 1 ≤ k ∧ k ≤ 128) (hb : 1 ≤ b ∧ b ≤ 65536) (w : Int) {now : Int} (h0 : 0 ≤ now) : RunB [] k b w now [] := ⟨validK_nil hk hb, by simp, by unfold lastK; simpa using h0, h0, .nil, by simp, [], [], rfl, rfl, by simp⟩
theorem RunB.total (h : RunB xs k b w now its) : totalK xs ≤ its.length := by
  obtain ⟨d, s, rfl, h1, _⟩ := h.rep
  have h2 := h1.len
  have h3 := wgt_tot (validB_iff.1 (validK_iff.1 h.valid).2.1).2.1
  unfold totalK
  rw [List.length_append]; omega
theorem RunB.adv (h : RunB xs k b w now its) {T : Int} (hT : now ≤ T) : RunB (expK (T - w + 1) xs) k b w T its := by
  obtain ⟨i, hi⟩ := expK_drop (T - w + 1) xs
  obtain ⟨v1, v2, v3⟩ := valid_drop h.valid i
  rw [← hi] at v1 v2 v3
  refine ⟨v1, fun x hx => by have := expK_first h.valid x hx; omega, by have := h.last; omega, by have := h.pos; omega, h.srt, fun p hp => by have := h.bd p hp; omega, ?_⟩
  obtain ⟨d, s, e, h1, h2⟩ := h.rep
  have hs := h.srt
  rw [e] at hs
  obtain ⟨d', s', e', h3, h4⟩ := h1.expire (T - w + 1) (List.pairwise_append.1 hs).2.1
  refine ⟨d ++ d', s', by rw [e, e', List.append_assoc], h3, fun p hp => ?_⟩
  rcases List.mem_append.1 hp with hp | hp
  · have := h2 p hp; omega
  · have := h4 p hp; omega
theorem RunB.may (h : RunB xs k b w now its) {v : Int} (hn : now ≤ 16777216) (hv : -4096 ≤ v ∧ v ≤ 4096) (hl : its.length ≤ 1000000) : mayK xs k b now v = true :=
  mayK_iff2.2 ⟨h.valid, ⟨h.pos, hn⟩, h.last, hv, by have := h.total; omega⟩
theorem RunB.ins (h : RunB xs k b w now its) {v : Int} (hw : 1 ≤ w) (hn : now ≤ 16777216) (hv : -4096 ≤ v ∧ v ≤ 4096) (hl : its.length ≤ 1000000) : RunB (insKC xs k.toNat b now v) k b w now (its ++ [(now, v)]) := by
  have hm := h.may hn hv hl
  obtain ⟨g1, g2, g3, g4⟩ := insKC_ok hm
  obtain ⟨d, s, e, h1, h2⟩ := h.rep
  have hr := ins_rep hm h1
  have hlive : ∀ x ∈ insKC xs k.toNat b now v, now - w < x.1 := by
    intro x hx
    have hpl := insKC_plain xs k.toNat b now v
    have := insC_ticks' (xs := plainK xs) k.toNat now (a := now - w) (fun p hp => by
      unfold plainK at hp
      obtain ⟨y, hy, rfl⟩ := List.mem_map.1 hp
      exact h.live y hy) (by omega)
    rw [hpl] at this
    exact this (x.1, x.2.2.1) (List.mem_map.2 ⟨x, hx, rfl⟩)
  refine ⟨g1, hlive, by rw [g3]; exact Int.le_refl _, h.pos, ?_, ?_, d, s ++ [(now, v)], by rw [e, List.append_assoc], hr, h2⟩
  · rw [List.pairwise_append]
    refine ⟨h.srt, by simp, fun p hp q hq => ?_⟩
    obtain rfl : q = (now, v) := by simpa using hq
    exact (h.bd p hp).2
  · intro p hp
    rcases List.mem_append.1 hp with hp | hp
    · exact h.bd p hp
    · obtain rfl : p = (now, v) := by simpa using hp
      exact ⟨h.pos, Int.le_refl _⟩
def liveV (now w : Int) (its : Its) : List Int := (its.filter fun p => decide (now - w < p.1) && decide (p.1 ≤ now)).map Prod.snd
theorem RunB.near {x : K5} {r : List K5} (h : RunB (x :: r) k b w now its) (hl : its.length ≤ 1000000) :
    ∃ N es z, sureK (x :: r) = ((N, es), 0) ∧ valR N es = true ∧ 0 < es.length ∧ (0 ≤ x.2.2.1 ∧ x.2.2.1 ≤ 30) ∧ ∃ M, Stands M N es ∧ (∀ y ∈ M, y ∈ liveV now w its) ∧ (z : Int) ≤ 2 ^ x.2.2.1.toNat - 1 ∧ 0 ≤ z ∧ ((liveV now w its).length : Int) = N + z ∧
      (∀ v, rk M v ≤ rk (liveV now w its) v ∧ rk (liveV now w its) v ≤ rk M v + z ∧ bl M v ≤ bl (liveV now w its) v ∧ bl (liveV now w its) v ≤ bl M v + z) ∧ N = 1 + numK r ∧ gapTo es (es.length - 1) - 1 ≤ slack b r := by
  obtain ⟨d, s, e, h1, h2⟩ := h.rep
  obtain ⟨g, u, N, es, rfl, a, bb, c, hlv, q1, q2, q3, q4, q5, q6⟩ := sure_valid h.valid h1 (by have := h.total; omega)
  obtain ⟨ys, rfl⟩ := List.getLast?_eq_some_iff.1 bb
  have hx := h.live x (List.mem_cons_self ..)
  have hsrt := h.srt
  rw [e] at hsrt
  have hs1 := (List.pairwise_append.1 hsrt).2.1
  have hu : ∀ p ∈ u, now - w < p.1 := fun p hp => by
    have := (List.pairwise_append.1 hs1).2.2 (x.1, x.2.1) (by simp) p hp
    simp only at this; omega
  have hbd := h.bd
  rw [e] at hbd
  have e1 : d.filter (fun p => decide (now - w < p.1) && decide (p.1 ≤ now)) = [] := by
    rw [List.filter_eq_nil_iff]; intro p hp; have := h2 p hp; simp; omega
  have e2 : u.filter (fun p => decide (now - w < p.1) && decide (p.1 ≤ now)) = u := by
    rw [List.filter_eq_self]; intro p hp; have := hu p hp; have := (hbd p (by simp [hp])).2; simp; omega
  have e3 : [(x.1, x.2.1)].filter (fun p => decide (now - w < p.1) && decide (p.1 ≤ now)) = [(x.1, x.2.1)] := by
    rw [List.filter_eq_self]; intro p hp; obtain rfl : p = (x.1, x.2.1) := by simpa using hp
    have := (hbd (x.1, x.2.1) (by simp)).2; simp at this ⊢; omega
  obtain ⟨F, hF⟩ : ∃ F, ys.filter (fun p => decide (now - w < p.1) && decide (p.1 ≤ now)) = F := ⟨_, rfl⟩
  have hFl : F.length ≤ ys.length := by rw [← hF]; exact List.length_filter_le _ _
  have hL : liveV now w its = F.map Prod.snd ++ ([x.2.1] ++ u.map Prod.snd) := by
    unfold liveV
    rw [e, List.filter_append, e1, List.nil_append, List.filter_append, List.filter_append, e2, e3, hF]
    simp
  have hyl : ((ys.length : Nat) : Int) + 1 = 2 ^ x.2.2.1.toNat := by
    rw [List.length_append] at a
    have : ((ys.length + 1 : Nat) : Int) = ((2 ^ x.2.2.1.toNat : Nat) : Int) := by rw [← a]; rfl
    simpa using this
  refine ⟨N, es, F.length, q1, q2, q3, hlv, [x.2.1] ++ u.map Prod.snd, q4, ?_, by omega, by omega, ?_, ?_, q5, q6⟩
  · rw [hL]; intro y hy; exact List.mem_append_right _ hy
  · rw [hL, List.length_append, List.length_map]
    have := q4.1; omega
  · intro v
    rw [hL, rk_app (F.map Prod.snd), bl_app (F.map Prod.snd)]
    have f1 := rk_nn (F.map Prod.snd) v
    have f2 := rk_le (F.map Prod.snd) v
    have f3 := bl_nn (F.map Prod.snd) v
    have f4 := bl_le (F.map Prod.snd) v
    rw [List.length_map] at f2 f4
    omega
theorem RunB.empty (h : RunB [] k b w now its) : liveV now w its = [] := by
  obtain ⟨d, s, e, h1, h2⟩ := h.rep
  obtain rfl : s = [] := h1
  unfold liveV
  rw [e, List.append_nil]
  have : d.filter (fun p => decide (now - w < p.1) && decide (p.1 ≤ now)) = [] := by
    rw [List.filter_eq_nil_iff]; intro p hp; have := h2 p hp; simp; omega
  rw [this]; rfl
end
end Go.Proofs.Ytjapjfcennemeaa.rnk
