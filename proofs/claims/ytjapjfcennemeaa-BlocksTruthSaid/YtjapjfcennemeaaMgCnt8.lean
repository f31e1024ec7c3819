/- NearL; TruL; Cnt8: texts in one. -/
import Derived.Test.YtjapjfcennemeaaMgSurL
import Derived.Test.YtjapjfcennemeaaMgSurR
import Derived.Test.YtjapjfcennemeaaMgRAskR
import Derived.Test.YtjapjfcennemeaaMgBox
import Derived.LoopN
set_option linter.unusedVariables false
set_option linter.unusedSimpArgs false
/- Plain: a window of blocks along a stream: its live values lie near those of the sure summary. No program. -/
namespace Go.Proofs.Ytjapjfcennemeaa.rnk
open Go.Proofs.Ytjapjfcennemeaa.mem Go.Proofs.Ytjapjfcennemeaa.buk
set_option linter.unusedVariables false
def expK (f : Int) (xs : List K5) : List K5 := xs.dropWhile (fun x => decide (x.1 < f))
theorem expK_drop (f : Int) : ∀ xs : List K5, ∃ i, expK f xs = xs.drop i
  | [] => ⟨0, rfl⟩
  | p :: r => by
    unfold expK
    rw [List.dropWhile_cons]
    split
    · obtain ⟨i, hi⟩ := expK_drop f r
      exact ⟨i + 1, by rw [List.drop_succ_cons]; exact hi⟩
    · exact ⟨0, rfl⟩
theorem plainK_drop (xs : List K5) (i : Nat) : plainK (xs.drop i) = (plainK xs).drop i := by simp [plainK]
theorem atK_drop (xs : List K5) (i j : Nat) : atK (xs.drop i) j = atK xs (i + j) := by simp [atK]
theorem lastK_nn {xs : List K5} {k b : Int} (h : validK xs k b = true) : 0 ≤ lastK xs := by
  unfold lastK
  split
  · exact Int.le_refl _
  · have h1 := (validB_iff.1 (validK_iff.1 h).2.1).2.1 (xs.length - 1) (by rw [plainK_length]; omega)
    rw [ordAt, at_plainK] at h1
    exact h1.1.1
theorem valid_drop {xs : List K5} {k b : Int} (h : validK xs k b = true) (i : Nat) : validK (xs.drop i) k b = true ∧ totalK (xs.drop i) ≤ totalK xs ∧ lastK (xs.drop i) ≤ lastK xs := by
  obtain ⟨hb, hv, ha⟩ := validK_iff.1 h
  have hp := validB_iff.1 hv
  have hp2 := drop_valid hp i
  rw [← plainK_drop] at hp2
  refine ⟨validK_iff.2 ⟨hb, validB_t hp2, fun j hj => ?_⟩, ?_, ?_⟩
  · rw [List.length_drop] at hj
    rw [atK_drop]; exact ha _ (by omega)
  · have h1 := wgt_tot hp.2.1
    have h2 := wgt_tot hp2.2.1
    have h3 := wgt_drop (plainK xs) i
    rw [← plainK_drop] at h3
    unfold totalK; omega
  · have h0 := lastK_nn h
    unfold lastK at h0 ⊢
    rw [List.length_drop]
    split
    · exact h0
    · rename_i hn
      rw [if_neg (by omega), atK_drop, show i + (xs.length - i - 1) = xs.length - 1 by omega]
      exact Int.le_refl _
theorem expK_first {f k b : Int} {xs : List K5} (h : validK xs k b = true) : ∀ x ∈ expK f xs, f ≤ x.1 := by
  have ho := (validB_iff.1 (validK_iff.1 h).2.1).2.1
  have hh : ∀ xs : List K5, ∀ q r, expK f xs = q :: r → f ≤ q.1 := by
    intro xs
    induction xs with
    | nil => intro q r h; simp [expK] at h
    | cons a az ih =>
      intro q r h
      unfold expK at h
      rw [List.dropWhile_cons] at h
      split at h
      · exact ih q r h
      · injection h with h1 h2; subst h1; rename_i h; simp at h; exact h
  obtain ⟨i, hi⟩ := expK_drop f xs
  intro x hx
  cases hz : expK f xs with
  | nil => rw [hz] at hx; cases hx
  | cons q r =>
    have hq := hh xs q r hz
    rw [hi] at hx hz
    obtain ⟨j, hj, rfl⟩ := List.getElem_of_mem hx
    rw [List.length_drop] at hj
    have mono : ∀ d a, a + d < xs.length → (atK xs a).1 ≤ (atK xs (a + d)).1 := by
      intro d
      induction d with
      | zero => intro a _; exact Int.le_refl _
      | succ d ih =>
        intro a hl
        have h1 := ih a (by omega)
        have h2 := ((ho (a + (d + 1)) (by rw [plainK_length]; exact hl)).2.2 (by omega)).1
        rw [at_plainK, at_plainK, show a + (d + 1) - 1 = a + d by omega] at h2
        exact Int.le_trans h1 h2
    have h1 := mono j i (by omega)
    have e0 : atK xs i = q := by
      have : (xs.drop i)[0]? = some q := by rw [hz]; rfl
      rw [List.getElem?_drop, Nat.add_zero] at this
      simp [atK, this]
    rw [List.getElem_drop, ← atK_eq (by omega)]
    rw [e0] at h1
    omega
theorem RepK.expire (f : Int) : ∀ {xs : List K5} {s : Its}, RepK xs s → s.Pairwise (fun p q => p.1 ≤ q.1) → ∃ d s', s = d ++ s' ∧ RepK (expK f xs) s' ∧ ∀ p ∈ d, p.1 < f
  | [], s, h, _ => ⟨[], s, rfl, h, fun p h => by simp at h⟩
  | x :: r, s, h, hs => by
    unfold expK
    rw [List.dropWhile_cons]
    split
    · rename_i hlt
      obtain ⟨g, u, rfl, a, b, e, c⟩ := h
      obtain ⟨d, s', rfl, h1, h2⟩ := RepK.expire f c (List.pairwise_append.1 hs).2.1
      refine ⟨g ++ d, s', (List.append_assoc ..).symm, h1, fun p hp => ?_⟩
      rcases List.mem_append.1 hp with h | h
      · obtain ⟨ys, rfl⟩ := List.getLast?_eq_some_iff.1 b
        simp at hlt
        rcases List.mem_append.1 h with h | h
        · have := (List.pairwise_append.1 (List.pairwise_append.1 hs).1).2.2 p h (x.1, x.2.1) (by simp)
          simp only at this
          omega
        · obtain rfl : p = (x.1, x.2.1) := by simpa using h
          exact hlt
      · exact h2 p h
    · exact ⟨[], s, rfl, h, fun p h => by simp at h⟩
theorem RepK.len : ∀ {xs : List K5} {s : Its}, RepK xs s → s.length = wgt (plainK xs)
  | [], s, h => by obtain rfl : s = [] := h; rfl
  | x :: r, s, h => by
    obtain ⟨g, u, rfl, a, b, d, c⟩ := h
    rw [List.length_append, a, c.len]; rfl
theorem joined_tick {xs : L2} {b : Nat} {l : Int} (hb : b + 1 < xs.length) {p : Int × Int} (hp : p ∈ joined xs b l) : ∃ q ∈ xs, q.1 = p.1 := by
  unfold buk.joined at hp
  rcases List.mem_append.1 hp with h | h
  · exact ⟨p, List.mem_of_mem_take h, rfl⟩
  · rcases List.mem_cons.1 h with rfl | h
    · exact ⟨xs[b + 1], List.getElem_mem _, by simp [at_, List.getElem?_eq_getElem hb]⟩
    · exact ⟨p, List.mem_of_mem_drop h, rfl⟩
theorem casc_ticks (k : Nat) : ∀ (f : Nat) (xs : L2) (l e : Nat), e ≤ xs.length → ∀ p ∈ casc k f xs l e, ∃ q ∈ xs, q.1 = p.1
  | 0, xs, _, _, _ => fun p h => ⟨p, h, rfl⟩
  | f + 1, xs, l, e, he => by
    by_cases h : e - runB xs l e < k + 2
    · rw [casc_stop h]; exact fun p h => ⟨p, h, rfl⟩
    · rw [casc_go h]
      have hb := runB_le xs l e
      have hj := joined_length (xs := xs) (b := runB xs l e) (l := l) (by omega)
      intro p hp
      obtain ⟨q, hq, e1⟩ := casc_ticks k f (joined xs (runB xs l e) l) (l + 1) (runB xs l e + 1) (by omega) p hp
      obtain ⟨q2, hq2, e2⟩ := joined_tick (by omega) hq
      exact ⟨q2, hq2, e2.trans e1⟩
theorem insC_ticks' (k : Nat) (t : Int) {xs : L2} {a : Int} (h : ∀ p ∈ xs, a < p.1) (ht : a < t) : ∀ p ∈ insC xs k t, a < p.1 := fun p hp => by
  obtain ⟨q, hq, e⟩ := casc_ticks k _ (xs ++ [(t, 0)]) 0 (xs.length + 1) (by simp) p hp
  rcases List.mem_append.1 hq with h1 | h1
  · have := h q h1; omega
  · obtain rfl : q = (t, 0) := by simpa using h1
    simp at e; omega
/-- A list of blocks in a window, and all items that were added. -/
structure RunB (xs : List K5) (k b w now : Int) (its : Its) : Prop where
  valid : validK xs k b = true
  live : ∀ x ∈ xs, now - w < x.1
  last : lastK xs ≤ now
  pos : 0 ≤ now
  srt : its.Pairwise (fun p q => p.1 ≤ q.1)
  bd : ∀ p ∈ its, 0 ≤ p.1 ∧ p.1 ≤ now
  rep : ∃ d s, its = d ++ s ∧ RepK xs s ∧ ∀ p ∈ d, p.1 ≤ now - w
section
variable {xs : List K5} {k b w now : Int} {its : Its}
theorem RunB.nil (hk : 1 ≤ k ∧ k ≤ 128) (hb : 1 ≤ b ∧ b ≤ 65536) (w : Int) {now : Int} (h0 : 0 ≤ now) : RunB [] k b w now [] := ⟨validK_nil hk hb, by simp, by unfold lastK; simpa using h0, h0, .nil, by simp, [], [], rfl, rfl, by simp⟩
theorem RunB.total (h : RunB xs k b w now its) : totalK xs ≤ its.length := by
  obtain ⟨d, s, rfl, h1, _⟩ := h.rep
  have h2 := h1.len
  have h3 := wgt_tot (validB_iff.1 (validK_iff.1 h.valid).2.1).2.1
  unfold totalK
  rw [List.length_append]; omega
theorem RunB.adv (h : RunB xs k b w now its) {T : Int} (hT : now ≤ T) : RunB (expK (T - w + 1) xs) k b w T its := by
  obtain ⟨i, hi⟩ := expK_drop (T - w + 1) xs
  obtain ⟨v1, v2, v3⟩ := valid_drop h.valid i
  rw [← hi] at v1 v2 v3
  refine ⟨v1, fun x hx => by have := expK_first h.valid x hx; omega, by have := h.last; omega, by have := h.pos; omega, h.srt, fun p hp => by have := h.bd p hp; omega, ?_⟩
  obtain ⟨d, s, e, h1, h2⟩ := h.rep
  have hs := h.srt
  rw [e] at hs
  obtain ⟨d', s', e', h3, h4⟩ := h1.expire (T - w + 1) (List.pairwise_append.1 hs).2.1
  refine ⟨d ++ d', s', by rw [e, e', List.append_assoc], h3, fun p hp => ?_⟩
  rcases List.mem_append.1 hp with hp | hp
  · have := h2 p hp; omega
  · have := h4 p hp; omega
theorem RunB.may (h : RunB xs k b w now its) {v : Int} (hn : now ≤ 16777216) (hv : -4096 ≤ v ∧ v ≤ 4096) (hl : its.length ≤ 1000000) : mayK xs k b now v = true :=
  mayK_iff2.2 ⟨h.valid, ⟨h.pos, hn⟩, h.last, hv, by have := h.total; omega⟩
theorem RunB.ins (h : RunB xs k b w now its) {v : Int} (hw : 1 ≤ w) (hn : now ≤ 16777216) (hv : -4096 ≤ v ∧ v ≤ 4096) (hl : its.length ≤ 1000000) : RunB (insKC xs k.toNat b now v) k b w now (its ++ [(now, v)]) := by
  have hm := h.may hn hv hl
  obtain ⟨g1, g2, g3, g4⟩ := insKC_ok hm
  obtain ⟨d, s, e, h1, h2⟩ := h.rep
  have hr := ins_rep hm h1
  have hlive : ∀ x ∈ insKC xs k.toNat b now v, now - w < x.1 := by
    intro x hx
    have hpl := insKC_plain xs k.toNat b now v
    have := insC_ticks' (xs := plainK xs) k.toNat now (a := now - w) (fun p hp => by
      unfold plainK at hp
      obtain ⟨y, hy, rfl⟩ := List.mem_map.1 hp
      exact h.live y hy) (by omega)
    rw [hpl] at this
    exact this (x.1, x.2.2.1) (List.mem_map.2 ⟨x, hx, rfl⟩)
  refine ⟨g1, hlive, by rw [g3]; exact Int.le_refl _, h.pos, ?_, ?_, d, s ++ [(now, v)], by rw [e, List.append_assoc], hr, h2⟩
  · rw [List.pairwise_append]
    refine ⟨h.srt, by simp, fun p hp q hq => ?_⟩
    obtain rfl : q = (now, v) := by simpa using hq
    exact (h.bd p hp).2
  · intro p hp
    rcases List.mem_append.1 hp with hp | hp
    · exact h.bd p hp
    · obtain rfl : p = (now, v) := by simpa using hp
      exact ⟨h.pos, Int.le_refl _⟩
/-- The live values. -/
def liveV (now w : Int) (its : Its) : List Int := (its.filter fun p => decide (now - w < p.1) && decide (p.1 ≤ now)).map Prod.snd
theorem RunB.near {x : K5} {r : List K5} (h : RunB (x :: r) k b w now its) (hl : its.length ≤ 1000000) :
    ∃ N es z, sureK (x :: r) = ((N, es), 0) ∧ valR N es = true ∧ 0 < es.length ∧ (0 ≤ x.2.2.1 ∧ x.2.2.1 ≤ 30) ∧ ∃ M, Stands M N es ∧ (∀ y ∈ M, y ∈ liveV now w its) ∧ (z : Int) ≤ 2 ^ x.2.2.1.toNat - 1 ∧ 0 ≤ z ∧ ((liveV now w its).length : Int) = N + z ∧
      (∀ v, rk M v ≤ rk (liveV now w its) v ∧ rk (liveV now w its) v ≤ rk M v + z ∧ bl M v ≤ bl (liveV now w its) v ∧ bl (liveV now w its) v ≤ bl M v + z) ∧ N = 1 + numK r ∧ gapTo es (es.length - 1) - 1 ≤ slack b r := by
  obtain ⟨d, s, e, h1, h2⟩ := h.rep
  obtain ⟨g, u, N, es, rfl, a, bb, c, hlv, q1, q2, q3, q4, q5, q6⟩ := sure_valid h.valid h1 (by have := h.total; omega)
  obtain ⟨ys, rfl⟩ := List.getLast?_eq_some_iff.1 bb
  have hx := h.live x (List.mem_cons_self ..)
  have hsrt := h.srt
  rw [e] at hsrt
  have hs1 := (List.pairwise_append.1 hsrt).2.1
  have hu : ∀ p ∈ u, now - w < p.1 := fun p hp => by
    have := (List.pairwise_append.1 hs1).2.2 (x.1, x.2.1) (by simp) p hp
    simp only at this; omega
  have hbd := h.bd
  rw [e] at hbd
  have e1 : d.filter (fun p => decide (now - w < p.1) && decide (p.1 ≤ now)) = [] := by
    rw [List.filter_eq_nil_iff]; intro p hp; have := h2 p hp; simp; omega
  have e2 : u.filter (fun p => decide (now - w < p.1) && decide (p.1 ≤ now)) = u := by
    rw [List.filter_eq_self]; intro p hp; have := hu p hp; have := (hbd p (by simp [hp])).2; simp; omega
  have e3 : [(x.1, x.2.1)].filter (fun p => decide (now - w < p.1) && decide (p.1 ≤ now)) = [(x.1, x.2.1)] := by
    rw [List.filter_eq_self]; intro p hp; obtain rfl : p = (x.1, x.2.1) := by simpa using hp
    have := (hbd (x.1, x.2.1) (by simp)).2; simp at this ⊢; omega
  obtain ⟨F, hF⟩ : ∃ F, ys.filter (fun p => decide (now - w < p.1) && decide (p.1 ≤ now)) = F := ⟨_, rfl⟩
  have hFl : F.length ≤ ys.length := by rw [← hF]; exact List.length_filter_le _ _
  have hL : liveV now w its = F.map Prod.snd ++ ([x.2.1] ++ u.map Prod.snd) := by
    unfold liveV
    rw [e, List.filter_append, e1, List.nil_append, List.filter_append, List.filter_append, e2, e3, hF]
    simp
  have hyl : ((ys.length : Nat) : Int) + 1 = 2 ^ x.2.2.1.toNat := by
    rw [List.length_append] at a
    have : ((ys.length + 1 : Nat) : Int) = ((2 ^ x.2.2.1.toNat : Nat) : Int) := by rw [← a]; rfl
    simpa using this
  refine ⟨N, es, F.length, q1, q2, q3, hlv, [x.2.1] ++ u.map Prod.snd, q4, ?_, by omega, by omega, ?_, ?_, q5, q6⟩
  · rw [hL]; intro y hy; exact List.mem_append_right _ hy
  · rw [hL, List.length_append, List.length_map]
    have := q4.1; omega
  · intro v
    rw [hL, rk_app (F.map Prod.snd), bl_app (F.map Prod.snd)]
    have f1 := rk_nn (F.map Prod.snd) v
    have f2 := rk_le (F.map Prod.snd) v
    have f3 := bl_nn (F.map Prod.snd) v
    have f4 := bl_le (F.map Prod.snd) v
    rw [List.length_map] at f2 f4
    omega
theorem RunB.empty (h : RunB [] k b w now its) : liveV now w its = [] := by
  obtain ⟨d, s, e, h1, h2⟩ := h.rep
  obtain rfl : s = [] := h1
  unfold liveV
  rw [e, List.append_nil]
  have : d.filter (fun p => decide (now - w < p.1) && decide (p.1 ≤ now)) = [] := by
    rw [List.filter_eq_nil_iff]; intro p hp; have := h2 p hp; simp; omega
  rw [this]; rfl
end
end Go.Proofs.Ytjapjfcennemeaa.rnk

/- Plain: after insertions and an expiry the ranks lie within the bounds, a quantile is near. No program. -/
namespace Go.Proofs.Ytjapjfcennemeaa.rnk
open Go.Proofs.Ytjapjfcennemeaa.mem Go.Proofs.Ytjapjfcennemeaa.buk
set_option linter.unusedVariables false
theorem tgt_near {p q N z : Int} (ha : asksQ p q) (hN : 1 ≤ N) (hz : 0 ≤ z) : (if 0 < p then tgtQ p q (N + z) else 0) ≤ tgtQ p q N + z ∧ tgtQ p q N ≤ (if 0 < p then tgtQ p q (N + z) else 0) + 1 ∧ 0 ≤ (if 0 < p then tgtQ p q (N + z) else 0) := by
  obtain ⟨h1, h2, h3⟩ := ha
  have e1 : p * (N + z) = p * N + p * z := Int.mul_add _ _ _
  have hpz : 0 ≤ p * z := Int.mul_nonneg h2 hz
  have hqz : p * z ≤ q * z := Int.mul_le_mul_of_nonneg_right h3 hz
  have m1 : (p * N + q - 1) / q ≤ (p * (N + z) + q - 1) / q := Int.ediv_le_ediv (by omega) (by omega)
  have m2 : (p * (N + z) + q - 1) / q ≤ (p * N + q - 1) / q + z := by
    have : (p * N + q - 1 + q * z) / q = (p * N + q - 1) / q + z := Int.add_mul_ediv_left _ _ (by omega)
    rw [← this]
    exact Int.ediv_le_ediv (by omega) (by omega)
  unfold tgtQ
  by_cases hp : 0 < p
  · rw [if_pos hp]
    have hpN : 1 ≤ p * N := by have := Int.mul_le_mul (show (1 : Int) ≤ p by omega) hN (by omega) (by omega); omega
    have h5 : 1 ≤ (p * N + q - 1) / q := (Int.le_ediv_iff_mul_le (by omega)).2 (by omega)
    omega
  · rw [if_neg hp]
    obtain rfl : p = 0 := by omega
    have h5 : (0 * N + q - 1) / q = 0 := Int.ediv_eq_zero_of_lt (by omega) (by omega)
    omega
section
variable {xs : List K5} {k b w now : Int} {its : Its}
def wantT (p q n : Int) : Int := if 0 < p then tgtQ p q n else 0
theorem truth_near {x : K5} {r : List K5} (h : RunB (x :: r) k b w now its) (hl : its.length ≤ 1000000) {p q : Int} (ha : asksQ p q) :
    ∃ N es u, sureK (x :: r) = ((N, es), 0) ∧ valR N es = true ∧ 1 ≤ N ∧ (0 ≤ x.2.2.1 ∧ x.2.2.1 ≤ 30) ∧ N ≤ ((liveV now w its).length : Int) ∧ quaV N es p q = (u, 0) ∧
      (∀ v, lw es (cutV es v) ≤ rk (liveV now w its) v ∧ rk (liveV now w its) v ≤ up es N (cutV es v) + 2 ^ x.2.2.1.toNat - 1) ∧
      bl (liveV now w its) u + 1 ≤ rk (liveV now w its) u ∧ bl (liveV now w its) u + 1 ≤ wantT p q (liveV now w its).length + (gapR N es / 2 + 2 ^ x.2.2.1.toNat) ∧ wantT p q (liveV now w its).length - (gapR N es / 2 + 2 ^ x.2.2.1.toNat) ≤ rk (liveV now w its) u := by
  obtain ⟨N, es, z, q1, q2, q3, q4, M, q5, q6, q7, q8, q9, q10, q11, q12⟩ := h.near hl
  generalize liveV now w its = L at *
  have hv := (valR_iff.1 q2).1
  have hN : 1 ≤ N := by omega
  have hT := tgtQ_bd ha hN
  have hf := near_for q2 q3 hT.1 hT.2
  have hpl := place_lt (es := es) (n := tgtQ p q N) (s := 0) q3
  rw [place_forN q2 q3] at hpl
  refine ⟨N, es, (at3 es (forN es (tgtQ p q N))).1, q1, q2, hN, q4, by omega, ?_, fun v => ?_, ?_⟩
  · unfold quaV
    rw [if_pos q2, if_pos ha, if_neg (by omega), place_forN q2 q3]
  · obtain ⟨c1, c2, c3⟩ := cutV_spec v es
    have hr := q5.ranks c1 c2 c3
    have := q10 v
    omega
  · obtain ⟨s1, s2, s3⟩ := q5.2 _ hpl.2
    have hg : gapR N es = gapTo es (es.length - 1) := by unfold gapR; rw [if_pos ⟨q2, q3⟩]
    have hb := bl_mem (q6 _ s1)
    have h10 := q10 (at3 es (forN es (tgtQ p q N))).1
    have ht := tgt_near ha hN q8
    rw [hg, q9]
    unfold wantT
    unfold far at hf
    generalize (if 0 < p then tgtQ p q (N + z) else 0) = T at *
    generalize tgtQ p q N = t at *
    generalize (at3 es (forN es t)).2.1 = mn at *
    generalize (at3 es (forN es t)).2.2 = mx at *
    generalize (at3 es (forN es t)).1 = u at *
    generalize gapTo es (es.length - 1) = G at *
    generalize (2 : Int) ^ x.2.2.1.toNat = P at *
    omega
end
/-- What an expiry leaves, by the keys. -/
theorem liveV_eq (now w : Int) (its : Its) : liveV now w its = (its.filter fun p => decide (now - w < p.1) && decide (p.1 ≤ now)).map Prod.snd := rfl
theorem rk_take {zs : List (Int × Int)} {v : Int} {i : Nat} (h : i < zs.length) : rk ((zs.take (i + 1)).map Prod.snd) v = rk ((zs.take i).map Prod.snd) v + (if (at_ zs i).2 ≤ v then 1 else 0) := by
  have e : at_ zs i = zs[i] := by simp [at_, List.getElem?_eq_getElem h]
  rw [e, List.take_succ_eq_append_getElem h, List.map_append, rk_app]
  congr 1
  unfold rk
  by_cases hv : zs[i].2 ≤ v <;> simp [hv]
theorem bl_take {zs : List (Int × Int)} {v : Int} {i : Nat} (h : i < zs.length) : bl ((zs.take (i + 1)).map Prod.snd) v = bl ((zs.take i).map Prod.snd) v + (if (at_ zs i).2 < v then 1 else 0) := by
  have e : at_ zs i = zs[i] := by simp [at_, List.getElem?_eq_getElem h]
  rw [e, List.take_succ_eq_append_getElem h, List.map_append, bl_app]
  congr 1
  unfold bl
  by_cases hv : zs[i].2 < v <;> simp [hv]
end Go.Proofs.Ytjapjfcennemeaa.rnk

/- Contracts of the reference's counts: how many values are not greater, how many are less. -/
namespace Go.Proofs.Ytjapjfcennemeaa.rnk
open Go.RowKit Go.Proofs.Ytjapjfcennemeaa.mem Go.Proofs.Ytjapjfcennemeaa.gro
set_option linter.unusedVariables false
set_option linter.unusedSimpArgs false
theorem take_bd (zs : List (Int × Int)) (i : Nat) : (((zs.take i).map Prod.snd).length : Int) ≤ i := by rw [List.length_map, List.length_take]; omega
set_option maxHeartbeats 4000000 in
set_option maxRecDepth 100000 in
theorem Rank8_any (A : Option Addr) (n c : Nat) (zs : List (Int × Int)) (v : Int) (w : World) (h1 : PRead w w.heap.size A n zs) (hs : n ≤ 1000000) :
    Calls Try.prog 40 #[.slice A n c, .int .i64 v] w fun e w' => e = .returned (.int .i64 (rk (zs.map Prod.snd) v)) ∧ Below w.heap.size w w' := by
  have H1 := Lib.hid h1
  have HL := Lib.hid (PRead.len h1)
  clear h1
  go_enter Try.func40, Try.ntmps40
  go_wp2
  go_loopg [5, 10] n (fun kx s5 s10 wr => ∃ i : Nat, s10 = .int .i64 i ∧ s5 = .int .i64 (rk ((zs.take i).map Prod.snd) v) ∧ i ≤ n ∧ n - i ≤ kx ∧ Hid (Below w.heap.size w wr))
  case atStart => exact ⟨0, rfl, rfl, Nat.zero_le _, by omega, Below.refl _ _⟩
  case round =>
    obtain ⟨i, rfl, rfl, hin, hik, HB⟩ := hrel
    by_cases hlt : i < n
    case neg =>
      obtain rfl : i = n := by omega
      have e : Hid (zs.take i = zs) := List.take_of_length_le (by rw [HL.out]; exact Nat.le_refl _)
      go_wp2
      go_ret
      exact ⟨ret_int (by rw [e.out]), HB.out⟩
    obtain ⟨ad, rfl, hbl, hc1, hc2⟩ := PRead.at_ (mem.Reads.below H1.out HB.out) hlt
    have hbl2 : ad.block < wr.heap.size := by have := HB.out.size; omega
    have HT := Lib.hid (rk_take (zs := zs) (v := v) (i := i) (by rw [HL.out]; exact hlt))
    have hb1 := rk_le ((zs.take i).map Prod.snd) v
    have hb2 := take_bd zs i
    have hb3 := rk_nn ((zs.take i).map Prod.snd) v
    change wr.cell? (ad.add (i * 2)) = some (.int .i64 (buk.at_ zs i).1) at hc1
    change wr.cell? ⟨(ad.add (i * 2)).block, (ad.add (i * 2)).off + 1, none⟩ = some (.int .i64 (buk.at_ zs i).2) at hc2
    generalize (buk.at_ zs i).1 = x at *
    generalize (buk.at_ zs i).2 = y at *
    generalize rk ((zs.take i).map Prod.snd) v = o at *
    have s1 : IntKind.i64.wrap (o + 1) = o + 1 := IntWalk.i64_in _ (by omega)
    obtain ⟨s, hs3⟩ : ∃ s, wr.heap.size = s := ⟨_, rfl⟩
    have RA := (gro.Bx.nil_.new (W := wr) (t := 37) (c := #[Value.int IntKind.i64 x, Value.int IntKind.i64 y]) hs3).rules
    simp only [gro.Rules] at RA
    by_cases hc : y ≤ v
    · rw [if_pos hc] at HT
      go_wp2_with fail
      go_roundg (n - (i + 1))
      case measure => omega
      case rel => exact ⟨i + 1, by go_num, by rw [HT.out], by omega, by omega, HB.out.alloc HB.out.size _⟩
    · rw [if_neg hc, Int.add_zero] at HT
      go_wp2_with fail
      go_roundg (n - (i + 1))
      case measure => omega
      case rel => exact ⟨i + 1, by go_num, by rw [HT.out], by omega, by omega, HB.out.alloc HB.out.size _⟩
set_option maxHeartbeats 4000000 in
set_option maxRecDepth 100000 in
theorem Below8_any (A : Option Addr) (n c : Nat) (zs : List (Int × Int)) (v : Int) (w : World) (h1 : PRead w w.heap.size A n zs) (hs : n ≤ 1000000) :
    Calls Try.prog 43 #[.slice A n c, .int .i64 v] w fun e w' => e = .returned (.int .i64 (bl (zs.map Prod.snd) v)) ∧ Below w.heap.size w w' := by
  have H1 := Lib.hid h1
  have HL := Lib.hid (PRead.len h1)
  clear h1
  go_enter Try.func43, Try.ntmps43
  go_wp2
  go_loopg [5, 10] n (fun kx s5 s10 wr => ∃ i : Nat, s10 = .int .i64 i ∧ s5 = .int .i64 (bl ((zs.take i).map Prod.snd) v) ∧ i ≤ n ∧ n - i ≤ kx ∧ Hid (Below w.heap.size w wr))
  case atStart => exact ⟨0, rfl, rfl, Nat.zero_le _, by omega, Below.refl _ _⟩
  case round =>
    obtain ⟨i, rfl, rfl, hin, hik, HB⟩ := hrel
    by_cases hlt : i < n
    case neg =>
      obtain rfl : i = n := by omega
      have e : Hid (zs.take i = zs) := List.take_of_length_le (by rw [HL.out]; exact Nat.le_refl _)
      go_wp2
      go_ret
      exact ⟨ret_int (by rw [e.out]), HB.out⟩
    obtain ⟨ad, rfl, hbl, hc1, hc2⟩ := PRead.at_ (mem.Reads.below H1.out HB.out) hlt
    have hbl2 : ad.block < wr.heap.size := by have := HB.out.size; omega
    have HT := Lib.hid (bl_take (zs := zs) (v := v) (i := i) (by rw [HL.out]; exact hlt))
    have hb1 := bl_le ((zs.take i).map Prod.snd) v
    have hb2 := take_bd zs i
    have hb3 := bl_nn ((zs.take i).map Prod.snd) v
    change wr.cell? (ad.add (i * 2)) = some (.int .i64 (buk.at_ zs i).1) at hc1
    change wr.cell? ⟨(ad.add (i * 2)).block, (ad.add (i * 2)).off + 1, none⟩ = some (.int .i64 (buk.at_ zs i).2) at hc2
    generalize (buk.at_ zs i).1 = x at *
    generalize (buk.at_ zs i).2 = y at *
    generalize bl ((zs.take i).map Prod.snd) v = o at *
    have s1 : IntKind.i64.wrap (o + 1) = o + 1 := IntWalk.i64_in _ (by omega)
    obtain ⟨s, hs3⟩ : ∃ s, wr.heap.size = s := ⟨_, rfl⟩
    have RA := (gro.Bx.nil_.new (W := wr) (t := 37) (c := #[Value.int IntKind.i64 x, Value.int IntKind.i64 y]) hs3).rules
    simp only [gro.Rules] at RA
    by_cases hc : y < v
    · rw [if_pos hc] at HT
      go_wp2_with fail
      go_roundg (n - (i + 1))
      case measure => omega
      case rel => exact ⟨i + 1, by go_num, by rw [HT.out], by omega, by omega, HB.out.alloc HB.out.size _⟩
    · rw [if_neg hc, Int.add_zero] at HT
      go_wp2_with fail
      go_roundg (n - (i + 1))
      case measure => omega
      case rel => exact ⟨i + 1, by go_num, by rw [HT.out], by omega, by omega, HB.out.alloc HB.out.size _⟩
end Go.Proofs.Ytjapjfcennemeaa.rnk
