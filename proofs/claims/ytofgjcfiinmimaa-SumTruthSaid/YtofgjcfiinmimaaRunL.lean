/- Lists of buckets and the items that they stand for. No program. -/
import Derived.Test.YtofgjcfiinmimaaMgOpenC
namespace Go.Proofs.Ytofgjcfiinmimaa.buk
set_option linter.unusedVariables false
def Rep : L2 → List Int → Prop
  | [], ts => ts = []
  | p :: r, ts => ∃ g u, ts = g ++ u ∧ g.length = 2 ^ p.2.toNat ∧ g.getLast? = some p.1 ∧ Rep r u
theorem Rep.append {xs ys : L2} : ∀ {ts us : List Int}, Rep xs ts → Rep ys us → Rep (xs ++ ys) (ts ++ us) := by
  induction xs with
  | nil => intro ts us h1 h2; obtain rfl : ts = [] := h1; exact h2
  | cons p r ih =>
    intro ts us h1 h2
    obtain ⟨g, u, rfl, a, b, c⟩ := h1
    exact ⟨g, u ++ us, List.append_assoc .., a, b, ih c h2⟩
theorem Rep.split {xs ys : L2} : ∀ {ts : List Int}, Rep (xs ++ ys) ts → ∃ t1 t2, ts = t1 ++ t2 ∧ Rep xs t1 ∧ Rep ys t2 := by
  induction xs with
  | nil => intro ts h; exact ⟨[], ts, rfl, rfl, h⟩
  | cons p r ih =>
    intro ts h
    obtain ⟨g, u, rfl, a, b, c⟩ := h
    obtain ⟨t1, t2, rfl, h1, h2⟩ := ih c
    exact ⟨g ++ t1, t2, (List.append_assoc ..).symm, ⟨g, t1, rfl, a, b, h1⟩, h2⟩
theorem Rep.snoc {xs : L2} {ts : List Int} (h : Rep xs ts) (t : Int) : Rep (xs ++ [(t, 0)]) (ts ++ [t]) :=
  h.append ⟨[t], [], rfl, rfl, rfl, rfl⟩
theorem Rep.join {p q : Int × Int} {l : Nat} (hp : p.2 = (l : Int)) (hq : q.2 = (l : Int)) {r : L2} {ts : List Int} (h : Rep (p :: q :: r) ts) : Rep ((q.1, (l : Int) + 1) :: r) ts := by
  obtain ⟨g, u, rfl, a, b, g2, u2, rfl, a2, b2, c⟩ := h
  refine ⟨g ++ g2, u2, (List.append_assoc ..).symm, ?_, ?_, c⟩
  · rw [List.length_append, a, a2, hp, hq]
    simp only [Int.toNat_natCast]
    rw [show ((l : Int) + 1).toNat = l + 1 by omega, Nat.pow_succ]
    omega
  · have : g2 ≠ [] := fun e => by subst e; simp at b2
    rw [List.getLast?_append, b2]; rfl
theorem at_eq {xs : L2} {i : Nat} (h : i < xs.length) : at_ xs i = xs[i] := by simp [at_, List.getElem?_eq_getElem h]
theorem two_of {xs : L2} {b : Nat} (h : b + 1 < xs.length) : xs = xs.take b ++ (at_ xs b :: at_ xs (b + 1) :: xs.drop (b + 2)) := by
  rw [at_eq h, at_eq (show b < xs.length by omega)]
  conv => lhs; rw [← List.take_append_drop b xs]
  rw [List.drop_eq_getElem_cons (show b < xs.length by omega), List.drop_eq_getElem_cons h]
theorem Rep.joined {xs : L2} {ts : List Int} {b l : Nat} (h : Rep xs ts) (hb : b + 1 < xs.length) (h1 : (at_ xs b).2 = (l : Int)) (h2 : (at_ xs (b + 1)).2 = (l : Int)) : Rep (joined xs b l) ts := by
  rw [two_of hb] at h
  obtain ⟨t1, t2, rfl, a, c⟩ := h.split
  exact a.append (c.join h1 h2)
theorem joined_mem {xs : L2} {b : Nat} {l : Int} (hb : b + 1 < xs.length) {p : Int × Int} (hp : p ∈ joined xs b l) : ∃ q ∈ xs, q.1 = p.1 := by
  unfold buk.joined at hp
  rcases List.mem_append.1 hp with h | h
  · exact ⟨p, List.mem_of_mem_take h, rfl⟩
  · rcases List.mem_cons.1 h with rfl | h
    · rw [at_eq hb]; exact ⟨_, List.getElem_mem _, rfl⟩
    · exact ⟨p, List.mem_of_mem_drop h, rfl⟩
theorem casc_rep (k : Nat) : ∀ (f : Nat) (xs : L2) (l e : Nat), e ≤ xs.length → (∀ ts, Rep xs ts → Rep (casc k f xs l e) ts) ∧ ∀ p ∈ casc k f xs l e, ∃ q ∈ xs, q.1 = p.1
  | 0, xs, _, _, _ => ⟨fun _ h => h, fun p h => ⟨p, h, rfl⟩⟩
  | f + 1, xs, l, e, he => by
    by_cases h : e - runB xs l e < k + 2
    · rw [casc_stop h]; exact ⟨fun _ h => h, fun p h => ⟨p, h, rfl⟩⟩
    · rw [casc_go h]
      have hb := runB_le xs l e
      have hr := (runB_run xs l e).1
      have hj := joined_length (xs := xs) (b := runB xs l e) (l := l) (by omega)
      obtain ⟨i1, i2⟩ := casc_rep k f (joined xs (runB xs l e) l) (l + 1) (runB xs l e + 1) (by omega)
      refine ⟨fun ts ht => i1 ts (ht.joined (by omega) (hr _ (by omega) (by omega)) (hr _ (by omega) (by omega))), fun p hp => ?_⟩
      obtain ⟨q, hq, e1⟩ := i2 p hp
      obtain ⟨q2, hq2, e2⟩ := joined_mem (by omega) hq
      exact ⟨q2, hq2, e2.trans e1⟩
theorem insC_rep (k : Nat) (t : Int) {xs : L2} {ts : List Int} (h : Rep xs ts) : Rep (insC xs k t) (ts ++ [t]) :=
  (casc_rep k _ _ 0 _ (by simp)).1 _ (h.snoc t)
theorem insC_ticks (k : Nat) (t : Int) {xs : L2} {a : Int} (h : ∀ p ∈ xs, a < p.1) (ht : a < t) : ∀ p ∈ insC xs k t, a < p.1 := fun p hp => by
  obtain ⟨q, hq, e⟩ := (casc_rep k _ (xs ++ [(t, 0)]) 0 (xs.length + 1) (by simp)).2 p hp
  rcases List.mem_append.1 hq with h1 | h1
  · have := h q h1; omega
  · obtain rfl : q = (t, 0) := by simpa using h1
    simp at e; omega
theorem iter_rep (k : Nat) (t : Int) {a : Int} (ht : a < t) : ∀ (m : Nat) (xs : L2) (ts : List Int), Rep xs ts → (∀ p ∈ xs, a < p.1) → Rep (iterIns k t m xs) (ts ++ List.replicate m t) ∧ ∀ p ∈ iterIns k t m xs, a < p.1
  | 0, xs, ts, h, h2 => ⟨by simpa [iterIns] using h, h2⟩
  | m + 1, xs, ts, h, h2 => by
    have := iter_rep k t ht m (insC xs k t) (ts ++ [t]) (insC_rep k t h) (insC_ticks k t h2 ht)
    rw [List.append_assoc, List.singleton_append] at this
    exact this
theorem iter_add (k : Nat) (t : Int) (a : Nat) : ∀ (b : Nat) (xs : L2), iterIns k t b (iterIns k t a xs) = iterIns k t (a + b) xs
  | 0, xs => rfl
  | b + 1, xs => by
    show iterIns k t b (insC (iterIns k t a xs) k t) = _
    rw [← iterIns_succ, iter_add k t (a + 1) b xs]
    congr 1; omega
theorem Rep.len : ∀ {xs : L2} {ts : List Int}, Rep xs ts → ts.length = wgt xs
  | [], ts, h => by obtain rfl : ts = [] := h; rfl
  | p :: r, ts, h => by
    obtain ⟨g, u, rfl, a, b, c⟩ := h
    rw [List.length_append, a, c.len]; rfl
theorem last_ge {g : List Int} {a t : Int} (hs : g.Pairwise (· ≤ ·)) (hl : g.getLast? = some a) (ht : t ∈ g) : t ≤ a := by
  obtain ⟨ys, rfl⟩ := List.getLast?_eq_some_iff.1 hl
  rcases List.mem_append.1 ht with h | h
  · exact (List.pairwise_append.1 hs).2.2 t h a (by simp)
  · obtain rfl : t = a := by simpa using h
    exact Int.le_refl _
theorem Rep.expire (f : Int) : ∀ {xs : L2} {ts : List Int}, Rep xs ts → ts.Pairwise (· ≤ ·) → ∃ d s, ts = d ++ s ∧ Rep (lst.expireL f xs) s ∧ ∀ t ∈ d, t < f
  | [], ts, h, _ => ⟨[], ts, rfl, h, fun t h => by simp at h⟩
  | p :: r, ts, h, hs => by
    unfold lst.expireL
    rw [List.dropWhile_cons]
    split
    · rename_i hlt
      obtain ⟨g, u, rfl, a, b, c⟩ := h
      obtain ⟨d, s, rfl, h1, h2⟩ := Rep.expire f c (List.pairwise_append.1 hs).2.1
      refine ⟨g ++ d, s, (List.append_assoc ..).symm, h1, fun t ht => ?_⟩
      rcases List.mem_append.1 ht with h | h
      · have := last_ge (List.pairwise_append.1 hs).1 b h
        simp at hlt; omega
      · exact h2 t h
    · exact ⟨[], ts, rfl, h, fun t h => by simp at h⟩
/-- How many of the items are live. -/
def liveN (a : Int) (ts : List Int) : Nat := ts.countP (fun t => decide (a < t))
theorem liveN_all {a : Int} {ts : List Int} (h : ∀ t ∈ ts, a < t) : liveN a ts = ts.length := by
  unfold liveN; rw [List.countP_eq_length]; simpa using h
theorem liveN_none {a : Int} {ts : List Int} (h : ∀ t ∈ ts, t ≤ a) : liveN a ts = 0 := by
  unfold liveN; rw [List.countP_eq_zero]; intro t ht; have := h t ht; simp; omega
theorem liveN_append (a : Int) (ts us : List Int) : liveN a (ts ++ us) = liveN a ts + liveN a us := List.countP_append
theorem liveN_le (a : Int) (ts : List Int) : liveN a ts ≤ ts.length := List.countP_le_length
theorem Rep.live {xs : L2} {ts : List Int} {a : Int} (h : Rep xs ts) (hs : ts.Pairwise (· ≤ ·)) (hl : ∀ p ∈ xs, a < p.1) : liveN a ts ≤ wgt xs ∧ (0 < xs.length → wgt xs + 1 ≤ liveN a ts + 2 ^ (at_ xs 0).2.toNat) := by
  refine ⟨by have := liveN_le a ts; rw [h.len] at this; exact this, fun h0 => ?_⟩
  cases xs with
  | nil => simp at h0
  | cons p r =>
    have hlen := h.len
    obtain ⟨g, u, rfl, e, b, c⟩ := h
    have hp := hl p (List.mem_cons_self ..)
    obtain ⟨ys, hg⟩ := List.getLast?_eq_some_iff.1 b
    have hu : liveN a u = u.length := liveN_all (fun t ht => by
      have := (List.pairwise_append.1 hs).2.2 p.1 (by rw [hg]; simp) t ht
      omega)
    have hg1 : 1 ≤ liveN a g := by
      rw [hg, liveN_append, liveN_all (ts := [p.1]) (by simpa using hp)]
      simp
    rw [List.length_append, e] at hlen
    rw [liveN_append, hu]
    have : at_ (p :: r) 0 = p := rfl
    rw [this]
    omega
end Go.Proofs.Ytofgjcfiinmimaa.buk
namespace Go.Proofs.Ytofgjcfiinmimaa.cst
open Go.RowKit Go.Proofs.Ytofgjcfiinmimaa.mem Go.Proofs.Ytofgjcfiinmimaa.lst Go.Proofs.Ytofgjcfiinmimaa.buk Go.Proofs.Ytofgjcfiinmimaa.num
set_option linter.unusedVariables false
/-- A list of buckets in a window, and the ticks of all items that were added. -/
structure Run (xs : List (Int × Int)) (k : Nat) (v now : Int) (ts : List Int) : Prop where
  good : lst.Good xs k now ts.length
  live : ∀ p ∈ xs, now - v < p.1
  srt : ts.Pairwise (· ≤ ·)
  bd : ∀ t ∈ ts, 0 ≤ t ∧ t ≤ now
  rep : ∃ d s, ts = d ++ s ∧ Rep xs s ∧ ∀ t ∈ d, t ≤ now - v
theorem Run.nil {k : Nat} (v : Int) (hk : 1 ≤ k) (hk2 : k ≤ 128) : Run [] k v 0 [] := ⟨good_nil hk hk2, by simp, .nil, by simp, [], [], rfl, rfl, by simp⟩
theorem expire_first (f : Int) : ∀ {xs : List (Int × Int)} (_ : buk.ordOk xs xs.length), ∀ p ∈ expireL f xs, f ≤ p.1 := by
  intro xs ho p hp
  obtain ⟨i, hi⟩ := expire_drop f xs
  have hh : ∀ xs : List (Int × Int), ∀ q r, expireL f xs = q :: r → f ≤ q.1 := by
    intro xs
    induction xs with
    | nil => intro q r h; simp [expireL] at h
    | cons a az ih =>
      intro q r h
      unfold expireL at h
      rw [List.dropWhile_cons] at h
      split at h
      · exact ih q r h
      · injection h with h1 h2; subst h1; rename_i h; simp at h; exact h
  cases hz : expireL f xs with
  | nil => rw [hz] at hp; simp at hp
  | cons q r =>
    have hq := hh xs q r hz
    rw [hi] at hp hz
    obtain ⟨j, hj, rfl⟩ := List.getElem_of_mem hp
    rw [List.length_drop] at hj
    have h1 := ord_tick ho j i (by omega)
    rw [List.getElem_drop]
    have e0 : at_ xs i = q := by
      have : (xs.drop i)[0]? = some q := by rw [hz]; rfl
      rw [List.getElem?_drop, Nat.add_zero] at this
      simp [at_, this]
    rw [e0, at_eq (by omega)] at h1
    omega
theorem Run.adv {xs : List (Int × Int)} {k : Nat} {v now now2 : Int} {ts : List Int} (h : Run xs k v now ts) (h0 : 0 ≤ now) (h1 : now ≤ now2) (h2 : now2 ≤ 16777216) (hv : 1 ≤ v ∧ v ≤ 1048576) : Run (expireL (clk.firstI now2 v) xs) k v now2 ts ∧ totalN (expireL (clk.firstI now2 v) xs) ≤ totalN xs := by
  obtain ⟨g, hg⟩ := good_expire h.good (clk.firstI now2 v)
  rw [clk.first_t (by omega) h2 hv.1 hv.2] at *
  obtain ⟨d, s, rfl, hr, hd⟩ := h.rep
  obtain ⟨d2, s2, rfl, hr2, hd2⟩ := hr.expire (max 0 (now2 - v + 1)) (List.pairwise_append.1 h.srt).2.1
  refine ⟨⟨⟨g.1, fun hp => Int.le_trans (g.2.1 hp) h1, g.2.2⟩, fun p hp => ?_, h.srt, fun t ht => ⟨(h.bd t ht).1, Int.le_trans (h.bd t ht).2 h1⟩, d ++ d2, s2, (List.append_assoc ..).symm, hr2, fun t ht => ?_⟩, hg⟩
  · have := expire_first _ h.good.1.2.1 p hp; omega
  · rcases List.mem_append.1 ht with h3 | h3
    · have := hd t h3; omega
    · have := hd2 t h3; have := (h.bd t (by simp [h3])).1; omega
theorem Run.many {xs : List (Int × Int)} {k : Nat} {v now : Int} {ts : List Int} (h : Run xs k v now ts) (h0 : 0 ≤ now) (h2 : now ≤ 16777216) (hv : 1 ≤ v) (n : Nat) (hn : n ≤ 1024) (hl : ts.length + n ≤ 1000000) :
    insM xs k now n = iterIns k now n xs ∧ Run (iterIns k now n xs) k v now (ts ++ List.replicate n now) ∧ totalN (iterIns k now n xs) = totalN xs + n := by
  obtain ⟨hvp, htl, hw⟩ := h.good
  have e1 := wgt_total hvp.2.1
  obtain ⟨b1, b2, b3, b4⟩ := iter_valid (k := k) ⟨h0, h2⟩ n xs hvp htl (by omega)
  have e2 := wgt_total b1.2.1
  obtain ⟨d, s, hds, hr, hd⟩ := h.rep
  obtain ⟨r1, r2⟩ := iter_rep k now (a := now - v) (by omega) n xs s hr h.live
  refine ⟨?_, ⟨⟨b1, b2, by rw [b3, List.length_append, List.length_replicate]; omega⟩, r2, ?_, fun t ht => ?_, d, s ++ List.replicate n now, ?_, r1, hd⟩, by omega⟩
  · rw [insM_t ⟨validB_t hvp, lst.mayB_iff.2 ⟨⟨h0, h2⟩, tail_lastT htl h0⟩, by omega, fun _ => by omega⟩, Int.toNat_natCast, Int.toNat_natCast]
  · rw [List.pairwise_append]
    refine ⟨h.srt, List.pairwise_replicate.2 (Or.inr (Int.le_refl _)), fun a ha b hb => ?_⟩
    rw [List.eq_of_mem_replicate hb]
    exact (h.bd a ha).2
  · rcases List.mem_append.1 ht with h3 | h3
    · exact h.bd t h3
    · rw [List.eq_of_mem_replicate h3]; exact ⟨h0, Int.le_refl _⟩
  · rw [hds, List.append_assoc]
theorem Run.one {xs : List (Int × Int)} {k : Nat} {v now : Int} {ts : List Int} (h : Run xs k v now ts) (h0 : 0 ≤ now) (h2 : now ≤ 16777216) (hv : 1 ≤ v) (hl : ts.length + 1 ≤ 1000000) :
    insI xs k now = iterIns k now 1 xs ∧ Run (insI xs k now) k v now (ts ++ [now]) ∧ totalN (insI xs k now) = totalN xs + 1 := by
  obtain ⟨m1, m2, m3⟩ := h.many h0 h2 hv 1 (by omega) hl
  obtain ⟨hvp, htl, hw⟩ := h.good
  have e1 := wgt_total hvp.2.1
  have : insI xs k now = iterIns k now 1 xs := by
    rw [insI_t ⟨validB_t hvp, lst.mayB_iff.2 ⟨⟨h0, h2⟩, tail_lastT htl h0⟩, by omega⟩, Int.toNat_natCast]; rfl
  rw [this]
  exact ⟨rfl, m2, m3⟩
theorem Run.liveTo {xs : List (Int × Int)} {k : Nat} {v now : Int} {ts : List Int} (h : Run xs k v now ts) (h0 : 0 ≤ now) (h2 : now ≤ 16777216) (hv : 1 ≤ v ∧ v ≤ 1048576) : liveTo xs now v xs.length :=
  live_of h.good (Int.le_refl _) h2 h0 hv (fun i hi => by rw [at_eq hi]; exact h.live _ (List.getElem_mem _))
theorem Run.fitB {xs : List (Int × Int)} {k : Nat} {v now p : Int} {ts : List Int} (h : Run xs k v now ts) (h0 : 0 ≤ now) (h2 : now ≤ 16777216) (hv : 1 ≤ v ∧ v ≤ 1048576) (hk : k ≤ 64) (hp : 1 ≤ p ∧ p ≤ 65536) (ht : (totalN xs : Int) ≤ p) : fitB xs v k p now = true :=
  fit_iff.2 ⟨goodC_iff.2 ⟨hv, by have := h.good.1.1; omega, hp, h0, h2⟩, validB_t h.good.1, ht, h.liveTo h0 h2 hv⟩
theorem Run.fitS {xs : List (Int × Int)} {k : Nat} {v now p m : Int} {ts : List Int} (h : Run xs k v now ts) (h0 : 0 ≤ now) (h2 : now ≤ 16777216) (hv : 1 ≤ v ∧ v ≤ 1048576) (hk : k ≤ 64) (hp : 1 ≤ p ∧ p ≤ 65536) (hm : 1 ≤ m ∧ m ≤ 1024) (ht : (totalN xs : Int) ≤ p) : fitS xs v k p m now = true :=
  fitS_iff.2 ⟨goodS_iff.2 ⟨⟨hv, by have := h.good.1.1; omega, hp, h0, h2⟩, hm⟩, validB_t h.good.1, ht, h.liveTo h0 h2 hv⟩
theorem aux_mono : ∀ (f : Nat) {a b : Nat}, a ≤ b → Lib.bitLenAux f a ≤ Lib.bitLenAux f b
  | 0, _, _, _ => Nat.le_refl _
  | f + 1, a, b, h => by
    have := aux_mono f (Nat.div_le_div_right (c := 2) h)
    unfold Lib.bitLenAux
    split
    · omega
    · rw [if_neg (by omega)]; omega
theorem most_mono {k : Nat} {a b : Int} (hk : 1 ≤ k ∧ k ≤ 128) (ha : 0 ≤ a) (h : a ≤ b) : mostI k a ≤ mostI k b := by
  rw [mostI_in ⟨by omega, ha⟩, mostI_in ⟨by omega, by omega⟩]
  have : bitsN a ≤ bitsN b := aux_mono 64 (by omega)
  exact Int.mul_le_mul_of_nonneg_left (by omega) (by omega)
/-- The answer's numbers. -/
theorem Run.ask {xs : List (Int × Int)} {k : Nat} {v now p : Int} {ts : List Int} (h : Run xs k v now ts) (hl : ts.length ≤ 1000000) (ht : (totalN xs : Int) ≤ p) :
    (xs.length : Int) ≤ mostI k p ∧ (xs.length : Int) ≤ (k + 1) * 31 ∧ (totalN xs : Int) ≤ ts.length ∧ (liveN (now - v) ts : Int) ≤ totalN xs ∧ qlo xs ≤ liveN (now - v) ts ∧ 0 ≤ qlo xs ∧ qlo xs ≤ totalN xs ∧ (k : Int) * ((totalN xs : Int) - qlo xs) ≤ qlo xs := by
  obtain ⟨hv, htl, hw⟩ := h.good
  have e1 := wgt_total hv.2.1
  have hk := hv.1
  obtain ⟨d, s, hds, hr, hd⟩ := h.rep
  have hsr := h.srt
  rw [hds] at hsr
  obtain ⟨l1, l2⟩ := hr.live (List.pairwise_append.1 hsr).2.1 h.live
  have hln : liveN (now - v) ts = liveN (now - v) s := by rw [hds, liveN_append, liveN_none hd, Nat.zero_add]
  rw [hln]
  have key : (xs.length : Int) ≤ mostI k (totalN xs) ∧ (xs.length : Int) ≤ (k + 1) * 31 ∧ (liveN (now - v) s : Int) ≤ totalN xs ∧ qlo xs ≤ liveN (now - v) s ∧ 0 ≤ qlo xs ∧ qlo xs ≤ totalN xs ∧ (k : Int) * ((totalN xs : Int) - qlo xs) ≤ qlo xs := by
    rcases Nat.eq_zero_or_pos xs.length with h0 | h0
    · obtain rfl : xs = [] := List.eq_nil_of_length_eq_zero h0
      refine ⟨?_, ?_, ?_, ?_, ?_, ?_, ?_⟩
      · rw [mostI_in ⟨hk, by simp [totalN]⟩]
        exact Int.mul_nonneg (by omega) (by omega)
      · simp; omega
      · omega
      · simp [qlo]
      · simp [qlo]
      · simp [qlo, totalN]
      · simp [qlo, totalN]
    · have hl0 := (hv.2.1 0 h0).2.1
      obtain ⟨L, hL⟩ := Int.eq_ofNat_of_zero_le hl0.1
      obtain ⟨f1, f2, f3, f4⟩ := keep_facts hv h0 L hL
      have hwt : wt (at_ xs 0).2 = 2 ^ L := by unfold wt; rw [if_pos hl0, hL, Int.toNat_natCast]
      have hq : qlo xs = (totalN xs : Int) - (wt (at_ xs 0).2 : Int) + 1 := by unfold qlo; rw [if_neg (by omega)]
      rw [hwt] at hq
      have hp : 1 ≤ 2 ^ L := Nat.one_le_two_pow
      have l3 := l2 h0
      rw [hL, Int.toNat_natCast] at l3
      refine ⟨?_, ?_, by omega, by rw [hq]; omega, by rw [hq]; omega, by rw [hq]; omega, ?_⟩
      · rw [mostI_in ⟨hk, by omega⟩]
        have hb := bits_top f4 (by omega)
        have h5 : (k + 1) * (L + 1) ≤ (k + 1) * Lib.bitLen (wgt xs) := Nat.mul_le_mul_left _ hb
        have h6 : bitsN (totalN xs : Int) = Lib.bitLen (wgt xs) := by unfold bitsN; rw [Int.toNat_natCast, e1]
        rw [h6]
        have h7 : xs.length ≤ (k + 1) * Lib.bitLen (wgt xs) := Nat.le_trans f2 h5
        have : ((k : Int) + 1) * (Lib.bitLen (wgt xs) : Int) = (((k + 1) * Lib.bitLen (wgt xs) : Nat) : Int) := by rw [Int.natCast_mul]; rfl
        rw [this]
        omega
      · have h5 : (k + 1) * (L + 1) ≤ (k + 1) * 31 := Nat.mul_le_mul_left _ (by omega)
        omega
      · have hx : (totalN xs : Int) - qlo xs = ((2 ^ L : Nat) : Int) - 1 := by rw [hq]; omega
        rw [hx, hq, Int.mul_sub, Int.mul_one, ← Int.natCast_mul]
        omega
  obtain ⟨k1, k2, k3, k4, k5, k6, k7⟩ := key
  exact ⟨Int.le_trans k1 (most_mono ⟨by omega, by omega⟩ (by omega) ht), k2, by omega, k3, k4, k5, k6, k7⟩
end Go.Proofs.Ytofgjcfiinmimaa.cst
