/- Plain laws of monotonic deques: the items that no other one rules out. No program. -/
import Derived.Test.YteajgmihhnghfaaRows
namespace Go.Proofs.Yteajgmihhnghfaa.ext
set_option linter.unusedVariables false
abbrev L2 := List (Int × Int)
/-- The value as seen by a deque of the greatest value. -/
def key (m : Bool) (v : Int) : Int := if m = true then v else -v
theorem key_inj {m : Bool} {a b : Int} (h : key m a = key m b) : a = b := by
  cases m <;> simp [key] at h <;> omega
def dom (m : Bool) (x y : Int × Int) : Prop := x.1 ≤ y.1 ∧ key m x.2 ≤ key m y.2
theorem dom.rfl' {m : Bool} (x : Int × Int) : dom m x x := ⟨Int.le_refl _, Int.le_refl _⟩
theorem dom.trans {m : Bool} {x y z : Int × Int} (h : dom m x y) (h2 : dom m y z) : dom m x z := ⟨Int.le_trans h.1 h2.1, Int.le_trans h.2 h2.2⟩
theorem dom.antisymm {m : Bool} {x y : Int × Int} (h : dom m x y) (h2 : dom m y x) : x = y := by
  obtain ⟨a, b⟩ := x
  obtain ⟨c, d⟩ := y
  have h1 : a = c := Int.le_antisymm h.1 h2.1
  have h2 : b = d := key_inj (Int.le_antisymm h.2 h2.2)
  rw [h1, h2]
structure IsKept (m : Bool) (xs out : L2) : Prop where
  asc : out.Pairwise (fun a b => a.1 < b.1)
  mem : ∀ x, x ∈ out ↔ x ∈ xs ∧ ∀ y ∈ xs, dom m x y → y = x
theorem asc_ext : ∀ {a b : L2}, a.Pairwise (fun x y => x.1 < y.1) → b.Pairwise (fun x y => x.1 < y.1) → (∀ x, x ∈ a ↔ x ∈ b) → a = b
  | [], [], _, _, _ => rfl
  | [], y :: b, _, _, h => absurd ((h y).2 List.mem_cons_self) List.not_mem_nil
  | x :: a, [], _, _, h => absurd ((h x).1 List.mem_cons_self) List.not_mem_nil
  | x :: a, y :: b, ha, hb, h => by
    rw [List.pairwise_cons] at ha hb
    have e : x = y := by
      have h1 := (h x).1 List.mem_cons_self
      have h2 := (h y).2 List.mem_cons_self
      rw [List.mem_cons] at h1 h2
      rcases h1 with h1 | h1
      · exact h1
      · rcases h2 with h2 | h2
        · exact h2.symm
        · have := hb.1 x h1
          have := ha.1 y h2
          omega
    subst e
    have hh : ∀ z, z ∈ a ↔ z ∈ b := by
      intro z
      have hz := h z
      rw [List.mem_cons, List.mem_cons] at hz
      constructor
      · intro hm
        have := ha.1 z hm
        rcases hz.1 (.inr hm) with e | e
        · rw [e] at this; omega
        · exact e
      · intro hm
        have := hb.1 z hm
        rcases hz.2 (.inr hm) with e | e
        · rw [e] at this; omega
        · exact e
    rw [asc_ext ha.2 hb.2 hh]
theorem IsKept.uniq {m : Bool} {xs a b : L2} (h : IsKept m xs a) (h2 : IsKept m xs b) : a = b :=
  asc_ext h.asc h2.asc (fun x => (h.mem x).trans (h2.mem x).symm)
theorem dom.dec {m : Bool} (x y : Int × Int) : dom m x y ∨ ¬ dom m x y := Classical.em _
/-- Above each item lies one that no other rules out. -/
theorem above {m : Bool} : ∀ (xs : L2) (x : Int × Int), x ∈ xs → ∃ y ∈ xs, dom m x y ∧ ∀ z ∈ xs, dom m y z → z = y
  | [], x, h => absurd h List.not_mem_nil
  | a :: xs, x, h => by
    have up : ∀ x ∈ xs, ∃ y ∈ a :: xs, dom m x y ∧ ∀ z ∈ a :: xs, dom m y z → z = y := by
      intro x hx
      obtain ⟨y, hy, h1, h2⟩ := above xs x hx
      rcases dom.dec (m := m) y a with hd | hd
      · refine ⟨a, List.mem_cons_self, h1.trans hd, fun z hz hz2 => ?_⟩
        rcases List.mem_cons.1 hz with e | e
        · exact e
        · have := h2 z e (hd.trans hz2)
          subst this
          exact hd.antisymm hz2
      · refine ⟨y, List.mem_cons_of_mem _ hy, h1, fun z hz hz2 => ?_⟩
        rcases List.mem_cons.1 hz with e | e
        · subst e; exact absurd hz2 hd
        · exact h2 z e hz2
    rcases List.mem_cons.1 h with e | e
    · subst e
      by_cases hc : ∃ z ∈ xs, dom m x z
      · obtain ⟨z, hz, hd⟩ := hc
        obtain ⟨y, hy, h1, h2⟩ := up z hz
        exact ⟨y, hy, hd.trans h1, h2⟩
      · refine ⟨x, List.mem_cons_self, dom.rfl' x, fun z hz hd => ?_⟩
        rcases List.mem_cons.1 hz with e | e
        · exact e
        · exact absurd ⟨z, e, hd⟩ hc
    · exact up x e
/-- The second list holds enough of the first. -/
def Cov (m : Bool) (xs k : L2) : Prop := (∀ x ∈ k, x ∈ xs) ∧ ∀ x ∈ xs, ∃ y ∈ k, dom m x y
theorem Cov.refl {m : Bool} (xs : L2) : Cov m xs xs := ⟨fun x h => h, fun x h => ⟨x, h, dom.rfl' x⟩⟩
theorem Cov.trans {m : Bool} {xs k l : L2} (h : Cov m xs k) (h2 : Cov m k l) : Cov m xs l :=
  ⟨fun x hx => h.1 x (h2.1 x hx), fun x hx => by
    obtain ⟨y, hy, d⟩ := h.2 x hx
    obtain ⟨z, hz, d2⟩ := h2.2 y hy
    exact ⟨z, hz, d.trans d2⟩⟩
theorem IsKept.cov {m : Bool} {xs k : L2} (h : IsKept m xs k) : Cov m xs k :=
  ⟨fun x hx => ((h.mem x).1 hx).1, fun x hx => by
    obtain ⟨y, hy, d, d2⟩ := above (m := m) xs x hx
    exact ⟨y, (h.mem y).2 ⟨hy, d2⟩, d⟩⟩
theorem Cov.kept {m : Bool} {xs k out : L2} (h : Cov m xs k) (h2 : IsKept m k out) : IsKept m xs out :=
  ⟨h2.asc, fun x => by
    rw [h2.mem x]
    constructor
    · rintro ⟨h3, h4⟩
      refine ⟨h.1 x h3, fun y hy d => ?_⟩
      obtain ⟨z, hz, d2⟩ := h.2 y hy
      have := h4 z hz (d.trans d2)
      subst this
      exact d2.antisymm d
    · rintro ⟨h3, h4⟩
      obtain ⟨z, hz, d2⟩ := h.2 x h3
      have := h4 z (h.1 z hz) d2
      subst this
      exact ⟨hz, fun y hy d => h4 y (h.1 y hy) d⟩⟩
theorem Cov.append {m : Bool} {xs k ys l : L2} (h : Cov m xs k) (h2 : Cov m ys l) : Cov m (xs ++ ys) (k ++ l) :=
  ⟨fun x hx => by
    rw [List.mem_append] at hx ⊢
    exact hx.imp (h.1 x) (h2.1 x), fun x hx => by
    rcases List.mem_append.1 hx with hx | hx
    · obtain ⟨y, hy, d⟩ := h.2 x hx
      exact ⟨y, List.mem_append_left _ hy, d⟩
    · obtain ⟨y, hy, d⟩ := h2.2 x hx
      exact ⟨y, List.mem_append_right _ hy, d⟩⟩
theorem Cov.late {m : Bool} {xs k : L2} (h : Cov m xs k) (f : Int) : Cov m (xs.filter (fun p => decide (f ≤ p.1))) (k.filter (fun p => decide (f ≤ p.1))) :=
  ⟨fun x hx => by
    rw [List.mem_filter] at hx ⊢
    exact ⟨h.1 x hx.1, hx.2⟩, fun x hx => by
    rw [List.mem_filter] at hx
    obtain ⟨y, hy, d⟩ := h.2 x hx.1
    have h1 := of_decide_eq_true hx.2
    exact ⟨y, List.mem_filter.2 ⟨hy, decide_eq_true (Int.le_trans h1 d.1)⟩, d⟩⟩
/-- A list in order: ticks ascend, values get worse. -/
def Good (m : Bool) (xs : L2) : Prop := xs.Pairwise (fun a b => a.1 < b.1 ∧ key m b.2 < key m a.2)
theorem Good.kept {m : Bool} {xs : L2} (h : Good m xs) : IsKept m xs xs :=
  ⟨h.imp (fun h => h.1), fun x => ⟨fun hx => ⟨hx, fun y hy d => by
    induction xs with
    | nil => exact absurd hx List.not_mem_nil
    | cons a r ih =>
      have hg := List.pairwise_cons.1 h
      rcases List.mem_cons.1 hx with e | e <;> rcases List.mem_cons.1 hy with e2 | e2
      · rw [e, e2]
      · have h1 := hg.1 y e2; rw [e] at d; have := d.2; omega
      · have h1 := hg.1 x e; rw [e2] at d; have := d.1; omega
      · exact ih hg.2 e e2⟩, fun h => h.1⟩⟩
theorem IsKept.good {m : Bool} {xs out : L2} (h : IsKept m xs out) : Good m out := by
  refine List.Pairwise.imp_of_mem (fun {a b} ha hb hab => ⟨hab, ?_⟩) h.asc
  have h1 := ((h.mem a).1 ha).2 b ((h.mem b).1 hb).1
  by_cases hk : key m a.2 ≤ key m b.2
  · have := h1 ⟨by omega, hk⟩
    rw [this] at hab
    omega
  · omega
theorem Good.sub {m : Bool} {xs ys : L2} (h : Good m xs) (hs : ys.Sublist xs) : Good m ys := List.Pairwise.sublist hs h
/-- One more item at or after all ticks: the items that it rules out go. -/
theorem kept_snoc {m : Bool} {xs k r : L2} {t v : Int} (hg : Good m xs) (e : xs = k ++ r) (ht : ∀ x ∈ xs, x.1 ≤ t) (hr : ∀ x ∈ r, key m x.2 ≤ key m v) (hk : ∀ x, k.getLast? = some x → key m v < key m x.2) :
    IsKept m (xs ++ [(t, v)]) (if k = [] ∨ ∀ x, k.getLast? = some x → x.1 < t then k ++ [(t, v)] else k) := by
  subst e
  have hgk : Good m k := hg.sub (List.sublist_append_left _ _)
  have hmin : ∀ x ∈ k, key m v < key m x.2 := by
    intro x hx
    rcases List.eq_nil_or_concat k with e | ⟨k0, y, e⟩
    · rw [e] at hx; exact absurd hx List.not_mem_nil
    · subst e
      rw [List.concat_eq_append] at *
      have h1 := hk y (by simp)
      rcases List.mem_append.1 hx with h2 | h2
      · have := (List.pairwise_append.1 hgk).2.2 x h2 y (by simp)
        omega
      · obtain rfl := List.mem_singleton.1 h2
        exact h1
  by_cases hc : k = [] ∨ ∀ x, k.getLast? = some x → x.1 < t
  · rw [if_pos hc]
    have hlt : ∀ x ∈ k, x.1 < t := by
      intro x hx
      rcases List.eq_nil_or_concat k with e | ⟨k0, y, e⟩
      · rw [e] at hx; exact absurd hx List.not_mem_nil
      · subst e
        rw [List.concat_eq_append] at *
        rcases hc with hc | hc
        · simp at hc
        have h1 := hc y (by simp)
        rcases List.mem_append.1 hx with h2 | h2
        · have := (List.pairwise_append.1 hgk).2.2 x h2 y (by simp)
          omega
        · obtain rfl := List.mem_singleton.1 h2
          exact h1
    have hgd : Good m (k ++ [(t, v)]) := List.pairwise_append.2 ⟨hgk, List.pairwise_singleton _ _, fun a ha b hb => by
      obtain rfl := List.mem_singleton.1 hb
      exact ⟨hlt a ha, hmin a ha⟩⟩
    refine Cov.kept ⟨fun x hx => ?_, fun x hx => ?_⟩ hgd.kept
    · rcases List.mem_append.1 hx with h | h
      · exact List.mem_append_left _ (List.mem_append_left _ h)
      · exact List.mem_append_right _ h
    · rcases List.mem_append.1 hx with h | h
      · rcases List.mem_append.1 h with h2 | h2
        · exact ⟨x, List.mem_append_left _ h2, dom.rfl' x⟩
        · exact ⟨(t, v), by simp, ht x h, hr x h2⟩
      · exact ⟨x, List.mem_append_right _ h, dom.rfl' x⟩
  · rw [if_neg hc]
    rw [not_or] at hc
    obtain ⟨hc1, hc2⟩ := hc
    rcases List.eq_nil_or_concat k with e | ⟨k0, y, e⟩
    · exact absurd e hc1
    subst e
    rw [List.concat_eq_append] at *
    have hyt : ¬ y.1 < t := fun h => hc2 (fun x hx => by
      simp at hx
      rw [← hx]; exact h)
    refine Cov.kept ⟨fun x hx => List.mem_append_left _ (List.mem_append_left _ hx), fun x hx => ?_⟩ hgk.kept
    have hy2 : key m v < key m y.2 := hmin y (by simp)
    rcases List.mem_append.1 hx with h | h
    · rcases List.mem_append.1 h with h2 | h2
      · exact ⟨x, h2, dom.rfl' x⟩
      · exact ⟨y, by simp, by have := ht x h; omega, by have := hr x h2; omega⟩
    · obtain rfl := List.mem_singleton.1 h
      exact ⟨y, by simp, by show t ≤ y.1; omega, by show key m v ≤ _; omega⟩
/-- One more item at or before all ticks. -/
theorem kept_cons {m : Bool} {cs k : L2} {x : Int × Int} (h : IsKept m cs k) (hb : ∀ c ∈ cs, x.1 ≤ c.1 ∧ (x.1 = c.1 → key m x.2 ≤ key m c.2)) :
    IsKept m (x :: cs) (if ∃ y, k.head? = some y ∧ key m x.2 ≤ key m y.2 then k else x :: k) := by
  have hgk := h.good
  by_cases hc : ∃ y, k.head? = some y ∧ key m x.2 ≤ key m y.2
  · rw [if_pos hc]
    obtain ⟨y, hy, hk⟩ := hc
    have hyk : y ∈ k := List.mem_of_mem_head? (by rw [hy]; rfl)
    have hyc := ((h.mem y).1 hyk).1
    refine Cov.kept ⟨fun z hz => List.mem_cons_of_mem _ ((h.mem z).1 hz).1, fun z hz => ?_⟩ hgk.kept
    rcases List.mem_cons.1 hz with e | e
    · subst e; exact ⟨y, hyk, (hb y hyc).1, hk⟩
    · exact h.cov.2 z e
  · rw [if_neg hc]
    have hall : ∀ y ∈ k, x.1 < y.1 ∧ key m y.2 < key m x.2 := by
      cases k with
      | nil => intro y hy; exact absurd hy List.not_mem_nil
      | cons y0 r =>
        have h0 : ¬ key m x.2 ≤ key m y0.2 := fun h => hc ⟨y0, rfl, h⟩
        have hg2 := List.pairwise_cons.1 hgk
        intro y hy
        have hy1 : key m y.2 < key m x.2 := by
          rcases List.mem_cons.1 hy with e | e
          · rw [e]; omega
          · have := (hg2.1 y e).2; omega
        have hyc := hb y ((h.mem y).1 hy).1
        refine ⟨?_, hy1⟩
        by_cases he : x.1 = y.1
        · have := hyc.2 he; omega
        · have := hyc.1; omega
    have hgd : Good m (x :: k) := List.pairwise_cons.2 ⟨hall, hgk⟩
    refine Cov.kept ⟨fun z hz => ?_, fun z hz => ?_⟩ hgd.kept
    · rcases List.mem_cons.1 hz with e | e
      · rw [e]; exact List.mem_cons_self
      · exact List.mem_cons_of_mem _ ((h.mem z).1 e).1
    · rcases List.mem_cons.1 hz with e | e
      · exact ⟨z, by rw [e]; exact List.mem_cons_self, dom.rfl' z⟩
      · obtain ⟨y, hy, d⟩ := h.cov.2 z e
        exact ⟨y, List.mem_cons_of_mem _ hy, d⟩
theorem IsKept.perm {m : Bool} {xs ys out : L2} (h : IsKept m xs out) (hm : ∀ x, x ∈ ys ↔ x ∈ xs) : IsKept m ys out :=
  ⟨h.asc, fun x => by
    rw [h.mem x, hm x]
    constructor
    · rintro ⟨a, b⟩; exact ⟨a, fun y hy => b y ((hm y).1 hy)⟩
    · rintro ⟨a, b⟩; exact ⟨a, fun y hy => b y ((hm y).2 hy)⟩⟩
end Go.Proofs.Yteajgmihhnghfaa.ext
