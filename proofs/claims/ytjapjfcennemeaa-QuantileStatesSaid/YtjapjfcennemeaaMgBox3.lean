/- PutK; Box3: texts in one. -/
import Derived.Test.YtjapjfcennemeaaMgPruV
import Derived.Test.YtjapjfcennemeaaMgPutEq
import Derived.Test.YtjapjfcennemeaaMgBox
set_option linter.unusedVariables false
set_option linter.unusedSimpArgs false
/- Plain: the reference's insertion into blocks is the code's for lists in order. No program. -/
namespace Go.Proofs.Ytjapjfcennemeaa.rnk
open Go.Proofs.Ytjapjfcennemeaa.mem Go.Proofs.Ytjapjfcennemeaa.buk
set_option linter.unusedVariables false
def putRK (k : Nat) (b : Int) : Nat → List K5 → Nat → List K5
  | 0, xs, _ => xs
  | f + 1, xs, l => if cnt (plainK xs) l ≤ k + 1 then xs else putRK k b f (joinK b xs (firstTo (plainK xs) l xs.length).toNat l) (l + 1)
theorem putRK_stop {k f : Nat} {b : Int} {xs : List K5} {l : Nat} (h : cnt (plainK xs) l ≤ k + 1) : putRK k b f xs l = xs := by
  cases f with
  | zero => rfl
  | succ f => simp [putRK, h]
theorem putRK_go {k f : Nat} {b : Int} {xs : List K5} {l : Nat} (h : ¬ cnt (plainK xs) l ≤ k + 1) : putRK k b (f + 1) xs l = putRK k b f (joinK b xs (firstTo (plainK xs) l xs.length).toNat l) (l + 1) := by
  simp [putRK, h]
theorem putRK_plain (k : Nat) (b : Int) : ∀ (f : Nat) (xs : List K5) (l : Nat), putR k f (plainK xs) l = plainK (putRK k b f xs l)
  | 0, _, _ => rfl
  | f + 1, xs, l => by
    simp only [putR, putRK]
    split
    · rfl
    · rw [joinK_plain b, plainK_length, putRK_plain k b f]
def putKC (xs : List K5) (k : Nat) (b t v : Int) : List K5 := putRK k b 31 (xs ++ [(t, v, 0, 1, [(v, 1, 1)])]) 0
theorem casc_putK (k : Nat) (b : Int) (hk : 1 ≤ k) : ∀ (F f : Nat) (xs : List K5) (l e : Nat), St (plainK xs) l e → xs.length ≤ f → l + F = 31 → wgt (plainK xs) ≤ 1073741824 → cascK k b f xs l e = putRK k b F xs l := by
  intro F
  induction F with
  | zero =>
    intro f xs l e hs hf hl hw
    have hc := hs.cnt_eq
    have h1 := wgt_cnt (plainK xs) l
    obtain rfl : l = 31 := by omega
    have : cnt (plainK xs) 31 = 0 := by
      rcases Nat.eq_zero_or_pos (cnt (plainK xs) 31) with h | h
      · exact h
      · have := Nat.mul_le_mul_right (2 ^ 31) h
        omega
    rw [runK_plain] at hc
    rw [cascK_stop (by omega)]
    rfl
  | succ F ih =>
    intro f xs l e hs hf hl hw
    have hc := hs.cnt_eq
    have hb := runB_le (plainK xs) l e
    have he := hs.he
    rw [plainK_length] at he
    rw [runK_plain] at hc hb
    by_cases hst : e - runK xs l e < k + 2
    · rw [cascK_stop hst, putRK_stop (by omega)]
    · obtain ⟨f, rfl⟩ : ∃ f', f = f' + 1 := ⟨f - 1, by omega⟩
      have hfe := hs.first_eq (by rw [runK_plain]; omega)
      rw [plainK_length, runK_plain] at hfe
      rw [cascK_go hst, putRK_go (by omega), hfe, Int.toNat_natCast]
      obtain ⟨h1, _⟩ := runB_run (plainK xs) l e
      rw [runK_plain] at h1
      have hn := hs.next (by rw [runK_plain]; omega)
      rw [runK_plain, joinK_plain b] at hn
      exact ih f _ (l + 1) _ hn (by rw [joinK_length (by omega)]; omega) (by omega)
        (by rw [← joinK_plain, wgt_joined (by rw [plainK_length]; omega) (h1 _ (Nat.le_refl _) (by omega)) (h1 _ (by omega) (by omega))]; exact hw)
theorem plainK_append (xs ys : List K5) : plainK (xs ++ ys) = plainK xs ++ plainK ys := by simp [plainK]
theorem putKC_eq {xs : List K5} {k : Nat} {b : Int} (hk : 1 ≤ k) (h : ordOk (plainK xs) xs.length) (hw : wgt (plainK xs) < 1073741824) (t v : Int) : putKC xs k b t v = insKC xs k b t v := by
  rw [putKC, insKC]
  have e : plainK (xs ++ [(t, v, 0, 1, [(v, 1, 1)])]) = plainK xs ++ [(t, 0)] := by rw [plainK_append]; rfl
  have h2 := ord_St (xs := plainK xs) (by rw [plainK_length]; exact h) t
  rw [plainK_length] at h2
  exact (casc_putK k b hk 31 _ _ 0 _ (by rw [e]; exact h2) (by simp) rfl (by rw [e, wgt_append]; simp [wgt]; omega)).symm
/-- The number of entries does not grow. -/
def entsK (xs : List K5) : Nat := (xs.map fun x => x.2.2.2.2.length).sum
theorem pruL_len {N b : Int} {es : L3} (hb : 0 ≤ b) : (pruL N b es).length ≤ es.length := by
  unfold pruL
  split
  · exact Nat.le_refl _
  · rename_i h
    have := (pruTo_lt (N := N) (b := b) (show 0 < es.length by omega) (b.toNat + 1)).2
    omega
theorem twoR_len (b : Int) (x y : K5) : (twoR b x y).2.length ≤ x.2.2.2.2.length + y.2.2.2.2.length := by
  unfold twoR pruP
  split
  · rename_i h
    have hb : 0 ≤ b := by unfold pruOk at h; simp only [Bool.and_eq_true, decide_eq_true_eq] at h; omega
    refine Nat.le_trans (pruL_len hb) ?_
    unfold mrgP
    split
    · rw [mergeL, mrg_length]; exact Nat.le_refl _
    · exact Nat.zero_le _
  · exact Nat.zero_le _
theorem joinK_ents {b : Int} {xs : List K5} {s : Nat} {l : Int} (h : s + 1 < xs.length) : entsK (joinK b xs s l) ≤ entsK xs := by
  have e1 : xs = xs.take s ++ xs[s] :: xs[s + 1] :: xs.drop (s + 2) := by
    rw [← List.drop_eq_getElem_cons (by omega), ← List.drop_eq_getElem_cons (by omega), List.take_append_drop]
  have h1 : atK xs s = xs[s] := by simp [atK, List.getElem?_eq_getElem (show s < xs.length by omega)]
  have h2 : atK xs (s + 1) = xs[s + 1] := by simp [atK, List.getElem?_eq_getElem h]
  have h3 := twoR_len b xs[s] xs[s + 1]
  have e2 : entsK xs = entsK (xs.take s ++ xs[s] :: xs[s + 1] :: xs.drop (s + 2)) := by rw [← e1]
  rw [e2]
  unfold joinK bothK entsK
  rw [h1, h2]
  simp only [List.map_append, List.map_cons, List.sum_append, List.sum_cons]
  omega
end Go.Proofs.Ytjapjfcennemeaa.rnk

/- Boxes of six cells. No condition. -/
namespace Go.Proofs.Ytjapjfcennemeaa.gro
open Go.RowKit Go.Proofs.Ytjapjfcennemeaa.mem
set_option linter.unusedVariables false
section
variable {W : World} {L : List (Nat × TypeId × Array Value)} {g : Nat} {t : TypeId} {x0 x1 x2 x3 x4 x5 u v u0 u1 u2 u3 u4 u5 : Value}
theorem Bx.puti {c : Array Value} (h : Bx W ((g, t, c) :: L)) (hd : ∀ q ∈ L, q.1 ≠ g) (i : Nat) (u : Value) : Bx (W.setCell ⟨g, i, none⟩ u) ((g, t, c.setIfInBounds i u) :: L) :=
  Bx.cons_ (h.head.set_ i u) (h.tail.far (p := ⟨g, i, none⟩) hd u)
theorem Bx.put01 (h : Bx W ((g, t, #[x0, x1, x2, x3, x4, x5]) :: L)) (hd : ∀ q ∈ L, q.1 ≠ g) : Bx ((W.setCell ⟨g, 0, none⟩ u).setCell ⟨g, 1, none⟩ v) ((g, t, #[u, v, x2, x3, x4, x5]) :: L) := by
  have := (h.puti hd 0 u).puti hd 1 v
  simpa using this
theorem Bx.put23 (h : Bx W ((g, t, #[x0, x1, x2, x3, x4, x5]) :: L)) (hd : ∀ q ∈ L, q.1 ≠ g) : Bx ((W.setCell ⟨g, 2, none⟩ u).setCell ⟨g, 3, none⟩ v) ((g, t, #[x0, x1, u, v, x4, x5]) :: L) := by
  have := (h.puti hd 2 u).puti hd 3 v
  simpa using this
theorem Bx.put45 (h : Bx W ((g, t, #[x0, x1, x2, x3, x4, x5]) :: L)) (hd : ∀ q ∈ L, q.1 ≠ g) : Bx ((W.setCell ⟨g, 4, none⟩ u).setCell ⟨g, 5, none⟩ v) ((g, t, #[x0, x1, x2, x3, u, v]) :: L) := by
  have := (h.puti hd 4 u).puti hd 5 v
  simpa using this
theorem Bx.put6 (h : Bx W ((g, t, #[x0, x1, x2, x3, x4, x5]) :: L)) (hd : ∀ q ∈ L, q.1 ≠ g) :
    Bx ((((((W.setCell ⟨g, 0, none⟩ u0).setCell ⟨g, 1, none⟩ u1).setCell ⟨g, 2, none⟩ u2).setCell ⟨g, 3, none⟩ u3).setCell ⟨g, 4, none⟩ u4).setCell ⟨g, 5, none⟩ u5) ((g, t, #[u0, u1, u2, u3, u4, u5]) :: L) :=
  ((h.put01 hd).put23 hd).put45 hd
/-- Six stores into another box. -/
theorem Bx.far6 (h : Bx W L) (hd : ∀ q ∈ L, q.1 ≠ g) :
    Bx ((((((W.setCell ⟨g, 0, none⟩ u0).setCell ⟨g, 1, none⟩ u1).setCell ⟨g, 2, none⟩ u2).setCell ⟨g, 3, none⟩ u3).setCell ⟨g, 4, none⟩ u4).setCell ⟨g, 5, none⟩ u5) L :=
  (((((h.far (p := ⟨g, 0, none⟩) hd u0).far (p := ⟨g, 1, none⟩) hd u1).far (p := ⟨g, 2, none⟩) hd u2).far (p := ⟨g, 3, none⟩) hd u3).far (p := ⟨g, 4, none⟩) hd u4).far (p := ⟨g, 5, none⟩) hd u5
end
theorem Below.set6 {B : Nat} {W0 W : World} (h : Below B W0 W) {g : Nat} (hg : B ≤ g) (u0 u1 u2 u3 u4 u5 : Value) :
    Below B W0 ((((((W.setCell ⟨g, 0, none⟩ u0).setCell ⟨g, 1, none⟩ u1).setCell ⟨g, 2, none⟩ u2).setCell ⟨g, 3, none⟩ u3).setCell ⟨g, 4, none⟩ u4).setCell ⟨g, 5, none⟩ u5) :=
  (((((h.setCell hg u0).setCell hg u1).setCell hg u2).setCell hg u3).setCell hg u4).setCell hg u5
end Go.Proofs.Ytjapjfcennemeaa.gro
