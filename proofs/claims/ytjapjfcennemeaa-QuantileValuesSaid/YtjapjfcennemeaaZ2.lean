/- Open: proved here in one text, no conditions beyond those that each theorem states. -/
import Derived.Deep.Slices
import Derived.Deep.Fields
import Derived.ChangeSame
import Derived.OpenShut
import Derived.Lib.SmallJoins
import Derived.Test.YtjapjfcennemeaaZ1
set_option linter.unusedVariables false
set_option linter.unusedSimpArgs false
namespace Go.Proofs.Ytjapjfcennemeaa.opn
open Go.ChangeShapes Go.WideShapes Go.Deep Go.RowKit Go.Proofs.Ytjapjfcennemeaa.mem
section
variable {H : Type} {enc : TypeId × Value → H} {P : Program} {w : World} {base : Nat} {spare : Nat → Bool} {held : Bool}
def Rng (n : Int) : Prop := -9223372036854775808 ≤ n ∧ n ≤ 9223372036854775807
theorem open_slice_fields {t e : TypeId} {fs : Array Field} {fuel : Nat} {cs : List Value} {x : DataW H × List MemPlace} (ht : P.underlying t = some (.slice e)) (he : P.underlying e = some (.struct fs))
    (hone : oneCellFields P fs = true) (hC : P.cellsOf e = fs.size) (h : DataW.trod enc P w base spare held fuel t cs = some x) :
    (cs = [.slice none 0 0] ∧ x = (.nil, [])) ∨
    ∃ (a : Addr) (len cap m : Nat) (D : Nat → DataW H) (Pl : Nat → List MemPlace), cs = [.slice (some a) len cap] ∧ base ≤ a.block ∧ len ≤ cap ∧ cap ≤ maxLen ∧ m = (if spare a.block then cap else len) ∧
      x = (.slice ((List.range len).map D) ((List.range (m - len)).map fun j => D (len + j)), MemPlace.row a (m * fs.size) ++ (List.range m).flatMap Pl) ∧
      ∀ i, i < m → ∃ (ys : List (DataW H × List MemPlace)) (n : Nat), D i = .agg (ys.map (·.1)) ∧ Pl i = ys.flatMap (·.2) ∧ ys.length = fs.size ∧
        ∀ (j : Nat) (f : Field), fs[j]? = some f → ∃ (v : Value) (y : DataW H × List MemPlace), w.cell? (a.add (i * fs.size + j)) = some v ∧ ys[j]? = some y ∧ DataW.trod enc P w base spare held n f.type [v] = some y := by
  rcases open_slice ht h with h0 | ⟨a, len, cap, m, n, D, Pl, hcs, hb, hl, hm, hmm, hx, hi⟩
  · exact .inl h0
  · refine .inr ⟨a, len, cap, m, D, Pl, hcs, hb, hl, hm, hmm, by rw [hC] at hx; exact hx, fun i him => ?_⟩
    obtain ⟨cs', hc, ht'⟩ := hi i him
    rw [hC] at hc
    obtain ⟨ys, n', hn', hy, hlen, hyl, hf⟩ := DataW.trod_struct he ht'
    obtain ⟨_, hcl, hat⟩ := World.cells?_some hc
    simp only [Prod.mk.injEq] at hy
    refine ⟨ys, n', hy.1, hy.2, hyl, fun j f hj => ?_⟩
    obtain ⟨ho, hk⟩ := hone_of hone j f hj
    have hjl : j < fs.size := (Array.getElem?_eq_some_iff.1 hj).1
    have hcell := hat j hjl
    have hv : cs'[j]? = some (cs'[j]'(by omega)) := List.getElem?_eq_getElem (by omega)
    have h1 := hf j f hj
    rw [ho, hk] at h1
    have hone' : (cs'.drop j).take 1 = [cs'[j]'(by omega)] := by
      rw [List.drop_eq_getElem_cons (by omega)]
      rfl
    rw [hone'] at h1
    have hys : ys[j]? = some (ys[j]'(by omega)) := List.getElem?_eq_getElem (by omega)
    refine ⟨_, _, ?_, hys, h1.trans hys⟩
    rw [← Go.Deep.add_add, hcell, hv]
theorem open_pairs {t e : TypeId} {f0 f1 : Field} {fuel : Nat} {cs : List Value} {x : DataW H × List MemPlace} (ht : P.underlying t = some (.slice e)) (he : P.underlying e = some (.struct #[f0, f1]))
    (hone : oneCellFields P #[f0, f1] = true) (hC : P.cellsOf e = 2) (h0 : P.underlying f0.type = some (.int .i64)) (h1 : P.underlying f1.type = some (.int .i64))
    (h : DataW.trod enc P w base spare held fuel t cs = some x) :
    ∃ (A : Option Addr) (n c : Nat) (xs : List (Int × Int)), cs = [.slice A n c] ∧ n ≤ c ∧ c ≤ maxLen ∧ PRead w w.heap.size A n xs ∧ ∀ p ∈ xs, Rng p.1 ∧ Rng p.2 := by
  rcases open_slice_fields ht he hone hC h with ⟨hcs, _⟩ | ⟨a, len, cap, m, D, Pl, hcs, hb, hl, hm, hmm, hx, hi⟩
  · exact ⟨none, 0, 0, [], hcs, Nat.le_refl _, Nat.zero_le _, .nil_, fun p hp => by simp at hp⟩
  · have hlm : len ≤ m := by rw [hmm]; split <;> omega
    have key : ∀ i, i < len → ∃ p : Int × Int, w.cell? (a.add (i * 2)) = some (.int .i64 p.1) ∧ w.cell? (a.add (i * 2 + 1)) = some (.int .i64 p.2) ∧ Rng p.1 ∧ Rng p.2 := by
      intro i hil
      obtain ⟨ys, n, _, _, _, hf⟩ := hi i (by omega)
      obtain ⟨v0, y0, hc0, _, ht0⟩ := hf 0 f0 rfl
      obtain ⟨v1, y1, hc1, _, ht1⟩ := hf 1 f1 rfl
      obtain ⟨z0, e0, _, wz0⟩ := DataW.trod_int h0 ht0
      obtain ⟨z1, e1, _, wz1⟩ := DataW.trod_int h1 ht1
      simp only [List.cons.injEq, and_true] at e0 e1
      subst e0 e1
      exact ⟨(z0, z1), hc0, hc1, bounds_i64 wz0, bounds_i64 wz1⟩
    obtain ⟨g, hg⟩ : ∃ g : Nat → Int × Int, ∀ i, i < len → w.cell? (a.add (i * 2)) = some (.int .i64 (g i).1) ∧ w.cell? (a.add (i * 2 + 1)) = some (.int .i64 (g i).2) ∧ Rng (g i).1 ∧ Rng (g i).2 := by
      have hk : ∀ i, ∃ p : Int × Int, i < len → w.cell? (a.add (i * 2)) = some (.int .i64 p.1) ∧ w.cell? (a.add (i * 2 + 1)) = some (.int .i64 p.2) ∧ Rng p.1 ∧ Rng p.2 := fun i => by
        by_cases hi : i < len
        · obtain ⟨p, hp⟩ := key i hi
          exact ⟨p, fun _ => hp⟩
        · exact ⟨(0, 0), fun h => absurd h hi⟩
      exact ⟨fun i => (hk i).choose, fun i => (hk i).choose_spec⟩
    refine ⟨some a, len, cap, (List.range len).map g, hcs, hl, hm, ?_, ?_⟩
    · refine ⟨by rw [pc_length]; simp, fun hn => ⟨a, rfl, ?_, fun j u hu => ?_⟩⟩
      · have := World.block_lt_of_cell? _ _ (hg 0 hn).1
        rwa [block_of_add] at this
      · have hj : j < len * 2 := by
          rcases Nat.lt_or_ge j (len * 2) with h | h
          · exact h
          · rw [List.getElem?_eq_none (by rw [pc_length]; simp; omega)] at hu; cases hu
        have hi2 : j / 2 < len := by omega
        have hgg := pc_get ((List.range len).map g) (j / 2) (by simpa using hi2)
        simp only [List.getElem_map, List.getElem_range] at hgg
        obtain ⟨k1, k2, _⟩ := hg (j / 2) hi2
        rcases Nat.mod_two_eq_zero_or_one j with hm2 | hm2
        · have e : j / 2 * 2 = j := by omega
          rw [e] at k1
          have h1 := hgg.1
          rw [show (pc ((List.range len).map g))[j / 2 * 2]? = (pc ((List.range len).map g))[j]? from by rw [e], hu] at h1
          injection h1 with h1
          rw [h1]; exact k1
        · have e : j / 2 * 2 + 1 = j := by omega
          rw [e] at k2
          have h1 := hgg.2
          rw [show (pc ((List.range len).map g))[j / 2 * 2 + 1]? = (pc ((List.range len).map g))[j]? from by rw [e], hu] at h1
          injection h1 with h1
          rw [h1]; exact k2
    · intro p hp
      simp only [List.mem_map, List.mem_range] at hp
      obtain ⟨i, hil, rfl⟩ := hp
      exact (hg i hil).2.2
end
end Go.Proofs.Ytjapjfcennemeaa.opn
