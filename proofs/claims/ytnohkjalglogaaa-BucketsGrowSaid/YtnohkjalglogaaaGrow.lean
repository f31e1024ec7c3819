/- What the law BucketsGrow needs of lists. -/
import Derived.Test.YtnohkjalglogaaaGrowL
import Derived.Test.YtnohkjalglogaaaCounts
import Derived.Test.YtnohkjalglogaaaOne
namespace Go.Proofs.Ytnohkjalglogaaa.lst
open Go.RowKit Go.Proofs.Ytnohkjalglogaaa.mem Go.Proofs.Ytnohkjalglogaaa.buk
theorem canonF_list (k : Nat) : ∀ (m f n : Nat), 0 < arr k m n → arr k (m + 1) n = 0 → n ≤ f → canonF k f n = (List.range (m + 1)).map fun l => ((cof k n l : Nat) : Int)
  | 0, f, n, h1, h2, hf => by
    have h1' : 0 < n := h1
    have h2' : (n - k) / 2 = 0 := h2
    obtain ⟨f, rfl⟩ : ∃ f', f = f' + 1 := ⟨f - 1, by omega⟩
    rw [canonF_pos k f n h1', h2', canonF_zero]
    simp [cof, arr, h2']
  | m + 1, f, n, h1, h2, hf => by
    have hn : 0 < n := by
      rcases Nat.eq_zero_or_pos n with h | h
      · subst h; rw [arr_zero] at h1; omega
      · exact h
    obtain ⟨f, rfl⟩ : ∃ f', f = f' + 1 := ⟨f - 1, by omega⟩
    rw [canonF_pos k f n hn, canonF_list k m f _ h1 h2 (by omega), List.range_succ_eq_map (n := m + 1), List.map_cons, List.map_map]
    rfl
theorem grow_counts {k n : Nat} (hk : 1 ≤ k) (hk2 : k ≤ 128) (hn : n ≤ 1073741824) : countsI (iterIns k 0 n []) = canonI n k := by
  rw [canonI_in hn hk hk2]
  rcases Nat.eq_zero_or_pos n with h0 | h0
  · subst h0
    rw [countsI_f (by simp [iterIns]), canonF_zero]
  · have hv := iter_valid (k := k) (t := 0) (by omega) n [] (validP_nil hk hk2) (fun h => by simp at h) (by simp [wgt]; omega)
    have hc := grown_cof hk hk2 n hn
    have hpos := hv.2.2.2 h0
    have ho := hv.1.2.1
    generalize iterIns k 0 n [] = xs at *
    rw [countsI_t ⟨hpos, fun i hi => (ho i hi).2.1⟩]
    have c1 := cnt_pos ho hpos
    have hz := (ho 0 hpos).2.1.1
    have c2 := cnt_high (l := (at_ xs 0).2.toNat + 1) ho (by omega)
    rw [hc] at c1 c2
    have e1 : ∀ l, arr k (l + 1) n = (arr k l n - k) / 2 := fun l => arr_succ k l n
    rw [canonF_list k (at_ xs 0).2.toNat n n (by unfold cof at c1; omega) (by have := e1 ((at_ xs 0).2.toNat + 1); unfold cof at c2; omega) (Nat.le_refl _)]
    apply List.map_congr_left
    intro l _
    rw [hc]
theorem grow_ins {k n : Nat} (hk : 1 ≤ k) (hk2 : k ≤ 128) (hn : n < 1073741824) : insI (iterIns k 0 n []) k 0 = iterIns k 0 (n + 1) [] := by
  obtain ⟨b1, b2, b3, b4⟩ := iter_valid (k := k) (t := 0) (by omega) n [] (validP_nil hk hk2) (fun h => by simp at h) (by simp [wgt]; omega)
  have hw : wgt ([] : L2) = 0 := rfl
  rw [insI_t ⟨validB_t b1, mayB_iff.2 ⟨by omega, tail_lastT b2 (Int.le_refl _)⟩, by rw [← wgt_total b1.2.1, b3]; omega⟩, iterIns_succ, Int.toNat_natCast]
theorem grow_total {k n : Nat} (hk : 1 ≤ k) (hk2 : k ≤ 128) (hn : n ≤ 1073741824) : totalN (iterIns k 0 n []) = n := by
  obtain ⟨b1, b2, b3, b4⟩ := iter_valid (k := k) (t := 0) (by omega) n [] (validP_nil hk hk2) (fun h => by simp at h) (by simp [wgt]; omega)
  have hw : wgt ([] : L2) = 0 := rfl
  rw [← wgt_total b1.2.1, b3]; omega
end Go.Proofs.Ytnohkjalglogaaa.lst
