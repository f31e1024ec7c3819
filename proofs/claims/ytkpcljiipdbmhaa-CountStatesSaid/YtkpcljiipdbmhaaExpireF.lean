/- Contract, with a new slice. -/
import Derived.Test.YtkpcljiipdbmhaaMgIns
import Derived.Test.YtkpcljiipdbmhaaMgInsertF
namespace Go.Proofs.Ytkpcljiipdbmhaa.lst
open Go.RowKit Go.Proofs.Ytkpcljiipdbmhaa.mem
set_option linter.unusedVariables false
set_option maxHeartbeats 2000000 in
theorem Expire_f (A : Option Addr) (n c : Nat) (xs : List (Int × Int)) (f : Int) (w : World) (h1 : PRead w w.heap.size A n xs) (hnc : n ≤ c) (hcm : c ≤ maxLen) (hsmall : n ≤ 65536) :
    Calls Try.prog 58 #[.slice A n c, .int .i64 f] w (NewF (expireL f xs) w) := by
  have hcm9 : c ≤ 9223372036854775807 := hcm
  clear hcm
  have H1 := Lib.hid h1
  clear h1
  obtain ⟨i0, hi0, hz0, hz1, hz2⟩ := info_parts bucket_info
  have HI := Lib.hid hi0
  have HZ0 := Lib.hid hz0
  have HZ1 := Lib.hid hz1
  have HZ2 := Lib.hid hz2
  clear hi0 hz0 hz1 hz2
  go_enter Try.func58, Try.ntmps58
  go_wp2
  go_loop [0] (fun s => ∃ (m c' : Nat) (A' : Option Addr) (ys : List (Int × Int)), s = .slice A' m c' ∧ m ≤ n ∧ m ≤ c' ∧ c' ≤ 9223372036854775807 ∧ Hid (PRead w w.heap.size A' m ys) ∧ Hid (expireL f ys = expireL f xs)) (fun s => match s with | .slice _ m _ => m | _ => 0)
  case atStart => exact ⟨n, c, A, xs, rfl, Nat.le_refl _, hnc, hcm9, H1, (rfl : expireL f xs = expireL f xs)⟩
  case round =>
    obtain ⟨m, c', A', ys, rfl, hmn, hmc, hcm', H, HE⟩ := hrel
    have hl := H.out.len
    have HL := Lib.hid hl
    clear hl
    have HA : Hid (∀ b, Reads (w.alloc b) (w.alloc b).heap.size 2 A' m (pc ys)) := fun b => (H.out.alloc (Nat.le_refl _) b).more (by simp)
    by_cases hm : 0 < m
    · obtain ⟨ad, rfl, _, hc1, _⟩ := (H.out).at_ hm
      rw [show ad.add (0 * 2) = ad from by simp [Addr.add]] at hc1
      have hy := Lib.hid (expire_yes (f := f) (ys := ys))
      have hn := Lib.hid (expire_no (f := f) (ys := ys))
      generalize (ys[0]?.getD (0, 0)).1 = z at *
      by_cases hz : z < f
      · go_wp2
        refine ⟨⟨m - 1, c' - 1, _, ys.drop 1, rfl, by omega, by omega, by omega, H.out.tail hm hmc, (hy.out hz (by rw [HL.out]; exact hm)).trans HE.out⟩, by show m - 1 < m; omega⟩
      · go_wp2_with (at_builtin; refine wpList_append_any _ rfl (.tmp 18) (.tmp 19) 22 rfl w.heap.size 87 i0 (.agg #[.int .i64 0, .int .i64 0]) 2 16 Try.underlying22 HI.out HZ0.out HZ1.out HZ2.out rfl (by omega) (.slice (some ⟨w.heap.size, 0, none⟩) 0 0) 0 [] rfl (own_empty w 87) _ (some ad) m c' (pc ys) rfl (HA.out _) (pc_oneCell ys) (by unfold maxLen; omega) (by omega) (by simp) ?_; intro v1 w1 hown1 hg1 hat1)
        go_ret
        exact newF_of_own ((Below.refl _ _).alloc (Nat.le_refl _) _) hown1 (by rw [← HE.out, hn.out (by omega) (by rw [HL.out]; exact hm)]; rfl) hg1 (by simp [Value.ownBlock])
    · obtain rfl : m = 0 := by omega
      go_wp2_with (at_builtin; refine wpList_append_any _ rfl (.tmp 18) (.tmp 19) 22 rfl w.heap.size 87 i0 (.agg #[.int .i64 0, .int .i64 0]) 2 16 Try.underlying22 HI.out HZ0.out HZ1.out HZ2.out rfl (by omega) (.slice (some ⟨w.heap.size, 0, none⟩) 0 0) 0 [] rfl (own_empty w 87) _ A' 0 c' (pc ys) rfl (HA.out _) (pc_oneCell ys) (by unfold maxLen; omega) (by omega) (by simp) ?_; intro v1 w1 hown1 hg1 hat1)
      go_ret
      have e : ys = [] := List.eq_nil_of_length_eq_zero HL.out
      exact newF_of_own ((Below.refl _ _).alloc (Nat.le_refl _) _) hown1 (by rw [← HE.out, e]; rfl) hg1 (by simp [Value.ownBlock])
end Go.Proofs.Ytkpcljiipdbmhaa.lst
