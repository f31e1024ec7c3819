/- Contract of the statements' own Mod and Int. -/
import Derived.Test.YtjapjfcennemeaaMem
namespace Go.Proofs.Ytjapjfcennemeaa.made
open Go.RowKit Go.Proofs.Ytjapjfcennemeaa.mem
set_option linter.unusedVariables false
set_option maxHeartbeats 1000000 in
theorem Mod_any (a n : Int) (w : World) (ha : -9223372036854775808 ≤ a ∧ a ≤ 9223372036854775807) (hn : 1 ≤ n) (hn2 : n ≤ 4611686018427387904) :
    Calls Try.prog 38 #[.int .i64 a, .int .i64 n] w fun e w' => e = .returned (.int .i64 (a % n)) ∧ w = w' := by
  obtain ⟨a1, a2⟩ := ha
  have e1 : a.tmod n = if 0 ≤ a ∨ a % n = 0 then a % n else a % n - n := by
    rw [Int.tmod_eq_emod]
    have : n ∣ a ↔ a % n = 0 := Int.dvd_iff_emod_eq_zero
    simp only [this]
    by_cases hc : 0 ≤ a ∨ a % n = 0
    · rw [if_pos hc, if_pos hc]; simp
    · rw [if_neg hc, if_neg hc]; omega
  have h0 : 0 ≤ a % n := Int.emod_nonneg _ (by omega)
  have h1 : a % n < n := Int.emod_lt_of_pos _ (by omega)
  have HE := Lib.hid e1
  clear e1
  by_cases hneg : 0 ≤ a
  · go_enter Try.func38, Try.ntmps38
    go_wp2
    go_ret
    exact ⟨rfl, rfl⟩
  · by_cases hz : a % n = 0
    · have ht : a.tmod n = 0 := by rw [HE.out, if_pos (.inr hz), hz]
      have HZ := Lib.hid hz
      clear hz h0 h1
      go_enter Try.func38, Try.ntmps38
      go_wp2
      go_ret
      exact ⟨ret_int HZ.out.symm, rfl⟩
    · have ht : a.tmod n = a % n - n := by rw [HE.out, if_neg (by omega)]
      generalize a % n = r at *
      have HQ := Lib.hid ht
      have hq1 : a.tmod n < 0 := by omega
      have hq2 : 0 ≤ a.tmod n + n := by omega
      have hq3 : a.tmod n + n ≤ 4611686018427387904 := by omega
      clear ht h0 h1 hz
      go_enter Try.func38, Try.ntmps38
      go_wp2
      go_ret
      exact ⟨ret_int (by rw [HQ.out]; omega), rfl⟩
set_option maxHeartbeats 1000000 in
theorem Int_any (a n : Int) (w : World) (ha : -9223372036854775808 ≤ a ∧ a ≤ 9223372036854775807) (hn : 1 ≤ n) (hn2 : n ≤ 4611686018427387904) :
    Calls Try.prog 24 #[.int .i64 a, .int .i64 n] w fun e w' => e = .returned (.int .i64 (a % n)) ∧ w = w' := by
  have hM := Lib.hid (Mod_any a n w ha hn hn2)
  have h0 : 0 ≤ a % n := Int.emod_nonneg _ (by omega)
  have h1 : a % n < n := Int.emod_lt_of_pos _ (by omega)
  generalize a % n = r at *
  obtain ⟨a1, a2⟩ := ha
  go_enter Try.func24, Try.ntmps24
  go_wp2_with (go_at_call 38; refine hM.out.mono ?_; rintro e w' ⟨rfl, rfl⟩)
  go_ret
  exact ⟨rfl, rfl⟩
end Go.Proofs.Ytjapjfcennemeaa.made
