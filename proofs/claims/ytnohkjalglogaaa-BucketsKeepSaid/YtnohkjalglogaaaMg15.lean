/- KeepT; Made: texts in one. -/
import Derived.Test.YtnohkjalglogaaaKeepM
import Derived.Test.YtnohkjalglogaaaQuery
import Derived.Test.YtnohkjalglogaaaRIns
import Derived.Test.YtnohkjalglogaaaMg12
import Derived.Test.YtnohkjalglogaaaExpire
import Derived.Test.YtnohkjalglogaaaWithin
import Derived.Test.YtnohkjalglogaaaValidR
import Derived.Test.YtnohkjalglogaaaMem
/- What a list in order keeps: by expiry, by insertion; its bounds are narrow and its buckets few. -/
namespace Go.Proofs.Ytnohkjalglogaaa.lst
open Go.RowKit Go.Proofs.Ytnohkjalglogaaa.mem Go.Proofs.Ytnohkjalglogaaa.buk Go.Proofs.Ytnohkjalglogaaa.wid Go.Proofs.Ytnohkjalglogaaa.num
set_option linter.unusedVariables false
def Good (xs : List (Int × Int)) (k : Nat) (t : Int) (m : Nat) : Prop := ValidP xs k ∧ (0 < xs.length → tailT xs ≤ t) ∧ wgt xs ≤ m
theorem good_nil {k : Nat} (hk : 1 ≤ k) (hk2 : k ≤ 128) : Good [] k 0 0 := ⟨validP_nil hk hk2, fun h => by simp at h, Nat.le_refl _⟩
theorem expire_drop (f : Int) : ∀ xs : List (Int × Int), ∃ i, expireL f xs = xs.drop i
  | [] => ⟨0, rfl⟩
  | p :: r => by
    unfold expireL
    rw [List.dropWhile_cons]
    split
    · obtain ⟨i, hi⟩ := expire_drop f r
      exact ⟨i + 1, by rw [List.drop_succ_cons]; exact hi⟩
    · exact ⟨0, rfl⟩
theorem good_expire {xs : List (Int × Int)} {k m : Nat} {t : Int} (h : Good xs k t m) (f : Int) : Good (expireL f xs) k t m ∧ totalN (expireL f xs) ≤ totalN xs := by
  obtain ⟨hv, ht, hw⟩ := h
  obtain ⟨i, hi⟩ := expire_drop f xs
  rw [hi]
  have hv2 := drop_valid hv i
  have hwd := wgt_drop xs i
  have e1 := wgt_total hv.2.1
  have e2 := wgt_total hv2.2.1
  refine ⟨⟨hv2, fun hp => ?_, by omega⟩, by omega⟩
  rw [List.length_drop] at hp
  unfold tailT
  rw [at_drop, List.length_drop, show i + (xs.length - i - 1) = xs.length - 1 by omega]
  exact ht (by omega)
theorem good_insert {xs : List (Int × Int)} {k m : Nat} {t0 t : Int} (h : Good xs k t0 m) (h0 : t0 ≤ t) (ht : 0 ≤ t ∧ t ≤ 16777216) (hm : m ≤ 1000) : Good (insI xs k t) k t (m + 1) ∧ totalN (insI xs k t) = totalN xs + 1 := by
  obtain ⟨hv, htl, hw⟩ := h
  have e1 := wgt_total hv.2.1
  have hmm : 0 < xs.length → tailT xs ≤ t := fun hp => Int.le_trans (htl hp) h0
  obtain ⟨v2, w2, t2, p2⟩ := insC_valid hv ht hmm (by omega)
  have e2 := wgt_total v2.2.1
  rw [insI_t ⟨validB_t hv, mayB_iff.2 ⟨ht, tail_lastT hmm ht.1⟩, by omega⟩, Int.toNat_natCast]
  exact ⟨⟨v2, fun _ => by omega, by omega⟩, by omega⟩
theorem bits_top {L w : Nat} (h : 2 ^ L ≤ w) (hw : w < 2 ^ 64) : L + 1 ≤ Lib.bitLen w := by
  have h1 := bits_spec w 64 hw
  have h2 : 2 ^ L < 2 ^ Lib.bitLenAux 64 w := Nat.lt_of_le_of_lt h h1
  exact (Nat.pow_lt_pow_iff_right (by omega)).1 h2
theorem good_tail {xs : List (Int × Int)} {k m : Nat} {t : Int} (h : Good xs k t m) (hm : m ≤ 1000) :
    buk.validB xs k = true ∧ (xs.length : Int) ≤ mostI k (totalN xs) ∧ xs.length ≤ 1000 ∧ (0 < xs.length → 0 ≤ (at_ xs 0).2 ∧ (at_ xs 0).2 ≤ 30) ∧ 0 ≤ (totalN xs : Int) ∧ (totalN xs : Int) ≤ 1000 ∧
    ∃ lo mid : Int, qv xs = .agg #[.int .i64 lo, .int .i64 1, .int .i64 mid, .int .i64 1, .int .i64 (totalN xs), .int .i64 1] ∧ I64 lo ∧ I64 mid ∧
      wid.validB lo 1 mid 1 (totalN xs) 1 = true ∧ withB lo 1 mid 1 (totalN xs) 1 k lo 1 = true := by
  obtain ⟨hv, htl, hw⟩ := h
  have e1 := wgt_total hv.2.1
  have hlw := len_wgt xs
  have hk := hv.1
  have key : (xs.length : Int) ≤ mostI k (totalN xs) ∧ qlo xs ≤ totalN xs ∧ 0 ≤ qlo xs ∧ (k : Int) * ((totalN xs : Int) - qlo xs) ≤ qlo xs := by
    rcases Nat.eq_zero_or_pos xs.length with h0 | h0
    · obtain rfl : xs = [] := List.eq_nil_of_length_eq_zero h0
      refine ⟨?_, ?_, ?_, ?_⟩
      · rw [mostI_in ⟨hk, by simp [totalN]⟩]
        exact Int.mul_nonneg (by omega) (by omega)
      · simp [qlo, totalN]
      · simp [qlo]
      · simp [qlo, totalN]
    · have hl0 := (hv.2.1 0 h0).2.1
      obtain ⟨L, hL⟩ := Int.eq_ofNat_of_zero_le hl0.1
      obtain ⟨f1, f2, f3, f4⟩ := keep_facts hv h0 L hL
      have hwt : wt (at_ xs 0).2 = 2 ^ L := by unfold wt; rw [if_pos hl0, hL, Int.toNat_natCast]
      have hq : qlo xs = (totalN xs : Int) - (wt (at_ xs 0).2 : Int) + 1 := by unfold qlo; rw [if_neg (by omega)]
      rw [hwt] at hq
      have hp : 1 ≤ 2 ^ L := Nat.one_le_two_pow
      refine ⟨?_, by rw [hq]; omega, by rw [hq]; omega, ?_⟩
      · rw [mostI_in ⟨hk, by omega⟩]
        have hb := bits_top f4 (by omega)
        have h5 : (k + 1) * (L + 1) ≤ (k + 1) * Lib.bitLen (wgt xs) := Nat.mul_le_mul_left _ hb
        have h6 : bitsN (totalN xs : Int) = Lib.bitLen (wgt xs) := by unfold bitsN; rw [Int.toNat_natCast, e1]
        rw [h6]
        have h7 : xs.length ≤ (k + 1) * Lib.bitLen (wgt xs) := Nat.le_trans f2 h5
        have : ((k : Int) + 1) * (Lib.bitLen (wgt xs) : Int) = (((k + 1) * Lib.bitLen (wgt xs) : Nat) : Int) := by rw [Int.natCast_mul]; rfl
        rw [this]
        omega
      · have hx : (totalN xs : Int) - qlo xs = ((2 ^ L : Nat) : Int) - 1 := by rw [hq]; omega
        rw [hx, hq, Int.mul_sub, Int.mul_one, ← Int.natCast_mul]
        omega
  obtain ⟨k1, k2, k3, k4⟩ := key
  have q : ∀ v, whl (qlo xs) (totalN xs) v = v := fun v => if_pos k2
  refine ⟨validB_t hv, k1, by omega, fun hp => (hv.2.1 0 hp).2.1, by omega, by omega, qlo xs, (qlo xs + totalN xs) / 2, by unfold qv; simp only [q], by unfold I64; omega, by unfold I64; omega, whole_valid k2, ?_⟩
  unfold withB
  rw [whole_valid k2, valid_one, decide_eq_true (show (1 : Int) ≤ k by omega), decide_eq_true k3, decide_eq_true (show (k : Int) * ((totalN xs : Int) * 1 - qlo xs * 1) * 1 ≤ qlo xs * (1 * 1) by simpa using k4)]
  rfl
end Go.Proofs.Ytnohkjalglogaaa.lst

/- Contract of the statements' own Mod and Int. -/
namespace Go.Proofs.Ytnohkjalglogaaa.made
open Go.RowKit Go.Proofs.Ytnohkjalglogaaa.mem
set_option linter.unusedVariables false
set_option maxHeartbeats 1000000 in
theorem Mod_any (a n : Int) (w : World) (ha : -9223372036854775808 ≤ a ∧ a ≤ 9223372036854775807) (hn : 1 ≤ n) (hn2 : n ≤ 4611686018427387904) :
    Calls Try.prog 30 #[.int .i64 a, .int .i64 n] w fun e w' => e = .returned (.int .i64 (a % n)) ∧ w = w' := by
  obtain ⟨a1, a2⟩ := ha
  have e1 : a.tmod n = if 0 ≤ a ∨ a % n = 0 then a % n else a % n - n := by
    rw [Int.tmod_eq_emod]
    have : n ∣ a ↔ a % n = 0 := Int.dvd_iff_emod_eq_zero
    simp only [this]
    by_cases hc : 0 ≤ a ∨ a % n = 0
    · rw [if_pos hc, if_pos hc]; simp
    · rw [if_neg hc, if_neg hc]; omega
  have h0 : 0 ≤ a % n := Int.emod_nonneg _ (by omega)
  have h1 : a % n < n := Int.emod_lt_of_pos _ (by omega)
  have HE := Lib.hid e1
  clear e1
  by_cases hneg : 0 ≤ a
  · go_enter Try.func30, Try.ntmps30
    go_wp2
    go_ret
    exact ⟨rfl, rfl⟩
  · by_cases hz : a % n = 0
    · have ht : a.tmod n = 0 := by rw [HE.out, if_pos (.inr hz), hz]
      have HZ := Lib.hid hz
      clear hz h0 h1
      go_enter Try.func30, Try.ntmps30
      go_wp2
      go_ret
      exact ⟨ret_int HZ.out.symm, rfl⟩
    · have ht : a.tmod n = a % n - n := by rw [HE.out, if_neg (by omega)]
      generalize a % n = r at *
      have HQ := Lib.hid ht
      have hq1 : a.tmod n < 0 := by omega
      have hq2 : 0 ≤ a.tmod n + n := by omega
      have hq3 : a.tmod n + n ≤ 4611686018427387904 := by omega
      clear ht h0 h1 hz
      go_enter Try.func30, Try.ntmps30
      go_wp2
      go_ret
      exact ⟨ret_int (by rw [HQ.out]; omega), rfl⟩
set_option maxHeartbeats 1000000 in
theorem Int_any (a n : Int) (w : World) (ha : -9223372036854775808 ≤ a ∧ a ≤ 9223372036854775807) (hn : 1 ≤ n) (hn2 : n ≤ 4611686018427387904) :
    Calls Try.prog 31 #[.int .i64 a, .int .i64 n] w fun e w' => e = .returned (.int .i64 (a % n)) ∧ w = w' := by
  have hM := Lib.hid (Mod_any a n w ha hn hn2)
  have h0 : 0 ≤ a % n := Int.emod_nonneg _ (by omega)
  have h1 : a % n < n := Int.emod_lt_of_pos _ (by omega)
  generalize a % n = r at *
  obtain ⟨a1, a2⟩ := ha
  go_enter Try.func31, Try.ntmps31
  go_wp2_with (go_at_call 30; refine hM.out.mono ?_; rintro e w' ⟨rfl, rfl⟩)
  go_ret
  exact ⟨rfl, rfl⟩
end Go.Proofs.Ytnohkjalglogaaa.made
