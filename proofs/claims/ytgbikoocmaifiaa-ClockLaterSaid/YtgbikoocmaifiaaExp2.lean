/- Contract of the reference's Expired, and the uniqueness of its answer. -/
import Derived.Test.YtgbikoocmaifiaaExp
namespace Go.Proofs.Ytgbikoocmaifiaa.clk
open Go.RowKit Go.Proofs.Ytgbikoocmaifiaa.mem
set_option linter.unusedVariables false

theorem ExpIs.uniq {zs : List Int} {now v r r' : Int} (h : ExpIs zs now v r) (h' : ExpIs zs now v r') : r = r' := by
  rcases h with ⟨a, rfl⟩ | ⟨a, b, rfl⟩ | ⟨a, b, k, rfl, k1, k2, k3⟩ <;> rcases h' with ⟨a', rfl⟩ | ⟨a', b', rfl⟩ | ⟨a', b', k', rfl, k1', k2', k3'⟩
  all_goals first | rfl | omega | (exact absurd ‹okTo zs now zs.length› ‹¬ okTo zs now zs.length›) | skip
  rcases Nat.lt_trichotomy k k' with h | h | h
  · have h1 := k2' k h
    have h2 := k3 k (Nat.le_refl _) (by omega)
    omega
  · rw [h]
  · have h1 := k2 k' h
    have h2 := k3' k' (Nat.le_refl _) (by omega)
    omega

theorem ExpIs.later {zs : List Int} {now to v r r' : Int} (h : ExpIs zs now v r) (h' : ExpIs zs to v r') (hr : 0 ≤ r) (hn : now ≤ to) (ht : 0 ≤ to ∧ to ≤ 16777216) : r ≤ r' := by
  rcases h with ⟨a, rfl⟩ | ⟨a, b, rfl⟩ | ⟨a, b, k, rfl, k1, k2, k3⟩
  · omega
  · omega
  have hg : 0 ≤ now ∧ now ≤ 16777216 ∧ 1 ≤ v ∧ v ≤ 1048576 := Decidable.byContradiction fun hc => by rw [first_f hc] at a; omega
  obtain ⟨g1, g2, g3, g4⟩ := hg
  have e1 := first_t g1 g2 g3 g4
  have e2 := first_t ht.1 ht.2 g3 g4
  have ho : okTo zs to zs.length := fun i hi => ⟨(b i hi).1, by have := (b i hi).2.1; omega, (b i hi).2.2⟩
  rcases h' with ⟨a', rfl⟩ | ⟨a', b', rfl⟩ | ⟨a', b', k', rfl, k1', k2', k3'⟩
  · omega
  · exact absurd ho b'
  · rcases Nat.lt_or_ge k' k with h | h
    · have h1 := k2 k' h
      have h2 := k3' k' (Nat.le_refl _) (by omega)
      omega
    · omega

/-- The state of the reference's loop: c of the first k ticks have left. -/
def RefInv (zs : List Int) (now x : Int) (k c : Nat) : Prop :=
  okTo zs now k ∧ c ≤ k ∧ (∀ t, t < c → zs[t]?.getD 0 < x) ∧ (∀ t, c ≤ t → t < k → x ≤ zs[t]?.getD 0)
theorem RefInv.yes {zs : List Int} {now x : Int} {k c : Nat} (h : RefInv zs now x k c) (h1 : 0 ≤ zs[k]?.getD 0) (h2 : zs[k]?.getD 0 ≤ now) (h3 : 0 < k → zs[k - 1]?.getD 0 ≤ zs[k]?.getD 0)
    (h4 : zs[k]?.getD 0 < x) : RefInv zs now x (k + 1) (c + 1) := by
  obtain ⟨a, b, d, e⟩ := h
  have hck : c = k := by
    rcases Nat.lt_or_ge c k with hlt | hge
    · have h5 := e (k - 1) (by omega) (by omega)
      have h6 := h3 (by omega)
      omega
    · omega
  subst hck
  refine ⟨fun i hi => ?_, by omega, fun t ht => ?_, fun t h5 h6 => by omega⟩
  · rcases Nat.lt_or_ge i c with h | h
    · exact a i h
    · obtain rfl : i = c := by omega
      exact ⟨h1, h2, h3⟩
  · rcases Nat.lt_or_ge t c with h | h
    · exact d t h
    · obtain rfl : t = c := by omega
      exact h4
theorem RefInv.no {zs : List Int} {now x : Int} {k c : Nat} (h : RefInv zs now x k c) (h1 : 0 ≤ zs[k]?.getD 0) (h2 : zs[k]?.getD 0 ≤ now) (h3 : 0 < k → zs[k - 1]?.getD 0 ≤ zs[k]?.getD 0)
    (h4 : x ≤ zs[k]?.getD 0) : RefInv zs now x (k + 1) c := by
  obtain ⟨a, b, d, e⟩ := h
  refine ⟨fun i hi => ?_, by omega, d, fun t h5 h6 => ?_⟩
  · rcases Nat.lt_or_ge i k with h | h
    · exact a i h
    · obtain rfl : i = k := by omega
      exact ⟨h1, h2, h3⟩
  · rcases Nat.lt_or_ge t k with h | h
    · exact e t h5 h
    · obtain rfl : t = k := by omega
      exact h4

def ExpOkR (zs : List Int) (now v : Int) (w : World) (e : Ending) (w' : World) : Prop :=
  ∃ r : Int, e = .returned (.int .i64 r) ∧ ExpIs zs now v r ∧ w = w'

set_option maxHeartbeats 4000000 in
theorem Expired_any (A : Option Addr) (n c : Nat) (zs : List Int) (now v : Int) (w : World) (hzn : zs.length = n) (hn : n < 4611686018427387904) (B : Nat)
    (hr : Reads w B 1 A n (zs.map (Value.int .i64))) :
    Calls Try.prog 18 #[.slice A n c, .int .i64 now, .int .i64 v] w (ExpOkR zs now v w) := by
  have HF := Lib.hid (First_any now v)
  have HT := Lib.hid (Tick_any now)
  have HW := Lib.hid (Window_any v)
  have HZ := Lib.hid hzn
  clear hzn
  have HP : Hid (∀ r, ExpIs zs now v r → ExpOkR zs now v w (.returned (.int .i64 r)) w) := fun r h => ⟨r, rfl, h, rfl⟩
  by_cases hg : 0 ≤ now ∧ now ≤ 16777216 ∧ 1 ≤ v ∧ v ≤ 1048576
  · obtain ⟨g1, g2, g3, g4⟩ := hg
    have hx := first_t g1 g2 g3 g4
    rw [tickB_iff.2 ⟨g1, g2⟩] at HT
    rw [winB_iff.2 ⟨g3, g4⟩] at HW
    have hx0 : 0 ≤ firstI now v := by rw [hx]; omega
    clear hx
    generalize hxx : firstI now v = x at HF hx0
    have HXX := Lib.hid hxx
    clear hxx
    have HR := Lib.hid hr
    clear hr
    go_enter Try.func18, Try.ntmps18
    go_wp2_with (first | (go_at_call 13; refine (HT.out _).mono ?_; rintro e w' ⟨rfl, rfl⟩) | (go_at_call 14; refine (HW.out _).mono ?_; rintro e w' ⟨rfl, rfl⟩))
    go_loop [7, 20] (fun d s => ∃ (k c : Nat), k ≤ n ∧ s = .int .i64 k ∧ d = .int .i64 c ∧ c ≤ k ∧ Hid (RefInv zs now x k c)) (fun _ s => n - (intOf s).toNat)
    case atStart => exact ⟨0, 0, Nat.zero_le _, rfl, rfl, Nat.le_refl _, (⟨fun i hi => absurd hi (Nat.not_lt_zero _), Nat.le_refl _, fun t ht => absurd ht (Nat.not_lt_zero _), fun t _ ht => absurd ht (Nat.not_lt_zero _)⟩ : RefInv zs now x 0 0)⟩
    case round =>
      obtain ⟨k, d, hk, rfl, rfl, hdk, hok⟩ := hrel
      by_cases hlt : k < n
      · obtain ⟨ad, rfl, hb1, hc1⟩ := reads_at HR.out hlt
        have hc2 : 0 < k → w.cell? (ad.add (k - 1)) = some (.int .i64 (zs[k - 1]?.getD 0)) := fun h => by
          obtain ⟨ad', e, _, hc⟩ := reads_at HR.out (show k - 1 < n by omega)
          injection e with e; subst e; exact hc
        have hi1 := Lib.hid hok.out.yes
        have hi2 := Lib.hid hok.out.no
        have HN : Hid (¬ (0 ≤ zs[k]?.getD 0 ∧ zs[k]?.getD 0 ≤ now ∧ (0 < k → zs[k - 1]?.getD 0 ≤ zs[k]?.getD 0)) → ¬ okTo zs now zs.length) := fun h h' => h (h' k (by rw [HZ.out]; exact hlt))
        clear hok
        generalize zs[k]?.getD 0 = z at *
        have HTz := Lib.hid (Tick_any z)
        rcases Bool.eq_false_or_eq_true (tickB z) with ht | ht <;> rw [ht] at HTz
        all_goals first | rw [tickB_iff] at ht | rw [tickB_iff0] at ht
        all_goals by_cases h0 : 0 < k
        all_goals first
          | (have hc3 := hc2 h0
             clear hc2
             generalize zs[k - 1]?.getD 0 = y at *)
          | (obtain rfl : k = 0 := by omega
             clear hc2
             rw [show ad.add 0 = ad from by simp [Addr.add]] at hc1)
        all_goals
          go_wp2_with (first | (go_at_call 13; refine (HTz.out _).mono ?_; rintro e w' ⟨rfl, rfl⟩) | (go_at_call 11; refine (HF.out _).mono ?_; rintro e w' ⟨rfl, rfl⟩))
        all_goals first
          | (go_ret; exact HP.out _ (.inr (.inl ⟨by rw [HXX.out]; omega, HN.out (by omega), rfl⟩)))
          | (refine ⟨⟨k + 1, d + 1, by omega, by go_num, by go_num, by omega, ?_⟩, by simp [intOf]; omega⟩; exact hi1.out (by omega) (by omega) (by omega) (by omega))
          | (refine ⟨⟨k + 1, d, by omega, by go_num, by go_num, by omega, ?_⟩, by simp [intOf]; omega⟩; exact hi2.out (by omega) (by omega) (by omega) (by omega))
          | (refine ⟨⟨0 + 1, d + 1, by omega, by go_num, by go_num, by omega, ?_⟩, by simp [intOf]; omega⟩; exact hi1.out (by omega) (by omega) (by omega) (by omega))
          | (refine ⟨⟨0 + 1, d, by omega, by go_num, by go_num, by omega, ?_⟩, by simp [intOf]; omega⟩; exact hi2.out (by omega) (by omega) (by omega) (by omega))
      · obtain rfl : k = n := by omega
        obtain ⟨q1, q2, q3, q4⟩ := hok.out
        have HE := Lib.hid (HP.out d (.inr (.inr ⟨by rw [HXX.out]; omega, by rw [HZ.out]; exact q1, d, rfl, by rw [HZ.out]; exact q2, by rw [HXX.out]; exact q3, by rw [HXX.out, HZ.out]; exact q4⟩)))
        clear q1 q2 q3 q4 hok
        go_wp2
        go_ret
        exact HE.out
  · have h1 : tickB now = false ∨ winB v = false := by rw [tickB_iff0, winB_iff0]; omega
    have hx := first_f hg
    have hE := HP.out (-1) (.inl ⟨by rw [hx]; omega, rfl⟩)
    have HE := Lib.hid hE
    clear hx hg hE HP
    generalize tickB now = bt at *
    generalize winB v = bw at *
    rcases h1 with rfl | rfl
    · go_enter Try.func18, Try.ntmps18
      go_wp2_with (first | (go_at_call 13; refine (HT.out _).mono ?_; rintro e w' ⟨rfl, rfl⟩))
      go_ret
      exact HE.out
    · cases bt
      all_goals
        go_enter Try.func18, Try.ntmps18
        go_wp2_with (first | (go_at_call 13; refine (HT.out _).mono ?_; rintro e w' ⟨rfl, rfl⟩) | (go_at_call 14; refine (HW.out _).mono ?_; rintro e w' ⟨rfl, rfl⟩))
        go_ret
        exact HE.out
end Go.Proofs.Ytgbikoocmaifiaa.clk
