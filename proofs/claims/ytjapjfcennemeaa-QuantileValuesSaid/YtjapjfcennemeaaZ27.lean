/- RnkL, Gcd, Times: proved here in one text, no conditions beyond those that each theorem states. -/
import Derived.LoopN
import Derived.Test.YtjapjfcennemeaaZ25
import Derived.Test.YtjapjfcennemeaaZ26
import Derived.Test.YtjapjfcennemeaaZ17
import Derived.Test.YtjapjfcennemeaaZ16
import Derived.Test.YtjapjfcennemeaaZ10
import Derived.Test.YtjapjfcennemeaaZ13
set_option linter.unusedVariables false
set_option linter.unusedSimpArgs false
section
namespace Go.Proofs.Ytjapjfcennemeaa.qtl
open Go.Proofs.Ytjapjfcennemeaa.mem Go.Proofs.Ytjapjfcennemeaa.rnk Go.Proofs.Ytjapjfcennemeaa.buk
open Go.Proofs.Ytjapjfcennemeaa.num (bitsN bitsN_le)
set_option linter.unusedVariables false
theorem pow_le2 {l : Nat} {b : Int} (hb : 2 ≤ b) (h : b + 1 < 2 ^ l) : 2 ≤ l := by
  match l with
  | 0 => simp at h; omega
  | 1 => simp at h; omega
  | n + 2 => omega
theorem ceil_mul {x b : Int} (hb : 1 ≤ b) (hx : 0 ≤ x) : b * ceilD x b ≤ x + b - 1 := by
  unfold ceilD
  exact Int.mul_ediv_self_le (by omega)
theorem allow_step {b : Int} (hb : 2 ≤ b) : ∀ l : Nat, allowTo b l = 0 ∨ 2 * (b * allowTo b l + (b - 2)) ≤ (l : Int) * 2 ^ l
  | 0 => .inl rfl
  | l + 1 => by
    have e : allowTo b (l + 1) = if b + 1 < 2 ^ l then 2 * allowTo b l + ceilD (2 ^ l - 1) b else allowTo b l := rfl
    rw [e]
    have hp : (0 : Int) < 2 ^ l := Int.pow_pos (by omega)
    have e2 : (2 : Int) ^ (l + 1) = 2 * 2 ^ l := by rw [Int.pow_succ]; omega
    by_cases h : b + 1 < 2 ^ l
    · rw [if_pos h]
      have hl := pow_le2 hb h
      have hc := ceil_mul (x := 2 ^ l - 1) (b := b) (by omega) (by omega)
      have e3 : b * (2 * allowTo b l + ceilD (2 ^ l - 1) b) = 2 * (b * allowTo b l) + b * ceilD (2 ^ l - 1) b := by rw [Int.mul_add, Int.mul_left_comm]
      have e4 : (((l + 1 : Nat) : Int)) * 2 ^ (l + 1) = 2 * ((l : Int) * 2 ^ l) + 2 * 2 ^ l := by rw [e2]; push_cast; rw [Int.add_mul, Int.mul_left_comm]; omega
      right
      rw [e3, e4]
      rcases allow_step hb l with h0 | h0
      · rw [h0]
        have h5 : 2 * (2 : Int) ^ l ≤ (l : Int) * 2 ^ l := Int.mul_le_mul_of_nonneg_right (by omega) (by omega)
        omega
      · omega
    · rw [if_neg h]
      rcases allow_step hb l with h0 | h0
      · exact .inl h0
      · right
        have e4 : (((l + 1 : Nat) : Int)) * 2 ^ (l + 1) = 2 * ((l : Int) * 2 ^ l) + 2 * 2 ^ l := by rw [e2]; push_cast; rw [Int.add_mul, Int.mul_left_comm]; omega
        have h5 : 0 ≤ (l : Int) * 2 ^ l := Int.mul_nonneg (by omega) (by omega)
        rw [e4]
        omega
theorem allow_lvl {b : Int} (hb : 2 ≤ b) (hb2 : b ≤ 65536) {l : Nat} (hl : l ≤ 30) : b * allowed (l : Int) b ≤ ((l : Int) + 1) * 2 ^ l := by
  unfold allowed
  rw [if_pos ⟨⟨by omega, by omega⟩, by omega, hb2⟩, Int.toNat_natCast]
  have hp : (0 : Int) < 2 ^ l := Int.pow_pos (by omega)
  have e2 : (2 : Int) ^ (l + 1) = 2 * 2 ^ l := by rw [Int.pow_succ]; omega
  have e4 : (((l + 1 : Nat) : Int)) * 2 ^ (l + 1) = 2 * (((l : Int) + 1) * 2 ^ l) := by rw [e2]; push_cast; rw [Int.mul_left_comm]
  have h5 : 0 ≤ ((l : Int) + 1) * 2 ^ l := Int.mul_nonneg (by omega) (by omega)
  rcases allow_step hb (l + 1) with h0 | h0
  · rw [h0]; omega
  · rw [e4] at h0; omega
theorem gapTo_at {es : L3} : ∀ (n i : Nat), 0 < i → i ≤ n → (at3 es i).2.2 - (at3 es (i - 1)).2.1 ≤ gapTo es n
  | 0, i, h0, h1 => absurd h0 (by omega)
  | n + 1, i, h0, h1 => by
    have e : gapTo es (n + 1) = max (gapTo es n) ((at3 es (n + 1)).2.2 - (at3 es n).2.1) := rfl
    rw [e]
    by_cases h : i = n + 1
    · subst h; rw [Nat.add_sub_cancel]; omega
    · have := gapTo_at (es := es) n i h0 (by omega); omega
theorem up_lw_gap {N : Int} {es : L3} (h : valR N es = true) (h0 : 0 < es.length) {i : Nat} (hi : i ≤ es.length) : up es N i - lw es i ≤ gapTo es (es.length - 1) - 1 := by
  have hg := gapTo_bd h (show 1 ≤ N by have := (valR_iff.1 h).1; omega) (es.length - 1) (by omega)
  by_cases h1 : i < es.length
  · by_cases h2 : 0 < i
    · have := gapTo_at (es := es) (es.length - 1) i h2 (by omega)
      unfold up lw
      rw [if_pos h1, if_pos h2]; omega
    · obtain rfl : i = 0 := by omega
      have h3 := up_zero h
      have h4 : lw es 0 = 0 := rfl
      rw [h3, h4]; omega
  · obtain rfl : i = es.length := by omega
    have h3 := lw_end h
    have h4 : up es N es.length = N := by unfold up; rw [if_neg (by omega)]
    rw [h3, h4]; omega
theorem cancel_le {c x y : Int} (hc : 0 < c) (h : c * x ≤ c * y) : x ≤ y := Int.le_of_mul_le_mul_left h hc
theorem slack_le {k B : Int} (hk : 1 ≤ k) (hB : 0 ≤ B) (hb2 : 2 * k * (B + 2) ≤ 65536) : ∀ xs : List K5, (∀ x ∈ xs, (0 ≤ x.2.2.1 ∧ x.2.2.1 ≤ 30) ∧ x.2.2.1 + 1 ≤ B + 2) → 2 * k * slack (2 * k * (B + 2)) xs ≤ ((wgt (plainK xs) : Nat) : Int)
  | [], _ => by simp [slack, plainK, wgt]
  | x :: r, h => by
    have ih := slack_le hk hB hb2 r (fun y hy => h y (List.mem_cons_of_mem _ hy))
    obtain ⟨⟨a1, a2⟩, a3⟩ := h x (List.mem_cons_self ..)
    have e1 : slack (2 * k * (B + 2)) (x :: r) = allowed x.2.2.1 (2 * k * (B + 2)) + slack (2 * k * (B + 2)) r := rfl
    have e2 : ((wgt (plainK (x :: r)) : Nat) : Int) = 2 ^ x.2.2.1.toNat + ((wgt (plainK r) : Nat) : Int) := by
      show (((2 ^ x.2.2.1.toNat + wgt (plainK r) : Nat)) : Int) = _
      push_cast; rfl
    obtain ⟨l, hl⟩ := Int.eq_ofNat_of_zero_le a1
    rw [hl] at a2 a3 e1 e2
    have hb1 : 2 ≤ 2 * k * (B + 2) := by
      have h1 : 2 * k * 1 ≤ 2 * k * (B + 2) := Int.mul_le_mul_of_nonneg_left (by omega) (by omega)
      omega
    have h1 := allow_lvl hb1 hb2 (l := l) (by omega)
    have hp : (0 : Int) < 2 ^ l := Int.pow_pos (by omega)
    have h2 : 2 * k * allowed (l : Int) (2 * k * (B + 2)) ≤ 2 ^ l := by
      refine cancel_le (c := B + 2) (by omega) ?_
      have h3 : ((l : Int) + 1) * 2 ^ l ≤ (B + 2) * 2 ^ l := Int.mul_le_mul_of_nonneg_right (by omega) (by omega)
      have h4 : (B + 2) * (2 * k * allowed (l : Int) (2 * k * (B + 2))) = 2 * k * (B + 2) * allowed (l : Int) (2 * k * (B + 2)) := by rw [← Int.mul_assoc, Int.mul_comm (B + 2) (2 * k)]
      rw [h4]
      omega
    rw [e1, e2, Int.mul_add, Int.toNat_natCast]
    omega
theorem bits_top {L w : Nat} (h : 2 ^ L ≤ w) (hw : w < 2 ^ 64) : L + 1 ≤ Lib.bitLen w := by
  have h1 := wid.bits_spec w 64 hw
  have h2 : 2 ^ L < 2 ^ Lib.bitLenAux 64 w := Nat.lt_of_le_of_lt h h1
  exact (Nat.pow_lt_pow_iff_right (by omega)).1 h2
theorem levels_bd {xs : List K5} {k b : Int} (h : validK xs k b = true) {p : Int} (hp : (totalK xs : Int) ≤ p) (hp2 : p ≤ 65536) : ∀ x ∈ xs, (0 ≤ x.2.2.1 ∧ x.2.2.1 ≤ 30) ∧ x.2.2.1 + 1 ≤ (bitsN p : Int) := fun x hx => by
  have hv := validB_iff.1 (validK_iff.1 h).2.1
  have hm : (x.1, x.2.2.1) ∈ plainK xs := by unfold plainK; exact List.mem_map.2 ⟨x, hx, rfl⟩
  have h1 := ord_levels hv.2.1 (x.1, x.2.2.1) hm
  have h2 := wgt_tot hv.2.1
  have h3 : (2 : Nat) ^ x.2.2.1.toNat ≤ wgt (plainK xs) := by
    have : ∀ ys : L2, (x.1, x.2.2.1) ∈ ys → (2 : Nat) ^ x.2.2.1.toNat ≤ wgt ys := by
      intro ys
      induction ys with
      | nil => intro h; cases h
      | cons y r ih =>
        intro h
        have e : wgt (y :: r) = 2 ^ y.2.toNat + wgt r := rfl
        rcases List.mem_cons.1 h with h | h
        · subst h; exact Nat.le_add_right _ _
        · rw [e]; exact Nat.le_trans (ih h) (Nat.le_add_left _ _)
    exact this _ hm
  refine ⟨h1, ?_⟩
  have h4 : (2 : Nat) ^ x.2.2.1.toNat ≤ p.toNat := by unfold totalK at hp; omega
  have h5 := bits_top (w := p.toNat) h4 (by omega)
  unfold bitsN
  omega
theorem narrow_facts {x : K5} {r : List K5} {k p w now : Int} {its : Its} (hk : 1 ≤ k ∧ k ≤ 64) (hp : 1 ≤ p ∧ p ≤ 65536) (h : RunB (x :: r) (2 * k) (sizeQ k p) w now its) (ht : (totalK (x :: r) : Int) ≤ p) :
    ∃ L : Nat, x.2.2.1 = (L : Int) ∧ 2 * k * slack (sizeQ k p) r ≤ numK r ∧ 2 * k * (2 ^ L - 1) ≤ numK r := by
  have hv := validK_iff.1 h.valid
  have hvb := validB_iff.1 hv.2.1
  have hA := all_mem hv.2.2
  have hsz := sizeQ_t ⟨hk, hp⟩
  have hb := bitsN_le p
  have hbd := two_bd hk.1 hk.2 hb
  have hlv := levels_bd h.valid ht hp.2
  have hs := slack_le (k := k) (B := (bitsN p : Int)) hk.1 (by omega) (by omega) r (fun y hy => by
    have := hlv y (List.mem_cons_of_mem _ hy)
    exact ⟨this.1, by omega⟩)
  rw [← hsz] at hs
  have hnum := num_wgt (xs := r) (fun y hy => hA y (List.mem_cons_of_mem _ hy))
  obtain ⟨L, hL⟩ := Int.eq_ofNat_of_zero_le (hlv x (List.mem_cons_self ..)).1.1
  obtain ⟨kk, hkk⟩ := Int.eq_ofNat_of_zero_le (show 0 ≤ 2 * k by omega)
  rw [hkk] at hvb
  have hkf := keep_facts hvb (by simp [plainK]) L (by rw [at_plainK]; exact hL)
  have e2 : wgt (plainK (x :: r)) = 2 ^ x.2.2.1.toNat + wgt (plainK r) := rfl
  rw [e2, hL, Int.toNat_natCast] at hkf
  refine ⟨L, hL, by rw [hnum]; exact hs, ?_⟩
  have h6 := hkf.2.2.1
  have e3 : 2 * k * (2 ^ L - 1) = ((kk * 2 ^ L : Nat) : Int) - (kk : Int) := by rw [Int.mul_sub, hkk]; push_cast; omega
  rw [e3, hnum]
  omega
theorem quant_narrow {x : K5} {r : List K5} {k p w now : Int} {its : Its} (hk : 1 ≤ k ∧ k ≤ 64) (hp : 1 ≤ p ∧ p ≤ 65536) (h : RunB (x :: r) (2 * k) (sizeQ k p) w now its) (hl : its.length ≤ 1000000) (ht : (totalK (x :: r) : Int) ≤ p) :
    ∃ N es, sureK (x :: r) = ((N, es), 0) ∧ k * (gapR N es / 2 + 2 ^ x.2.2.1.toNat - 1) ≤ ((liveV now w its).length : Int) := by
  obtain ⟨N, es, z, q1, q2, q3, q4, M, q5, q6, q7, q8, q9, q10, q11, q12⟩ := h.near hl
  refine ⟨N, es, q1, ?_⟩
  obtain ⟨L, hL, f1, f2⟩ := narrow_facts hk hp h ht
  have hg : gapR N es = gapTo es (es.length - 1) := by unfold gapR; rw [if_pos ⟨q2, q3⟩]
  rw [hg, hL, Int.toNat_natCast]
  have hg1 := (gapTo_bd q2 (show 1 ≤ N by have := (valR_iff.1 q2).1; omega) (es.length - 1) (by omega)).1
  generalize gapTo es (es.length - 1) = G at *
  generalize slack (sizeQ k p) r = s at *
  have e1 : k * (G / 2 + 2 ^ L - 1) = k * (G / 2) + k * (2 ^ L - 1) := by rw [← Int.mul_add]; congr 1; omega
  have e2 : 2 * k * (2 ^ L - 1) = 2 * (k * (2 ^ L - 1)) := Int.mul_assoc _ _ _
  rw [e1]
  by_cases hs : s ≤ 0
  · have hG : G / 2 = 0 := by omega
    rw [hG, Int.mul_zero]
    omega
  · have h3 : k * (G / 2) ≤ k * s := Int.mul_le_mul_of_nonneg_left (by omega) (by omega)
    have e3 : 2 * k * s = 2 * (k * s) := Int.mul_assoc _ _ _
    omega
theorem ents_most {xs : List K5} {k p : Int} (hk : 1 ≤ k ∧ k ≤ 64) (hp : 1 ≤ p ∧ p ≤ 65536) (h : validK xs (2 * k) (sizeQ k p) = true) (ht : (totalK xs : Int) ≤ p) : ((entsK xs : Nat) : Int) ≤ mostQ k p := by
  have hsz := sizeQ_t ⟨hk, hp⟩
  have hbd := two_bd hk.1 hk.2 (bitsN_le p)
  have hlv := levels_bd h ht hp.2
  have hvb := validB_iff.1 (validK_iff.1 h).2.1
  have he := ents_valid h
  obtain ⟨kk, hkk⟩ := Int.eq_ofNat_of_zero_le (show 0 ≤ 2 * k by omega)
  rw [hkk] at hvb
  unfold mostQ
  rw [if_neg (by omega)]
  cases xs with
  | nil =>
    have : entsK [] = 0 := rfl
    rw [this]
    have := (three_bd (z := sizeQ k p) hk.1 hk.2 (bitsN_le p) (by omega)).2.1
    exact this
  | cons x r =>
    obtain ⟨L, hL⟩ := Int.eq_ofNat_of_zero_le (hlv x (List.mem_cons_self ..)).1.1
    have hkf := (keep_facts hvb (by simp [plainK]) L (by rw [at_plainK]; exact hL)).2.1
    have hlb := (hlv x (List.mem_cons_self ..)).2
    rw [plainK_length] at hkf
    obtain ⟨z, hz⟩ := Int.eq_ofNat_of_zero_le (show 0 ≤ sizeQ k p by omega)
    have h1 : (x :: r).length ≤ (kk + 1) * bitsN p := Nat.le_trans hkf (Nat.mul_le_mul_left _ (by omega))
    have h2 : (x :: r).length * (z + 1) ≤ (kk + 1) * bitsN p * (z + 1) := Nat.mul_le_mul_right _ h1
    rw [hz] at he ⊢
    have e1 : ((z : Int) + 1).toNat = z + 1 := by omega
    rw [e1] at he
    have e2 : (2 * k + 1) * (bitsN p : Int) * ((z : Int) + 1) = (((kk + 1) * bitsN p * (z + 1) : Nat) : Int) := by rw [hkk]; push_cast; rfl
    rw [e2]
    omega
theorem rank_narrow {x : K5} {r : List K5} {k p w now : Int} {its : Its} (hk : 1 ≤ k ∧ k ≤ 64) (hp : 1 ≤ p ∧ p ≤ 65536) (h : RunB (x :: r) (2 * k) (sizeQ k p) w now its) (hl : its.length ≤ 1000000) (ht : (totalK (x :: r) : Int) ≤ p) :
    ∃ N es, sureK (x :: r) = ((N, es), 0) ∧ valR N es = true ∧ N ≤ ((liveV now w its).length : Int) ∧ ∀ v, k * (up es N (cutV es v) + 2 ^ x.2.2.1.toNat - 1 - lw es (cutV es v)) ≤ N := by
  obtain ⟨N, es, z, q1, q2, q3, q4, M, q5, q6, q7, q8, q9, q10, q11, q12⟩ := h.near hl
  refine ⟨N, es, q1, q2, by omega, fun v => ?_⟩
  have hg := rnk.up_lw_gap q2 (cutV_spec v es).1
  have hv := validK_iff.1 h.valid
  have hvb := validB_iff.1 hv.2.1
  have hA := all_mem hv.2.2
  have hsz := sizeQ_t ⟨hk, hp⟩
  have hb := bitsN_le p
  have hbd := two_bd hk.1 hk.2 hb
  have hlv := levels_bd h.valid ht hp.2
  have hs := slack_le (k := k) (B := (bitsN p : Int)) hk.1 (by omega) (by omega) r (fun y hy => by
    have := hlv y (List.mem_cons_of_mem _ hy)
    exact ⟨this.1, by omega⟩)
  rw [← hsz] at hs
  have hnum := num_wgt (xs := r) (fun y hy => hA y (List.mem_cons_of_mem _ hy))
  obtain ⟨L, hL⟩ := Int.eq_ofNat_of_zero_le q4.1
  obtain ⟨kk, hkk⟩ := Int.eq_ofNat_of_zero_le (show 0 ≤ 2 * k by omega)
  rw [hkk] at hvb
  have hkf := keep_facts hvb (by simp [plainK]) L (by rw [at_plainK]; exact hL)
  have e2 : wgt (plainK (x :: r)) = 2 ^ x.2.2.1.toNat + wgt (plainK r) := rfl
  rw [e2, hL, Int.toNat_natCast] at hkf
  rw [hL, Int.toNat_natCast]
  have h6 := hkf.2.2.1
  have h7 : 2 * k * (2 ^ L - 1) ≤ ((wgt (plainK r) : Nat) : Int) := by
    have e3 : 2 * k * (2 ^ L - 1) = ((kk * 2 ^ L : Nat) : Int) - (kk : Int) := by rw [Int.mul_sub, hkk]; push_cast; omega
    rw [e3]
    omega
  have h8 : 2 * k * (up es N (cutV es v) + 2 ^ L - 1 - lw es (cutV es v)) ≤ 2 * k * (slack (sizeQ k p) r + (2 ^ L - 1)) := Int.mul_le_mul_of_nonneg_left (by omega) (by omega)
  rw [Int.mul_add (2 * k)] at h8
  have h9 : 2 * k * (up es N (cutV es v) + 2 ^ L - 1 - lw es (cutV es v)) = 2 * (k * (up es N (cutV es v) + 2 ^ L - 1 - lw es (cutV es v))) := Int.mul_assoc _ _ _
  omega
end Go.Proofs.Ytjapjfcennemeaa.qtl
end
section
namespace Go.Proofs.Ytjapjfcennemeaa.wid
open Go.RowKit Go.Proofs.Ytjapjfcennemeaa.mem Go.Proofs.Ytjapjfcennemeaa.gro
set_option linter.unusedVariables false
theorem gcd_step {a b : Nat} (h : b ≠ 0) : Nat.gcd b (divr a b) = Nat.gcd a b := by
  unfold divr; rw [if_neg h, Nat.gcd_comm a b, Nat.gcd_rec b a, Nat.gcd_comm]
set_option maxHeartbeats 2000000 in
set_option maxRecDepth 100000 in
theorem Gcd_any (a b : Nat) (ha : a < 340282366920938463463374607431768211456) (hb : b < 340282366920938463463374607431768211456) (w : World) :
    Calls Try.prog 139 #[(Value.agg #[Value.int IntKind.u64 (hi (a)), Value.int IntKind.u64 (lo (a))]), (Value.agg #[Value.int IntKind.u64 (hi (b)), Value.int IntKind.u64 (lo (b))])] w fun e w' => e = .returned (Value.agg #[Value.int IntKind.u64 (hi (Nat.gcd a b)), Value.int IntKind.u64 (lo (Nat.gcd a b))]) ∧ Below w.heap.size w w' := by
  obtain ⟨G, hG⟩ : ∃ G, Nat.gcd a b = G := ⟨_, rfl⟩
  have HG := Lib.hid hG
  rw [hG]
  clear hG
  go_enter Try.func139, Try.ntmps139
  go_wp2_with fail
  obtain ⟨W0, hW, hs0, K0, B0⟩ := start3 w 111 111 111 #[Value.int IntKind.u64 (hi a), Value.int IntKind.u64 (lo a)] #[Value.int IntKind.u64 (hi b), Value.int IntKind.u64 (lo b)] #[Value.int IntKind.u64 0, Value.int IntKind.u64 0]
  rw [hW]
  clear hW
  have HK0 := Lib.hid K0
  have HB0 := Lib.hid B0
  have z0 : w.heap.size + 1 + 1 + 1 ≤ W0.heap.size := by omega
  clear K0 B0 hs0
  go_loopg [] b (fun kx wr => ∃ x y : Nat, x < 340282366920938463463374607431768211456 ∧ y < 340282366920938463463374607431768211456 ∧ y ≤ kx ∧ w.heap.size + 1 + 1 + 1 ≤ wr.heap.size ∧ Hid (Nat.gcd x y = G) ∧ Hid (Below w.heap.size w wr) ∧
    Hid (Bx wr [(w.heap.size + 1 + 1, 111, #[Value.int IntKind.u64 0, Value.int IntKind.u64 0]), (w.heap.size + 1, 111, #[Value.int IntKind.u64 (hi y), Value.int IntKind.u64 (lo y)]), (w.heap.size, 111, #[Value.int IntKind.u64 (hi x), Value.int IntKind.u64 (lo x)])]))
  case atStart => exact ⟨a, b, ha, hb, Nat.le_refl _, z0, HG, HB0, HK0⟩
  case round =>
    obtain ⟨x, y, hx, hy, hyk, hz, HGx, HBx, HKx⟩ := hrel
    clear HG HB0 HK0 z0 hb ha
    have R := HKx.out.rules
    simp only [Rules] at R
    have HZ := Lib.hid (fun W => zero_any y W)
    by_cases h0 : y = 0
    · subst h0
      rw [decide_eq_true rfl] at HZ
      have hGx : Hid (x = G) := by have := HGx.out; rwa [Nat.gcd_zero_right] at this
      go_wp2_with (go_at_call 147; refine (HZ.out _).mono ?_; rintro e w1 ⟨rfl, hb1⟩; have K1 := HKx.out.below hb1; clear R; have R := K1.rules; simp only [Rules] at R; have HK1 := Lib.hid K1; have HB1 := Lib.hid (HBx.out.trans (hb1.mono (by omega))); clear K1 hb1)
      refine bodyPost_ret (v := (Value.agg #[Value.int IntKind.u64 (hi (x)), Value.int IntKind.u64 (lo (x))])) (by simp [results, Try.results139, go_sem, R]) rfl ⟨?_, ?_⟩
      · rw [hGx.out]
      · exact (HB1.out.setCell (by first | (simp; done) | (simp; omega)) _).setCell (by first | (simp; done) | (simp; omega)) _
    · rw [decide_eq_false h0] at HZ
      have HD := Lib.hid (fun W => Div_any x y W hx hy)
      have hGy := Lib.hid ((gcd_step h0).trans HGx.out)
      have hlt : divr x y < y := by unfold divr; rw [if_neg h0]; exact Nat.mod_lt _ (by omega)
      generalize divr x y = rr at *
      generalize divq x y = qq at *
      generalize decide (y ≠ 0) = bb at *
      go_wp2_with fail
      refine (HZ.out _).mono ?_
      rintro e w1 ⟨rfl, hb1⟩
      obtain ⟨K1, B1, z1⟩ := HKx.out.call HBx.out (by omega) hb1
      clear R
      have R := K1.rules
      simp only [Rules] at R
      go_wp2_with fail
      refine (HD.out _).mono ?_
      rintro e w2 ⟨rfl, hb2⟩
      obtain ⟨K2, B2, z2⟩ := K1.call B1 (by omega) hb2
      clear R
      have R := K2.rules
      simp only [Rules] at R
      obtain ⟨s2, hs2⟩ : ∃ s2, w2.heap.size = s2 := ⟨_, rfl⟩
      have HK2 := Lib.hid K2
      have HB2 := Lib.hid B2
      have z3 : w.heap.size + 1 + 1 + 1 ≤ s2 := by omega
      clear K1 B1 K2 B2 hb1 hb2 z1 z2 HKx HBx
      go_wp2_with fail
      go_region
      have KP := (HK2.out.alloc (.cells #[Value.int IntKind.u64 (hi qq), Value.int IntKind.u64 (lo qq)] 111)).alloc (.cells #[Value.int IntKind.u64 (hi rr), Value.int IntKind.u64 (lo rr)] 111)
      have BP := (HB2.out.alloc (by omega) (.cells #[Value.int IntKind.u64 (hi qq), Value.int IntKind.u64 (lo qq)] 111)).alloc (by simp; omega) (.cells #[Value.int IntKind.u64 (hi rr), Value.int IntKind.u64 (lo rr)] 111)
      have sP : w.heap.size + 1 + 1 + 1 ≤ ((w2.alloc (.cells #[Value.int IntKind.u64 (hi qq), Value.int IntKind.u64 (lo qq)] 111)).alloc (.cells #[Value.int IntKind.u64 (hi rr), Value.int IntKind.u64 (lo rr)] 111)).heap.size := by simp; omega
      generalize (w2.alloc (.cells #[Value.int IntKind.u64 (hi qq), Value.int IntKind.u64 (lo qq)] 111)).alloc (.cells #[Value.int IntKind.u64 (hi rr), Value.int IntKind.u64 (lo rr)] 111) = WP at *
      go_wp2_with fail
      go_roundg rr
      case measure => omega
      case rel =>
        refine ⟨y, rr, hy, by omega, by omega, by simp only [World.drew, set2_size]; exact sP, hGy, (((((BP.setCell (by first | (simp; done) | (simp; omega)) _).setCell (by first | (simp; done) | (simp; omega)) _).setCell (by first | (simp; done) | (simp; omega)) _).setCell (by first | (simp; done) | (simp; omega)) _).drew), ?_⟩
        have KQ := KP.perm (L' := [(w.heap.size, 111, #[Value.int IntKind.u64 (hi x), Value.int IntKind.u64 (lo x)]), (w.heap.size + 1, 111, #[Value.int IntKind.u64 (hi y), Value.int IntKind.u64 (lo y)]), (w.heap.size + 1 + 1, 111, #[Value.int IntKind.u64 0, Value.int IntKind.u64 0])]) (by simp)
        exact (Bx.drew (Bx.put2 (Bx.swap (Bx.put2 KQ (by first | (simp; done) | (simp; omega)))) (by first | (simp; done) | (simp; omega)))).perm (by simp)
end Go.Proofs.Ytjapjfcennemeaa.wid
end
section
namespace Go.Proofs.Ytjapjfcennemeaa.wid
open Go.RowKit Go.Proofs.Ytjapjfcennemeaa.mem Go.Proofs.Ytjapjfcennemeaa.gro
set_option linter.unusedVariables false
set_option linter.unusedSimpArgs false
theorem Bx.word {W : World} {L : List (Nat × TypeId × Array Value)} {g : Nat} {t : TypeId} {c d : Array Value} (i : Nat) (u : Value) (h : Bx W ((g, t, c) :: L)) (hd : ∀ q ∈ L, q.1 ≠ g) (hc : c.setIfInBounds i u = d) : Bx (W.setCell ⟨g, i, none⟩ u) ((g, t, d) :: L) := by
  subst hc
  exact Bx.cons_ (h.head.set_ i u) (h.tail.far (p := ⟨g, i, none⟩) hd u)
set_option maxHeartbeats 2000000 in
set_option maxRecDepth 100000 in
theorem times_any (V n : Nat) (hn : n < 18446744073709551616) (w : World) :
    Calls Try.prog 114 #[.agg #[.int .u64 (q0 V : Nat), .int .u64 (q1 V : Nat), .int .u64 (q2 V : Nat), .int .u64 (q3 V : Nat)], .int .u64 (n : Int)] w fun e w' => e = .returned (.agg #[.int .u64 (q0 (V * n) : Nat), .int .u64 (q1 (V * n) : Nat), .int .u64 (q2 (V * n) : Nat), .int .u64 (q3 (V * n) : Nat)]) ∧ Below w.heap.size w w' := by
  have HM := q_mul V n
  have k1 := @cy1_lt V n hn
  have k2 := @cy2_lt V n hn
  have k3 := @cy3_lt V n hn
  have M0 := Lib.hid (fun W => Mul64_nat (q0 V) n (q0_lt V) hn W)
  have M1 := Lib.hid (fun W => Mul64_nat (q1 V) n (q1_lt V) hn W)
  have M2 := Lib.hid (fun W => Mul64_nat (q2 V) n (q2_lt V) hn W)
  have M3 := Lib.hid (fun W => Mul64_nat (q3 V) n (q3_lt V) hn W)
  have P0 := @cy_word (q0 V) n 0 _ (q0_lt V) hn (by decide) rfl
  have P1 := @cy_word (q1 V) n (cy1 V n) _ (q1_lt V) hn k1 rfl
  have P2 := @cy_word (q2 V) n (cy2 V n) _ (q2_lt V) hn k2 rfl
  have P3 := @cy_word (q3 V) n (cy3 V n) _ (q3_lt V) hn k3 rfl
  rw [Nat.add_zero, ← HM.1, show (q0 V * n / 18446744073709551616 : Nat) = cy1 V n from rfl, show ((0 : Nat) : Int) = 0 from rfl, Int.add_zero] at P0
  rw [← HM.2.1, show (q1 V * n + cy1 V n) / 18446744073709551616 = cy2 V n from rfl] at P1
  rw [← HM.2.2.1, show (q2 V * n + cy2 V n) / 18446744073709551616 = cy3 V n from rfl] at P2
  rw [← HM.2.2.2] at P3
  obtain ⟨d0, E0⟩ := P0
  obtain ⟨d1, E1⟩ := P1
  obtain ⟨d2, E2⟩ := P2
  obtain ⟨d3, E3⟩ := P3
  have F0 : IntKind.u64.wrap (hi (q0 V * n) + lo (q0 V * n) / 18446744073709551616) = (cy1 V n : Nat) := by rw [E0]; exact wrapN _ k1
  have F1 : IntKind.u64.wrap (hi (q1 V * n) + (lo (q1 V * n) + (cy1 V n : Nat)) / 18446744073709551616) = (cy2 V n : Nat) := by rw [E1]; exact wrapN _ k2
  have F2 : IntKind.u64.wrap (hi (q2 V * n) + (lo (q2 V * n) + (cy2 V n : Nat)) / 18446744073709551616) = (cy3 V n : Nat) := by rw [E2]; exact wrapN _ k3
  have z0 := (lo_bd (q0 V * n)).1
  have z1 := (lo_bd (q1 V * n)).1
  have z2 := (lo_bd (q2 V * n)).1
  have z3 := (lo_bd (q3 V * n)).1
  have y1 : (0 : Int) ≤ (cy1 V n : Nat) := Int.natCast_nonneg _
  have y2 : (0 : Int) ≤ (cy2 V n : Nat) := Int.natCast_nonneg _
  have y3 : (0 : Int) ≤ (cy3 V n : Nat) := Int.natCast_nonneg _
  clear E0 E1 E2 E3 HM k1 k2 k3 hn
  generalize hi (q0 V * n) = h0 at *
  generalize lo (q0 V * n) = l0 at *
  generalize hi (q1 V * n) = h1 at *
  generalize lo (q1 V * n) = l1 at *
  generalize hi (q2 V * n) = h2 at *
  generalize lo (q2 V * n) = l2 at *
  generalize hi (q3 V * n) = h3 at *
  generalize lo (q3 V * n) = l3 at *
  generalize ((cy1 V n : Nat) : Int) = c1 at *
  generalize ((cy2 V n : Nat) : Int) = c2 at *
  generalize ((cy3 V n : Nat) : Int) = c3 at *
  generalize ((q0 (V * n) : Nat) : Int) = r0 at *
  generalize ((q1 (V * n) : Nat) : Int) = r1 at *
  generalize ((q2 (V * n) : Nat) : Int) = r2 at *
  generalize ((q3 (V * n) : Nat) : Int) = r3 at *
  generalize ((q0 V : Nat) : Int) = x0 at *
  generalize ((q1 V : Nat) : Int) = x1 at *
  generalize ((q2 V : Nat) : Int) = x2 at *
  generalize ((q3 V : Nat) : Int) = x3 at *
  generalize (n : Int) = m at *
  go_enter Try.func114, Try.ntmps114
  go_wp2_with fail
  obtain ⟨W0, hW, hs0, K0, B0⟩ := start3 w 127 127 127 #[Value.int IntKind.u64 x0, Value.int IntKind.u64 x1, Value.int IntKind.u64 x2, Value.int IntKind.u64 x3] #[Value.int IntKind.u64 0, Value.int IntKind.u64 0, Value.int IntKind.u64 0, Value.int IntKind.u64 0] #[Value.int IntKind.u64 0, Value.int IntKind.u64 0, Value.int IntKind.u64 0, Value.int IntKind.u64 0]
  rw [hW]
  clear hW
  have KK := Lib.hid (K0.perm (L' := [(w.heap.size + 1 + 1, 127, #[Value.int IntKind.u64 0, Value.int IntKind.u64 0, Value.int IntKind.u64 0, Value.int IntKind.u64 0]), (w.heap.size + 1, 127, #[Value.int IntKind.u64 0, Value.int IntKind.u64 0, Value.int IntKind.u64 0, Value.int IntKind.u64 0]), (w.heap.size, 127, #[Value.int IntKind.u64 x0, Value.int IntKind.u64 x1, Value.int IntKind.u64 x2, Value.int IntKind.u64 x3])]) (by simp))
  have BB := Lib.hid B0
  have R := K0.rules
  simp only [Rules] at R
  clear K0 B0
  refine wp_loop_rounds 5 ?_
  rw [rounds_succ]
  go_wp2_with fail
  refine (M0.out _).mono ?_
  rintro e w1 ⟨rfl, rfl⟩
  go_wp2_with fail
  obtain ⟨W1, hW, K1, B1, z_⟩ := name_world (Bx.word 0 (Value.int IntKind.u64 r0) (d := #[Value.int IntKind.u64 r0, Value.int IntKind.u64 0, Value.int IntKind.u64 0, Value.int IntKind.u64 0]) KK.out (by first | (simp; done) | (simp; omega)) (by simp)) (BB.out.setCell (by first | (simp; done) | (simp; omega)) _) (s := 0) (by omega)
  rw [hW]
  clear hW KK BB R
  have KK := Lib.hid K1
  have BB := Lib.hid B1
  have R := K1.rules
  simp only [Rules] at R
  clear K1 B1 z_
  rw [rounds_succ]
  go_wp2_with fail
  refine (M1.out _).mono ?_
  rintro e w2 ⟨rfl, rfl⟩
  go_wp2_with fail
  obtain ⟨W2, hW, K1, B1, z_⟩ := name_world (Bx.word 1 (Value.int IntKind.u64 r1) (d := #[Value.int IntKind.u64 r0, Value.int IntKind.u64 r1, Value.int IntKind.u64 0, Value.int IntKind.u64 0]) KK.out (by first | (simp; done) | (simp; omega)) (by simp)) (BB.out.setCell (by first | (simp; done) | (simp; omega)) _) (s := 0) (by omega)
  rw [hW]
  clear hW KK BB R
  have KK := Lib.hid K1
  have BB := Lib.hid B1
  have R := K1.rules
  simp only [Rules] at R
  clear K1 B1 z_
  rw [rounds_succ]
  go_wp2_with fail
  refine (M2.out _).mono ?_
  rintro e w3 ⟨rfl, rfl⟩
  go_wp2_with fail
  obtain ⟨W3, hW, K1, B1, z_⟩ := name_world (Bx.word 2 (Value.int IntKind.u64 r2) (d := #[Value.int IntKind.u64 r0, Value.int IntKind.u64 r1, Value.int IntKind.u64 r2, Value.int IntKind.u64 0]) KK.out (by first | (simp; done) | (simp; omega)) (by simp)) (BB.out.setCell (by first | (simp; done) | (simp; omega)) _) (s := 0) (by omega)
  rw [hW]
  clear hW KK BB R
  have KK := Lib.hid K1
  have BB := Lib.hid B1
  have R := K1.rules
  simp only [Rules] at R
  clear K1 B1 z_
  rw [rounds_succ]
  go_wp2_with fail
  refine (M3.out _).mono ?_
  rintro e w4 ⟨rfl, rfl⟩
  go_wp2_with fail
  obtain ⟨W4, hW, K1, B1, z_⟩ := name_world (Bx.word 3 (Value.int IntKind.u64 r3) (d := #[Value.int IntKind.u64 r0, Value.int IntKind.u64 r1, Value.int IntKind.u64 r2, Value.int IntKind.u64 r3]) KK.out (by first | (simp; done) | (simp; omega)) (by simp)) (BB.out.setCell (by first | (simp; done) | (simp; omega)) _) (s := 0) (by omega)
  rw [hW]
  clear hW KK BB R
  have KK := Lib.hid K1
  have BB := Lib.hid B1
  have R := K1.rules
  simp only [Rules] at R
  clear K1 B1 z_
  rw [rounds_succ]
  go_wp2
  refine bodyPost_ret (v := .agg #[Value.int IntKind.u64 r0, Value.int IntKind.u64 r1, Value.int IntKind.u64 r2, Value.int IntKind.u64 r3]) (by simp [results, Try.results114, go_sem, R]) rfl ⟨rfl, ?_⟩
  exact (((BB.out.setCell (by first | (simp; done) | (simp; omega)) _).setCell (by first | (simp; done) | (simp; omega)) _).setCell (by first | (simp; done) | (simp; omega)) _).setCell (by first | (simp; done) | (simp; omega)) _
end Go.Proofs.Ytjapjfcennemeaa.wid
end
