/- One; Most; Hold: texts in one. -/
import Derived.Test.YtofgjcfiinmimaaMgRMany
import Derived.Test.YtofgjcfiinmimaaMgCanon
import Derived.Test.YtofgjcfiinmimaaMgBox
import Derived.Test.YtofgjcfiinmimaaBnd
/- What the law BucketsOneByOne needs of lists. -/
namespace Go.Proofs.Ytofgjcfiinmimaa.lst
open Go.RowKit Go.Proofs.Ytofgjcfiinmimaa.mem Go.Proofs.Ytofgjcfiinmimaa.buk
theorem tail_lastT {xs : List (Int × Int)} {t : Int} (h : 0 < xs.length → tailT xs ≤ t) (ht : 0 ≤ t) : lastT xs ≤ t := by
  unfold lastT
  split
  · exact ht
  · exact h (by omega)
theorem one_by_one {xs : List (Int × Int)} {k M : Nat} {t : Int} (hP : manyP xs k t M) (hlen : xs.length ≤ 300) :
    ∀ i, i < M → insI (iterIns k t i xs) k t = iterIns k t (i + 1) xs := by
  intro i hi
  obtain ⟨h1, h2, h3, h4⟩ := hP
  have hv := validB_iff.1 h1
  have hm := mayB_iff.1 h2
  have hw := wgt_total hv.2.1
  have h5 := h4 (by omega)
  obtain ⟨b1, b2, b3, b4⟩ := iter_valid hm.1 i xs hv (lastT_tail hm.2) (by omega)
  rw [insI_t ⟨validB_t b1, mayB_iff.2 ⟨hm.1, tail_lastT b2 hm.1.1⟩, by rw [← wgt_total b1.2.1, b3]; omega⟩, iterIns_succ, Int.toNat_natCast]
end Go.Proofs.Ytofgjcfiinmimaa.lst

/- Contracts of buckets.Most and of its reference; the sums of the closed form. -/
namespace Go.Proofs.Ytofgjcfiinmimaa.lst
open Go.RowKit Go.Proofs.Ytofgjcfiinmimaa.mem Go.Proofs.Ytofgjcfiinmimaa.num
set_option linter.unusedVariables false

def mostI (k cap : Int) : Int := if (1 ≤ k ∧ k ≤ 128) ∧ 0 ≤ cap then (k + 1) * (bitsN cap : Int) else 0
theorem mostI_in {k cap : Int} (h : (1 ≤ k ∧ k ≤ 128) ∧ 0 ≤ cap) : mostI k cap = (k + 1) * (bitsN cap : Int) := if_pos h
theorem mostI_out {k cap : Int} (h : ¬ ((1 ≤ k ∧ k ≤ 128) ∧ 0 ≤ cap)) : mostI k cap = 0 := if_neg h
theorem prod_bd {k : Int} {b : Nat} (h1 : 1 ≤ k) (h2 : k ≤ 128) (hb : b ≤ 64) : 0 ≤ (k + 1) * (b : Int) ∧ (k + 1) * (b : Int) ≤ 8256 := by
  refine ⟨Int.mul_nonneg (by omega) (by omega), ?_⟩
  exact Int.le_trans (Int.mul_le_mul (show k + 1 ≤ 129 by omega) (show (b : Int) ≤ 64 by omega) (by omega) (by omega)) (by decide)

set_option maxHeartbeats 1000000 in
theorem MostRef_any (k cap : Int) (w : World) (hc : cap ≤ 9223372036854775807) :
    Calls Try.prog 53 #[.int .i64 k, .int .i64 cap] w fun e w' => e = .returned (.int .i64 (mostI k cap)) ∧ w = w' := by
  have HB := Lib.hid (fun W => BitsRef_any cap W hc)
  have HK := Lib.hid (fun W => MayK_any k W)
  by_cases h : (1 ≤ k ∧ k ≤ 128) ∧ 0 ≤ cap
  · have HM := Lib.hid (mostI_in h)
    rw [mayKB_iff.2 h.1] at HK
    obtain ⟨⟨h1, h2⟩, h3⟩ := h
    obtain ⟨p1, p2⟩ := prod_bd h1 h2 (bitsN_le cap)
    generalize bitsN cap = b at *
    go_enter Try.func53, Try.ntmps53
    go_wp2_with (first | (go_at_call 87; refine (HB.out _).mono ?_; rintro e w' ⟨rfl, rfl⟩) | (go_at_call 86; refine (HK.out _).mono ?_; rintro e w' ⟨rfl, rfl⟩))
    go_ret
    exact ⟨ret_int HM.out.symm, rfl⟩
  · have HM := Lib.hid (mostI_out h)
    by_cases a1 : 1 ≤ k ∧ k ≤ 128
    · rw [mayKB_iff.2 a1] at HK
      have a3 : cap < 0 := by omega
      clear h a1
      go_enter Try.func53, Try.ntmps53
      go_wp2_with (go_at_call 86; refine (HK.out _).mono ?_; rintro e w' ⟨rfl, rfl⟩)
      go_ret
      exact ⟨ret_int HM.out.symm, rfl⟩
    · rw [mayKB_iff0.2 a1] at HK
      clear h a1
      go_enter Try.func53, Try.ntmps53
      go_wp2_with (go_at_call 86; refine (HK.out _).mono ?_; rintro e w' ⟨rfl, rfl⟩)
      go_ret
      exact ⟨ret_int HM.out.symm, rfl⟩

def wsum : Nat → List Int → Int
  | _, [] => 0
  | s, c :: r => c * 2 ^ s + wsum (s + 1) r
def csum : List Int → Int
  | [] => 0
  | c :: r => c + csum r
theorem wsum_append (xs ys : List Int) (s : Nat) : wsum s (xs ++ ys) = wsum s xs + wsum (s + xs.length) ys := by
  induction xs generalizing s with
  | nil => simp [wsum]
  | cons c r ih => simp [wsum, ih, Nat.add_assoc, Nat.add_comm 1, Int.add_assoc]
theorem csum_append (xs ys : List Int) : csum (xs ++ ys) = csum xs + csum ys := by
  induction xs with
  | nil => simp [csum]
  | cons c r ih => simp [csum, ih, Int.add_assoc]
theorem wsum_nonneg {xs : List Int} (h : ∀ c ∈ xs, 0 ≤ c) (s : Nat) : 0 ≤ wsum s xs := by
  induction xs generalizing s with
  | nil => simp [wsum]
  | cons c r ih =>
    have h1 := ih (fun d hd => h d (List.mem_cons_of_mem _ hd)) (s + 1)
    have h2 : 0 ≤ c * 2 ^ s := Int.mul_nonneg (h c (List.mem_cons_self ..)) (Int.le_of_lt (Int.pow_pos (by decide)))
    simp only [wsum]; omega
theorem csum_nonneg {xs : List Int} (h : ∀ c ∈ xs, 0 ≤ c) : 0 ≤ csum xs := by
  induction xs with
  | nil => simp [csum]
  | cons c r ih =>
    have h1 := ih (fun d hd => h d (List.mem_cons_of_mem _ hd))
    have h2 := h c (List.mem_cons_self ..)
    simp only [csum]; omega
theorem canon_wsum (k f n s : Nat) (h : n ≤ f) : wsum s (canonF k f n) = n * 2 ^ s := by
  induction f generalizing n s with
  | zero => obtain rfl : n = 0 := by omega
            simp [canonF, wsum]
  | succ f ih =>
    by_cases h0 : n = 0
    · subst h0; rw [canonF_zero]; simp [wsum]
    · rw [canonF_pos k f n (by omega)]
      simp only [wsum]
      rw [ih _ _ (by omega), Int.pow_succ]
      have e : (n : Int) = ((n - 2 * ((n - k) / 2) : Nat) : Int) + 2 * (((n - k) / 2 : Nat) : Int) := by omega
      conv => rhs; rw [e]
      rw [Int.add_mul, Int.mul_comm ((2 : Int) ^ s) 2, ← Int.mul_assoc, Int.mul_comm (((n - k) / 2 : Nat) : Int) 2]
theorem canon_nonneg (k f n : Nat) : ∀ c ∈ canonF k f n, 0 ≤ c ∧ c ≤ k + 1 := by
  induction f generalizing n with
  | zero => simp [canonF]
  | succ f ih =>
    by_cases h0 : n = 0
    · subst h0; simp [canonF_zero]
    · rw [canonF_pos k f n (by omega)]
      intro c hc
      rcases List.mem_cons.1 hc with rfl | hc
      · omega
      · exact ih _ c hc
theorem canon_len (k f n : Nat) (hk : 1 ≤ k) (hn : n < 2 ^ 64) : (canonF k f n).length ≤ Lib.bitLen n := by
  induction f generalizing n with
  | zero => simp [canonF]
  | succ f ih =>
    by_cases h0 : n = 0
    · subst h0; simp [canonF_zero]
    · rw [canonF_pos k f n (by omega)]
      have h1 := ih ((n - k) / 2) (by omega)
      have h2 := Lib.bitLen_half n h0 hn
      have h3 : Lib.bitLen ((n - k) / 2) ≤ Lib.bitLen (n / 2) := bitLen_mono (Nat.div_le_div_right (by omega)) (by omega)
      simp only [List.length_cons]; omega
theorem csum_le {xs : List Int} {b : Int} (h : ∀ c ∈ xs, c ≤ b) : csum xs ≤ b * xs.length := by
  induction xs with
  | nil => simp [csum]
  | cons c r ih =>
    have h1 := ih (fun d hd => h d (List.mem_cons_of_mem _ hd))
    have h2 := h c (List.mem_cons_self ..)
    simp only [csum, List.length_cons]
    rw [show b * ((r.length + 1 : Nat) : Int) = b * r.length + b from by rw [Int.natCast_add, Int.mul_add]; simp]
    omega
theorem canon_csum (k n : Nat) (hk : 1 ≤ k) (hn : n < 2 ^ 64) : csum (canonF k n n) ≤ ((k : Int) + 1) * (Lib.bitLen n : Nat) := by
  have h1 := csum_le (xs := canonF k n n) (b := (k : Int) + 1) (fun c hc => (canon_nonneg k n n c hc).2)
  have h2 := canon_len k n n hk hn
  exact Int.le_trans h1 (Int.mul_le_mul_of_nonneg_left (by omega) (by omega))
/-- What the law's loop needs of the closed form. -/
theorem canon_facts {n k : Int} (h : 0 < (canonI n k).length) :
    wsum 0 (canonI n k) = n ∧ csum (canonI n k) ≤ mostI k n ∧ (canonI n k).length ≤ 64 ∧ 0 ≤ n ∧ n ≤ 1073741824 ∧
    ∀ i, i < (canonI n k).length →
      (0 ≤ wsum 0 ((canonI n k).take i) ∧ wsum 0 ((canonI n k).take i) ≤ 1073741824) ∧ (0 ≤ (canonI n k)[i]?.getD 0 * 2 ^ i ∧ (canonI n k)[i]?.getD 0 * 2 ^ i ≤ 1073741824) ∧
      (0 ≤ csum ((canonI n k).take i) ∧ csum ((canonI n k).take i) ≤ 8256) ∧ (0 ≤ (canonI n k)[i]?.getD 0 ∧ (canonI n k)[i]?.getD 0 ≤ 129) ∧
      wsum 0 ((canonI n k).take (i + 1)) = wsum 0 ((canonI n k).take i) + (canonI n k)[i]?.getD 0 * 2 ^ i ∧
      csum ((canonI n k).take (i + 1)) = csum ((canonI n k).take i) + (canonI n k)[i]?.getD 0 := by
  by_cases hin : 0 ≤ n ∧ n ≤ 1073741824 ∧ 1 ≤ k ∧ k ≤ 128
  case neg => rw [canonI_out hin] at h; simp at h
  obtain ⟨n, rfl⟩ := Int.eq_ofNat_of_zero_le hin.1
  obtain ⟨k, rfl⟩ := Int.eq_ofNat_of_zero_le (show 0 ≤ k by omega)
  rw [canonI_in (by omega) (by omega) (by omega)] at *
  have hw := canon_wsum k n n 0 (Nat.le_refl _)
  have hc := canon_csum k n (by omega) (by omega)
  have hl := canon_len k n n (by omega) (by omega)
  have hb := bitLen_le64 n
  have hnn := canon_nonneg k n n
  have hm : mostI k n = ((k : Int) + 1) * (Lib.bitLen n : Nat) := mostI_in (by omega)
  obtain ⟨p1, p2⟩ := prod_bd (k := k) (b := Lib.bitLen n) (by omega) (by omega) hb
  generalize canonF k n n = xs at *
  have hw2 : wsum 0 xs = n := by rw [hw]; simp
  refine ⟨hw2, by rw [hm]; exact hc, by omega, by omega, by omega, fun i hi => ?_⟩
  have e1 : xs = xs.take i ++ xs[i] :: xs.drop (i + 1) := by rw [← List.drop_eq_getElem_cons hi, List.take_append_drop]
  have g : xs[i]?.getD 0 = xs[i] := by rw [List.getElem?_eq_getElem hi]; rfl
  have n1 : ∀ c ∈ xs.take i, 0 ≤ c := fun c hc => (hnn c (List.mem_of_mem_take hc)).1
  have n2 : ∀ c ∈ xs.drop (i + 1), 0 ≤ c := fun c hc => (hnn c (List.mem_of_mem_drop hc)).1
  have n3 := hnn xs[i] (List.getElem_mem hi)
  have w1 := wsum_nonneg n1 0
  have w2 := wsum_nonneg n2 (i + 1)
  have c1 := csum_nonneg n1
  have c2 := csum_nonneg n2
  have lt : (xs.take i).length = i := by rw [List.length_take]; omega
  have ew : wsum 0 xs = wsum 0 (xs.take i) + (xs[i] * 2 ^ i + wsum (i + 1) (xs.drop (i + 1))) := by
    conv => lhs; rw [e1]
    rw [wsum_append, lt]; simp [wsum]
  have ec : csum xs = csum (xs.take i) + (xs[i] + csum (xs.drop (i + 1))) := by
    conv => lhs; rw [e1]
    rw [csum_append]; simp [csum]
  have t1 : xs.take (i + 1) = xs.take i ++ [xs[i]] := List.take_succ_eq_append_getElem hi
  have hx : 0 ≤ xs[i] * 2 ^ i := Int.mul_nonneg n3.1 (Int.le_of_lt (Int.pow_pos (by decide)))
  rw [g, t1, wsum_append, csum_append, lt]
  generalize hP : xs[i] * 2 ^ i = P at *
  refine ⟨⟨w1, by omega⟩, ⟨hx, by omega⟩, ⟨c1, by omega⟩, ⟨n3.1, by omega⟩, ?_, by simp [csum]⟩
  simp [wsum, hP]
theorem shl_add {s c : Int} {i : Nat} (h1 : 0 ≤ s ∧ s ≤ 1073741824) (h2 : 0 ≤ c * 2 ^ i ∧ c * 2 ^ i ≤ 1073741824) : wrap64 (s + wrap64 (c * 2 ^ i)) = s + c * 2 ^ i := by
  rw [IntWalk.wrap64_in (c * 2 ^ i) (by omega), IntWalk.wrap64_in _ (by omega)]
end Go.Proofs.Ytofgjcfiinmimaa.lst

/- Contracts of Holds of bounds. -/
namespace Go.Proofs.Ytofgjcfiinmimaa.wid
open Go.RowKit Go.Proofs.Ytofgjcfiinmimaa.mem Go.Proofs.Ytofgjcfiinmimaa.gro
set_option linter.unusedVariables false
set_option linter.unusedSimpArgs false
def holdB (a0 a1 b0 b1 c0 c1 n d : Int) : Bool := validB a0 a1 b0 b1 c0 c1 && validQ n d && decide (cmpQ a0 a1 n d ≤ 0) && decide (cmpQ n d c0 c1 ≤ 0)
set_option maxHeartbeats 2000000 in
set_option maxRecDepth 100000 in
theorem HoldB_any (a0 a1 b0 b1 c0 c1 n d : Int) (ha0 : I64 a0) (ha1 : I64 a1) (hb0 : I64 b0) (hb1 : I64 b1) (hc0 : I64 c0) (hc1 : I64 c1) (hn : I64 n) (hd : I64 d) (w : World) :
    Calls Try.prog 51 #[Value.agg #[Value.int IntKind.i64 a0, Value.int IntKind.i64 a1, Value.int IntKind.i64 b0, Value.int IntKind.i64 b1, Value.int IntKind.i64 c0, Value.int IntKind.i64 c1], (Value.agg #[Value.int IntKind.i64 (n), Value.int IntKind.i64 ( d)])] w fun x w' => x = .returned (.bool (holdB a0 a1 b0 b1 c0 c1 n d)) ∧ Below w.heap.size w w' := by
  have H0 := Lib.hid (fun W => ValidB_any a0 a1 b0 b1 c0 c1 ha0 ha1 hb0 hb1 hc0 hc1 W)
  have H1 := Lib.hid (fun W => Valid_any n d hn hd W)
  have H2 := Lib.hid (fun W => CompareQ_any a0 a1 n d ha0 ha1 hn hd W)
  have H3 := Lib.hid (fun W => CompareQ_any n d c0 c1 hn hd hc0 hc1 W)
  have HB : Hid (holdB a0 a1 b0 b1 c0 c1 n d = (validB a0 a1 b0 b1 c0 c1 && validQ n d && decide (cmpQ a0 a1 n d ≤ 0) && decide (cmpQ n d c0 c1 ≤ 0))) := rfl
  clear ha0 ha1 hb0 hb1 hc0 hc1 hn hd
  generalize validB a0 a1 b0 b1 c0 c1 = v0 at *
  generalize validQ n d = v1 at *
  generalize cmpQ a0 a1 n d = u2 at *
  generalize cmpQ n d c0 c1 = u3 at *
  generalize holdB a0 a1 b0 b1 c0 c1 n d = vB at *
  obtain ⟨v2, q2⟩ : ∃ v, decide (u2 ≤ 0) = v := ⟨_, rfl⟩
  obtain ⟨v3, q3⟩ : ∃ v, decide (u3 ≤ 0) = v := ⟨_, rfl⟩
  rw [q2, q3] at HB
  cases v0
  case false =>
    obtain rfl : vB = false := by rw [HB.out]; simp
    clear HB
    go_enter Try.func51, Try.ntmps51
    go_wp2_with fail
    obtain ⟨W0, hW, hs0, K0, B0⟩ := start2 w 43 41 #[Value.int IntKind.i64 a0, Value.int IntKind.i64 a1, Value.int IntKind.i64 b0, Value.int IntKind.i64 b1, Value.int IntKind.i64 c0, Value.int IntKind.i64 c1] #[Value.int IntKind.i64 n, Value.int IntKind.i64 d]
    rw [hW]
    clear hW
    have KK := Lib.hid K0
    have BB := Lib.hid B0
    have R := K0.rules
    simp only [Rules] at R
    clear K0 B0 hs0
    (with_reducible refine (H0.out _).mono ?_)
    rintro e wv ⟨rfl, hbv⟩; replace BB := Lib.hid (BB.out.trans (hbv.mono BB.out.size)); replace KK := Lib.hid (KK.out.below hbv); replace R := KK.out.rules; simp only [gro.Rules] at R; clear hbv
    go_wp2
    go_ret
    exact ⟨rfl, BB.out⟩
  cases v1
  case false =>
    obtain rfl : vB = false := by rw [HB.out]; simp
    clear HB
    go_enter Try.func51, Try.ntmps51
    go_wp2_with fail
    obtain ⟨W0, hW, hs0, K0, B0⟩ := start2 w 43 41 #[Value.int IntKind.i64 a0, Value.int IntKind.i64 a1, Value.int IntKind.i64 b0, Value.int IntKind.i64 b1, Value.int IntKind.i64 c0, Value.int IntKind.i64 c1] #[Value.int IntKind.i64 n, Value.int IntKind.i64 d]
    rw [hW]
    clear hW
    have KK := Lib.hid K0
    have BB := Lib.hid B0
    have R := K0.rules
    simp only [Rules] at R
    clear K0 B0 hs0
    (with_reducible refine (H0.out _).mono ?_)
    rintro e wv ⟨rfl, hbv⟩; replace BB := Lib.hid (BB.out.trans (hbv.mono BB.out.size)); replace KK := Lib.hid (KK.out.below hbv); replace R := KK.out.rules; simp only [gro.Rules] at R; clear hbv
    go_wp2_with fail
    (with_reducible refine (H1.out _).mono ?_)
    rintro e wv ⟨rfl, hbv⟩; replace BB := Lib.hid (BB.out.trans (hbv.mono BB.out.size)); replace KK := Lib.hid (KK.out.below hbv); replace R := KK.out.rules; simp only [gro.Rules] at R; clear hbv
    go_wp2
    go_ret
    exact ⟨rfl, BB.out⟩
  cases v2
  case false =>
    obtain rfl : vB = false := by rw [HB.out]; simp
    clear HB
    go_enter Try.func51, Try.ntmps51
    go_wp2_with fail
    obtain ⟨W0, hW, hs0, K0, B0⟩ := start2 w 43 41 #[Value.int IntKind.i64 a0, Value.int IntKind.i64 a1, Value.int IntKind.i64 b0, Value.int IntKind.i64 b1, Value.int IntKind.i64 c0, Value.int IntKind.i64 c1] #[Value.int IntKind.i64 n, Value.int IntKind.i64 d]
    rw [hW]
    clear hW
    have KK := Lib.hid K0
    have BB := Lib.hid B0
    have R := K0.rules
    simp only [Rules] at R
    clear K0 B0 hs0
    (with_reducible refine (H0.out _).mono ?_)
    rintro e wv ⟨rfl, hbv⟩; replace BB := Lib.hid (BB.out.trans (hbv.mono BB.out.size)); replace KK := Lib.hid (KK.out.below hbv); replace R := KK.out.rules; simp only [gro.Rules] at R; clear hbv
    go_wp2_with fail
    (with_reducible refine (H1.out _).mono ?_)
    rintro e wv ⟨rfl, hbv⟩; replace BB := Lib.hid (BB.out.trans (hbv.mono BB.out.size)); replace KK := Lib.hid (KK.out.below hbv); replace R := KK.out.rules; simp only [gro.Rules] at R; clear hbv
    go_wp2_with fail
    (with_reducible refine (H2.out _).mono ?_)
    rintro e wv ⟨rfl, hbv⟩; replace BB := Lib.hid (BB.out.trans (hbv.mono BB.out.size)); replace KK := Lib.hid (KK.out.below hbv); replace R := KK.out.rules; simp only [gro.Rules] at R; clear hbv
    go_wp2
    go_ret
    exact ⟨rfl, BB.out⟩
  cases v3
  case false =>
    obtain rfl : vB = false := by rw [HB.out]; simp
    clear HB
    go_enter Try.func51, Try.ntmps51
    go_wp2_with fail
    obtain ⟨W0, hW, hs0, K0, B0⟩ := start2 w 43 41 #[Value.int IntKind.i64 a0, Value.int IntKind.i64 a1, Value.int IntKind.i64 b0, Value.int IntKind.i64 b1, Value.int IntKind.i64 c0, Value.int IntKind.i64 c1] #[Value.int IntKind.i64 n, Value.int IntKind.i64 d]
    rw [hW]
    clear hW
    have KK := Lib.hid K0
    have BB := Lib.hid B0
    have R := K0.rules
    simp only [Rules] at R
    clear K0 B0 hs0
    (with_reducible refine (H0.out _).mono ?_)
    rintro e wv ⟨rfl, hbv⟩; replace BB := Lib.hid (BB.out.trans (hbv.mono BB.out.size)); replace KK := Lib.hid (KK.out.below hbv); replace R := KK.out.rules; simp only [gro.Rules] at R; clear hbv
    go_wp2_with fail
    (with_reducible refine (H1.out _).mono ?_)
    rintro e wv ⟨rfl, hbv⟩; replace BB := Lib.hid (BB.out.trans (hbv.mono BB.out.size)); replace KK := Lib.hid (KK.out.below hbv); replace R := KK.out.rules; simp only [gro.Rules] at R; clear hbv
    go_wp2_with fail
    (with_reducible refine (H2.out _).mono ?_)
    rintro e wv ⟨rfl, hbv⟩; replace BB := Lib.hid (BB.out.trans (hbv.mono BB.out.size)); replace KK := Lib.hid (KK.out.below hbv); replace R := KK.out.rules; simp only [gro.Rules] at R; clear hbv
    go_wp2_with fail
    (with_reducible refine (H3.out _).mono ?_)
    rintro e wv ⟨rfl, hbv⟩; replace BB := Lib.hid (BB.out.trans (hbv.mono BB.out.size)); replace KK := Lib.hid (KK.out.below hbv); replace R := KK.out.rules; simp only [gro.Rules] at R; clear hbv
    go_wp2
    go_ret
    exact ⟨rfl, BB.out⟩
  obtain rfl : vB = true := by rw [HB.out]; simp
  clear HB
  go_enter Try.func51, Try.ntmps51
  go_wp2_with fail
  obtain ⟨W0, hW, hs0, K0, B0⟩ := start2 w 43 41 #[Value.int IntKind.i64 a0, Value.int IntKind.i64 a1, Value.int IntKind.i64 b0, Value.int IntKind.i64 b1, Value.int IntKind.i64 c0, Value.int IntKind.i64 c1] #[Value.int IntKind.i64 n, Value.int IntKind.i64 d]
  rw [hW]
  clear hW
  have KK := Lib.hid K0
  have BB := Lib.hid B0
  have R := K0.rules
  simp only [Rules] at R
  clear K0 B0 hs0
  (with_reducible refine (H0.out _).mono ?_)
  rintro e wv ⟨rfl, hbv⟩; replace BB := Lib.hid (BB.out.trans (hbv.mono BB.out.size)); replace KK := Lib.hid (KK.out.below hbv); replace R := KK.out.rules; simp only [gro.Rules] at R; clear hbv
  go_wp2_with fail
  (with_reducible refine (H1.out _).mono ?_)
  rintro e wv ⟨rfl, hbv⟩; replace BB := Lib.hid (BB.out.trans (hbv.mono BB.out.size)); replace KK := Lib.hid (KK.out.below hbv); replace R := KK.out.rules; simp only [gro.Rules] at R; clear hbv
  go_wp2_with fail
  (with_reducible refine (H2.out _).mono ?_)
  rintro e wv ⟨rfl, hbv⟩; replace BB := Lib.hid (BB.out.trans (hbv.mono BB.out.size)); replace KK := Lib.hid (KK.out.below hbv); replace R := KK.out.rules; simp only [gro.Rules] at R; clear hbv
  go_wp2_with fail
  (with_reducible refine (H3.out _).mono ?_)
  rintro e wv ⟨rfl, hbv⟩; replace BB := Lib.hid (BB.out.trans (hbv.mono BB.out.size)); replace KK := Lib.hid (KK.out.below hbv); replace R := KK.out.rules; simp only [gro.Rules] at R; clear hbv
  go_wp2
  go_ret
  exact ⟨rfl, BB.out⟩
end Go.Proofs.Ytofgjcfiinmimaa.wid
