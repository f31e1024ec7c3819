/- Contracts of SameInts, of buckets.Canonical and of its reference. -/
import Derived.Test.YtnohkjalglogaaaApp
import Derived.Test.YtnohkjalglogaaaMg3
namespace Go.Proofs.Ytnohkjalglogaaa.lst
open Go.RowKit Go.Proofs.Ytnohkjalglogaaa.mem
set_option linter.unusedVariables false

theorem take_stepI {xs ys : List Int} {k : Nat} (a1 : k < xs.length) (a2 : k < ys.length) (h : xs.take k = ys.take k) :
    (xs.take (k + 1) = ys.take (k + 1)) ↔ xs[k]?.getD 0 = ys[k]?.getD 0 := by
  rw [List.take_succ_eq_append_getElem a1, List.take_succ_eq_append_getElem a2, h, List.getElem?_eq_getElem a1, List.getElem?_eq_getElem a2, List.append_cancel_left_eq]
  simp

set_option maxHeartbeats 2000000 in
theorem SameInts_any (A1 A2 : Option Addr) (n1 c1 n2 c2 : Nat) (xs ys : List Int) (w : World) (B1 B2 : Nat) (h1 : IRead w B1 A1 n1 xs) (h2 : IRead w B2 A2 n2 ys) (hm : n1 ≤ 4611686018427387904) :
    Calls Try.prog 18 #[.slice A1 n1 c1, .slice A2 n2 c2] w fun e w' => e = .returned (.bool (decide (xs = ys))) ∧ ∃ q, w' = w.drewN q := by
  have l1 := h1.len
  have l2 := h2.len
  by_cases hn : n1 = n2
  · subst hn
    have HL1 := Lib.hid l1
    have HL2 := Lib.hid l2
    clear l1 l2
    have H1 := Lib.hid h1
    have H2 := Lib.hid h2
    clear h1 h2
    go_enter Try.func18, Try.ntmps18
    go_wp2
    go_loopg [13] n1 (fun kx s wr => ∃ k q : Nat, k ≤ n1 ∧ s = .int .i64 k ∧ n1 - k ≤ kx ∧ wr = w.drewN q ∧ Hid (xs.take k = ys.take k))
    case atStart => exact ⟨0, 0, Nat.zero_le _, rfl, by omega, rfl, (rfl : xs.take 0 = ys.take 0)⟩
    case round =>
      obtain ⟨k, q, hk, rfl, hg, rfl, hok⟩ := hrel
      by_cases hlt : k < n1
      · obtain ⟨ad, rfl, _, hc1⟩ := (H1.out).at_ hlt
        obtain ⟨ae, rfl, _, hd1⟩ := (H2.out).at_ hlt
        have HE : Hid ((xs.take (k + 1) = ys.take (k + 1)) ↔ xs[k]?.getD 0 = ys[k]?.getD 0) := by
          exact take_stepI (by rw [HL1.out]; exact hlt) (by rw [HL2.out]; exact hlt) hok.out
        have HN : Hid (xs.take (k + 1) ≠ ys.take (k + 1) → xs ≠ ys) := fun h e => h (by rw [e])
        clear hok
        generalize xs[k]?.getD 0 = x1 at *
        generalize ys[k]?.getD 0 = y1 at *
        by_cases e1 : x1 = y1
        · subst e1
          have HT : Hid (xs.take (k + 1) = ys.take (k + 1)) := HE.out.2 rfl
          clear HE HN
          go_wp2
          go_quiet (fail)
          go_wp2
          go_roundg (n1 - (k + 1))
          case measure => omega
          case rel => exact ⟨k + 1, _, by omega, by go_num, by omega, rfl, HT⟩
        · have HF : Hid (decide (xs = ys) = false) := by rw [Hid, decide_eq_false_iff_not]; exact HN.out (fun h => e1 (HE.out.1 h))
          clear HE HN
          go_wp2
          go_quiet (fail)
          go_wp2
          go_ret
          exact ⟨ret_bool HF.out.symm, _, World.drewN_drewN _ _ _⟩
      · obtain rfl : k = n1 := by omega
        have HT : Hid (decide (xs = ys) = true) := by
          have h := hok.out
          rw [List.take_of_length_le (by rw [HL1.out]; exact Nat.le_refl _), List.take_of_length_le (by rw [HL2.out]; exact Nat.le_refl _)] at h
          rw [Hid, decide_eq_true_eq]
          exact h
        clear hok
        go_wp2
        go_ret
        exact ⟨ret_bool HT.out.symm, _, rfl⟩
  · have HF : Hid (decide (xs = ys) = false) := by rw [Hid, decide_eq_false_iff_not]; intro h; rw [h] at l1; omega
    clear l1 l2 h1 h2
    go_enter Try.func18, Try.ntmps18
    go_wp2
    go_ret
    exact ⟨ret_bool HF.out.symm, 0, rfl⟩

/-- The closed form, with fuel. -/
def canonF (k : Nat) : Nat → Nat → List Int
  | 0, _ => []
  | f + 1, n => if n = 0 then [] else ((n - 2 * ((n - k) / 2) : Nat) : Int) :: canonF k f ((n - k) / 2)
theorem canonF_zero (k f : Nat) : canonF k f 0 = [] := by cases f <;> simp [canonF]
theorem canonF_pos (k f n : Nat) (hn : 0 < n) : canonF k (f + 1) n = ((n - 2 * ((n - k) / 2) : Nat) : Int) :: canonF k f ((n - k) / 2) := by
  simp [canonF, show n ≠ 0 from by omega]
def canonI (n k : Int) : List Int := if 0 ≤ n ∧ n ≤ 1073741824 ∧ 1 ≤ k ∧ k ≤ 128 then canonF k.toNat n.toNat n.toNat else []

theorem int_info : (Try.prog.info? 3).map (fun i => (i.zero, i.size, i.bytes)) = some (some (.int .i64 0), 1, 8) := by kernel_rfl

set_option maxHeartbeats 2000000 in
theorem canonical_in (n k : Nat) (w : World) (hn : n ≤ 1073741824) (hk1 : 1 ≤ k) (hk2 : k ≤ 128) :
    Calls Try.prog 17 #[.int .i64 n, .int .i64 k] w (NewI (canonF k n n) w) := by
  obtain ⟨i0, hi0, hz0, hz1, hz2⟩ := info_parts int_info
  have HI := Lib.hid hi0
  have HZ0 := Lib.hid hz0
  have HZ1 := Lib.hid hz1
  have HZ2 := Lib.hid hz2
  clear hi0 hz0 hz1 hz2
  go_enter Try.func17, Try.ntmps17
  go_wp2
  go_loopg [0, 5] n (fun kx s0 s5 wr => ∃ (u f : Nat) (acc : List Int) (v : Value), s0 = .int .i64 u ∧ v = s5 ∧ u ≤ kx ∧ u ≤ f ∧ acc.length + u ≤ n ∧ Hid (wr.ownsRow w.heap.size 3 1 v acc.length (acc.map (Value.int .i64))) ∧
    Hid (acc ++ canonF k f u = canonF k n n) ∧ Hid (Below w.heap.size w wr))
  case atStart => exact ⟨n, n, [], _, rfl, rfl, Nat.le_refl _, Nat.le_refl _, by simp, own_nil _ _ _ _, (rfl : [] ++ canonF k n n = canonF k n n), Below.refl _ _⟩
  case round =>
    obtain ⟨u, f, acc, v, rfl, rfl, hku, huf, hl, Hown, HE, HB⟩ := hrel
    by_cases h0 : 0 < u
    · obtain ⟨f, rfl⟩ : ∃ f', f = f' + 1 := ⟨f - 1, by omega⟩
      have hE2 := HE.out
      rw [canonF_pos k f u h0, List.append_cons] at hE2
      have HE2 := Lib.hid hE2
      clear hE2
      by_cases hp : u < k
      · have htd : ((u : Int) - k).tdiv 2 ≤ 0 := by rw [show (u : Int) - k = -((k : Int) - u) by omega, Int.neg_tdiv, Int.tdiv_eq_ediv_of_nonneg (by omega)]; omega
        go_wp2_with (at_builtin; go_loud (refine wpList_append_any _ rfl (.tmp 28) (.tmp 33) 28 rfl w.heap.size 3 i0 (.int .i64 0) 1 8 Try.underlying28 HI.out HZ0.out HZ1.out HZ2.out rfl (by omega) v acc.length _ rfl (own_alloc Hown.out _) _ _ 1 1 _ rfl (reads_new _ _ _ rfl) (by simp [Value.oneCell']) (by unfold maxLen; omega) (by omega) (by have := HB.out.size; simp; omega) ?_); intro v1 w1 hown1 hg1 hat1)
        have hx : (u : Int) = ((u - 2 * ((u - k) / 2) : Nat) : Int) := by omega
        rw [hx] at hown1
        go_roundg ((u - k) / 2)
        case measure => omega
        case rel => exact ⟨(u - k) / 2, f, acc ++ [((u - 2 * ((u - k) / 2) : Nat) : Int)], v1, by congr 1; omega, rfl, Nat.le_refl _, by omega, by simp; omega, by have h := hown1; simp only [List.length_append, List.length_singleton, List.map_append, List.map_cons, List.map_nil] at h ⊢; exact h, HE2, below_box HB.out Hown.out hg1⟩
      · go_wp2_with (at_builtin; go_loud (refine wpList_append_any _ rfl (.tmp 28) (.tmp 33) 28 rfl w.heap.size 3 i0 (.int .i64 0) 1 8 Try.underlying28 HI.out HZ0.out HZ1.out HZ2.out rfl (by omega) v acc.length _ rfl (own_alloc Hown.out _) _ _ 1 1 _ rfl (reads_new _ _ _ rfl) (by simp [Value.oneCell']) (by unfold maxLen; omega) (by omega) (by have := HB.out.size; simp; omega) ?_); intro v1 w1 hown1 hg1 hat1)
        all_goals
          have hx : ((u : Int) - 2 * if 0 < ((u : Int) - (k : Int)) / 2 then ((u : Int) - (k : Int)) / 2 else 0) = ((u - 2 * ((u - k) / 2) : Nat) : Int) := by split <;> omega
          rw [hx] at hown1
          go_roundg ((u - k) / 2)
          case measure => omega
          case rel => exact ⟨(u - k) / 2, f, acc ++ [((u - 2 * ((u - k) / 2) : Nat) : Int)], v1, by congr 1; omega, rfl, Nat.le_refl _, by omega, by simp; omega, by have h := hown1; simp only [List.length_append, List.length_singleton, List.map_append, List.map_cons, List.map_nil] at h ⊢; exact h, HE2, below_box HB.out Hown.out hg1⟩
    · obtain rfl : u = 0 := by omega
      go_wp2
      go_ret
      exact newI_own HB.out Hown.out (by rw [← HE.out, canonF_zero, List.append_nil])

theorem canonI_in {n k : Nat} (hn : n ≤ 1073741824) (hk1 : 1 ≤ k) (hk2 : k ≤ 128) : canonI n k = canonF k n n := by
  unfold canonI; rw [if_pos (by omega)]; simp
theorem canonI_out {n k : Int} (h : ¬ (0 ≤ n ∧ n ≤ 1073741824 ∧ 1 ≤ k ∧ k ≤ 128)) : canonI n k = [] := by
  unfold canonI; rw [if_neg h]

set_option maxHeartbeats 2000000 in
theorem Canonical_any (n k : Int) (w : World) :
    Calls Try.prog 17 #[.int .i64 n, .int .i64 k] w (NewI (canonI n k) w) := by
  by_cases h : 0 ≤ n ∧ n ≤ 1073741824 ∧ 1 ≤ k ∧ k ≤ 128
  · obtain ⟨n, rfl⟩ := Int.eq_ofNat_of_zero_le h.1
    obtain ⟨k, rfl⟩ := Int.eq_ofNat_of_zero_le (show 0 ≤ k by omega)
    rw [canonI_in (by omega) (by omega) (by omega)]
    exact canonical_in n k w (by omega) (by omega) (by omega)
  · have HC := Lib.hid (canonI_out h)
    by_cases a1 : 0 ≤ n
    · by_cases a2 : n ≤ 1073741824
      · by_cases a3 : 1 ≤ k
        · have a4 : ¬ k ≤ 128 := by omega
          clear h
          go_enter Try.func17, Try.ntmps17
          go_wp2
          go_ret
          rw [HC.out]; exact newI_nil _ _ (Below.refl _ _)
        · clear h
          go_enter Try.func17, Try.ntmps17
          go_wp2
          go_ret
          rw [HC.out]; exact newI_nil _ _ (Below.refl _ _)
      · clear h
        go_enter Try.func17, Try.ntmps17
        go_wp2
        go_ret
        rw [HC.out]; exact newI_nil _ _ (Below.refl _ _)
    · clear h
      go_enter Try.func17, Try.ntmps17
      go_wp2
      go_ret
      rw [HC.out]; exact newI_nil _ _ (Below.refl _ _)

def mayKB (k : Int) : Bool := decide (1 ≤ k) && decide (k ≤ 128)
theorem mayKB_iff {k : Int} : mayKB k = true ↔ 1 ≤ k ∧ k ≤ 128 := by simp [mayKB]
theorem mayKB_iff0 {k : Int} : mayKB k = false ↔ ¬ (1 ≤ k ∧ k ≤ 128) := by rw [← mayKB_iff]; simp
set_option maxHeartbeats 400000 in
theorem MayK_any (k : Int) (w : World) :
    Calls Try.prog 38 #[.int .i64 k] w fun e w' => e = .returned (.bool (mayKB k)) ∧ w = w' := by
  go_enter Try.func38, Try.ntmps38
  go_wp2
  all_goals (go_ret; refine ⟨ret_bool ?_, rfl⟩; first | (symm; rw [mayKB_iff]; omega) | (symm; rw [mayKB_iff0]; omega) | (rw [Bool.eq_iff_iff, mayKB_iff]; simp; omega))

set_option maxHeartbeats 4000000 in
theorem canonicalRef_in (n k : Nat) (w : World) (hn : n ≤ 1073741824) (hk1 : 1 ≤ k) (hk2 : k ≤ 128) :
    Calls Try.prog 19 #[.int .i64 n, .int .i64 k] w (NewI (canonF k n n) w) := by
  obtain ⟨i0, hi0, hz0, hz1, hz2⟩ := info_parts int_info
  have HI := Lib.hid hi0
  have HZ0 := Lib.hid hz0
  have HZ1 := Lib.hid hz1
  have HZ2 := Lib.hid hz2
  clear hi0 hz0 hz1 hz2
  have HM : Hid (mayKB k = true) := mayKB_iff.2 (by omega)
  go_enter Try.func19, Try.ntmps19
  go_wp2_with (go_at_call 38; refine (MayK_any _ _).mono ?_; rintro e w2 ⟨rfl, rfl⟩; rw [HM.out])
  go_loopg [5, 6] n (fun kx s5 s0 wr => ∃ (u f : Nat) (acc : List Int) (v : Value), s0 = .int .i64 u ∧ v = s5 ∧ u ≤ kx ∧ u ≤ f ∧ acc.length + u ≤ n ∧ Hid (wr.ownsRow w.heap.size 3 1 v acc.length (acc.map (Value.int .i64))) ∧
    Hid (acc ++ canonF k f u = canonF k n n) ∧ Hid (Below w.heap.size w wr))
  case atStart => exact ⟨n, n, [], _, rfl, rfl, Nat.le_refl _, Nat.le_refl _, by simp, own_nil _ _ _ _, (rfl : [] ++ canonF k n n = canonF k n n), Below.refl _ _⟩
  case round =>
    obtain ⟨u, f, acc, v, rfl, rfl, hku, huf, hl, Hown, HE, HB⟩ := hrel
    by_cases h0 : 0 < u
    · obtain ⟨f, rfl⟩ : ∃ f', f = f' + 1 := ⟨f - 1, by omega⟩
      have hE2 := HE.out
      rw [canonF_pos k f u h0, List.append_cons] at hE2
      have HE2 := Lib.hid hE2
      clear hE2
      by_cases hp : u ≤ k + 1
      · go_wp2_with (at_builtin; go_loud (refine wpList_append_any _ rfl (.tmp 30) (.tmp 35) 28 rfl w.heap.size 3 i0 (.int .i64 0) 1 8 Try.underlying28 HI.out HZ0.out HZ1.out HZ2.out rfl (by omega) v acc.length _ rfl (own_alloc Hown.out _) _ _ 1 1 _ rfl (reads_new _ _ _ rfl) (by simp [Value.oneCell']) (by unfold maxLen; omega) (by omega) (by have := HB.out.size; simp; omega) ?_); intro v1 w1 hown1 hg1 hat1)
        have hx : (u : Int) = ((u - 2 * ((u - k) / 2) : Nat) : Int) := by omega
        rw [hx] at hown1
        go_roundg ((u - k) / 2)
        case measure => omega
        case rel => exact ⟨(u - k) / 2, f, acc ++ [((u - 2 * ((u - k) / 2) : Nat) : Int)], v1, by congr 1; omega, rfl, Nat.le_refl _, by omega, by simp; omega, by have h := hown1; simp only [List.length_append, List.length_singleton, List.map_append, List.map_cons, List.map_nil] at h ⊢; exact h, HE2, below_box HB.out Hown.out hg1⟩
      · go_wp2_with (at_builtin; go_loud (refine wpList_append_any _ rfl (.tmp 30) (.tmp 35) 28 rfl w.heap.size 3 i0 (.int .i64 0) 1 8 Try.underlying28 HI.out HZ0.out HZ1.out HZ2.out rfl (by omega) v acc.length _ rfl (own_alloc Hown.out _) _ _ 1 1 _ rfl (reads_new _ _ _ rfl) (by simp [Value.oneCell']) (by unfold maxLen; omega) (by omega) (by have := HB.out.size; simp; omega) ?_); intro v1 w1 hown1 hg1 hat1)
        have hx : ((u : Int) - 2 * (((u : Int) - (k : Int)) / 2)) = ((u - 2 * ((u - k) / 2) : Nat) : Int) := by omega
        rw [hx] at hown1
        go_roundg ((u - k) / 2)
        case measure => omega
        case rel => exact ⟨(u - k) / 2, f, acc ++ [((u - 2 * ((u - k) / 2) : Nat) : Int)], v1, by congr 1; omega, rfl, Nat.le_refl _, by omega, by simp; omega, by have h := hown1; simp only [List.length_append, List.length_singleton, List.map_append, List.map_cons, List.map_nil] at h ⊢; exact h, HE2, below_box HB.out Hown.out hg1⟩
    · obtain rfl : u = 0 := by omega
      go_wp2
      go_ret
      exact newI_own HB.out Hown.out (by rw [← HE.out, canonF_zero, List.append_nil])

set_option maxHeartbeats 2000000 in
theorem CanonicalRef_any (n k : Int) (w : World) :
    Calls Try.prog 19 #[.int .i64 n, .int .i64 k] w (NewI (canonI n k) w) := by
  by_cases h : 0 ≤ n ∧ n ≤ 1073741824 ∧ 1 ≤ k ∧ k ≤ 128
  · obtain ⟨n, rfl⟩ := Int.eq_ofNat_of_zero_le h.1
    obtain ⟨k, rfl⟩ := Int.eq_ofNat_of_zero_le (show 0 ≤ k by omega)
    rw [canonI_in (by omega) (by omega) (by omega)]
    exact canonicalRef_in n k w (by omega) (by omega) (by omega)
  · have HC := Lib.hid (canonI_out h)
    have HK := Lib.hid (MayK_any k)
    have hb : mayKB k = true ∨ mayKB k = false := by cases mayKB k <;> simp
    by_cases a1 : 0 ≤ n
    · by_cases a2 : n ≤ 1073741824
      · have a3 : mayKB k = false := by rw [mayKB_iff0]; omega
        rw [a3] at HK
        clear h hb a3
        go_enter Try.func19, Try.ntmps19
        go_wp2_with (go_at_call 38; refine (HK.out _).mono ?_; rintro e w2 ⟨rfl, rfl⟩)
        go_ret
        rw [HC.out]; exact newI_nil _ _ (Below.refl _ _)
      · clear h hb
        go_enter Try.func19, Try.ntmps19
        go_wp2
        go_ret
        rw [HC.out]; exact newI_nil _ _ (Below.refl _ _)
    · clear h hb
      go_enter Try.func19, Try.ntmps19
      go_wp2
      go_ret
      rw [HC.out]; exact newI_nil _ _ (Below.refl _ _)

/-- The example of the chapter. -/
theorem reads_build (w : World) (e : TypeId) (a b : Int) : IRead (w.alloc (.cells #[.int .i64 a, .int .i64 b] e)) (w.heap.size + 1) (some ⟨w.heap.size, 0, none⟩) 2 [a, b] := reads_new w e _ rfl
set_option maxHeartbeats 2000000 in
theorem awake_any (w : World) :
    Calls Try.prog 13 #[] w fun e w' => e = .returned (.bool true) ∧ Below w.heap.size w w' := by
  have HC := Lib.hid (Canonical_any 4 1 w)
  have e1 : canonI 4 1 = [2, 1] := by decide
  rw [e1] at HC
  clear e1
  go_enter Try.func13, Try.ntmps13
  go_wp2_with (go_at_call 17; refine HC.out.mono ?_; rintro e w1 ⟨A, m, c, rfl, hmc, hcm, hr, hb⟩; have HR := Lib.hid hr; have HB := Lib.hid hb; clear hr hb hmc hcm)
  have hm : m = 2 := HR.out.len.symm
  subst hm
  have HS := Lib.hid (SameInts_any A (some ⟨w1.heap.size, 0, none⟩) 2 c 2 2 [2, 1] [2, 1] (w1.alloc (.cells #[.int .i64 2, .int .i64 1] 3)) _ _ (HR.out.alloc (Nat.le_refl _) _) (reads_build w1 3 2 1) (by omega))
  go_wp2_with (go_at_call 18; refine HS.out.mono ?_; rintro e w' ⟨rfl, q, rfl⟩)
  go_ret
  exact ⟨rfl, below_drewN (HB.out.alloc HB.out.size _) _⟩
end Go.Proofs.Ytnohkjalglogaaa.lst
