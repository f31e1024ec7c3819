/- QtL; Qt1; Qt2: texts in one. -/
import Derived.Test.YtjapjfcennemeaaMgIns
import Derived.Test.YtjapjfcennemeaaMgDiv
import Derived.Test.YtjapjfcennemeaaMgPruV
import Derived.Test.YtjapjfcennemeaaMgBox
import Derived.Test.YtjapjfcennemeaaBVal
import Derived.Test.YtjapjfcennemeaaBValR
import Derived.Test.YtjapjfcennemeaaMgBLaw
import Derived.LoopN
import Derived.Deep.DeepCutAuto
import Derived.Deep.CutBlock
set_option linter.unusedVariables false
set_option linter.unusedSimpArgs false
/- Plain: which states of a quantile's synopsis are valid; sizes. No program. -/
namespace Go.Proofs.Ytjapjfcennemeaa.qtl
open Go.Proofs.Ytjapjfcennemeaa.mem Go.Proofs.Ytjapjfcennemeaa.rnk
open Go.Proofs.Ytjapjfcennemeaa.num (bitsN bitsN_le)
set_option linter.unusedVariables false
set_option linter.unusedVariables false
def goodC (v k p o : Int) : Bool := decide ((1 ≤ v ∧ v ≤ 1048576) ∧ (1 ≤ k ∧ k ≤ 64) ∧ (1 ≤ p ∧ p ≤ 65536) ∧ (0 ≤ o ∧ o ≤ 16777216))
theorem goodC_iff {v k p o : Int} : goodC v k p o = true ↔ (1 ≤ v ∧ v ≤ 1048576) ∧ (1 ≤ k ∧ k ≤ 64) ∧ (1 ≤ p ∧ p ≤ 65536) ∧ (0 ≤ o ∧ o ≤ 16777216) := decide_eq_true_iff
theorem goodC_iff0 {v k p o : Int} : goodC v k p o = false ↔ ¬ ((1 ≤ v ∧ v ≤ 1048576) ∧ (1 ≤ k ∧ k ≤ 64) ∧ (1 ≤ p ∧ p ≤ 65536) ∧ (0 ≤ o ∧ o ≤ 16777216)) := decide_eq_false_iff_not
def mayB (v p o : Int) : Bool := decide ((1 ≤ v ∧ v ≤ 1048576) ∧ (1 ≤ p ∧ p ≤ 65536) ∧ (0 ≤ o ∧ o ≤ 16777216))
theorem mayB_iff {v p o : Int} : mayB v p o = true ↔ (1 ≤ v ∧ v ≤ 1048576) ∧ (1 ≤ p ∧ p ≤ 65536) ∧ (0 ≤ o ∧ o ≤ 16777216) := decide_eq_true_iff
theorem mayB_iff0 {v p o : Int} : mayB v p o = false ↔ ¬ ((1 ≤ v ∧ v ≤ 1048576) ∧ (1 ≤ p ∧ p ≤ 65536) ∧ (0 ≤ o ∧ o ≤ 16777216)) := decide_eq_false_iff_not
def kB (k : Int) : Bool := decide (1 ≤ k ∧ k ≤ 64)
theorem kB_iff {k : Int} : kB k = true ↔ 1 ≤ k ∧ k ≤ 64 := decide_eq_true_iff
theorem kB_iff0 {k : Int} : kB k = false ↔ ¬ (1 ≤ k ∧ k ≤ 64) := decide_eq_false_iff_not
theorem goodC_may (v k p o : Int) : goodC v k p o = (mayB v p o && kB k) := by
  rw [Bool.eq_iff_iff, Bool.and_eq_true, goodC_iff, mayB_iff, kB_iff]
  constructor
  · rintro ⟨a, b, c, d⟩; exact ⟨⟨a, c, d⟩, b⟩
  · rintro ⟨⟨a, c, d⟩, b⟩; exact ⟨a, b, c, d⟩
/-- A number that is kept, or nought. -/
def kp (b : Bool) (x : Int) : Int := if b = true then x else 0
theorem kp_t (x : Int) : kp true x = x := rfl
theorem kp_f (x : Int) : kp false x = 0 := rfl
def sizeQ (k p : Int) : Int := if (1 ≤ k ∧ k ≤ 64) ∧ 1 ≤ p ∧ p ≤ 65536 then 2 * k * ((bitsN p : Int) + 2) else 0
theorem sizeQ_t {k p : Int} (h : (1 ≤ k ∧ k ≤ 64) ∧ 1 ≤ p ∧ p ≤ 65536) : sizeQ k p = 2 * k * ((bitsN p : Int) + 2) := if_pos h
theorem sizeQ_f {k p : Int} (h : ¬ ((1 ≤ k ∧ k ≤ 64) ∧ 1 ≤ p ∧ p ≤ 65536)) : sizeQ k p = 0 := if_neg h
def mostQ (k p : Int) : Int := if sizeQ k p = 0 then 0 else (2 * k + 1) * (bitsN p : Int) * (sizeQ k p + 1)
theorem two_bd {k : Int} {b : Nat} (h1 : 1 ≤ k) (h2 : k ≤ 64) (hb : b ≤ 64) : 2 ≤ 2 * k * ((b : Int) + 2) ∧ 2 * k * ((b : Int) + 2) ≤ 8448 := by
  obtain ⟨n, rfl⟩ := Int.eq_ofNat_of_zero_le (show 0 ≤ k by omega)
  have h3 : 2 * n * (b + 2) ≤ 128 * 66 := Nat.mul_le_mul (by omega) (by omega)
  have h4 : 1 * 2 ≤ 2 * n * (b + 2) := Nat.mul_le_mul (by omega) (by omega)
  have e : 2 * (n : Int) * ((b : Int) + 2) = ((2 * n * (b + 2) : Nat) : Int) := by simp
  rw [e]; omega
theorem three_bd {k z : Int} {b : Nat} (h1 : 1 ≤ k) (h2 : k ≤ 64) (hb : b ≤ 64) (hz : 0 ≤ z ∧ z ≤ 8448) : (0 ≤ (2 * k + 1) * (b : Int) ∧ (2 * k + 1) * (b : Int) ≤ 8256) ∧ 0 ≤ (2 * k + 1) * (b : Int) * (z + 1) ∧ (2 * k + 1) * (b : Int) * (z + 1) ≤ 8256 * 8449 := by
  obtain ⟨n, rfl⟩ := Int.eq_ofNat_of_zero_le (show 0 ≤ k by omega)
  obtain ⟨y, rfl⟩ := Int.eq_ofNat_of_zero_le hz.1
  have h3 : (2 * n + 1) * b ≤ 129 * 64 := Nat.mul_le_mul (by omega) (by omega)
  have h4 : (2 * n + 1) * b * (y + 1) ≤ 8256 * 8449 := Nat.mul_le_mul h3 (by omega)
  have e : (2 * (n : Int) + 1) * (b : Int) = (((2 * n + 1) * b : Nat) : Int) := by simp
  have e2 : (2 * (n : Int) + 1) * (b : Int) * ((y : Int) + 1) = (((2 * n + 1) * b * (y + 1) : Nat) : Int) := by simp
  rw [e2, e]; omega
theorem sizeQ_bd (k p : Int) : 0 ≤ sizeQ k p ∧ sizeQ k p ≤ 8448 := by
  by_cases h : (1 ≤ k ∧ k ≤ 64) ∧ 1 ≤ p ∧ p ≤ 65536
  · rw [sizeQ_t h]
    have := two_bd h.1.1 h.1.2 (bitsN_le p)
    omega
  · rw [sizeQ_f h]; omega
def liveK (xs : List K5) (o v : Int) : Bool := xs.all fun x => clk.liveB o v x.1
theorem liveK_iff {xs : List K5} {o v : Int} : liveK xs o v = true ↔ ∀ i < xs.length, clk.liveB o v (atK xs i).1 = true := by
  unfold liveK
  rw [List.all_eq_true]
  constructor
  · intro h i hi
    have := h xs[i] (List.getElem_mem hi)
    simpa [atK, List.getElem?_eq_getElem hi] using this
  · intro h x hx
    obtain ⟨i, hi, rfl⟩ := List.mem_iff_getElem.1 hx
    have := h i hi
    simpa [atK, List.getElem?_eq_getElem hi] using this
def liveTo (xs : List K5) (o v : Int) (m : Nat) : Prop := ∀ i, i < m → clk.liveB o v (atK xs i).1 = true
theorem liveTo_zero (xs : List K5) (o v : Int) : liveTo xs o v 0 := fun i hi => absurd hi (Nat.not_lt_zero _)
theorem liveTo_succ {xs : List K5} {o v : Int} {m : Nat} (h : liveTo xs o v m) (hm : clk.liveB o v (atK xs m).1 = true) : liveTo xs o v (m + 1) := fun i hi => by
  by_cases e : i = m
  · rw [e]; exact hm
  · exact h i (by omega)
/-- Which states are valid. -/
noncomputable def fitQ (xs : List K5) (v k p o : Int) : Bool := goodC v k p o && (validK xs (2 * k) (sizeQ k p) && (decide ((totalK xs : Int) ≤ p) && liveK xs o v))
theorem fitQ_iff {xs : List K5} {v k p o : Int} : fitQ xs v k p o = true ↔ goodC v k p o = true ∧ validK xs (2 * k) (sizeQ k p) = true ∧ (totalK xs : Int) ≤ p ∧ liveTo xs o v xs.length := by
  unfold fitQ
  rw [Bool.and_eq_true, Bool.and_eq_true, Bool.and_eq_true, decide_eq_true_eq, liveK_iff]
  exact Iff.rfl
theorem fitQ_not {xs : List K5} {v k p o : Int} (h : ¬ (goodC v k p o = true ∧ validK xs (2 * k) (sizeQ k p) = true ∧ (totalK xs : Int) ≤ p ∧ liveTo xs o v xs.length)) : fitQ xs v k p o = false := by
  rw [Bool.eq_false_iff]; intro h2; exact h (fitQ_iff.1 h2)
def okE (b : Bool) : Int := if b = true then 0 else 2
theorem okE_t : okE true = 0 := rfl
theorem okE_f : okE false = 2 := rfl
end Go.Proofs.Ytjapjfcennemeaa.qtl

/- Contracts of the small functions of quantiles: parameters, New, Size, Most. -/
namespace Go.Proofs.Ytjapjfcennemeaa.qtl
open Go.RowKit Go.Proofs.Ytjapjfcennemeaa.mem Go.Proofs.Ytjapjfcennemeaa.gro
open Go.Proofs.Ytjapjfcennemeaa.num (bitsN bitsN_le Bits_any BitsRef_any)
set_option linter.unusedVariables false
set_option linter.unusedSimpArgs false
set_option maxHeartbeats 2000000 in
set_option maxRecDepth 100000 in
theorem MayKc_any (k : Int) (w : World) : Calls Try.prog 101 #[.int .i64 k] w fun e w' => e = .returned (.bool (kB k)) ∧ w = w' := by
  go_enter Try.func101, Try.ntmps101
  go_wp2
  all_goals (go_ret; refine ⟨clk.ret_bool ?_, rfl⟩; first | (symm; rw [kB_iff]; omega) | (symm; rw [kB_iff0]; omega) | (rw [Bool.eq_iff_iff, kB_iff]; simp; omega))
set_option maxHeartbeats 2000000 in
set_option maxRecDepth 100000 in
theorem May_any (v p o : Int) (w : World) : Calls Try.prog 100 #[.int .i64 v, .int .i64 p, .int .i64 o] w fun e w' => e = .returned (.bool (mayB v p o)) ∧ w = w' := by
  have HW := Lib.hid (fun W => clk.Window_any v W)
  have HT := Lib.hid (fun W => clk.Tick_any o W)
  rcases Bool.eq_false_or_eq_true (clk.winB v) with hw | hw <;> rcases Bool.eq_false_or_eq_true (clk.tickB o) with ht | ht <;> rw [hw] at HW <;> rw [ht] at HT
  all_goals first | rw [clk.winB_iff] at hw | rw [clk.winB_iff0] at hw
  all_goals first | rw [clk.tickB_iff] at ht | rw [clk.tickB_iff0] at ht
  all_goals
    go_enter Try.func100, Try.ntmps100
    go_wp2_with (first | (go_at_call 136; refine (HW.out _).mono ?_; rintro e w1 ⟨rfl, rfl⟩) | (go_at_call 79; refine (HT.out _).mono ?_; rintro e w1 ⟨rfl, rfl⟩))
  all_goals (go_ret; refine ⟨clk.ret_bool ?_, rfl⟩; first | (symm; rw [mayB_iff]; omega) | (symm; rw [mayB_iff0]; omega))
def timeE (o tt : Int) : Int := if tt < o ∨ 16777216 < tt then 3 else 0
theorem timeE_iff {o tt : Int} : (tt < o ∨ 16777216 < tt) ∧ timeE o tt = 3 ∨ ¬ (tt < o ∨ 16777216 < tt) ∧ timeE o tt = 0 := by
  unfold timeE; split
  · exact .inl ⟨by assumption, rfl⟩
  · exact .inr ⟨by assumption, rfl⟩
set_option maxHeartbeats 2000000 in
set_option maxRecDepth 100000 in
theorem ClkAdv_any (o tt : Int) (ho : 0 ≤ o ∧ o ≤ 16777216) (w : World) : Calls Try.prog 104 #[.int .i64 o, .int .i64 tt] w fun e w' => (∃ r : Int, e = .returned (.tuple #[.int .i64 r, .int .i64 (timeE o tt)])) ∧ w = w' := by
  have HT := Lib.hid (fun W => clk.tick_any o W)
  rw [clk.tickB_iff.2 ho] at HT
  obtain ⟨h1, h2⟩ := ho
  rcases timeE_iff (o := o) (tt := tt) with ⟨h, e⟩ | ⟨h, e⟩ <;> rw [e] <;> clear e
  · by_cases h3 : tt < o
    · clear h
      go_enter Try.func104, Try.ntmps104
      go_wp2_with (go_at_call 138; refine (HT.out _).mono ?_; rintro e w1 ⟨rfl, rfl⟩)
      go_ret2
      exact ⟨⟨_, rfl⟩, rfl⟩
    · have h4 : 16777216 < tt := by omega
      clear h
      go_enter Try.func104, Try.ntmps104
      go_wp2_with (go_at_call 138; refine (HT.out _).mono ?_; rintro e w1 ⟨rfl, rfl⟩)
      go_ret2
      exact ⟨⟨_, rfl⟩, rfl⟩
  · have h3 : ¬ tt < o := by omega
    have h4 : ¬ 16777216 < tt := by omega
    clear h
    go_enter Try.func104, Try.ntmps104
    go_wp2_with (go_at_call 138; refine (HT.out _).mono ?_; rintro e w1 ⟨rfl, rfl⟩)
    go_ret2
    exact ⟨⟨_, rfl⟩, rfl⟩
set_option maxHeartbeats 2000000 in
set_option maxRecDepth 100000 in
theorem Back_any (o tt : Int) (w : World) : Calls Try.prog 106 #[.int .i64 o, .int .i64 tt] w fun e w' => e = .returned (.int .i64 (timeE o tt)) ∧ w = w' := by
  rcases timeE_iff (o := o) (tt := tt) with ⟨h, e⟩ | ⟨h, e⟩ <;> rw [e] <;> clear e
  · by_cases h3 : tt < o
    · clear h
      go_enter Try.func106, Try.ntmps106
      go_wp2
      go_ret
      exact ⟨rfl, rfl⟩
    · have h4 : 16777216 < tt := by omega
      clear h
      go_enter Try.func106, Try.ntmps106
      go_wp2
      go_ret
      exact ⟨rfl, rfl⟩
  · have h3 : ¬ tt < o := by omega
    have h4 : ¬ 16777216 < tt := by omega
    clear h
    go_enter Try.func106, Try.ntmps106
    go_wp2
    go_ret
    exact ⟨rfl, rfl⟩
set_option maxHeartbeats 2000000 in
set_option maxRecDepth 100000 in
theorem goodQ_any (v k p o : Int) (w : World) : Calls Try.prog 99 #[.int .i64 v, .int .i64 k, .int .i64 p, .int .i64 o] w fun e w' => e = .returned (.bool (goodC v k p o)) ∧ w = w' := by
  go_enter Try.func99, Try.ntmps99
  go_wp2
  all_goals (go_ret; refine ⟨clk.ret_bool ?_, rfl⟩; first | (symm; rw [goodC_iff]; omega) | (symm; rw [goodC_iff0]; omega) | (rw [Bool.eq_iff_iff, goodC_iff]; simp; omega))
set_option maxHeartbeats 2000000 in
set_option maxRecDepth 100000 in
theorem SizeQ_any (k p : Int) (hp : p ≤ 9223372036854775807) (w : World) : Calls Try.prog 47 #[.int .i64 k, .int .i64 p] w fun e w' => e = .returned (.int .i64 (sizeQ k p)) ∧ w = w' := by
  have HG := Lib.hid (fun W => goodQ_any 1 k p 0 W)
  by_cases h : (1 ≤ k ∧ k ≤ 64) ∧ 1 ≤ p ∧ p ≤ 65536
  · rw [goodC_iff.2 ⟨by omega, h.1, h.2, by omega⟩] at HG
    have HB := Lib.hid (fun W => Bits_any p W hp)
    have HS := Lib.hid (sizeQ_t h)
    have hb := two_bd h.1.1 h.1.2 (bitsN_le p)
    have hb2 := bitsN_le p
    generalize bitsN p = b at *
    obtain ⟨z, hz⟩ : ∃ z, 2 * k * ((b : Int) + 2) = z := ⟨_, rfl⟩
    have s1 : IntKind.i64.wrap (2 * k) = 2 * k := IntWalk.i64_in _ (by omega)
    have s2 : IntKind.i64.wrap ((b : Int) + 2) = (b : Int) + 2 := IntWalk.i64_in _ (by omega)
    have s3 : IntKind.i64.wrap (2 * k * ((b : Int) + 2)) = 2 * k * ((b : Int) + 2) := IntWalk.i64_in _ (by omega)
    clear hz h
    go_enter Try.func47, Try.ntmps47
    go_wp2_with (first | (go_at_call 99; refine (HG.out _).mono ?_; rintro e w1 ⟨rfl, rfl⟩) | (go_at_call 102; refine (HB.out _).mono ?_; rintro e w1 ⟨rfl, rfl⟩))
    go_ret
    exact ⟨clk.ret_int (by rw [HS.out]), rfl⟩
  · rw [goodC_iff0.2 (fun h2 => h ⟨h2.2.1, h2.2.2.1⟩)] at HG
    have HS := Lib.hid (sizeQ_f h)
    clear h
    go_enter Try.func47, Try.ntmps47
    go_wp2_with (first | (go_at_call 99; refine (HG.out _).mono ?_; rintro e w1 ⟨rfl, rfl⟩))
    go_ret
    exact ⟨clk.ret_int (by rw [HS.out]), rfl⟩
set_option maxHeartbeats 2000000 in
set_option maxRecDepth 100000 in
theorem SizeQR_any (k p : Int) (hp : p ≤ 9223372036854775807) (w : World) : Calls Try.prog 48 #[.int .i64 k, .int .i64 p] w fun e w' => e = .returned (.int .i64 (sizeQ k p)) ∧ w = w' := by
  have HG := Lib.hid (fun W => MayKc_any k W)
  by_cases h : (1 ≤ k ∧ k ≤ 64) ∧ 1 ≤ p ∧ p ≤ 65536
  · rw [kB_iff.2 h.1] at HG
    have HB := Lib.hid (fun W => BitsRef_any p W hp)
    have HS := Lib.hid (sizeQ_t h)
    have hb := two_bd h.1.1 h.1.2 (bitsN_le p)
    have hb2 := bitsN_le p
    obtain ⟨⟨k1, k2⟩, p1, p2⟩ := h
    generalize bitsN p = b at *
    have s1 : IntKind.i64.wrap (2 * k) = 2 * k := IntWalk.i64_in _ (by omega)
    have s2 : IntKind.i64.wrap ((b : Int) + 2) = (b : Int) + 2 := IntWalk.i64_in _ (by omega)
    have s3 : IntKind.i64.wrap (2 * k * ((b : Int) + 2)) = 2 * k * ((b : Int) + 2) := IntWalk.i64_in _ (by omega)
    have q1 : ¬ p < 1 := by omega
    have q2 : ¬ 65536 < p := by omega
    go_enter Try.func48, Try.ntmps48
    go_wp2_with (first | (go_at_call 101; refine (HG.out _).mono ?_; rintro e w1 ⟨rfl, rfl⟩) | (go_at_call 103; refine (HB.out _).mono ?_; rintro e w1 ⟨rfl, rfl⟩))
    go_ret
    exact ⟨clk.ret_int (by rw [HS.out]), rfl⟩
  · have HS := Lib.hid (sizeQ_f h)
    by_cases hk : 1 ≤ k ∧ k ≤ 64
    · rw [kB_iff.2 hk] at HG
      have hno : p < 1 ∨ 65536 < p := by omega
      clear h hk
      rcases hno with q1 | q1
      all_goals
        go_enter Try.func48, Try.ntmps48
        go_wp2_with (go_at_call 101; refine (HG.out _).mono ?_; rintro e w1 ⟨rfl, rfl⟩)
        all_goals first
          | (exfalso; omega)
          | (go_ret; exact ⟨clk.ret_int (by rw [HS.out]), rfl⟩)
    · rw [kB_iff0.2 hk] at HG
      clear h hk
      go_enter Try.func48, Try.ntmps48
      go_wp2_with (go_at_call 101; refine (HG.out _).mono ?_; rintro e w1 ⟨rfl, rfl⟩)
      go_ret
      exact ⟨clk.ret_int (by rw [HS.out]), rfl⟩
set_option maxHeartbeats 2000000 in
set_option maxRecDepth 100000 in
theorem MostQ_any (k p : Int) (hp : p ≤ 9223372036854775807) (w : World) : Calls Try.prog 49 #[.int .i64 k, .int .i64 p] w fun e w' => e = .returned (.int .i64 (mostQ k p)) ∧ w = w' := by
  have HZ := Lib.hid (fun W => SizeQ_any k p hp W)
  have HB := Lib.hid (fun W => Bits_any p W hp)
  have HM : Hid (mostQ k p = if sizeQ k p = 0 then 0 else (2 * k + 1) * (bitsN p : Int) * (sizeQ k p + 1)) := rfl
  have hz := sizeQ_bd k p
  by_cases h0 : sizeQ k p = 0
  · rw [if_pos h0] at HM
    rw [h0] at HZ
    clear h0 hz
    go_enter Try.func49, Try.ntmps49
    go_wp2_with (first | (go_at_call 47; refine (HZ.out _).mono ?_; rintro e w1 ⟨rfl, rfl⟩))
    go_ret
    exact ⟨clk.ret_int (by rw [HM.out]), rfl⟩
  · rw [if_neg h0] at HM
    have hk : (1 ≤ k ∧ k ≤ 64) ∧ 1 ≤ p ∧ p ≤ 65536 := by
      by_cases h : (1 ≤ k ∧ k ≤ 64) ∧ 1 ≤ p ∧ p ≤ 65536
      · exact h
      · exact absurd (sizeQ_f h) h0
    have hb := three_bd (z := sizeQ k p) hk.1.1 hk.1.2 (bitsN_le p) hz
    have hb2 := bitsN_le p
    generalize bitsN p = b at *
    generalize sizeQ k p = z at *
    have s1 : IntKind.i64.wrap (2 * k) = 2 * k := IntWalk.i64_in _ (by omega)
    have s2 : IntKind.i64.wrap (2 * k + 1) = 2 * k + 1 := IntWalk.i64_in _ (by omega)
    have s3 : IntKind.i64.wrap (z + 1) = z + 1 := IntWalk.i64_in _ (by omega)
    have s4 : IntKind.i64.wrap ((2 * k + 1) * (b : Int)) = (2 * k + 1) * (b : Int) := IntWalk.i64_in _ (by omega)
    have s5 : IntKind.i64.wrap ((2 * k + 1) * (b : Int) * (z + 1)) = (2 * k + 1) * (b : Int) * (z + 1) := IntWalk.i64_in _ (by omega)
    clear hb hk
    go_enter Try.func49, Try.ntmps49
    go_wp2_with (first | (go_at_call 47; refine (HZ.out _).mono ?_; rintro e w1 ⟨rfl, rfl⟩) | (go_at_call 102; refine (HB.out _).mono ?_; rintro e w1 ⟨rfl, rfl⟩))
    go_ret
    exact ⟨clk.ret_int (by rw [HM.out]), rfl⟩
set_option maxHeartbeats 2000000 in
set_option maxRecDepth 100000 in
theorem MostQR_any (k p : Int) (hp : p ≤ 9223372036854775807) (w : World) : Calls Try.prog 50 #[.int .i64 k, .int .i64 p] w fun e w' => e = .returned (.int .i64 (mostQ k p)) ∧ w = w' := by
  have HZ := Lib.hid (fun W => SizeQR_any k p hp W)
  have HB := Lib.hid (fun W => BitsRef_any p W hp)
  have HM : Hid (mostQ k p = if sizeQ k p = 0 then 0 else (2 * k + 1) * (bitsN p : Int) * (sizeQ k p + 1)) := rfl
  have hz := sizeQ_bd k p
  by_cases h0 : sizeQ k p = 0
  · rw [if_pos h0] at HM
    rw [h0] at HZ
    clear h0 hz
    go_enter Try.func50, Try.ntmps50
    go_wp2_with (first | (go_at_call 48; refine (HZ.out _).mono ?_; rintro e w1 ⟨rfl, rfl⟩))
    go_ret
    exact ⟨clk.ret_int (by rw [HM.out]), rfl⟩
  · rw [if_neg h0] at HM
    have hk : (1 ≤ k ∧ k ≤ 64) ∧ 1 ≤ p ∧ p ≤ 65536 := by
      by_cases h : (1 ≤ k ∧ k ≤ 64) ∧ 1 ≤ p ∧ p ≤ 65536
      · exact h
      · exact absurd (sizeQ_f h) h0
    have hb := three_bd (z := sizeQ k p) hk.1.1 hk.1.2 (bitsN_le p) hz
    have hb2 := bitsN_le p
    generalize bitsN p = b at *
    generalize sizeQ k p = z at *
    have s1 : IntKind.i64.wrap (2 * k) = 2 * k := IntWalk.i64_in _ (by omega)
    have s2 : IntKind.i64.wrap (2 * k + 1) = 2 * k + 1 := IntWalk.i64_in _ (by omega)
    have s3 : IntKind.i64.wrap (z + 1) = z + 1 := IntWalk.i64_in _ (by omega)
    have s4 : IntKind.i64.wrap ((2 * k + 1) * (b : Int)) = (2 * k + 1) * (b : Int) := IntWalk.i64_in _ (by omega)
    have s5 : IntKind.i64.wrap ((2 * k + 1) * (b : Int) * (z + 1)) = (2 * k + 1) * (b : Int) * (z + 1) := IntWalk.i64_in _ (by omega)
    clear hb hk
    go_enter Try.func50, Try.ntmps50
    go_wp2_with (first | (go_at_call 48; refine (HZ.out _).mono ?_; rintro e w1 ⟨rfl, rfl⟩) | (go_at_call 103; refine (HB.out _).mono ?_; rintro e w1 ⟨rfl, rfl⟩))
    go_ret
    exact ⟨clk.ret_int (by rw [HM.out]), rfl⟩
set_option maxHeartbeats 2000000 in
set_option maxRecDepth 100000 in
theorem NewQ_any (v k p o : Int) (w : World) : Calls Try.prog 44 #[.int .i64 v, .int .i64 k, .int .i64 p, .int .i64 o] w fun e w' => e = .returned (.tuple #[.agg #[.int .i64 (kp (goodC v k p o) v), .int .i64 (kp (goodC v k p o) k), .int .i64 (kp (goodC v k p o) p), .int .i64 (kp (goodC v k p o) o), .slice none 0 0], .int .i64 (if (goodC v k p o) = true then 0 else 1)]) ∧ Below w.heap.size w w' := by
  have HG := Lib.hid (fun W => goodQ_any v k p o W)
  cases hg : (goodC v k p o)
  case false =>
    rw [hg] at HG
    simp only [kp_t, kp_f, if_true, Bool.false_eq_true, if_false]
    go_enter Try.func44, Try.ntmps44
    go_wp2_with fail
    obtain ⟨W0, hW, hs0, K0, B0⟩ := start1 w 70 #[Value.int IntKind.i64 0, Value.int IntKind.i64 0, Value.int IntKind.i64 0, Value.int IntKind.i64 0, Value.slice none 0 0]
    rw [hW]
    clear hW
    have KK := Lib.hid K0
    have BB := Lib.hid B0
    have R := K0.rules
    simp only [Rules] at R
    clear K0 B0 hs0
    (with_reducible refine (HG.out _).mono ?_)
    rintro e w1 ⟨rfl, rfl⟩
    go_wp2
    refine bodyPost_ret (v := Value.tuple #[.agg #[Value.int IntKind.i64 0, Value.int IntKind.i64 0, Value.int IntKind.i64 0, Value.int IntKind.i64 0, Value.slice none 0 0], .int .i64 1]) (by simp [results, Try.results44, go_sem, R]) rfl ⟨rfl, ?_⟩
    exact (((((BB.out.setCell (by first | (simp; done) | (simp; omega)) _).setCell (by first | (simp; done) | (simp; omega)) _).setCell (by first | (simp; done) | (simp; omega)) _).setCell (by first | (simp; done) | (simp; omega)) _).setCell (by first | (simp; done) | (simp; omega)) _)
  case true =>
    rw [hg] at HG
    simp only [kp_t, kp_f, if_true, Bool.false_eq_true, if_false]
    go_enter Try.func44, Try.ntmps44
    go_wp2_with fail
    obtain ⟨W0, hW, hs0, K0, B0⟩ := start1 w 70 #[Value.int IntKind.i64 0, Value.int IntKind.i64 0, Value.int IntKind.i64 0, Value.int IntKind.i64 0, Value.slice none 0 0]
    rw [hW]
    clear hW
    have KK := Lib.hid K0
    have BB := Lib.hid B0
    have R := K0.rules
    simp only [Rules] at R
    clear K0 B0 hs0
    (with_reducible refine (HG.out _).mono ?_)
    rintro e w1 ⟨rfl, rfl⟩
    go_wp2
    refine bodyPost_ret (v := Value.tuple #[.agg #[Value.int IntKind.i64 v, Value.int IntKind.i64 k, Value.int IntKind.i64 p, Value.int IntKind.i64 o, Value.slice none 0 0], .int .i64 0]) (by simp [results, Try.results44, go_sem, R]) rfl ⟨rfl, ?_⟩
    exact (((((BB.out.setCell (by first | (simp; done) | (simp; omega)) _).setCell (by first | (simp; done) | (simp; omega)) _).setCell (by first | (simp; done) | (simp; omega)) _).setCell (by first | (simp; done) | (simp; omega)) _).setCell (by first | (simp; done) | (simp; omega)) _)
set_option maxHeartbeats 2000000 in
set_option maxRecDepth 100000 in
theorem NewQR_any (v k p o : Int) (w : World) : Calls Try.prog 45 #[.int .i64 v, .int .i64 k, .int .i64 p, .int .i64 o] w fun e w' => e = .returned (.tuple #[.agg #[.int .i64 (kp (goodC v k p o) v), .int .i64 (kp (goodC v k p o) k), .int .i64 (kp (goodC v k p o) p), .int .i64 (kp (goodC v k p o) o), .slice none 0 0], .int .i64 (if (goodC v k p o) = true then 0 else 1)]) ∧ Below w.heap.size w w' := by
  have HM := Lib.hid (fun W => May_any v p o W)
  have HK := Lib.hid (fun W => MayKc_any k W)
  have hgd : (goodC v k p o) = (mayB v p o && kB k) := goodC_may v k p o
  rw [hgd]
  clear hgd
  cases hm : mayB v p o
  case false =>
    rw [hm] at HM
    simp only [Bool.false_and, Bool.true_and, Bool.and_false, Bool.and_true, kp_t, kp_f, if_true, Bool.false_eq_true, if_false]
    go_enter Try.func45, Try.ntmps45
    go_wp2_with fail
    obtain ⟨W0, hW, hs0, K0, B0⟩ := start1 w 70 #[Value.int IntKind.i64 0, Value.int IntKind.i64 0, Value.int IntKind.i64 0, Value.int IntKind.i64 0, Value.slice none 0 0]
    rw [hW]
    clear hW
    have KK := Lib.hid K0
    have BB := Lib.hid B0
    have R := K0.rules
    simp only [Rules] at R
    clear K0 B0 hs0
    (with_reducible refine (HM.out _).mono ?_)
    rintro e w1 ⟨rfl, rfl⟩
    go_wp2
    refine bodyPost_ret (v := Value.tuple #[.agg #[Value.int IntKind.i64 0, Value.int IntKind.i64 0, Value.int IntKind.i64 0, Value.int IntKind.i64 0, Value.slice none 0 0], .int .i64 1]) (by simp [results, Try.results45, go_sem, R]) rfl ⟨rfl, ?_⟩
    exact (((((BB.out.setCell (by first | (simp; done) | (simp; omega)) _).setCell (by first | (simp; done) | (simp; omega)) _).setCell (by first | (simp; done) | (simp; omega)) _).setCell (by first | (simp; done) | (simp; omega)) _).setCell (by first | (simp; done) | (simp; omega)) _)
  rw [hm] at HM
  cases hk : kB k
  case false =>
    rw [hk] at HK
    simp only [Bool.false_and, Bool.true_and, Bool.and_false, Bool.and_true, kp_t, kp_f, if_true, Bool.false_eq_true, if_false]
    go_enter Try.func45, Try.ntmps45
    go_wp2_with fail
    obtain ⟨W0, hW, hs0, K0, B0⟩ := start1 w 70 #[Value.int IntKind.i64 0, Value.int IntKind.i64 0, Value.int IntKind.i64 0, Value.int IntKind.i64 0, Value.slice none 0 0]
    rw [hW]
    clear hW
    have KK := Lib.hid K0
    have BB := Lib.hid B0
    have R := K0.rules
    simp only [Rules] at R
    clear K0 B0 hs0
    (with_reducible refine (HM.out _).mono ?_)
    rintro e w1 ⟨rfl, rfl⟩
    go_wp2_with fail
    (with_reducible refine (HK.out _).mono ?_)
    rintro e w1 ⟨rfl, rfl⟩
    go_wp2
    refine bodyPost_ret (v := Value.tuple #[.agg #[Value.int IntKind.i64 0, Value.int IntKind.i64 0, Value.int IntKind.i64 0, Value.int IntKind.i64 0, Value.slice none 0 0], .int .i64 1]) (by simp [results, Try.results45, go_sem, R]) rfl ⟨rfl, ?_⟩
    exact (((((BB.out.setCell (by first | (simp; done) | (simp; omega)) _).setCell (by first | (simp; done) | (simp; omega)) _).setCell (by first | (simp; done) | (simp; omega)) _).setCell (by first | (simp; done) | (simp; omega)) _).setCell (by first | (simp; done) | (simp; omega)) _)
  rw [hk] at HK
  simp only [Bool.false_and, Bool.true_and, Bool.and_false, Bool.and_true, kp_t, kp_f, if_true, Bool.false_eq_true, if_false]
  go_enter Try.func45, Try.ntmps45
  go_wp2_with fail
  obtain ⟨W0, hW, hs0, K0, B0⟩ := start1 w 70 #[Value.int IntKind.i64 0, Value.int IntKind.i64 0, Value.int IntKind.i64 0, Value.int IntKind.i64 0, Value.slice none 0 0]
  rw [hW]
  clear hW
  have KK := Lib.hid K0
  have BB := Lib.hid B0
  have R := K0.rules
  simp only [Rules] at R
  clear K0 B0 hs0
  (with_reducible refine (HM.out _).mono ?_)
  rintro e w1 ⟨rfl, rfl⟩
  go_wp2_with fail
  (with_reducible refine (HK.out _).mono ?_)
  rintro e w1 ⟨rfl, rfl⟩
  go_wp2
  refine bodyPost_ret (v := Value.tuple #[.agg #[Value.int IntKind.i64 v, Value.int IntKind.i64 k, Value.int IntKind.i64 p, Value.int IntKind.i64 o, Value.slice none 0 0], .int .i64 0]) (by simp [results, Try.results45, go_sem, R]) rfl ⟨rfl, ?_⟩
  exact (((((BB.out.setCell (by first | (simp; done) | (simp; omega)) _).setCell (by first | (simp; done) | (simp; omega)) _).setCell (by first | (simp; done) | (simp; omega)) _).setCell (by first | (simp; done) | (simp; omega)) _).setCell (by first | (simp; done) | (simp; omega)) _)
end Go.Proofs.Ytjapjfcennemeaa.qtl

/- Contracts of Validate of quantiles. -/
namespace Go.Proofs.Ytjapjfcennemeaa.qtl
open Go.RowKit Go.Proofs.Ytjapjfcennemeaa.mem Go.Proofs.Ytjapjfcennemeaa.gro Go.Proofs.Ytjapjfcennemeaa.rnk Go.Proofs.Ytjapjfcennemeaa.blk
set_option linter.unusedVariables false
set_option linter.unusedSimpArgs false
set_option pp.maxSteps 200000
set_option maxHeartbeats 8000000 in
set_option maxRecDepth 100000 in
theorem ValidateQ_any (v k p o : Int) (A : Option Addr) (n c : Nat) (xs : List BlkM) (w : World) (h1 : BRead w w.heap.size A n xs) (hs : n ≤ 65000) (hp : p ≤ 9223372036854775807) :
    Calls Try.prog 57 #[(Value.agg #[.int .i64 v, .int .i64 k, .int .i64 p, .int .i64 o, .slice A n c])] w fun e w' => e = .returned (.int .i64 (okE (fitQ (xs.map bkey) v k p o))) ∧ Below w.heap.size w w' := by
  have HL := Lib.hid (BRead.key_len h1)
  have H1 := Lib.hid h1
  have HG := Lib.hid (fun W => goodQ_any v k p o W)
  have HZ := Lib.hid (fun W => SizeQ_any k p hp W)
  have HV := Lib.hid (fun W (hb : Below w.heap.size w W) => blk.ValidB_any A n c xs (2 * k) (sizeQ k p) W ((h1.below hb).more hb.size) (by omega))
  have HT := Lib.hid (fun W (hb : Below w.heap.size w W) => blk.TotalB_any A n c xs W ((h1.below hb).more hb.size) (by omega))
  clear h1
  have FALSE := fun h => @fitQ_not (xs.map bkey) v k p o h
  have RET : ∀ b : Bool, fitQ (xs.map bkey) v k p o = b → Hid (okE (fitQ (xs.map bkey) v k p o) = okE b) := fun b h => by rw [h]; rfl
  cases hg : goodC v k p o
  case false =>
    have RT := RET _ (FALSE (by rw [hg]; simp))
    rw [hg] at HG
    clear FALSE RET HV HT H1 HZ
    go_enter Try.func57, Try.ntmps57
    go_wp2_with fail
    obtain ⟨W0, hW, hs0, K0, B0⟩ := start1 w 70 #[Value.int IntKind.i64 v, Value.int IntKind.i64 k, Value.int IntKind.i64 p, Value.int IntKind.i64 o, Value.slice A n c]
    rw [hW]
    clear hW
    have KK := Lib.hid K0
    have BB := Lib.hid B0
    have R := K0.rules
    simp only [Rules] at R
    clear K0 B0 hs0
    (refine gro.wp_region_grown (by kernel_rfl) (by kernel_rfl) ?_; (repeat (go_big_quiet_step ((first | (go_at_call 99; exact call_same (HG.out _)))))); refine wpQuiet_nil ?_; intro _ hw'; obtain ⟨nx, hw''⟩ := hw'; subst hw'')
    replace BB := Lib.hid (BB.out.trans ((below_grown _ nx).mono BB.out.size))
    replace KK := Lib.hid (KK.out.below (below_grown _ nx))
    clear R
    generalize grown _ nx = W7 at *
    have R := KK.out.rules
    simp only [Rules] at R
    go_wp2
    go_ret
    exact ⟨clk.ret_int RT.out.symm, BB.out⟩
  rw [hg] at HG
  have hkb := (goodC_iff.1 hg).2.1
  have s1 : IntKind.i64.wrap (2 * k) = 2 * k := IntWalk.i64_in _ (by omega)
  generalize hzz : sizeQ k p = z at *
  cases hv : validK (xs.map bkey) (2 * k) z
  case false =>
    have RT := RET _ (FALSE (by rw [hv]; simp))
    have HV2 : Hid (∀ W, Below w.heap.size w W → Calls Try.prog 17 #[.slice A n c, .int .i64 (2 * k), .int .i64 z] W fun e w' => e = .returned (.bool false) ∧ Below W.heap.size W w') := fun W hb => by have := HV.out W hb; unfold lst.BOk at this; rwa [hv] at this
    clear HV FALSE RET HT H1 hzz
    go_enter Try.func57, Try.ntmps57
    go_wp2_with fail
    obtain ⟨W0, hW, hs0, K0, B0⟩ := start1 w 70 #[Value.int IntKind.i64 v, Value.int IntKind.i64 k, Value.int IntKind.i64 p, Value.int IntKind.i64 o, Value.slice A n c]
    rw [hW]
    clear hW
    have KK := Lib.hid K0
    have BB := Lib.hid B0
    have R := K0.rules
    simp only [Rules] at R
    clear K0 B0 hs0
    (refine gro.wp_region_grown (by kernel_rfl) (by kernel_rfl) ?_; (repeat (go_big_quiet_step ((first | (go_at_call 99; exact call_same (HG.out _)) | (go_at_call 47; exact call_same (HZ.out _)) | (go_at_call 17; exact call_grown (HV2.out _ (BB.out.trans ((below_grown _ _).mono BB.out.size)))))))); refine wpQuiet_nil ?_; intro _ hw'; obtain ⟨nx, hw''⟩ := hw'; subst hw'')
    replace BB := Lib.hid (BB.out.trans ((below_grown _ nx).mono BB.out.size))
    replace KK := Lib.hid (KK.out.below (below_grown _ nx))
    clear R
    generalize grown _ nx = W7 at *
    have R := KK.out.rules
    simp only [Rules] at R
    go_wp2
    go_ret
    exact ⟨clk.ret_int RT.out.symm, BB.out⟩
  have HV2 : Hid (∀ W, Below w.heap.size w W → Calls Try.prog 17 #[.slice A n c, .int .i64 (2 * k), .int .i64 z] W fun e w' => e = .returned (.bool true) ∧ Below W.heap.size W w') := fun W hb => by have := HV.out W hb; unfold lst.BOk at this; rwa [hv] at this
  clear HV
  by_cases ht : (totalK (xs.map bkey) : Int) ≤ p
  case neg =>
    have RT := RET _ (FALSE (fun h => ht h.2.2.1))
    have qt : decide (p < (totalK (xs.map bkey) : Int)) = true := decide_eq_true (by omega)
    clear FALSE RET H1 hzz
    go_enter Try.func57, Try.ntmps57
    go_wp2_with fail
    obtain ⟨W0, hW, hs0, K0, B0⟩ := start1 w 70 #[Value.int IntKind.i64 v, Value.int IntKind.i64 k, Value.int IntKind.i64 p, Value.int IntKind.i64 o, Value.slice A n c]
    rw [hW]
    clear hW
    have KK := Lib.hid K0
    have BB := Lib.hid B0
    have R := K0.rules
    simp only [Rules] at R
    clear K0 B0 hs0
    (refine gro.wp_region_grown (by kernel_rfl) (by kernel_rfl) ?_; (repeat (go_big_quiet_step ((first | (go_at_call 99; exact call_same (HG.out _)) | (go_at_call 47; exact call_same (HZ.out _)) | (go_at_call 17; exact call_grown (HV2.out _ (BB.out.trans ((below_grown _ _).mono BB.out.size)))) | (go_at_call 19; exact call_grown (HT.out _ (BB.out.trans ((below_grown _ _).mono BB.out.size)))))))); refine wpQuiet_nil ?_; intro _ hw'; obtain ⟨nx, hw''⟩ := hw'; subst hw'')
    replace BB := Lib.hid (BB.out.trans ((below_grown _ nx).mono BB.out.size))
    replace KK := Lib.hid (KK.out.below (below_grown _ nx))
    clear R
    generalize grown _ nx = W7 at *
    have R := KK.out.rules
    simp only [Rules] at R
    go_wp2
    go_ret
    exact ⟨clk.ret_int RT.out.symm, BB.out⟩
  have qt : decide (p < (totalK (xs.map bkey) : Int)) = false := decide_eq_false (by omega)
  have TRUE : Hid (liveTo (xs.map bkey) o v (xs.map bkey).length → fitQ (xs.map bkey) v k p o = true) := fun h => fitQ_iff.2 ⟨hg, by rw [hzz]; exact hv, ht, h⟩
  have FALSE2 : Hid (∀ i, i < (xs.map bkey).length → clk.liveB o v (atK (xs.map bkey) i).1 = false → fitQ (xs.map bkey) v k p o = false) := fun i hi h => FALSE (fun h2 => by have := h2.2.2.2 i hi; rw [h] at this; simp at this)
  replace RET := Lib.hid RET
  clear hg hv FALSE hzz
  go_enter Try.func57, Try.ntmps57
  go_wp2_with fail
  obtain ⟨W0, hW, hs0, K0, B0⟩ := start1 w 70 #[Value.int IntKind.i64 v, Value.int IntKind.i64 k, Value.int IntKind.i64 p, Value.int IntKind.i64 o, Value.slice A n c]
  rw [hW]
  clear hW
  have KK := Lib.hid K0
  have BB := Lib.hid B0
  have R := K0.rules
  simp only [Rules] at R
  clear K0 B0 hs0
  (refine gro.wp_region_grown (by kernel_rfl) (by kernel_rfl) ?_; (repeat (go_big_quiet_step ((first | (go_at_call 99; exact call_same (HG.out _)) | (go_at_call 47; exact call_same (HZ.out _)) | (go_at_call 17; exact call_grown (HV2.out _ (BB.out.trans ((below_grown _ _).mono BB.out.size)))) | (go_at_call 19; exact call_grown (HT.out _ (BB.out.trans ((below_grown _ _).mono BB.out.size)))))))); refine wpQuiet_nil ?_; intro _ hw'; obtain ⟨nx, hw''⟩ := hw'; subst hw'')
  replace BB := Lib.hid (BB.out.trans ((below_grown _ nx).mono BB.out.size))
  replace KK := Lib.hid (KK.out.below (below_grown _ nx))
  clear R
  generalize grown _ nx = W7 at *
  have R := KK.out.rules
  simp only [Rules] at R
  go_wp2_with fail
  clear HV2 HT qt
  go_loopg [40] n (fun kx s wr => ∃ i : Nat, i ≤ n ∧ s = .int .i64 i ∧ n - i ≤ kx ∧ Hid (liveTo (xs.map bkey) o v i) ∧ Hid (Bx wr [(w.heap.size, 70, #[Value.int IntKind.i64 v, Value.int IntKind.i64 k, Value.int IntKind.i64 p, Value.int IntKind.i64 o, Value.slice A n c])]) ∧ Hid (Below w.heap.size w wr))
  case atStart => exact ⟨0, Nat.zero_le _, rfl, by omega, liveTo_zero _ _ _, KK.out, BB.out⟩
  case round =>
    obtain ⟨i, hi, rfl, hgx, HLv, KX, HB⟩ := hrel
    clear KK BB R
    by_cases hlt : i < n
    · obtain ⟨ad, x, rfl, hbl, hx, hc1, hc2, hc3, hc4, hc5, -, -, -⟩ := BRead.at_ (H1.out.below HB.out) hlt
      have hsz := HB.out.size
      have hbl2 : ad.block < wr.heap.size := by omega
      have hK := atK_key hx
      have hS : Hid (clk.liveB o v x.t = true → liveTo (xs.map bkey) o v (i + 1)) := fun h => liveTo_succ HLv.out (by rw [hK]; exact h)
      have hF : Hid (clk.liveB o v x.t = false → fitQ (xs.map bkey) v k p o = false) := fun h => FALSE2.out i (by rw [HL.out]; exact hlt) (by rw [hK]; exact h)
      clear hK hx
      generalize x.t = bt at *
      generalize x.last = bl at *
      generalize x.level = bv at *
      generalize x.num = bn at *
      generalize x.adr = ba at *
      generalize x.en = be at *
      generalize x.ec = bq at *
      clear x
      have HC := Lib.hid (fun W => clk.live_any o v bt W)
      have hwr : w.heap.size < wr.heap.size := (KX.out _ (List.mem_cons_self ..)).lt
      obtain ⟨g5, hg5⟩ : ∃ s, wr.heap.size = s := ⟨_, rfl⟩
      have KZ := Lib.hid (KX.out.new (t := 64) (c := #[Value.int IntKind.i64 bt, Value.int IntKind.i64 bl, Value.int IntKind.i64 bv, Value.int IntKind.i64 bn, Value.slice ba be bq]) hg5)
      have BZ := Lib.hid (HB.out.alloc HB.out.size (.cells #[Value.int IntKind.i64 bt, Value.int IntKind.i64 bl, Value.int IntKind.i64 bv, Value.int IntKind.i64 bn, Value.slice ba be bq] 64))
      go_upto_region 6 with fail
      obtain ⟨W3, hW, K3, B3, z3⟩ := name_world KZ.out BZ.out (s := g5 + 1) (by simp; omega)
      rw [hW]
      clear hW KX HB KZ BZ hc1 hc2 hc3 hc4 hc5
      have KK := Lib.hid K3
      have BB := Lib.hid B3
      have R := KK.out.rules
      simp only [Rules] at R
      clear K3 B3 z3 hg5
      cases hl : clk.liveB o v bt
      case false =>
        rw [hl] at HC
        have RT := RET.out _ (hF.out hl)
        clear hF hS RET
        go_wp2_with (go_at_call 108; refine (HC.out _).mono ?_; rintro e w1 ⟨rfl, rfl⟩)
        go_ret
        exact ⟨clk.ret_int RT.out.symm, BB.out⟩
      case true =>
        rw [hl] at HC
        clear hF
        go_wp2_with (go_at_call 108; refine (HC.out _).mono ?_; rintro e w1 ⟨rfl, rfl⟩)
        go_roundg (n - (i + 1))
        case measure => omega
        case rel => exact ⟨i + 1, by omega, by go_num, by omega, hS.out hl, KK.out.tail, BB.out⟩
    · obtain rfl : i = n := by omega
      have RT := RET.out _ (TRUE.out (by rw [HL.out]; exact HLv.out))
      have R := KX.out.rules
      simp only [Rules] at R
      go_wp2
      go_ret
      exact ⟨clk.ret_int RT.out.symm, HB.out⟩
set_option maxHeartbeats 8000000 in
set_option maxRecDepth 100000 in
theorem ValidateQR_any (v k p o : Int) (A : Option Addr) (n c : Nat) (xs : List BlkM) (w : World) (h1 : BRead w w.heap.size A n xs) (hs : n ≤ 65000) (hp : p ≤ 9223372036854775807) :
    Calls Try.prog 58 #[(Value.agg #[.int .i64 v, .int .i64 k, .int .i64 p, .int .i64 o, .slice A n c])] w fun e w' => e = .returned (.int .i64 (okE (fitQ (xs.map bkey) v k p o))) ∧ Below w.heap.size w w' := by
  have HL := Lib.hid (BRead.key_len h1)
  have H1 := Lib.hid h1
  have HM := Lib.hid (fun W => May_any v p o W)
  have HK := Lib.hid (fun W => MayKc_any k W)
  have HZ := Lib.hid (fun W => SizeQR_any k p hp W)
  have HV := Lib.hid (fun W (hb : Below w.heap.size w W) => blk.ValidBR_any A n c xs (2 * k) (sizeQ k p) W ((h1.below hb).more hb.size) (by omega))
  have HT := Lib.hid (fun W (hb : Below w.heap.size w W) => blk.TotalBR_any A n c xs W ((h1.below hb).more hb.size) (by omega))
  clear h1
  have FALSE := fun h => @fitQ_not (xs.map bkey) v k p o h
  have RET : ∀ b : Bool, fitQ (xs.map bkey) v k p o = b → Hid (okE (fitQ (xs.map bkey) v k p o) = okE b) := fun b h => by rw [h]; rfl
  have hgd : (goodC v k p o) = (mayB v p o && kB k) := goodC_may v k p o
  cases hm : mayB v p o
  case false =>
    have RT := RET _ (FALSE (by rw [hgd, hm]; simp))
    rw [hm] at HM
    clear FALSE RET HV HT H1 HZ hgd HK
    go_enter Try.func58, Try.ntmps58
    go_wp2_with fail
    obtain ⟨W0, hW, hs0, K0, B0⟩ := start1 w 70 #[Value.int IntKind.i64 v, Value.int IntKind.i64 k, Value.int IntKind.i64 p, Value.int IntKind.i64 o, Value.slice A n c]
    rw [hW]
    clear hW
    have KK := Lib.hid K0
    have BB := Lib.hid B0
    have R := K0.rules
    simp only [Rules] at R
    clear K0 B0 hs0
    (refine gro.wp_region_grown (by kernel_rfl) (by kernel_rfl) ?_; (repeat (go_big_quiet_step ((first | (go_at_call 100; exact call_same (HM.out _)))))); refine wpQuiet_nil ?_; intro _ hw'; obtain ⟨nx, hw''⟩ := hw'; subst hw'')
    replace BB := Lib.hid (BB.out.trans ((below_grown _ nx).mono BB.out.size))
    replace KK := Lib.hid (KK.out.below (below_grown _ nx))
    clear R
    generalize grown _ nx = W7 at *
    have R := KK.out.rules
    simp only [Rules] at R
    go_wp2
    go_ret
    exact ⟨clk.ret_int RT.out.symm, BB.out⟩
  rw [hm] at HM
  cases hk : kB k
  case false =>
    have RT := RET _ (FALSE (by rw [hgd, hm, hk]; simp))
    rw [hk] at HK
    clear FALSE RET HV HT H1 HZ hgd
    go_enter Try.func58, Try.ntmps58
    go_wp2_with fail
    obtain ⟨W0, hW, hs0, K0, B0⟩ := start1 w 70 #[Value.int IntKind.i64 v, Value.int IntKind.i64 k, Value.int IntKind.i64 p, Value.int IntKind.i64 o, Value.slice A n c]
    rw [hW]
    clear hW
    have KK := Lib.hid K0
    have BB := Lib.hid B0
    have R := K0.rules
    simp only [Rules] at R
    clear K0 B0 hs0
    (refine gro.wp_region_grown (by kernel_rfl) (by kernel_rfl) ?_; (repeat (go_big_quiet_step ((first | (go_at_call 100; exact call_same (HM.out _)) | (go_at_call 101; exact call_same (HK.out _)))))); refine wpQuiet_nil ?_; intro _ hw'; obtain ⟨nx, hw''⟩ := hw'; subst hw'')
    replace BB := Lib.hid (BB.out.trans ((below_grown _ nx).mono BB.out.size))
    replace KK := Lib.hid (KK.out.below (below_grown _ nx))
    clear R
    generalize grown _ nx = W7 at *
    have R := KK.out.rules
    simp only [Rules] at R
    go_wp2
    go_ret
    exact ⟨clk.ret_int RT.out.symm, BB.out⟩
  rw [hk] at HK
  have hg : goodC v k p o = true := by rw [hgd, hm, hk]; rfl
  clear hgd hm hk
  have hkb := (goodC_iff.1 hg).2.1
  have s1 : IntKind.i64.wrap (2 * k) = 2 * k := IntWalk.i64_in _ (by omega)
  generalize hzz : sizeQ k p = z at *
  cases hv : validK (xs.map bkey) (2 * k) z
  case false =>
    have RT := RET _ (FALSE (by rw [hv]; simp))
    have HV2 : Hid (∀ W, Below w.heap.size w W → Calls Try.prog 18 #[.slice A n c, .int .i64 (2 * k), .int .i64 z] W fun e w' => e = .returned (.bool false) ∧ Below W.heap.size W w') := fun W hb => by have := HV.out W hb; unfold lst.BOk at this; rwa [hv] at this
    clear HV FALSE RET HT H1 hzz
    go_enter Try.func58, Try.ntmps58
    go_wp2_with fail
    obtain ⟨W0, hW, hs0, K0, B0⟩ := start1 w 70 #[Value.int IntKind.i64 v, Value.int IntKind.i64 k, Value.int IntKind.i64 p, Value.int IntKind.i64 o, Value.slice A n c]
    rw [hW]
    clear hW
    have KK := Lib.hid K0
    have BB := Lib.hid B0
    have R := K0.rules
    simp only [Rules] at R
    clear K0 B0 hs0
    (refine gro.wp_region_grown (by kernel_rfl) (by kernel_rfl) ?_; (repeat (go_big_quiet_step ((first | (go_at_call 100; exact call_same (HM.out _)) | (go_at_call 101; exact call_same (HK.out _)) | (go_at_call 48; exact call_same (HZ.out _)) | (go_at_call 18; exact call_grown (HV2.out _ (BB.out.trans ((below_grown _ _).mono BB.out.size)))))))); refine wpQuiet_nil ?_; intro _ hw'; obtain ⟨nx, hw''⟩ := hw'; subst hw'')
    replace BB := Lib.hid (BB.out.trans ((below_grown _ nx).mono BB.out.size))
    replace KK := Lib.hid (KK.out.below (below_grown _ nx))
    clear R
    generalize grown _ nx = W7 at *
    have R := KK.out.rules
    simp only [Rules] at R
    go_wp2
    go_ret
    exact ⟨clk.ret_int RT.out.symm, BB.out⟩
  have HV2 : Hid (∀ W, Below w.heap.size w W → Calls Try.prog 18 #[.slice A n c, .int .i64 (2 * k), .int .i64 z] W fun e w' => e = .returned (.bool true) ∧ Below W.heap.size W w') := fun W hb => by have := HV.out W hb; unfold lst.BOk at this; rwa [hv] at this
  clear HV
  by_cases ht : (totalK (xs.map bkey) : Int) ≤ p
  case neg =>
    have RT := RET _ (FALSE (fun h => ht h.2.2.1))
    have qt : decide (p < (totalK (xs.map bkey) : Int)) = true := decide_eq_true (by omega)
    clear FALSE RET H1 hzz
    go_enter Try.func58, Try.ntmps58
    go_wp2_with fail
    obtain ⟨W0, hW, hs0, K0, B0⟩ := start1 w 70 #[Value.int IntKind.i64 v, Value.int IntKind.i64 k, Value.int IntKind.i64 p, Value.int IntKind.i64 o, Value.slice A n c]
    rw [hW]
    clear hW
    have KK := Lib.hid K0
    have BB := Lib.hid B0
    have R := K0.rules
    simp only [Rules] at R
    clear K0 B0 hs0
    (refine gro.wp_region_grown (by kernel_rfl) (by kernel_rfl) ?_; (repeat (go_big_quiet_step ((first | (go_at_call 100; exact call_same (HM.out _)) | (go_at_call 101; exact call_same (HK.out _)) | (go_at_call 48; exact call_same (HZ.out _)) | (go_at_call 18; exact call_grown (HV2.out _ (BB.out.trans ((below_grown _ _).mono BB.out.size)))) | (go_at_call 20; exact call_grown (HT.out _ (BB.out.trans ((below_grown _ _).mono BB.out.size)))))))); refine wpQuiet_nil ?_; intro _ hw'; obtain ⟨nx, hw''⟩ := hw'; subst hw'')
    replace BB := Lib.hid (BB.out.trans ((below_grown _ nx).mono BB.out.size))
    replace KK := Lib.hid (KK.out.below (below_grown _ nx))
    clear R
    generalize grown _ nx = W7 at *
    have R := KK.out.rules
    simp only [Rules] at R
    go_wp2
    go_ret
    exact ⟨clk.ret_int RT.out.symm, BB.out⟩
  have qt : decide (p < (totalK (xs.map bkey) : Int)) = false := decide_eq_false (by omega)
  have TRUE : Hid (liveTo (xs.map bkey) o v (xs.map bkey).length → fitQ (xs.map bkey) v k p o = true) := fun h => fitQ_iff.2 ⟨hg, by rw [hzz]; exact hv, ht, h⟩
  have FALSE2 : Hid (∀ i, i < (xs.map bkey).length → clk.liveB o v (atK (xs.map bkey) i).1 = false → fitQ (xs.map bkey) v k p o = false) := fun i hi h => FALSE (fun h2 => by have := h2.2.2.2 i hi; rw [h] at this; simp at this)
  replace RET := Lib.hid RET
  clear hg hv FALSE hzz
  go_enter Try.func58, Try.ntmps58
  go_wp2_with fail
  obtain ⟨W0, hW, hs0, K0, B0⟩ := start1 w 70 #[Value.int IntKind.i64 v, Value.int IntKind.i64 k, Value.int IntKind.i64 p, Value.int IntKind.i64 o, Value.slice A n c]
  rw [hW]
  clear hW
  have KK := Lib.hid K0
  have BB := Lib.hid B0
  have R := K0.rules
  simp only [Rules] at R
  clear K0 B0 hs0
  (refine gro.wp_region_grown (by kernel_rfl) (by kernel_rfl) ?_; (repeat (go_big_quiet_step ((first | (go_at_call 100; exact call_same (HM.out _)) | (go_at_call 101; exact call_same (HK.out _)) | (go_at_call 48; exact call_same (HZ.out _)) | (go_at_call 18; exact call_grown (HV2.out _ (BB.out.trans ((below_grown _ _).mono BB.out.size)))) | (go_at_call 20; exact call_grown (HT.out _ (BB.out.trans ((below_grown _ _).mono BB.out.size)))))))); refine wpQuiet_nil ?_; intro _ hw'; obtain ⟨nx, hw''⟩ := hw'; subst hw'')
  replace BB := Lib.hid (BB.out.trans ((below_grown _ nx).mono BB.out.size))
  replace KK := Lib.hid (KK.out.below (below_grown _ nx))
  clear R
  generalize grown _ nx = W7 at *
  have R := KK.out.rules
  simp only [Rules] at R
  go_wp2_with fail
  clear HV2 HT qt
  go_loopg [44] n (fun kx s wr => ∃ i : Nat, i ≤ n ∧ s = .int .i64 i ∧ n - i ≤ kx ∧ Hid (liveTo (xs.map bkey) o v i) ∧ Hid (Bx wr [(w.heap.size, 70, #[Value.int IntKind.i64 v, Value.int IntKind.i64 k, Value.int IntKind.i64 p, Value.int IntKind.i64 o, Value.slice A n c])]) ∧ Hid (Below w.heap.size w wr))
  case atStart => exact ⟨0, Nat.zero_le _, rfl, by omega, liveTo_zero _ _ _, KK.out, BB.out⟩
  case round =>
    obtain ⟨i, hi, rfl, hgx, HLv, KX, HB⟩ := hrel
    clear KK BB R
    by_cases hlt : i < n
    · obtain ⟨ad, x, rfl, hbl, hx, hc1, hc2, hc3, hc4, hc5, -, -, -⟩ := BRead.at_ (H1.out.below HB.out) hlt
      have hsz := HB.out.size
      have hbl2 : ad.block < wr.heap.size := by omega
      have hK := atK_key hx
      have hS : Hid (clk.liveB o v x.t = true → liveTo (xs.map bkey) o v (i + 1)) := fun h => liveTo_succ HLv.out (by rw [hK]; exact h)
      have hF : Hid (clk.liveB o v x.t = false → fitQ (xs.map bkey) v k p o = false) := fun h => FALSE2.out i (by rw [HL.out]; exact hlt) (by rw [hK]; exact h)
      clear hK hx
      generalize x.t = bt at *
      generalize x.last = bl at *
      generalize x.level = bv at *
      generalize x.num = bn at *
      generalize x.adr = ba at *
      generalize x.en = be at *
      generalize x.ec = bq at *
      clear x
      have HC := Lib.hid (fun W => clk.Live_any o v bt W)
      have hwr : w.heap.size < wr.heap.size := (KX.out _ (List.mem_cons_self ..)).lt
      obtain ⟨g5, hg5⟩ : ∃ s, wr.heap.size = s := ⟨_, rfl⟩
      have KZ := Lib.hid (KX.out.new (t := 64) (c := #[Value.int IntKind.i64 bt, Value.int IntKind.i64 bl, Value.int IntKind.i64 bv, Value.int IntKind.i64 bn, Value.slice ba be bq]) hg5)
      have BZ := Lib.hid (HB.out.alloc HB.out.size (.cells #[Value.int IntKind.i64 bt, Value.int IntKind.i64 bl, Value.int IntKind.i64 bv, Value.int IntKind.i64 bn, Value.slice ba be bq] 64))
      go_upto_region 6 with fail
      obtain ⟨W3, hW, K3, B3, z3⟩ := name_world KZ.out BZ.out (s := g5 + 1) (by simp; omega)
      rw [hW]
      clear hW KX HB KZ BZ hc1 hc2 hc3 hc4 hc5
      have KK := Lib.hid K3
      have BB := Lib.hid B3
      have R := KK.out.rules
      simp only [Rules] at R
      clear K3 B3 z3 hg5
      cases hl : clk.liveB o v bt
      case false =>
        rw [hl] at HC
        have RT := RET.out _ (hF.out hl)
        clear hF hS RET
        go_wp2_with (go_at_call 109; refine (HC.out _).mono ?_; rintro e w1 ⟨rfl, rfl⟩)
        go_ret
        exact ⟨clk.ret_int RT.out.symm, BB.out⟩
      case true =>
        rw [hl] at HC
        clear hF
        go_wp2_with (go_at_call 109; refine (HC.out _).mono ?_; rintro e w1 ⟨rfl, rfl⟩)
        go_roundg (n - (i + 1))
        case measure => omega
        case rel => exact ⟨i + 1, by omega, by go_num, by omega, hS.out hl, KK.out.tail, BB.out⟩
    · obtain rfl : i = n := by omega
      have RT := RET.out _ (TRUE.out (by rw [HL.out]; exact HLv.out))
      have R := KX.out.rules
      simp only [Rules] at R
      go_wp2
      go_ret
      exact ⟨clk.ret_int RT.out.symm, HB.out⟩
end Go.Proofs.Ytjapjfcennemeaa.qtl
