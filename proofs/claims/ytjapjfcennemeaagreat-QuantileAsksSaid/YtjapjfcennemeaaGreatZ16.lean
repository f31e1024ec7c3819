/- QtL, Qt1: proved here in one text, no conditions beyond those that each theorem states. -/
import Derived.Test.YtjapjfcennemeaaGreatZ3
import Derived.Test.YtjapjfcennemeaaGreatZ4
import Derived.Test.YtjapjfcennemeaaGreatZ8
import Derived.Test.YtjapjfcennemeaaGreatZ15
set_option linter.unusedVariables false
set_option linter.unusedSimpArgs false
section
namespace Go.Proofs.YtjapjfcennemeaaGreat.qtl
open Go.Proofs.YtjapjfcennemeaaGreat.mem Go.Proofs.YtjapjfcennemeaaGreat.rnk
open Go.Proofs.YtjapjfcennemeaaGreat.num (bitsN bitsN_le)
set_option linter.unusedVariables false
set_option linter.unusedVariables false
def goodC (v k p o : Int) : Bool := decide ((1 ≤ v ∧ v ≤ 1048576) ∧ (1 ≤ k ∧ k ≤ 64) ∧ (1 ≤ p ∧ p ≤ 65536) ∧ (0 ≤ o ∧ o ≤ 16777216))
theorem goodC_iff {v k p o : Int} : goodC v k p o = true ↔ (1 ≤ v ∧ v ≤ 1048576) ∧ (1 ≤ k ∧ k ≤ 64) ∧ (1 ≤ p ∧ p ≤ 65536) ∧ (0 ≤ o ∧ o ≤ 16777216) := decide_eq_true_iff
theorem goodC_iff0 {v k p o : Int} : goodC v k p o = false ↔ ¬ ((1 ≤ v ∧ v ≤ 1048576) ∧ (1 ≤ k ∧ k ≤ 64) ∧ (1 ≤ p ∧ p ≤ 65536) ∧ (0 ≤ o ∧ o ≤ 16777216)) := decide_eq_false_iff_not
def mayB (v p o : Int) : Bool := decide ((1 ≤ v ∧ v ≤ 1048576) ∧ (1 ≤ p ∧ p ≤ 65536) ∧ (0 ≤ o ∧ o ≤ 16777216))
theorem mayB_iff {v p o : Int} : mayB v p o = true ↔ (1 ≤ v ∧ v ≤ 1048576) ∧ (1 ≤ p ∧ p ≤ 65536) ∧ (0 ≤ o ∧ o ≤ 16777216) := decide_eq_true_iff
theorem mayB_iff0 {v p o : Int} : mayB v p o = false ↔ ¬ ((1 ≤ v ∧ v ≤ 1048576) ∧ (1 ≤ p ∧ p ≤ 65536) ∧ (0 ≤ o ∧ o ≤ 16777216)) := decide_eq_false_iff_not
def kB (k : Int) : Bool := decide (1 ≤ k ∧ k ≤ 64)
theorem kB_iff {k : Int} : kB k = true ↔ 1 ≤ k ∧ k ≤ 64 := decide_eq_true_iff
theorem kB_iff0 {k : Int} : kB k = false ↔ ¬ (1 ≤ k ∧ k ≤ 64) := decide_eq_false_iff_not
theorem goodC_may (v k p o : Int) : goodC v k p o = (mayB v p o && kB k) := by
  rw [Bool.eq_iff_iff, Bool.and_eq_true, goodC_iff, mayB_iff, kB_iff]
  constructor
  · rintro ⟨a, b, c, d⟩; exact ⟨⟨a, c, d⟩, b⟩
  · rintro ⟨⟨a, c, d⟩, b⟩; exact ⟨a, b, c, d⟩
def kp (b : Bool) (x : Int) : Int := if b = true then x else 0
theorem kp_t (x : Int) : kp true x = x := rfl
theorem kp_f (x : Int) : kp false x = 0 := rfl
def sizeQ (k p : Int) : Int := if (1 ≤ k ∧ k ≤ 64) ∧ 1 ≤ p ∧ p ≤ 65536 then 2 * k * ((bitsN p : Int) + 2) else 0
theorem sizeQ_t {k p : Int} (h : (1 ≤ k ∧ k ≤ 64) ∧ 1 ≤ p ∧ p ≤ 65536) : sizeQ k p = 2 * k * ((bitsN p : Int) + 2) := if_pos h
theorem sizeQ_f {k p : Int} (h : ¬ ((1 ≤ k ∧ k ≤ 64) ∧ 1 ≤ p ∧ p ≤ 65536)) : sizeQ k p = 0 := if_neg h
theorem two_bd {k : Int} {b : Nat} (h1 : 1 ≤ k) (h2 : k ≤ 64) (hb : b ≤ 64) : 2 ≤ 2 * k * ((b : Int) + 2) ∧ 2 * k * ((b : Int) + 2) ≤ 8448 := by
  obtain ⟨n, rfl⟩ := Int.eq_ofNat_of_zero_le (show 0 ≤ k by omega)
  have h3 : 2 * n * (b + 2) ≤ 128 * 66 := Nat.mul_le_mul (by omega) (by omega)
  have h4 : 1 * 2 ≤ 2 * n * (b + 2) := Nat.mul_le_mul (by omega) (by omega)
  have e : 2 * (n : Int) * ((b : Int) + 2) = ((2 * n * (b + 2) : Nat) : Int) := by simp
  rw [e]; omega
def liveK (xs : List K5) (o v : Int) : Bool := xs.all fun x => clk.liveB o v x.1
theorem liveK_iff {xs : List K5} {o v : Int} : liveK xs o v = true ↔ ∀ i < xs.length, clk.liveB o v (atK xs i).1 = true := by
  unfold liveK
  rw [List.all_eq_true]
  constructor
  · intro h i hi
    have := h xs[i] (List.getElem_mem hi)
    simpa [atK, List.getElem?_eq_getElem hi] using this
  · intro h x hx
    obtain ⟨i, hi, rfl⟩ := List.mem_iff_getElem.1 hx
    have := h i hi
    simpa [atK, List.getElem?_eq_getElem hi] using this
def liveTo (xs : List K5) (o v : Int) (m : Nat) : Prop := ∀ i, i < m → clk.liveB o v (atK xs i).1 = true
theorem liveTo_zero (xs : List K5) (o v : Int) : liveTo xs o v 0 := fun i hi => absurd hi (Nat.not_lt_zero _)
theorem liveTo_succ {xs : List K5} {o v : Int} {m : Nat} (h : liveTo xs o v m) (hm : clk.liveB o v (atK xs m).1 = true) : liveTo xs o v (m + 1) := fun i hi => by
  by_cases e : i = m
  · rw [e]; exact hm
  · exact h i (by omega)
noncomputable def fitQ (xs : List K5) (v k p o : Int) : Bool := goodC v k p o && (validK xs (2 * k) (sizeQ k p) && (decide ((totalK xs : Int) ≤ p) && liveK xs o v))
theorem fitQ_iff {xs : List K5} {v k p o : Int} : fitQ xs v k p o = true ↔ goodC v k p o = true ∧ validK xs (2 * k) (sizeQ k p) = true ∧ (totalK xs : Int) ≤ p ∧ liveTo xs o v xs.length := by
  unfold fitQ
  rw [Bool.and_eq_true, Bool.and_eq_true, Bool.and_eq_true, decide_eq_true_eq, liveK_iff]
  exact Iff.rfl
theorem fitQ_not {xs : List K5} {v k p o : Int} (h : ¬ (goodC v k p o = true ∧ validK xs (2 * k) (sizeQ k p) = true ∧ (totalK xs : Int) ≤ p ∧ liveTo xs o v xs.length)) : fitQ xs v k p o = false := by
  rw [Bool.eq_false_iff]; intro h2; exact h (fitQ_iff.1 h2)
def okE (b : Bool) : Int := if b = true then 0 else 2
theorem okE_t : okE true = 0 := rfl
theorem okE_f : okE false = 2 := rfl
end Go.Proofs.YtjapjfcennemeaaGreat.qtl
end
section
namespace Go.Proofs.YtjapjfcennemeaaGreat.qtl
open Go.RowKit Go.Proofs.YtjapjfcennemeaaGreat.mem Go.Proofs.YtjapjfcennemeaaGreat.gro
open Go.Proofs.YtjapjfcennemeaaGreat.num (bitsN bitsN_le Bits_any BitsRef_any)
set_option linter.unusedVariables false
set_option linter.unusedSimpArgs false
set_option maxHeartbeats 2000000 in
set_option maxRecDepth 100000 in
theorem MayKc_any (k : Int) (w : World) : Calls Tryz.prog 28 #[.int .i64 k] w fun e w' => e = .returned (.bool (kB k)) ∧ w = w' := by
  go_enter Tryz.func28, Tryz.ntmps28
  go_wp2
  all_goals (go_ret; refine ⟨clk.ret_bool ?_, rfl⟩; first | (symm; rw [kB_iff]; omega) | (symm; rw [kB_iff0]; omega) | (rw [Bool.eq_iff_iff, kB_iff]; simp; omega))
set_option maxHeartbeats 2000000 in
set_option maxRecDepth 100000 in
theorem May_any (v p o : Int) (w : World) : Calls Tryz.prog 27 #[.int .i64 v, .int .i64 p, .int .i64 o] w fun e w' => e = .returned (.bool (mayB v p o)) ∧ w = w' := by
  have HW := Lib.hid (fun W => clk.Window_any v W)
  have HT := Lib.hid (fun W => clk.Tick_any o W)
  rcases Bool.eq_false_or_eq_true (clk.winB v) with hw | hw <;> rcases Bool.eq_false_or_eq_true (clk.tickB o) with ht | ht <;> rw [hw] at HW <;> rw [ht] at HT
  all_goals first | rw [clk.winB_iff] at hw | rw [clk.winB_iff0] at hw
  all_goals first | rw [clk.tickB_iff] at ht | rw [clk.tickB_iff0] at ht
  all_goals
    go_enter Tryz.func27, Tryz.ntmps27
    go_wp2_with (first | (go_at_call 58; refine (HW.out _).mono ?_; rintro e w1 ⟨rfl, rfl⟩) | (go_at_call 59; refine (HT.out _).mono ?_; rintro e w1 ⟨rfl, rfl⟩))
  all_goals (go_ret; refine ⟨clk.ret_bool ?_, rfl⟩; first | (symm; rw [mayB_iff]; omega) | (symm; rw [mayB_iff0]; omega))
set_option maxHeartbeats 2000000 in
set_option maxRecDepth 100000 in
theorem goodQ_any (v k p o : Int) (w : World) : Calls Tryz.prog 19 #[.int .i64 v, .int .i64 k, .int .i64 p, .int .i64 o] w fun e w' => e = .returned (.bool (goodC v k p o)) ∧ w = w' := by
  go_enter Tryz.func19, Tryz.ntmps19
  go_wp2
  all_goals (go_ret; refine ⟨clk.ret_bool ?_, rfl⟩; first | (symm; rw [goodC_iff]; omega) | (symm; rw [goodC_iff0]; omega) | (rw [Bool.eq_iff_iff, goodC_iff]; simp; omega))
set_option maxHeartbeats 2000000 in
set_option maxRecDepth 100000 in
theorem SizeQ_any (k p : Int) (hp : p ≤ 9223372036854775807) (w : World) : Calls Tryz.prog 22 #[.int .i64 k, .int .i64 p] w fun e w' => e = .returned (.int .i64 (sizeQ k p)) ∧ w = w' := by
  have HG := Lib.hid (fun W => goodQ_any 1 k p 0 W)
  by_cases h : (1 ≤ k ∧ k ≤ 64) ∧ 1 ≤ p ∧ p ≤ 65536
  · rw [goodC_iff.2 ⟨by omega, h.1, h.2, by omega⟩] at HG
    have HB := Lib.hid (fun W => Bits_any p W hp)
    have HS := Lib.hid (sizeQ_t h)
    have hb := two_bd h.1.1 h.1.2 (bitsN_le p)
    have hb2 := bitsN_le p
    generalize bitsN p = b at *
    obtain ⟨z, hz⟩ : ∃ z, 2 * k * ((b : Int) + 2) = z := ⟨_, rfl⟩
    have s1 : IntKind.i64.wrap (2 * k) = 2 * k := IntWalk.i64_in _ (by omega)
    have s2 : IntKind.i64.wrap ((b : Int) + 2) = (b : Int) + 2 := IntWalk.i64_in _ (by omega)
    have s3 : IntKind.i64.wrap (2 * k * ((b : Int) + 2)) = 2 * k * ((b : Int) + 2) := IntWalk.i64_in _ (by omega)
    clear hz h
    go_enter Tryz.func22, Tryz.ntmps22
    go_wp2_with (first | (go_at_call 19; refine (HG.out _).mono ?_; rintro e w1 ⟨rfl, rfl⟩) | (go_at_call 47; refine (HB.out _).mono ?_; rintro e w1 ⟨rfl, rfl⟩))
    go_ret
    exact ⟨clk.ret_int (by rw [HS.out]), rfl⟩
  · rw [goodC_iff0.2 (fun h2 => h ⟨h2.2.1, h2.2.2.1⟩)] at HG
    have HS := Lib.hid (sizeQ_f h)
    clear h
    go_enter Tryz.func22, Tryz.ntmps22
    go_wp2_with (first | (go_at_call 19; refine (HG.out _).mono ?_; rintro e w1 ⟨rfl, rfl⟩))
    go_ret
    exact ⟨clk.ret_int (by rw [HS.out]), rfl⟩
set_option maxHeartbeats 2000000 in
set_option maxRecDepth 100000 in
theorem SizeQR_any (k p : Int) (hp : p ≤ 9223372036854775807) (w : World) : Calls Tryz.prog 30 #[.int .i64 k, .int .i64 p] w fun e w' => e = .returned (.int .i64 (sizeQ k p)) ∧ w = w' := by
  have HG := Lib.hid (fun W => MayKc_any k W)
  by_cases h : (1 ≤ k ∧ k ≤ 64) ∧ 1 ≤ p ∧ p ≤ 65536
  · rw [kB_iff.2 h.1] at HG
    have HB := Lib.hid (fun W => BitsRef_any p W hp)
    have HS := Lib.hid (sizeQ_t h)
    have hb := two_bd h.1.1 h.1.2 (bitsN_le p)
    have hb2 := bitsN_le p
    obtain ⟨⟨k1, k2⟩, p1, p2⟩ := h
    generalize bitsN p = b at *
    have s1 : IntKind.i64.wrap (2 * k) = 2 * k := IntWalk.i64_in _ (by omega)
    have s2 : IntKind.i64.wrap ((b : Int) + 2) = (b : Int) + 2 := IntWalk.i64_in _ (by omega)
    have s3 : IntKind.i64.wrap (2 * k * ((b : Int) + 2)) = 2 * k * ((b : Int) + 2) := IntWalk.i64_in _ (by omega)
    have q1 : ¬ p < 1 := by omega
    have q2 : ¬ 65536 < p := by omega
    go_enter Tryz.func30, Tryz.ntmps30
    go_wp2_with (first | (go_at_call 28; refine (HG.out _).mono ?_; rintro e w1 ⟨rfl, rfl⟩) | (go_at_call 66; refine (HB.out _).mono ?_; rintro e w1 ⟨rfl, rfl⟩))
    go_ret
    exact ⟨clk.ret_int (by rw [HS.out]), rfl⟩
  · have HS := Lib.hid (sizeQ_f h)
    by_cases hk : 1 ≤ k ∧ k ≤ 64
    · rw [kB_iff.2 hk] at HG
      have hno : p < 1 ∨ 65536 < p := by omega
      clear h hk
      rcases hno with q1 | q1
      all_goals
        go_enter Tryz.func30, Tryz.ntmps30
        go_wp2_with (go_at_call 28; refine (HG.out _).mono ?_; rintro e w1 ⟨rfl, rfl⟩)
        all_goals first
          | (exfalso; omega)
          | (go_ret; exact ⟨clk.ret_int (by rw [HS.out]), rfl⟩)
    · rw [kB_iff0.2 hk] at HG
      clear h hk
      go_enter Tryz.func30, Tryz.ntmps30
      go_wp2_with (go_at_call 28; refine (HG.out _).mono ?_; rintro e w1 ⟨rfl, rfl⟩)
      go_ret
      exact ⟨clk.ret_int (by rw [HS.out]), rfl⟩
set_option maxHeartbeats 2000000 in
set_option maxRecDepth 100000 in
theorem NewQ_any (v k p o : Int) (w : World) : Calls Tryz.prog 10 #[.int .i64 v, .int .i64 k, .int .i64 p, .int .i64 o] w fun e w' => e = .returned (.tuple #[.agg #[.int .i64 (kp (goodC v k p o) v), .int .i64 (kp (goodC v k p o) k), .int .i64 (kp (goodC v k p o) p), .int .i64 (kp (goodC v k p o) o), .slice none 0 0], .int .i64 (if (goodC v k p o) = true then 0 else 1)]) ∧ Below w.heap.size w w' := by
  have HG := Lib.hid (fun W => goodQ_any v k p o W)
  cases hg : (goodC v k p o)
  case false =>
    rw [hg] at HG
    simp only [kp_t, kp_f, if_true, Bool.false_eq_true, if_false]
    go_enter Tryz.func10, Tryz.ntmps10
    go_wp2_with fail
    obtain ⟨W0, hW, hs0, K0, B0⟩ := start1 w 24 #[Value.int IntKind.i64 0, Value.int IntKind.i64 0, Value.int IntKind.i64 0, Value.int IntKind.i64 0, Value.slice none 0 0]
    rw [hW]
    clear hW
    have KK := Lib.hid K0
    have BB := Lib.hid B0
    have R := K0.rules
    simp only [Rules] at R
    clear K0 B0 hs0
    (with_reducible refine (HG.out _).mono ?_)
    rintro e w1 ⟨rfl, rfl⟩
    go_wp2
    refine bodyPost_ret (v := Value.tuple #[.agg #[Value.int IntKind.i64 0, Value.int IntKind.i64 0, Value.int IntKind.i64 0, Value.int IntKind.i64 0, Value.slice none 0 0], .int .i64 1]) (by simp [results, Tryz.results10, go_sem, R]) rfl ⟨rfl, ?_⟩
    exact (((((BB.out.setCell (by first | (simp; done) | (simp; omega)) _).setCell (by first | (simp; done) | (simp; omega)) _).setCell (by first | (simp; done) | (simp; omega)) _).setCell (by first | (simp; done) | (simp; omega)) _).setCell (by first | (simp; done) | (simp; omega)) _)
  case true =>
    rw [hg] at HG
    simp only [kp_t, kp_f, if_true, Bool.false_eq_true, if_false]
    go_enter Tryz.func10, Tryz.ntmps10
    go_wp2_with fail
    obtain ⟨W0, hW, hs0, K0, B0⟩ := start1 w 24 #[Value.int IntKind.i64 0, Value.int IntKind.i64 0, Value.int IntKind.i64 0, Value.int IntKind.i64 0, Value.slice none 0 0]
    rw [hW]
    clear hW
    have KK := Lib.hid K0
    have BB := Lib.hid B0
    have R := K0.rules
    simp only [Rules] at R
    clear K0 B0 hs0
    (with_reducible refine (HG.out _).mono ?_)
    rintro e w1 ⟨rfl, rfl⟩
    go_wp2
    refine bodyPost_ret (v := Value.tuple #[.agg #[Value.int IntKind.i64 v, Value.int IntKind.i64 k, Value.int IntKind.i64 p, Value.int IntKind.i64 o, Value.slice none 0 0], .int .i64 0]) (by simp [results, Tryz.results10, go_sem, R]) rfl ⟨rfl, ?_⟩
    exact (((((BB.out.setCell (by first | (simp; done) | (simp; omega)) _).setCell (by first | (simp; done) | (simp; omega)) _).setCell (by first | (simp; done) | (simp; omega)) _).setCell (by first | (simp; done) | (simp; omega)) _).setCell (by first | (simp; done) | (simp; omega)) _)
end Go.Proofs.YtjapjfcennemeaaGreat.qtl
end
