/- BIns: proved here in one text, no conditions beyond those that each theorem states. -/
import Derived.Deep.DeepCutAuto
import Derived.Deep.CutBlock
import Derived.StillTailTactics
import Derived.Test.YtjapjfcennemeaaGreatZ27
import Derived.Test.YtjapjfcennemeaaGreatZ28
import Derived.Test.YtjapjfcennemeaaGreatZ29
import Derived.Test.YtjapjfcennemeaaGreatZ10
set_option linter.unusedVariables false
set_option linter.unusedSimpArgs false
namespace Go.Proofs.YtjapjfcennemeaaGreat.blk
open Go.RowKit Go.Proofs.YtjapjfcennemeaaGreat.mem Go.Proofs.YtjapjfcennemeaaGreat.rnk Go.Proofs.YtjapjfcennemeaaGreat.gro Go.Proofs.YtjapjfcennemeaaGreat.buk
set_option linter.unusedVariables false
set_option linter.unusedSimpArgs false
set_option pp.maxSteps 200000
theorem mayK_iff {xs : List K5} {k b t v : Int} : mayK xs k b t v = true ↔ validK xs k b = true ∧ (0 ≤ t ∧ t ≤ 16777216) ∧ lastK xs ≤ t ∧ (-4096 ≤ v ∧ v ≤ 4096) ∧ totalK xs < 1073741824 := by
  unfold mayK
  simp only [Bool.and_eq_true, decide_eq_true_eq, and_assoc]
theorem lastK_last {xs : List BlkM} {n : Nat} {x : BlkM} (hl : xs.length = n) (h0 : 0 < n) (hx : xs[n - 1]? = some x) : lastK (xs.map bkey) = x.t := by
  unfold lastK
  rw [List.length_map, hl, if_neg (by omega), atK_key hx]
theorem lastK_nil {xs : List BlkM} (hl : xs.length = 0) : lastK (xs.map bkey) = 0 := by
  unfold lastK
  rw [List.length_map, if_pos hl]
set_option maxHeartbeats 8000000 in
set_option maxRecDepth 100000 in
theorem InsertB_no (A : Option Addr) (n c : Nat) (xs : List BlkM) (k b t v : Int) (w : World) (h1 : BRead w w.heap.size A n xs) (hs : n ≤ 64000) (hm : ¬ mayK (xs.map bkey) k b t v = true) : Calls Tryz.prog 21 #[.slice A n c, .int .i64 k, .int .i64 b, .int .i64 t, .int .i64 v] w fun e w' => e = .returned (.slice none 0 0) ∧ Below w.heap.size w w' := by
  have HV := Lib.hid (ValidB_any A n c xs k b w h1 (by omega))
  have HT := Lib.hid (fun W (hb : Below w.heap.size w W) => TotalB_any A n c xs W ((h1.below hb).more hb.size) (by omega))
  rw [mayK_iff] at hm
  rcases Bool.eq_false_or_eq_true (validK (xs.map bkey) k b) with hv | hv
  case inr =>
    rw [hv] at HV
    clear hv hm HT h1
    go_enter Tryz.func21, Tryz.ntmps21
    go_wp2_with fail
    refine HV.out.mono ?_
    rintro e w1 ⟨rfl, hb1⟩
    have HB1 := Lib.hid hb1
    clear hb1
    go_wp2
    go_ret
    exact ⟨rfl, HB1.out⟩
  rw [hv] at HV
  have hno : t < 0 ∨ 16777216 < t ∨ t < lastK (xs.map bkey) ∨ v < -4096 ∨ 4096 < v ∨ 1073741824 ≤ (totalK (xs.map bkey) : Int) := by
    by_cases h : t < 0 ∨ 16777216 < t ∨ t < lastK (xs.map bkey) ∨ v < -4096 ∨ 4096 < v ∨ 1073741824 ≤ (totalK (xs.map bkey) : Int)
    · exact h
    · exact absurd ⟨hv, by omega, by omega, by omega, by omega⟩ hm
  clear hm hv
  have htt : (0 : Int) ≤ (totalK (xs.map bkey) : Int) := Int.natCast_nonneg _
  have HL := Lib.hid h1.len
  by_cases h0 : 0 < n
  case pos =>
    obtain ⟨ad, x, rfl, hbl, hx, hc, _⟩ := BRead.at_ h1 (show n - 1 < n by omega)
    rw [lastK_last HL.out h0 hx] at hno
    have HC := Lib.hid (fun W (hb : Below w.heap.size w W) => (hb.cell (p := ad.add ((n - 1) * 5)) (by rw [block_of_add]; exact hbl)).trans hc)
    clear hx hc h1
    generalize x.t = z at *
    generalize ((totalK (xs.map bkey) : Nat) : Int) = tt at *
    have s1 : IntKind.i64.wrap ((n : Int) - 1) = (n : Int) - 1 := IntWalk.i64_in _ (by omega)
    have s2 : ((n : Int) - 1).toNat = n - 1 := by omega
    go_enter Tryz.func21, Tryz.ntmps21
    go_wp2_with fail
    refine HV.out.mono ?_
    rintro e w1 ⟨rfl, hb1⟩
    have HB1 := Lib.hid hb1
    have hc := HC.out _ hb1
    clear hb1 HV
    go_upto_region 3 with (go_at_call 20; refine (HT.out _ HB1.out).mono ?_; rintro e w3 ⟨rfl, hb3⟩; have HB3 := Lib.hid (HB1.out.trans (hb3.mono HB1.out.size)); clear hb3)
    all_goals first
      | (exfalso; omega)
      | (go_ret; first | exact ⟨rfl, HB3.out⟩ | exact ⟨rfl, HB1.out⟩)
  obtain rfl : n = 0 := by omega
  rw [lastK_nil HL.out] at hno
  generalize ((totalK (xs.map bkey) : Nat) : Int) = tt at *
  go_enter Tryz.func21, Tryz.ntmps21
  go_wp2_with fail
  refine HV.out.mono ?_
  rintro e w1 ⟨rfl, hb1⟩
  have HB1 := Lib.hid hb1
  clear hb1 HV
  go_upto_region 3 with (go_at_call 20; refine (HT.out _ HB1.out).mono ?_; rintro e w3 ⟨rfl, hb3⟩; have HB3 := Lib.hid (HB1.out.trans (hb3.mono HB1.out.size)); clear hb3)
  all_goals first
    | (exfalso; omega)
    | (go_ret; first | exact ⟨rfl, HB3.out⟩ | exact ⟨rfl, HB1.out⟩)
end Go.Proofs.YtjapjfcennemeaaGreat.blk
