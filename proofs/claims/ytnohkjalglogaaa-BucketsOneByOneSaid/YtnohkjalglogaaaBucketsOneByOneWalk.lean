/- The walk of the law BucketsOneByOne: it returns true and leaves what was there. -/
import Derived.Test.YtnohkjalglogaaaRows
import Derived.Test.YtnohkjalglogaaaOpen
import Derived.Test.YtnohkjalglogaaaOne
import Derived.Test.YtnohkjalglogaaaMade
import Derived.Test.YtnohkjalglogaaaFew
import Derived.WalkKit
import Derived.ProofKit
import Derived.OpenShut
import Derived.ShutString
namespace Go.Proofs.Ytnohkjalglogaaa.bucketsOneByOne
open Go.ChangeShapes Go.WideShapes Go.ChangeAt Go.RowKit
open Go.ChangeMaps (open_string shut_string)
set_option linter.unusedVariables false

set_option maxHeartbeats 4000000 in
theorem walk (A0 : Option Addr) (n0 c0 : Nat) (z0 : List (Int × Int)) (a1 : Int) (a2 : Int) (a3 : Int) (w : World) (iw0 : mem.PRead w w.heap.size A0 n0 z0) (e0 : n0 ≤ c0) (m0 : c0 ≤ maxLen) (r0 : ∀ p ∈ z0, opn.Rng p.1 ∧ opn.Rng p.2) (iw1 : opn.Rng a1) (iw2 : opn.Rng a2) (iw3 : opn.Rng a3) :
    Calls Try.prog 8 #[.slice A0 n0 c0, .int .i64 a1, .int .i64 a2, .int .i64 a3] w fun e w' => e = .returned (.bool true) ∧ Below w.heap.size w w' := by
  have hMod := Lib.hid (made.Mod_any a3 40 w iw3 (by omega) (by omega))
  have hM0 : 0 ≤ a3 % 40 := Int.emod_nonneg _ (by omega)
  have hM1 : a3 % 40 < 40 := Int.emod_lt_of_pos _ (by omega)
  clear iw3
  generalize a3 % 40 = mm at *
  obtain ⟨M, rfl⟩ := Int.eq_ofNat_of_zero_le hM0
  have hF := Lib.hid (lst.few_any A0 n0 c0 w (Nat.le_trans e0 m0))
  by_cases hs : n0 ≤ 300
  · rw [decide_eq_true hs] at hF
    have h2 := Lib.hid (lst.InsertManyRef_any A0 n0 c0 z0 a1 a2 M w iw0 e0 m0 (by omega) (by omega))
    have h3 := Lib.hid (fun W (hb : Below w.heap.size w W) => lst.InsertMany_any A0 n0 c0 z0 a1 a2 M W ((iw0.below hb).more hb.size) (by omega))
    by_cases hpos : 0 < (lst.insM z0 a1 a2 M).length
    · have hP : lst.manyP z0 a1 a2 M := Classical.byContradiction fun h => by rw [lst.insM_f h] at hpos; simp at hpos
      have hk := (buk.validB_iff.1 hP.1).1
      obtain ⟨kk, rfl⟩ := Int.eq_ofNat_of_zero_le (show 0 ≤ a1 by omega)
      have hE : RowKit.Hid (lst.insM z0 kk a2 M = buk.iterIns kk a2 M z0) := lst.insM_t hP
      have hl := iw0.len
      have hO := Lib.hid (lst.one_by_one hP (by omega))
      have hgl := Lib.hid (fun i => buk.iterIns_length kk (by omega) a2 i z0)
      have HL := Lib.hid hl
      have H0 := Lib.hid iw0
      have m9 : c0 ≤ 9223372036854775807 := m0
      have hml := lst.insM_length z0 kk a2 M
      clear hl hP iw0 m0 hk
      generalize hys : lst.insM z0 kk a2 M = ys at *
      clear hys
      go_enter Try.func8, Try.ntmps8
      go_wp2_with (first | (go_at_call 30; refine hMod.out.mono ?_; rintro e w' ⟨rfl, rfl⟩) | (go_at_call 12; refine hF.out.mono ?_; rintro e w' ⟨rfl, rfl⟩) | (go_at_call 29; refine h2.out.mono ?_; rintro e w1 ⟨A1, m1, c1, rfl, g1, g2, hr1, hb1⟩; have B1 := Lib.hid hb1; have hm1 : 0 < m1 := (by have := hr1.len; omega); have hm1b : ((m1 : Int) == 0) = false := (by simp; omega); clear hb1 hr1))
      have HX0 : RowKit.Hid (mem.Reads w1 w1.heap.size 2 A0 n0 (mem.pc (buk.iterIns kk a2 0 z0))) := (H0.out.below B1.out).more B1.out.size
      go_loopg [9, 10] M (fun kx s9 s10 wr => ∃ (i : Nat) (A5 : Option Addr) (l5 c5 : Nat), s10 = .int .i64 i ∧ s9 = .slice A5 l5 c5 ∧ i ≤ M ∧ M - i ≤ kx ∧ Hid (mem.Reads wr wr.heap.size 2 A5 l5 (mem.pc (buk.iterIns kk a2 i z0))) ∧ Hid (Below w.heap.size w wr))
      case atStart => exact ⟨0, A0, n0, c0, rfl, rfl, by omega, by omega, HX0, B1⟩
      case round =>
        obtain ⟨i, A5, l5, c5, rfl, rfl, hi, hg, HR, HB⟩ := hrel
        clear HX0
        have hly : (buk.iterIns kk a2 i z0).length = l5 := mem.PRead.len (xs := buk.iterIns kk a2 i z0) HR.out
        have hgi := hgl.out i
        rw [hly, HL.out] at hgi
        clear hly
        by_cases hlt : i < M
        · have HX := lst.Insert_any A5 l5 c5 (buk.iterIns kk a2 i z0) kk a2 wr HR.out (by omega)
          rw [hO.out i hlt] at HX
          have HX := Lib.hid HX
          go_wp2_with (go_at_call 26; refine HX.out.mono ?_; rintro e w5 ⟨A6, l6, c6, rfl, r1, r2, hr5, hb5⟩; have HB6 := Lib.hid (HB.out.trans (hb5.mono HB.out.size)); have HR6 := Lib.hid hr5; clear hr5 hb5 r1 r2)
          go_roundg (M - (i + 1))
          case measure => omega
          case rel => exact ⟨i + 1, A6, l6, c6, by go_num, rfl, by omega, by omega, HR6, HB6⟩
        · obtain rfl : i = M := by omega
          rw [← hE.out] at HR
          go_wp2_with (go_at_call 28; refine (h3.out _ HB.out).mono ?_; rintro e w5 ⟨A6, l6, c6, rfl, r1, r2, hr5, hb5⟩; have HB6 := Lib.hid (HB.out.trans (hb5.mono HB.out.size)); have HR6 := Lib.hid hr5; have HR7 := Lib.hid ((HR.out.below hb5).more hb5.size); clear hr5 hb5 r1 r2)
          have hl6 : l6 ≤ 2000 := by have := mem.PRead.len (xs := ys) HR6.out; have := HL.out; omega
          have HS := Lib.hid (lst.Same_any A6 A5 l6 c6 l5 c5 ys ys w5 w5.heap.size HR6.out HR7.out (by omega))
          rw [decide_eq_true rfl] at HS
          go_wp2_with (first | (go_at_call 14; refine HS.out.mono ?_; rintro e w3 ⟨rfl, q, rfl⟩) | (go_at_call 13; refine (lst.awake_any _).mono ?_; rintro e w4 ⟨rfl, hb4⟩))
          go_ret
          exact ⟨rfl, (mem.below_drewN HB6.out q).trans (hb4.mono HB6.out.size)⟩
    · have hz : (lst.insM z0 a1 a2 M).length = 0 := by omega
      go_enter Try.func8, Try.ntmps8
      go_wp2_with (first | (go_at_call 30; refine hMod.out.mono ?_; rintro e w' ⟨rfl, rfl⟩) | (go_at_call 12; refine hF.out.mono ?_; rintro e w' ⟨rfl, rfl⟩) | (go_at_call 29; refine h2.out.mono ?_; rintro e w1 ⟨A1, m1, c1, rfl, g1, g2, hr1, hb1⟩; have B1 := Lib.hid hb1; obtain rfl : m1 = 0 := (by have := hr1.len; omega); clear hb1 hr1) | (go_at_call 13; refine (lst.awake_any _).mono ?_; rintro e w4 ⟨rfl, hb4⟩))
      go_ret
      exact ⟨rfl, B1.out.trans (hb4.mono B1.out.size)⟩
  · rw [decide_eq_false hs] at hF
    go_enter Try.func8, Try.ntmps8
    go_wp2_with (first | (go_at_call 30; refine hMod.out.mono ?_; rintro e w' ⟨rfl, rfl⟩) | (go_at_call 12; refine hF.out.mono ?_; rintro e w' ⟨rfl, rfl⟩) | (go_at_call 13; refine (lst.awake_any _).mono ?_; rintro e w4 ⟨rfl, hb4⟩))
    go_ret
    exact ⟨rfl, hb4⟩
end Go.Proofs.Ytnohkjalglogaaa.bucketsOneByOne
