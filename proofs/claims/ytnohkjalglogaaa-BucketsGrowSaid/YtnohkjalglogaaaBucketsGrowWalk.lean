/- The walk of the law BucketsGrow: it returns true and leaves what was there. -/
import Derived.Test.YtnohkjalglogaaaRows
import Derived.Test.YtnohkjalglogaaaOpen
import Derived.Test.YtnohkjalglogaaaMade
import Derived.Test.YtnohkjalglogaaaGrow
import Derived.Test.YtnohkjalglogaaaCanon
import Derived.Test.YtnohkjalglogaaaMost
import Derived.Test.YtnohkjalglogaaaOpen
import Derived.WalkKit
import Derived.ProofKit
import Derived.OpenShut
import Derived.ShutString
namespace Go.Proofs.Ytnohkjalglogaaa.bucketsGrow
open Go.ChangeShapes Go.WideShapes Go.ChangeAt Go.RowKit
open Go.ChangeMaps (open_string shut_string)
set_option linter.unusedVariables false

set_option maxHeartbeats 4000000 in
theorem walk (a0 : Int) (a1 : Int) (w : World) (iw0 : opn.Rng a0) (iw1 : opn.Rng a1) :
    Calls Try.prog 9 #[.int .i64 a0, .int .i64 a1] w fun e w' => e = .returned (.bool true) ∧ Below w.heap.size w w' := by
  have hn := Lib.hid (made.Int_any a0 300 w iw0 (by omega) (by omega))
  have hk := Lib.hid (made.Int_any a1 6 w iw1 (by omega) (by omega))
  have n0 : 0 ≤ a0 % 300 := Int.emod_nonneg _ (by omega)
  have n1 : a0 % 300 < 300 := Int.emod_lt_of_pos _ (by omega)
  have k0 : 0 ≤ a1 % 6 := Int.emod_nonneg _ (by omega)
  have k1 : a1 % 6 < 6 := Int.emod_lt_of_pos _ (by omega)
  clear iw0 iw1
  generalize a0 % 300 = nn at *
  generalize a1 % 6 = kk at *
  obtain ⟨n, rfl⟩ := Int.eq_ofNat_of_zero_le n0
  obtain ⟨k, rfl⟩ := Int.eq_ofNat_of_zero_le k0
  have HI : RowKit.Hid (∀ i, i < n → lst.insI (buk.iterIns (1 + k) 0 i []) (1 + (k : Int)) 0 = buk.iterIns (1 + k) 0 (i + 1) []) := fun i hi => by
    have := lst.grow_ins (k := 1 + k) (n := i) (by omega) (by omega) (by omega)
    rw [show ((1 + k : Nat) : Int) = 1 + (k : Int) by omega] at this
    exact this
  have HL := Lib.hid (fun i => buk.iterIns_length (1 + k) (by omega) 0 i [])
  have HC : RowKit.Hid (lst.countsI (buk.iterIns (1 + k) 0 n []) = lst.canonI n (1 + (k : Int))) := by
    have := lst.grow_counts (k := 1 + k) (n := n) (by omega) (by omega) (by omega)
    rw [show ((1 + k : Nat) : Int) = 1 + (k : Int) by omega] at this
    exact this
  have HT := Lib.hid (lst.grow_total (k := 1 + k) (n := n) (by omega) (by omega) (by omega))
  have HF := Lib.hid (@lst.canon_facts (n : Int) (1 + (k : Int)))
  go_enter Try.func9, Try.ntmps9
  go_wp2_with (first | (go_at_call 31; refine hn.out.mono ?_; rintro e w' ⟨rfl, rfl⟩; clear hn; have hn : RowKit.Hid True := trivial) | (go_at_call 31; refine hk.out.mono ?_; rintro e w' ⟨rfl, rfl⟩))
  have HX0 : RowKit.Hid (mem.PRead w w.heap.size none 0 (buk.iterIns (1 + k) 0 0 [])) := mem.PRead.nil_
  have HB0 : RowKit.Hid (Below w.heap.size w w) := Below.refl _ _

  go_loopg [5, 6] n (fun kx s9 s10 wr => ∃ (i : Nat) (A5 : Option Addr) (l5 c5 : Nat), s10 = .int .i64 i ∧ s9 = .slice A5 l5 c5 ∧ i ≤ n ∧ n - i ≤ kx ∧ Hid (mem.PRead wr wr.heap.size A5 l5 (buk.iterIns (1 + k) 0 i [])) ∧ Hid (Below w.heap.size w wr))
  case atStart => exact ⟨0, none, 0, 0, rfl, rfl, by omega, by omega, HX0, HB0⟩
  case round =>
    obtain ⟨i, A5, l5, c5, rfl, rfl, hi, hg, HR, HB⟩ := hrel
    clear HX0 HB0
    have hly : (buk.iterIns (1 + k) 0 i []).length = l5 := mem.PRead.len HR.out
    have hgi := HL.out i
    rw [hly] at hgi
    simp only [List.length_nil, Nat.zero_add] at hgi
    clear hly
    by_cases hlt : i < n
    · have HX := lst.Insert_any A5 l5 c5 (buk.iterIns (1 + k) 0 i []) (1 + (k : Int)) 0 wr HR.out (by omega)
      rw [HI.out i hlt] at HX
      have HX := Lib.hid HX
      go_wp2_with (go_at_call 26; refine HX.out.mono ?_; rintro e w5 ⟨A6, l6, c6, rfl, r1, r2, hr5, hb5⟩; have HB6 := Lib.hid (HB.out.trans (hb5.mono HB.out.size)); have HR6 := Lib.hid hr5; clear hr5 hb5 r1 r2)
      go_roundg (n - (i + 1))
      case measure => omega
      case rel => exact ⟨i + 1, A6, l6, c6, by go_num, rfl, by omega, by omega, HR6, HB6⟩
    · obtain rfl : n = i := by omega
      have h1 := Lib.hid (lst.Counts_any A5 l5 c5 _ wr HR.out (by omega))
      have h2 := Lib.hid (fun W => lst.Canonical_any (n : Int) (1 + (k : Int)) W)
      have h3 := Lib.hid (fun W (hb : Below wr.heap.size wr W) => lst.Total_any A5 l5 c5 _ W ((HR.out.below hb).more hb.size) (by omega))
      unfold lst.TotOk at h3
      rw [HC.out] at h1
      rw [HT.out] at h3
      generalize lst.canonI (n : Int) (1 + (k : Int)) = xs at *
      go_wp2_with (first | (go_at_call 32; refine h1.out.mono ?_; rintro e w1 ⟨A1, m1, c1, rfl, g1, g2, hr1, hb1⟩; have HR1 := Lib.hid hr1; have HB1 := Lib.hid hb1; clear hr1 hb1) | (go_at_call 17; refine (h2.out _).mono ?_; rintro e w2 ⟨A2, m2, c2, rfl, g3, g4, hr2, hb2⟩; have HR2 := Lib.hid hr2; have HB2 := Lib.hid hb2; clear hr2 hb2))
      have l1 := HR1.out.len
      have hm64 : m1 ≤ 64 := by
        rcases Nat.eq_zero_or_pos m1 with h | h
        · omega
        · have := (HF.out (by rw [l1]; exact h)).2.2.1; omega
      have HL1 := Lib.hid l1
      clear l1 g1 g2 g3 g4
      have HS := Lib.hid (lst.SameInts_any A1 A2 m1 c1 m2 c2 xs xs w2 _ _ (HR1.out.below HB2.out) HR2.out (by omega))
      rw [decide_eq_true rfl] at HS
      have HBx := Lib.hid (HB1.out.trans (HB2.out.mono HB1.out.size))
      clear HR1 HB1 HR2 HB2 h1 h2 HI HL HC HT HF
      go_wp2_with (first | (go_at_call 18; refine HS.out.mono ?_; rintro e w3 ⟨rfl, q, rfl⟩) | (go_at_call 24; refine (h3.out _ (mem.below_drewN HBx.out _)).mono ?_; rintro e w4 ⟨rfl, hb4⟩; have HB4 := Lib.hid hb4; clear hb4) | (go_at_call 13; refine (lst.awake_any _).mono ?_; rintro e w5 ⟨rfl, hb5⟩))
      go_ret
      exact ⟨rfl, ((mem.below_drewN (HB.out.trans (HBx.out.mono HB.out.size)) q).trans (HB4.out.mono (HB.out.trans (HBx.out.mono HB.out.size)).size)).trans (hb5.mono (((mem.below_drewN (HB.out.trans (HBx.out.mono HB.out.size)) q).trans (HB4.out.mono (HB.out.trans (HBx.out.mono HB.out.size)).size)).size))⟩
end Go.Proofs.Ytnohkjalglogaaa.bucketsGrow
