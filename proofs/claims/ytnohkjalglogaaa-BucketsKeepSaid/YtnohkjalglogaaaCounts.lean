/- Contracts of buckets.Counts and of its reference. -/
import Derived.Test.YtnohkjalglogaaaValid
import Derived.Test.YtnohkjalglogaaaOwn
import Derived.Laws.MakeOwn
namespace Go.Proofs.Ytnohkjalglogaaa.lst
open Go.RowKit Go.Proofs.Ytnohkjalglogaaa.mem Go.Proofs.Ytnohkjalglogaaa.buk
set_option linter.unusedVariables false

def cntN (ys : List (Int × Int)) (N : Nat) : Array Value := ((List.range N).map fun l => Value.int .i64 (cnt ys l)).toArray
theorem cntN_get (ys : List (Int × Int)) (N l : Nat) (h : l < N) : (cntN ys N)[l]? = some (.int .i64 (cnt ys l)) := by
  simp [cntN, h]
theorem cntN_made (N : Nat) : madeCells #[Value.int .i64 0] N = cntN [] N := by
  apply Array.ext'
  simp [madeCells, cntN, cnt_nil, Nat.mod_one]
theorem cntN_step {xs : List (Int × Int)} {i N : Nat} (hi : i < xs.length) (h : 0 ≤ (at_ xs i).2 ∧ (at_ xs i).2 < (N : Int)) :
    (cntN (xs.take i) N).setIfInBounds (at_ xs i).2.toNat (.int .i64 ((cnt (xs.take i) (at_ xs i).2.toNat : Int) + 1)) = cntN (xs.take (i + 1)) N := by
  apply Array.ext'
  apply List.ext_getElem?
  intro j
  simp only [cntN, Array.toList_setIfInBounds, List.getElem?_set, List.length_map, List.length_range, List.getElem?_map]
  by_cases hj : j < N
  · simp only [List.getElem?_range hj, Option.map_some]
    rw [cnt_take hi]
    by_cases e : (at_ xs i).2.toNat = j
    · subst e
      rw [if_pos rfl, if_pos (by omega), if_pos (by omega)]
      simp
    · rw [if_neg e, if_neg (by omega)]
      simp
  · rw [List.getElem?_eq_none (by simpa using hj)]
    rw [if_neg (by omega)]
    simp
theorem cntN_skip {xs : List (Int × Int)} {i N : Nat} (hi : i < xs.length) (h : (N : Int) ≤ (at_ xs i).2) : cntN (xs.take i) N = cntN (xs.take (i + 1)) N := by
  unfold cntN
  congr 1
  apply List.map_congr_left
  intro l hl
  rw [cnt_take hi, if_neg (by have := List.mem_range.1 hl; omega)]
  rfl
def lvOk (xs : List (Int × Int)) (m : Nat) : Prop := ∀ i, i < m → 0 ≤ (at_ xs i).2 ∧ (at_ xs i).2 ≤ 30
open Classical in
noncomputable def countsI (xs : List (Int × Int)) : List Int := if 0 < xs.length ∧ lvOk xs xs.length then (List.range ((at_ xs 0).2.toNat + 1)).map fun l => (cnt xs l : Int) else []
theorem countsI_t {xs : List (Int × Int)} (h : 0 < xs.length ∧ lvOk xs xs.length) : countsI xs = (List.range ((at_ xs 0).2.toNat + 1)).map fun l => (cnt xs l : Int) := if_pos h
theorem countsI_f {xs : List (Int × Int)} (h : ¬ (0 < xs.length ∧ lvOk xs xs.length)) : countsI xs = [] := if_neg h

theorem lvOk_succ {xs : List (Int × Int)} {m : Nat} (h : lvOk xs m) (hm : 0 ≤ (at_ xs m).2 ∧ (at_ xs m).2 ≤ 30) : lvOk xs (m + 1) := fun i hi => by
  rcases Nat.lt_or_ge i m with h1 | h1
  · exact h i h1
  · obtain rfl : i = m := by omega
    exact hm
theorem cntN_list (xs : List (Int × Int)) (N : Nat) : (cntN xs N).toList = ((List.range N).map fun l => (cnt xs l : Int)).map (Value.int .i64) := by
  simp [cntN]
theorem cntN_size (xs : List (Int × Int)) (N : Nat) : (cntN xs N).size = N := by simp [cntN]

set_option maxHeartbeats 4000000 in
set_option maxRecDepth 100000 in
theorem Counts_any (A : Option Addr) (n c : Nat) (xs : List (Int × Int)) (w : World) (h1 : PRead w w.heap.size A n xs) (hsmall : n ≤ 65536) :
    Calls Try.prog 32 #[.slice A n c] w (NewI (countsI xs) w) := by
  have HL := Lib.hid h1.len
  have H1 := Lib.hid h1
  clear h1
  obtain ⟨i0, hi0, hz0, hz1, hz2⟩ := info_parts int_info
  have hmk : ∀ (N : Nat) (W : World), N ≤ 30 → (Instr.makeSlice 28 (.int .i64 ((N : Int) + 1)) (.int .i64 ((N : Int) + 1))).run Try.prog W = .ok (.slice (some ⟨W.heap.size, 0, none⟩) (N + 1) (N + 1)) (W.alloc (.cells (cntN [] (N + 1)) 3)) := fun N W hN => by
    have h := run_make (P := Try.prog) W 28 3 i0 (.int .i64 0) Try.underlying28 hi0 hz0 .i64 .i64 ((N : Int) + 1) ((N : Int) + 1) (by omega) (Int.le_refl _) (by rw [hz2]; omega) (by omega)
    rw [h, hz1, show ((N : Int) + 1).toNat = N + 1 by omega, Nat.mul_one, ← cntN_made]
    rfl
  have HMK := Lib.hid hmk
  clear hmk hi0 hz0 hz1 hz2
  by_cases hn0 : 0 < n
  · have hnb : ((n : Int) == 0) = false := by simp; omega
    go_enter Try.func32, Try.ntmps32
    go_wp2
    go_loopg [13] n (fun kx s wr => ∃ k : Nat, k ≤ n ∧ s = .int .i64 k ∧ n - k ≤ kx ∧ Hid (lvOk xs k) ∧ Hid (Below w.heap.size w wr))
    case atStart => exact ⟨0, Nat.zero_le _, rfl, by omega, fun i hi => absurd hi (Nat.not_lt_zero _), Below.refl _ _⟩
    case round =>
      obtain ⟨k, hk, rfl, hg, HV, HB⟩ := hrel
      by_cases hlt : k < n
      · have H2 := H1.out.below HB.out
        obtain ⟨ad, rfl, hbl, hc1, hc2⟩ := PRead.at_ H2 hlt
        have hs := HB.out.size
        have hbl2 : ad.block < wr.heap.size := by omega
        clear H2
        have hS := Lib.hid (lvOk_succ HV.out)
        have hN : Hid (¬ (0 ≤ (at_ xs k).2 ∧ (at_ xs k).2 ≤ 30) → countsI xs = []) := fun h => countsI_f (fun h2 => h (h2.2 k (by rw [HL.out]; exact hlt)))
        change wr.cell? (ad.add (k * 2)) = some (.int .i64 (at_ xs k).1) at hc1
        change wr.cell? ⟨(ad.add (k * 2)).block, (ad.add (k * 2)).off + 1, none⟩ = some (.int .i64 (at_ xs k).2) at hc2
        generalize (at_ xs k).1 = t1 at *
        generalize (at_ xs k).2 = l1 at *
        have HLV := Lib.hid (fun W => level_any l1 W)
        rcases Bool.eq_false_or_eq_true (levelB l1) with hl | hl <;> rw [hl] at HLV
        · rw [levelB_iff] at hl
          go_wp2_with (go_at_call 42; refine (HLV.out _).mono ?_; rintro e w' ⟨rfl, rfl⟩)
          go_roundg (n - (k + 1))
          case measure => omega
          case rel => exact ⟨k + 1, by omega, by go_num, by omega, hS.out hl, HB.out.alloc HB.out.size _⟩
        · rw [levelB_iff0] at hl
          have hE := Lib.hid (hN.out hl)
          clear hN hS hl
          go_wp2_with (go_at_call 42; refine (HLV.out _).mono ?_; rintro e w' ⟨rfl, rfl⟩)
          go_ret
          rw [hE.out]
          exact newI_nil _ _ (HB.out.alloc HB.out.size _)
      · obtain rfl : n = k := by omega
        have hE : Hid (countsI xs = (List.range ((at_ xs 0).2.toNat + 1)).map fun l => (cnt xs l : Int)) := countsI_t ⟨by rw [HL.out]; exact hn0, by rw [HL.out]; exact HV.out⟩
        have hl0 := HV.out 0 hn0
        have H2 := H1.out.below HB.out
        obtain ⟨ad, rfl, hbl, hc1, hc2⟩ := PRead.at_ H2 hn0
        rw [show ad.add (0 * 2) = ad from by simp [Addr.add]] at hc1 hc2
        change wr.cell? ⟨ad.block, ad.off + 1, none⟩ = some (.int .i64 (at_ xs 0).2) at hc2
        have hs := HB.out.size
        have hbl2 : ad.block < wr.heap.size := by omega
        obtain ⟨N, hN⟩ := Int.eq_ofNat_of_zero_le hl0.1
        rw [hN] at hl0 hc2 hE
        rw [Int.toNat_natCast] at hE
        have hN30 : N ≤ 30 := by omega
        clear hN hl0 H2
        have hmk := fun W => HMK.out N W hN30
        go_wp2_with fail
        clear hmk hc1 hc2
        generalize hg : wr.heap.size = g at *
        have HG := Lib.hid hg
        clear hg
        have HB0 : Hid (Below w.heap.size w (wr.alloc (.cells (cntN [] (N + 1)) 3))) := HB.out.alloc HB.out.size _
        have HK0 : Hid (Blk (wr.alloc (.cells (cntN [] (N + 1)) 3)) g 3 (cntN (xs.take 0) (N + 1))) := blk_new2 HG.out
        have hsz0 : g < (wr.alloc (.cells (cntN [] (N + 1)) 3)).heap.size := HK0.out.lt
        generalize wr.alloc (.cells (cntN [] (N + 1)) 3) = W0 at *
        go_loopg [30] n (fun kx s wx => ∃ k : Nat, k ≤ n ∧ s = .int .i64 k ∧ n - k ≤ kx ∧ g < wx.heap.size ∧ Hid (Blk wx g 3 (cntN (xs.take k) (N + 1))) ∧ Hid (Below w.heap.size w wx))
        case atStart => exact ⟨0, Nat.zero_le _, rfl, by omega, hsz0, HK0, HB0⟩
        case round =>
          obtain ⟨i, hi, rfl, hgx, hws, HK, HB2⟩ := hrel
          by_cases hlt : i < n
          · have H2 := H1.out.below HB2.out
            obtain ⟨ae, hea, hbl3, hd1, hd2⟩ := PRead.at_ H2 hlt
            injection hea with hea
            subst hea
            have hs2 := HB2.out.size
            have hbl4 : ad.block < wr.heap.size := by omega
            clear H2
            have hlv := HV.out i hlt
            have hS := Lib.hid (cntN_step (xs := xs) (i := i) (N := N + 1) (by rw [HL.out]; exact hlt))
            have hSk := Lib.hid (cntN_skip (xs := xs) (i := i) (N := N + 1) (by rw [HL.out]; exact hlt))
            have hca := Lib.hid (fun l (h : l < N + 1) => (HK.out.cell l).trans (cntN_get (xs.take i) (N + 1) l h))
            have hcb := Lib.hid (fun l => cnt_le (xs.take i) l)
            change wr.cell? (ad.add (i * 2)) = some (.int .i64 (at_ xs i).1) at hd1
            change wr.cell? ⟨(ad.add (i * 2)).block, (ad.add (i * 2)).off + 1, none⟩ = some (.int .i64 (at_ xs i).2) at hd2
            generalize (at_ xs i).1 = t1 at *
            generalize (at_ xs i).2 = l1 at *
            obtain ⟨hl1, hl2⟩ := hlv
            by_cases hlN : l1 < (N : Int) + 1
            · have hcell := hca.out l1.toNat (by omega)
              have hfr := HK.out.frozen l1.toNat
              have hcv := hcb.out l1.toNat
              rw [List.length_take] at hcv
              generalize cnt (xs.take i) l1.toNat = v at *
              have hcell2 := cell_box hcell
              have hfr2 := frozen_box (p := ⟨g, l1.toNat, none⟩) hws hfr
              clear hcell hfr hca
              go_wp2_with fail
              have HK2 : Blk ((wr.setCell ⟨g, l1.toNat, none⟩ (Value.int IntKind.i64 (↑v + 1))).alloc (Obj.cells #[Value.int IntKind.i64 t1, Value.int IntKind.i64 l1] 45)) g 3 (cntN (xs.take (i + 1)) (N + 1)) := by
                rw [← hS.out ⟨hl1, by omega⟩]
                exact (HK.out.set_ _ _).alloc _
              have hgw := HB.out.size
              have hgg := HG.out
              have HB3 := HB2.out.setCell (p := ⟨g, l1.toNat, none⟩) (show w.heap.size ≤ g by omega) (Value.int IntKind.i64 (↑v + 1))
              go_roundg (n - (i + 1))
              case measure => omega
              case rel => exact ⟨i + 1, by omega, by go_num, by omega, HK2.lt, HK2, HB3.alloc HB3.size _⟩
            · have hE2 := Lib.hid (hSk.out (by omega))
              clear hS hSk hca
              go_wp2
              go_roundg (n - (i + 1))
              case measure => omega
              case rel => exact ⟨i + 1, by omega, by go_num, by omega, by simp; omega, by rw [Hid, ← hE2.out]; exact HK.out.alloc _, HB2.out.alloc HB2.out.size _⟩
          · obtain rfl : n = i := by omega
            go_wp2
            go_ret
            have hK := HK.out
            have hx : xs.take n = xs := List.take_of_length_le (by rw [HL.out]; exact Nat.le_refl _)
            rw [hx] at hK
            refine ⟨_, N + 1, N + 1, rfl, Nat.le_refl _, by unfold maxLen; omega, ?_, HB2.out⟩
            rw [hE.out, IRead, ← cntN_list]
            exact Reads.more (reads_blk hK (by rw [cntN_size, Nat.mul_one])) hws
  · obtain rfl : n = 0 := by omega
    have hE : countsI xs = [] := countsI_f (fun h => by have := HL.out; omega)
    have HE := Lib.hid hE
    clear hE
    go_enter Try.func32, Try.ntmps32
    go_wp2
    go_ret
    rw [HE.out]
    exact newI_nil _ _ (Below.refl _ _)
end Go.Proofs.Ytnohkjalglogaaa.lst
