/- Valid: proved here in one text, no conditions beyond those that each theorem states. -/
import Derived.Deep.QuietTactic
import Derived.BigQuiet
import Derived.Deep.LoopGhost
import Derived.LoopTactic
import Derived.Outline
import Derived.Test.YtjapjfcennemeaaGreatZ5
import Derived.Test.YtjapjfcennemeaaGreatZ1
import Derived.Test.YtjapjfcennemeaaGreatZ7
import Derived.Test.YtjapjfcennemeaaGreatZ8
import Derived.Test.YtjapjfcennemeaaGreatZ13
set_option linter.unusedVariables false
set_option linter.unusedSimpArgs false
namespace Go.Proofs.YtjapjfcennemeaaGreat.lst
open Go.RowKit Go.Proofs.YtjapjfcennemeaaGreat.mem Go.Proofs.YtjapjfcennemeaaGreat.buk
set_option linter.unusedVariables false
def BOk (b : Bool) (w : World) (e : Ending) (w' : World) : Prop := e = .returned (.bool b) ∧ Below w.heap.size w w'
def tickB (t : Int) : Bool := decide (0 ≤ t) && decide (t ≤ 16777216)
theorem tickB_iff {t : Int} : tickB t = true ↔ 0 ≤ t ∧ t ≤ 16777216 := by simp [tickB]
theorem tickB_iff0 {t : Int} : tickB t = false ↔ ¬ (0 ≤ t ∧ t ≤ 16777216) := by rw [← tickB_iff]; simp
set_option maxHeartbeats 400000 in
theorem tick_any (t : Int) (w : World) :
    Calls Tryz.prog 81 #[.int .i64 t] w fun e w' => e = .returned (.bool (tickB t)) ∧ w = w' := by
  go_enter Tryz.func81, Tryz.ntmps81
  go_wp2
  all_goals (go_ret; refine ⟨ret_bool ?_, rfl⟩; first | (symm; rw [tickB_iff]; omega) | (symm; rw [tickB_iff0]; omega) | (rw [Bool.eq_iff_iff, tickB_iff]; simp; omega))
set_option maxHeartbeats 400000 in
theorem TickRef_any (t : Int) (w : World) :
    Calls Tryz.prog 59 #[.int .i64 t] w fun e w' => e = .returned (.bool (tickB t)) ∧ w = w' := by
  go_enter Tryz.func59, Tryz.ntmps59
  go_wp2
  all_goals (go_ret; refine ⟨ret_bool ?_, rfl⟩; first | (symm; rw [tickB_iff]; omega) | (symm; rw [tickB_iff0]; omega) | (rw [Bool.eq_iff_iff, tickB_iff]; simp; omega))
def cntArr (ys : List (Int × Int)) : Array Value := ((List.range 31).map fun l => Value.int .i64 (cnt ys l)).toArray
theorem cntArr_get (ys : List (Int × Int)) (l : Nat) (h : l < 31) : (cntArr ys)[l]? = some (.int .i64 (cnt ys l)) := by
  simp [cntArr, h]
theorem cntArr_step {xs : List (Int × Int)} {i : Nat} (hi : i < xs.length) (h : 0 ≤ (at_ xs i).2 ∧ (at_ xs i).2 ≤ 30) :
    (cntArr (xs.take i)).setIfInBounds (at_ xs i).2.toNat (.int .i64 ((cnt (xs.take i) (at_ xs i).2.toNat : Int) + 1)) = cntArr (xs.take (i + 1)) := by
  apply Array.ext'
  apply List.ext_getElem?
  intro j
  simp only [cntArr, Array.toList_setIfInBounds, List.getElem?_set, List.length_map, List.length_range, List.getElem?_map]
  by_cases hj : j < 31
  · simp only [List.getElem?_range, hj, Option.map_some]
    rw [cnt_take hi]
    by_cases e : (at_ xs i).2.toNat = j
    · subst e
      rw [if_pos rfl, if_pos (by simp; omega), if_pos (by omega)]
      simp
    · rw [if_neg e, if_neg (by omega)]
      simp
  · rw [List.getElem?_eq_none (by simpa using hj)]
    rw [if_neg (by omega)]
    simp
set_option maxHeartbeats 4000000 in
set_option maxRecDepth 100000 in
theorem Valid_any (A : Option Addr) (n c : Nat) (xs : List (Int × Int)) (k : Int) (w : World) (h1 : PRead w w.heap.size A n xs) (hsmall : n ≤ 65536) :
    Calls Tryz.prog 48 #[.slice A n c, .int .i64 k] w (BOk (validB xs k) w) := by
  have HL := Lib.hid h1.len
  have H1 := Lib.hid h1
  clear h1
  by_cases hk : 1 ≤ k ∧ k ≤ 128
  · obtain ⟨hk1, hk2⟩ := hk
    go_enter Tryz.func48, Tryz.ntmps48
    go_wp2
    go_loopg [18] n (fun kx s18 wr => ∃ i : Nat, i ≤ n ∧ s18 = .int .i64 i ∧ n - i ≤ kx ∧ w.heap.size < wr.heap.size ∧ Hid (Below w.heap.size w wr) ∧ Hid (Blk wr w.heap.size 100 (cntArr (xs.take i))) ∧ Hid (ordOk xs i))
    case atStart => exact ⟨0, Nat.zero_le _, rfl, by omega, by simp, (Below.refl _ _).alloc (Nat.le_refl _) _, Blk.new w 100 (cntArr []), ordOk_zero xs⟩
    case round =>
      obtain ⟨i, hi, rfl, hg, hws, HB, HK, HO⟩ := hrel
      by_cases hlt : i < n
      · have H2 := H1.out.below HB.out
        obtain ⟨ad, rfl, hbl, hc1, hc2⟩ := PRead.at_ H2 hlt
        have hs := HB.out.size
        have hbl2 : ad.block < wr.heap.size := by omega
        have hp : 0 < i → wr.cell? (ad.add ((i - 1) * 2)) = some (.int .i64 (at_ xs (i - 1)).1) ∧ wr.cell? ⟨(ad.add ((i - 1) * 2)).block, (ad.add ((i - 1) * 2)).off + 1, none⟩ = some (.int .i64 (at_ xs (i - 1)).2) := fun h => by
          obtain ⟨ad', e, _, hd1, hd2⟩ := PRead.at_ H2 (show i - 1 < n by omega)
          injection e with e; subst e; exact ⟨hd1, hd2⟩
        clear H2
        have hY := Lib.hid (ordOk_succ HO.out)
        have hN := Lib.hid (fun h => validB_f (xs := xs) (k := k) (fun hv => ordOk_not (xs := xs) (k := i) (m := xs.length) (by rw [HL.out]; exact hlt) h hv.2.1))
        have hO : Hid (ordAt xs i = ((0 ≤ (at_ xs i).1 ∧ (at_ xs i).1 ≤ 16777216) ∧ (0 ≤ (at_ xs i).2 ∧ (at_ xs i).2 ≤ 30) ∧ (0 < i → (at_ xs (i - 1)).1 ≤ (at_ xs i).1 ∧ (at_ xs i).2 ≤ (at_ xs (i - 1)).2))) := rfl
        have hS := Lib.hid (cntArr_step (xs := xs) (i := i) (by rw [HL.out]; exact hlt))
        have hca := Lib.hid (fun l (h : l < 31) => (HK.out.cell l).trans (cntArr_get (xs.take i) l h))
        have hcb := Lib.hid (fun l => cnt_le (xs.take i) l)
        change wr.cell? (ad.add (i * 2)) = some (.int .i64 (at_ xs i).1) at hc1
        change wr.cell? ⟨(ad.add (i * 2)).block, (ad.add (i * 2)).off + 1, none⟩ = some (.int .i64 (at_ xs i).2) at hc2
        generalize (at_ xs i).1 = t1 at *
        generalize (at_ xs i).2 = l1 at *
        have HV := Lib.hid (fun W => level_any l1 W)
        have HT := Lib.hid (fun W => tick_any t1 W)
        by_cases ht : 0 ≤ t1 ∧ t1 ≤ 16777216
        · rw [tickB_iff.2 ht] at HT
          by_cases hl : 0 ≤ l1 ∧ l1 ≤ 30
          · rw [levelB_iff.2 hl] at HV
            obtain ⟨hl1, hl2⟩ := hl
            have hcell := hca.out l1.toNat (by omega)
            have hfr := HK.out.frozen l1.toNat
            have hcv := hcb.out l1.toNat
            rw [List.length_take] at hcv
            generalize cnt (xs.take i) l1.toNat = v at *
            have hcell2 := cell_box hcell
            have hfr2 := frozen_box (p := ⟨w.heap.size, l1.toNat, none⟩) hws hfr
            clear hcell hfr
            by_cases h0 : 0 < i
            · obtain ⟨hd1, hd2⟩ := hp h0
              clear hp
              have hd3 := cell_box hd1
              have hd4 := cell_box hd2
              clear hd1 hd2
              generalize (at_ xs (i - 1)).1 = t0 at *
              generalize (at_ xs (i - 1)).2 = l0 at *
              by_cases e1 : t0 ≤ t1
              · by_cases e2 : l1 ≤ l0
                · go_wp2_with (first | (go_at_call 77; refine (HV.out _).mono ?_; rintro e w' ⟨rfl, rfl⟩) | (go_at_call 81; refine (HT.out _).mono ?_; rintro e w' ⟨rfl, rfl⟩))
                  have s1 : IntKind.i64.wrap ((i : Int) - 1) = (i : Int) - 1 := IntWalk.i64_in _ (by omega)
                  have s2 : 0 ≤ (i : Int) - 1 := by omega
                  have s3 : ((i : Int) - 1).toNat = i - 1 := by omega
                  have s4 : (i : Int) - 1 < n := by omega
                  have s5 : 1 ≤ (i : Int) := by omega
                  go_quiet (fail)
                  clear s1 s2 s3 s4 s5
                  go_wp2
                  have HK2 : Blk ((((wr.alloc (Obj.cells #[Value.int IntKind.i64 t1, Value.int IntKind.i64 l1] 96)).drewN nq).setCell ⟨w.heap.size, l1.toNat, none⟩ (Value.int IntKind.i64 (↑v + 1)))) w.heap.size 100 (cntArr (xs.take (i + 1))) := by
                    rw [← hS.out ⟨hl1, hl2⟩]
                    exact ((HK.out.alloc _).drewN nq).set_ _ _
                  go_roundg (n - (i + 1))
                  case measure => omega
                  case rel => exact ⟨i + 1, by omega, by go_num, by omega, HK2.lt, (below_drewN (HB.out.alloc HB.out.size _) nq).setCell (Nat.le_refl _) _, HK2, hY.out (by rw [hO.out]; exact ⟨ht, ⟨hl1, hl2⟩, fun _ => ⟨e1, e2⟩⟩)⟩
                · go_wp2_with (first | (go_at_call 77; refine (HV.out _).mono ?_; rintro e w' ⟨rfl, rfl⟩) | (go_at_call 81; refine (HT.out _).mono ?_; rintro e w' ⟨rfl, rfl⟩))
                  have s1 : IntKind.i64.wrap ((i : Int) - 1) = (i : Int) - 1 := IntWalk.i64_in _ (by omega)
                  have s2 : 0 ≤ (i : Int) - 1 := by omega
                  have s3 : ((i : Int) - 1).toNat = i - 1 := by omega
                  have s4 : (i : Int) - 1 < n := by omega
                  have s5 : 1 ≤ (i : Int) := by omega
                  go_quiet (fail)
                  clear s1 s2 s3 s4 s5
                  go_wp2
                  go_ret
                  exact ⟨ret_bool (hN.out (by rw [hO.out]; omega)).symm, below_drewN (HB.out.alloc HB.out.size _) _⟩
              · go_wp2_with (first | (go_at_call 77; refine (HV.out _).mono ?_; rintro e w' ⟨rfl, rfl⟩) | (go_at_call 81; refine (HT.out _).mono ?_; rintro e w' ⟨rfl, rfl⟩))
                have s1 : IntKind.i64.wrap ((i : Int) - 1) = (i : Int) - 1 := IntWalk.i64_in _ (by omega)
                have s2 : 0 ≤ (i : Int) - 1 := by omega
                have s3 : ((i : Int) - 1).toNat = i - 1 := by omega
                have s4 : (i : Int) - 1 < n := by omega
                have s5 : 1 ≤ (i : Int) := by omega
                go_quiet (fail)
                clear s1 s2 s3 s4 s5
                go_wp2
                go_ret
                exact ⟨ret_bool (hN.out (by rw [hO.out]; omega)).symm, below_drewN (HB.out.alloc HB.out.size _) _⟩
            · obtain rfl : i = 0 := by omega
              clear hp
              rw [show ad.add (0 * 2) = ad from by simp [Addr.add]] at hc1 hc2
              generalize (at_ xs (0 - 1)).1 = t0 at *
              generalize (at_ xs (0 - 1)).2 = l0 at *
              go_wp2_with (first | (go_at_call 77; refine (HV.out _).mono ?_; rintro e w' ⟨rfl, rfl⟩) | (go_at_call 81; refine (HT.out _).mono ?_; rintro e w' ⟨rfl, rfl⟩))
              go_quiet (fail)
              go_wp2
              have HK2 : Blk ((((wr.alloc (Obj.cells #[Value.int IntKind.i64 t1, Value.int IntKind.i64 l1] 96)).drewN nq).setCell ⟨w.heap.size, l1.toNat, none⟩ (Value.int IntKind.i64 (↑v + 1)))) w.heap.size 100 (cntArr (xs.take (0 + 1))) := by
                rw [← hS.out ⟨hl1, hl2⟩]
                exact ((HK.out.alloc _).drewN nq).set_ _ _
              go_roundg (n - (0 + 1))
              case measure => omega
              case rel => exact ⟨0 + 1, by omega, by go_num, by omega, HK2.lt, (below_drewN (HB.out.alloc HB.out.size _) nq).setCell (Nat.le_refl _) _, HK2, hY.out (by rw [hO.out]; exact ⟨ht, ⟨hl1, hl2⟩, fun h => absurd h (Nat.lt_irrefl 0)⟩)⟩
          · rw [levelB_iff0.2 hl] at HV
            have hNN := Lib.hid (hN.out (by rw [hO.out]; exact fun h => hl h.2.1))
            clear hp
            go_wp2_with (first | (go_at_call 77; refine (HV.out _).mono ?_; rintro e w' ⟨rfl, rfl⟩) | (go_at_call 81; refine (HT.out _).mono ?_; rintro e w' ⟨rfl, rfl⟩))
            go_ret
            exact ⟨ret_bool hNN.out.symm, HB.out.alloc HB.out.size _⟩
        · rw [tickB_iff0.2 ht] at HT
          have hNN := Lib.hid (hN.out (by rw [hO.out]; exact fun h => ht h.1))
          clear hp
          go_wp2_with (first | (go_at_call 77; refine (HV.out _).mono ?_; rintro e w' ⟨rfl, rfl⟩) | (go_at_call 81; refine (HT.out _).mono ?_; rintro e w' ⟨rfl, rfl⟩))
          go_ret
          exact ⟨ret_bool hNN.out.symm, HB.out.alloc HB.out.size _⟩
      · obtain rfl : i = n := by omega
        have hfull : xs.take i = xs := List.take_of_length_le (by rw [HL.out]; exact Nat.le_refl _)
        rw [hfull] at HK
        have HO2 : Hid (ordOk xs xs.length) := by have := HO.out; rw [Hid, HL.out]; exact this
        clear hfull HO
        by_cases h0 : 0 < i
        · obtain ⟨ad, rfl, hbl, hc1, hc2⟩ := PRead.at_ (H1.out.below HB.out) h0
          rw [show ad.add (0 * 2) = ad from by simp [Addr.add]] at hc2
          clear hc1
          have hup := Lib.hid (ord_le HO2.out)
          have h30 : 0 ≤ (at_ xs 0).2 ∧ (at_ xs 0).2 ≤ 30 := (HO2.out 0 (by rw [HL.out]; exact h0)).2.1
          have hT := Lib.hid (fun h => validB_t (xs := xs) (k := k) ⟨⟨hk1, hk2⟩, HO2.out, fun _ => h⟩)
          have hN := Lib.hid (fun l (h31 : l < 31) (h : ¬ levAt xs k l) => validB_f (xs := xs) (k := k) (fun hv => h (hv.2.2 (by rw [HL.out]; exact h0) l h31)))
          have hA : Hid (∀ l : Nat, levAt xs k l = ((l : Int) ≤ (at_ xs 0).2 → (cnt xs l : Int) ≤ k + 1 ∧ ((l : Int) < (at_ xs 0).2 → k ≤ cnt xs l))) := fun _ => rfl
          change wr.cell? ⟨ad.block, ad.off + 1, none⟩ = some (.int .i64 (at_ xs 0).2) at hc2
          generalize (at_ xs 0).2 = top at *
          go_wp2
          go_loop [9] (fun s9 => ∃ l : Nat, s9 = .int .i64 l ∧ (l : Int) ≤ top + 1 ∧ Hid (levOk xs k l)) (fun s9 => 32 - (intOf s9).toNat)
          case atStart => exact ⟨0, rfl, by omega, levOk_zero xs k⟩
          case round =>
            obtain ⟨l, rfl, hl, HV⟩ := hrel
            by_cases hlt2 : (l : Int) ≤ top
            · have hcell := (HK.out.cell l).trans (cntArr_get xs l (by omega))
              have hcv := cnt_le xs l
              rw [HL.out] at hcv
              have hE := Lib.hid (hA.out l)
              have hn := Lib.hid (hN.out l (by omega))
              have hs := Lib.hid (levOk_succ HV.out)
              generalize cnt xs l = v at *
              by_cases e1 : (v : Int) ≤ k + 1
              · by_cases e2 : (l : Int) < top
                · by_cases e3 : k ≤ v
                  · go_wp2
                    refine ⟨⟨l + 1, by go_num, by omega, hs.out (by rw [hE.out]; omega)⟩, by simp [intOf]; omega⟩
                  · go_wp2
                    go_ret
                    exact ⟨ret_bool (hn.out (by rw [hE.out]; omega)).symm, HB.out⟩
                · go_wp2
                  refine ⟨⟨l + 1, by go_num, by omega, hs.out (by rw [hE.out]; omega)⟩, by simp [intOf]; omega⟩
              · go_wp2
                go_ret
                exact ⟨ret_bool (hn.out (by rw [hE.out]; omega)).symm, HB.out⟩
            · have hall : levOk xs k 31 := fun l' _ => by
                rcases Nat.lt_or_ge l' l with h | h
                · exact HV.out l' h
                · rw [hA.out]; intro h'; omega
              have hTT := Lib.hid (hT.out hall)
              clear hall
              go_wp2
              go_ret
              exact ⟨ret_bool hTT.out.symm, HB.out⟩
        · obtain rfl : i = 0 := by omega
          have hT := Lib.hid (validB_t (xs := xs) (k := k) ⟨⟨hk1, hk2⟩, HO2.out, fun h => by rw [HL.out] at h; exact absurd h (Nat.lt_irrefl 0)⟩)
          go_wp2
          go_ret
          exact ⟨ret_bool hT.out.symm, HB.out⟩
  · have HF := Lib.hid (validB_f (xs := xs) (k := k) (fun h => hk h.1))
    by_cases a1 : 1 ≤ k
    · have a2 : 128 < k := by omega
      clear hk
      go_enter Tryz.func48, Tryz.ntmps48
      go_wp2
      go_ret
      exact ⟨ret_bool HF.out.symm, Below.refl _ _⟩
    · clear hk
      go_enter Tryz.func48, Tryz.ntmps48
      go_wp2
      go_ret
      exact ⟨ret_bool HF.out.symm, Below.refl _ _⟩
end Go.Proofs.YtjapjfcennemeaaGreat.lst
