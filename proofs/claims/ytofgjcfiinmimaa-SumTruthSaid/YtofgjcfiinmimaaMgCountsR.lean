/- Valid; Own; Counts; CountsR: texts in one. -/
import Derived.Test.YtofgjcfiinmimaaApp
import Derived.Test.YtofgjcfiinmimaaMgGrown
import Derived.Test.YtofgjcfiinmimaaMgPutEq
import Derived.Test.YtofgjcfiinmimaaMgCanon
import Derived.Laws.MakeOwn
/- Contracts of buckets.Valid and of its reference. -/
namespace Go.Proofs.Ytofgjcfiinmimaa.lst
open Go.RowKit Go.Proofs.Ytofgjcfiinmimaa.mem Go.Proofs.Ytofgjcfiinmimaa.buk
set_option linter.unusedVariables false

def BOk (b : Bool) (w : World) (e : Ending) (w' : World) : Prop := e = .returned (.bool b) ∧ Below w.heap.size w w'
def tickB (t : Int) : Bool := decide (0 ≤ t) && decide (t ≤ 16777216)
theorem tickB_iff {t : Int} : tickB t = true ↔ 0 ≤ t ∧ t ≤ 16777216 := by simp [tickB]
theorem tickB_iff0 {t : Int} : tickB t = false ↔ ¬ (0 ≤ t ∧ t ≤ 16777216) := by rw [← tickB_iff]; simp
set_option maxHeartbeats 400000 in
theorem tick_any (t : Int) (w : World) :
    Calls Try.prog 102 #[.int .i64 t] w fun e w' => e = .returned (.bool (tickB t)) ∧ w = w' := by
  go_enter Try.func102, Try.ntmps102
  go_wp2
  all_goals (go_ret; refine ⟨ret_bool ?_, rfl⟩; first | (symm; rw [tickB_iff]; omega) | (symm; rw [tickB_iff0]; omega) | (rw [Bool.eq_iff_iff, tickB_iff]; simp; omega))
set_option maxHeartbeats 400000 in
theorem TickRef_any (t : Int) (w : World) :
    Calls Try.prog 89 #[.int .i64 t] w fun e w' => e = .returned (.bool (tickB t)) ∧ w = w' := by
  go_enter Try.func89, Try.ntmps89
  go_wp2
  all_goals (go_ret; refine ⟨ret_bool ?_, rfl⟩; first | (symm; rw [tickB_iff]; omega) | (symm; rw [tickB_iff0]; omega) | (rw [Bool.eq_iff_iff, tickB_iff]; simp; omega))

def cntArr (ys : List (Int × Int)) : Array Value := ((List.range 31).map fun l => Value.int .i64 (cnt ys l)).toArray
theorem cntArr_get (ys : List (Int × Int)) (l : Nat) (h : l < 31) : (cntArr ys)[l]? = some (.int .i64 (cnt ys l)) := by
  simp [cntArr, h]
theorem cntArr_step {xs : List (Int × Int)} {i : Nat} (hi : i < xs.length) (h : 0 ≤ (at_ xs i).2 ∧ (at_ xs i).2 ≤ 30) :
    (cntArr (xs.take i)).setIfInBounds (at_ xs i).2.toNat (.int .i64 ((cnt (xs.take i) (at_ xs i).2.toNat : Int) + 1)) = cntArr (xs.take (i + 1)) := by
  apply Array.ext'
  apply List.ext_getElem?
  intro j
  simp only [cntArr, Array.toList_setIfInBounds, List.getElem?_set, List.length_map, List.length_range, List.getElem?_map]
  by_cases hj : j < 31
  · simp only [List.getElem?_range, hj, Option.map_some]
    rw [cnt_take hi]
    by_cases e : (at_ xs i).2.toNat = j
    · subst e
      rw [if_pos rfl, if_pos (by simp; omega), if_pos (by omega)]
      simp
    · rw [if_neg e, if_neg (by omega)]
      simp
  · rw [List.getElem?_eq_none (by simpa using hj)]
    rw [if_neg (by omega)]
    simp

set_option maxHeartbeats 4000000 in
set_option maxRecDepth 100000 in
theorem Valid_any (A : Option Addr) (n c : Nat) (xs : List (Int × Int)) (k : Int) (w : World) (h1 : PRead w w.heap.size A n xs) (hsmall : n ≤ 65536) :
    Calls Try.prog 71 #[.slice A n c, .int .i64 k] w (BOk (validB xs k) w) := by
  have HL := Lib.hid h1.len
  have H1 := Lib.hid h1
  clear h1
  by_cases hk : 1 ≤ k ∧ k ≤ 128
  · obtain ⟨hk1, hk2⟩ := hk
    go_enter Try.func71, Try.ntmps71
    go_wp2
    go_loopg [18] n (fun kx s18 wr => ∃ i : Nat, i ≤ n ∧ s18 = .int .i64 i ∧ n - i ≤ kx ∧ w.heap.size < wr.heap.size ∧ Hid (Below w.heap.size w wr) ∧ Hid (Blk wr w.heap.size 112 (cntArr (xs.take i))) ∧ Hid (ordOk xs i))
    case atStart => exact ⟨0, Nat.zero_le _, rfl, by omega, by simp, (Below.refl _ _).alloc (Nat.le_refl _) _, Blk.new w 112 (cntArr []), ordOk_zero xs⟩
    case round =>
      obtain ⟨i, hi, rfl, hg, hws, HB, HK, HO⟩ := hrel
      by_cases hlt : i < n
      · have H2 := H1.out.below HB.out
        obtain ⟨ad, rfl, hbl, hc1, hc2⟩ := PRead.at_ H2 hlt
        have hs := HB.out.size
        have hbl2 : ad.block < wr.heap.size := by omega
        have hp : 0 < i → wr.cell? (ad.add ((i - 1) * 2)) = some (.int .i64 (at_ xs (i - 1)).1) ∧ wr.cell? ⟨(ad.add ((i - 1) * 2)).block, (ad.add ((i - 1) * 2)).off + 1, none⟩ = some (.int .i64 (at_ xs (i - 1)).2) := fun h => by
          obtain ⟨ad', e, _, hd1, hd2⟩ := PRead.at_ H2 (show i - 1 < n by omega)
          injection e with e; subst e; exact ⟨hd1, hd2⟩
        clear H2
        have hY := Lib.hid (ordOk_succ HO.out)
        have hN := Lib.hid (fun h => validB_f (xs := xs) (k := k) (fun hv => ordOk_not (xs := xs) (k := i) (m := xs.length) (by rw [HL.out]; exact hlt) h hv.2.1))
        have hO : Hid (ordAt xs i = ((0 ≤ (at_ xs i).1 ∧ (at_ xs i).1 ≤ 16777216) ∧ (0 ≤ (at_ xs i).2 ∧ (at_ xs i).2 ≤ 30) ∧ (0 < i → (at_ xs (i - 1)).1 ≤ (at_ xs i).1 ∧ (at_ xs i).2 ≤ (at_ xs (i - 1)).2))) := rfl
        have hS := Lib.hid (cntArr_step (xs := xs) (i := i) (by rw [HL.out]; exact hlt))
        have hca := Lib.hid (fun l (h : l < 31) => (HK.out.cell l).trans (cntArr_get (xs.take i) l h))
        have hcb := Lib.hid (fun l => cnt_le (xs.take i) l)
        change wr.cell? (ad.add (i * 2)) = some (.int .i64 (at_ xs i).1) at hc1
        change wr.cell? ⟨(ad.add (i * 2)).block, (ad.add (i * 2)).off + 1, none⟩ = some (.int .i64 (at_ xs i).2) at hc2
        generalize (at_ xs i).1 = t1 at *
        generalize (at_ xs i).2 = l1 at *
        have HV := Lib.hid (fun W => level_any l1 W)
        have HT := Lib.hid (fun W => tick_any t1 W)
        by_cases ht : 0 ≤ t1 ∧ t1 ≤ 16777216
        · rw [tickB_iff.2 ht] at HT
          by_cases hl : 0 ≤ l1 ∧ l1 ≤ 30
          · rw [levelB_iff.2 hl] at HV
            obtain ⟨hl1, hl2⟩ := hl
            have hcell := hca.out l1.toNat (by omega)
            have hfr := HK.out.frozen l1.toNat
            have hcv := hcb.out l1.toNat
            rw [List.length_take] at hcv
            generalize cnt (xs.take i) l1.toNat = v at *
            have hcell2 := cell_box hcell
            have hfr2 := frozen_box (p := ⟨w.heap.size, l1.toNat, none⟩) hws hfr
            clear hcell hfr
            by_cases h0 : 0 < i
            · obtain ⟨hd1, hd2⟩ := hp h0
              clear hp
              have hd3 := cell_box hd1
              have hd4 := cell_box hd2
              clear hd1 hd2
              generalize (at_ xs (i - 1)).1 = t0 at *
              generalize (at_ xs (i - 1)).2 = l0 at *
              by_cases e1 : t0 ≤ t1
              · by_cases e2 : l1 ≤ l0
                · go_wp2_with (first | (go_at_call 91; refine (HV.out _).mono ?_; rintro e w' ⟨rfl, rfl⟩) | (go_at_call 102; refine (HT.out _).mono ?_; rintro e w' ⟨rfl, rfl⟩))
                  have s1 : IntKind.i64.wrap ((i : Int) - 1) = (i : Int) - 1 := IntWalk.i64_in _ (by omega)
                  have s2 : 0 ≤ (i : Int) - 1 := by omega
                  have s3 : ((i : Int) - 1).toNat = i - 1 := by omega
                  have s4 : (i : Int) - 1 < n := by omega
                  have s5 : 1 ≤ (i : Int) := by omega
                  go_quiet (fail)
                  clear s1 s2 s3 s4 s5
                  go_wp2
                  have HK2 : Blk ((((wr.alloc (Obj.cells #[Value.int IntKind.i64 t1, Value.int IntKind.i64 l1] 87)).drewN nq).setCell ⟨w.heap.size, l1.toNat, none⟩ (Value.int IntKind.i64 (↑v + 1)))) w.heap.size 112 (cntArr (xs.take (i + 1))) := by
                    rw [← hS.out ⟨hl1, hl2⟩]
                    exact ((HK.out.alloc _).drewN nq).set_ _ _
                  go_roundg (n - (i + 1))
                  case measure => omega
                  case rel => exact ⟨i + 1, by omega, by go_num, by omega, HK2.lt, (below_drewN (HB.out.alloc HB.out.size _) nq).setCell (Nat.le_refl _) _, HK2, hY.out (by rw [hO.out]; exact ⟨ht, ⟨hl1, hl2⟩, fun _ => ⟨e1, e2⟩⟩)⟩
                · go_wp2_with (first | (go_at_call 91; refine (HV.out _).mono ?_; rintro e w' ⟨rfl, rfl⟩) | (go_at_call 102; refine (HT.out _).mono ?_; rintro e w' ⟨rfl, rfl⟩))
                  have s1 : IntKind.i64.wrap ((i : Int) - 1) = (i : Int) - 1 := IntWalk.i64_in _ (by omega)
                  have s2 : 0 ≤ (i : Int) - 1 := by omega
                  have s3 : ((i : Int) - 1).toNat = i - 1 := by omega
                  have s4 : (i : Int) - 1 < n := by omega
                  have s5 : 1 ≤ (i : Int) := by omega
                  go_quiet (fail)
                  clear s1 s2 s3 s4 s5
                  go_wp2
                  go_ret
                  exact ⟨ret_bool (hN.out (by rw [hO.out]; omega)).symm, below_drewN (HB.out.alloc HB.out.size _) _⟩
              · go_wp2_with (first | (go_at_call 91; refine (HV.out _).mono ?_; rintro e w' ⟨rfl, rfl⟩) | (go_at_call 102; refine (HT.out _).mono ?_; rintro e w' ⟨rfl, rfl⟩))
                have s1 : IntKind.i64.wrap ((i : Int) - 1) = (i : Int) - 1 := IntWalk.i64_in _ (by omega)
                have s2 : 0 ≤ (i : Int) - 1 := by omega
                have s3 : ((i : Int) - 1).toNat = i - 1 := by omega
                have s4 : (i : Int) - 1 < n := by omega
                have s5 : 1 ≤ (i : Int) := by omega
                go_quiet (fail)
                clear s1 s2 s3 s4 s5
                go_wp2
                go_ret
                exact ⟨ret_bool (hN.out (by rw [hO.out]; omega)).symm, below_drewN (HB.out.alloc HB.out.size _) _⟩
            · obtain rfl : i = 0 := by omega
              clear hp
              rw [show ad.add (0 * 2) = ad from by simp [Addr.add]] at hc1 hc2
              generalize (at_ xs (0 - 1)).1 = t0 at *
              generalize (at_ xs (0 - 1)).2 = l0 at *
              go_wp2_with (first | (go_at_call 91; refine (HV.out _).mono ?_; rintro e w' ⟨rfl, rfl⟩) | (go_at_call 102; refine (HT.out _).mono ?_; rintro e w' ⟨rfl, rfl⟩))
              go_quiet (fail)
              go_wp2
              have HK2 : Blk ((((wr.alloc (Obj.cells #[Value.int IntKind.i64 t1, Value.int IntKind.i64 l1] 87)).drewN nq).setCell ⟨w.heap.size, l1.toNat, none⟩ (Value.int IntKind.i64 (↑v + 1)))) w.heap.size 112 (cntArr (xs.take (0 + 1))) := by
                rw [← hS.out ⟨hl1, hl2⟩]
                exact ((HK.out.alloc _).drewN nq).set_ _ _
              go_roundg (n - (0 + 1))
              case measure => omega
              case rel => exact ⟨0 + 1, by omega, by go_num, by omega, HK2.lt, (below_drewN (HB.out.alloc HB.out.size _) nq).setCell (Nat.le_refl _) _, HK2, hY.out (by rw [hO.out]; exact ⟨ht, ⟨hl1, hl2⟩, fun h => absurd h (Nat.lt_irrefl 0)⟩)⟩
          · rw [levelB_iff0.2 hl] at HV
            have hNN := Lib.hid (hN.out (by rw [hO.out]; exact fun h => hl h.2.1))
            clear hp
            go_wp2_with (first | (go_at_call 91; refine (HV.out _).mono ?_; rintro e w' ⟨rfl, rfl⟩) | (go_at_call 102; refine (HT.out _).mono ?_; rintro e w' ⟨rfl, rfl⟩))
            go_ret
            exact ⟨ret_bool hNN.out.symm, HB.out.alloc HB.out.size _⟩
        · rw [tickB_iff0.2 ht] at HT
          have hNN := Lib.hid (hN.out (by rw [hO.out]; exact fun h => ht h.1))
          clear hp
          go_wp2_with (first | (go_at_call 91; refine (HV.out _).mono ?_; rintro e w' ⟨rfl, rfl⟩) | (go_at_call 102; refine (HT.out _).mono ?_; rintro e w' ⟨rfl, rfl⟩))
          go_ret
          exact ⟨ret_bool hNN.out.symm, HB.out.alloc HB.out.size _⟩
      · obtain rfl : i = n := by omega
        have hfull : xs.take i = xs := List.take_of_length_le (by rw [HL.out]; exact Nat.le_refl _)
        rw [hfull] at HK
        have HO2 : Hid (ordOk xs xs.length) := by have := HO.out; rw [Hid, HL.out]; exact this
        clear hfull HO
        by_cases h0 : 0 < i
        · obtain ⟨ad, rfl, hbl, hc1, hc2⟩ := PRead.at_ (H1.out.below HB.out) h0
          rw [show ad.add (0 * 2) = ad from by simp [Addr.add]] at hc2
          clear hc1
          have hup := Lib.hid (ord_le HO2.out)
          have h30 : 0 ≤ (at_ xs 0).2 ∧ (at_ xs 0).2 ≤ 30 := (HO2.out 0 (by rw [HL.out]; exact h0)).2.1
          have hT := Lib.hid (fun h => validB_t (xs := xs) (k := k) ⟨⟨hk1, hk2⟩, HO2.out, fun _ => h⟩)
          have hN := Lib.hid (fun l (h31 : l < 31) (h : ¬ levAt xs k l) => validB_f (xs := xs) (k := k) (fun hv => h (hv.2.2 (by rw [HL.out]; exact h0) l h31)))
          have hA : Hid (∀ l : Nat, levAt xs k l = ((l : Int) ≤ (at_ xs 0).2 → (cnt xs l : Int) ≤ k + 1 ∧ ((l : Int) < (at_ xs 0).2 → k ≤ cnt xs l))) := fun _ => rfl
          change wr.cell? ⟨ad.block, ad.off + 1, none⟩ = some (.int .i64 (at_ xs 0).2) at hc2
          generalize (at_ xs 0).2 = top at *
          go_wp2
          go_loop [9] (fun s9 => ∃ l : Nat, s9 = .int .i64 l ∧ (l : Int) ≤ top + 1 ∧ Hid (levOk xs k l)) (fun s9 => 32 - (intOf s9).toNat)
          case atStart => exact ⟨0, rfl, by omega, levOk_zero xs k⟩
          case round =>
            obtain ⟨l, rfl, hl, HV⟩ := hrel
            by_cases hlt2 : (l : Int) ≤ top
            · have hcell := (HK.out.cell l).trans (cntArr_get xs l (by omega))
              have hcv := cnt_le xs l
              rw [HL.out] at hcv
              have hE := Lib.hid (hA.out l)
              have hn := Lib.hid (hN.out l (by omega))
              have hs := Lib.hid (levOk_succ HV.out)
              generalize cnt xs l = v at *
              by_cases e1 : (v : Int) ≤ k + 1
              · by_cases e2 : (l : Int) < top
                · by_cases e3 : k ≤ v
                  · go_wp2
                    refine ⟨⟨l + 1, by go_num, by omega, hs.out (by rw [hE.out]; omega)⟩, by simp [intOf]; omega⟩
                  · go_wp2
                    go_ret
                    exact ⟨ret_bool (hn.out (by rw [hE.out]; omega)).symm, HB.out⟩
                · go_wp2
                  refine ⟨⟨l + 1, by go_num, by omega, hs.out (by rw [hE.out]; omega)⟩, by simp [intOf]; omega⟩
              · go_wp2
                go_ret
                exact ⟨ret_bool (hn.out (by rw [hE.out]; omega)).symm, HB.out⟩
            · have hall : levOk xs k 31 := fun l' _ => by
                rcases Nat.lt_or_ge l' l with h | h
                · exact HV.out l' h
                · rw [hA.out]; intro h'; omega
              have hTT := Lib.hid (hT.out hall)
              clear hall
              go_wp2
              go_ret
              exact ⟨ret_bool hTT.out.symm, HB.out⟩
        · obtain rfl : i = 0 := by omega
          have hT := Lib.hid (validB_t (xs := xs) (k := k) ⟨⟨hk1, hk2⟩, HO2.out, fun h => by rw [HL.out] at h; exact absurd h (Nat.lt_irrefl 0)⟩)
          go_wp2
          go_ret
          exact ⟨ret_bool hT.out.symm, HB.out⟩
  · have HF := Lib.hid (validB_f (xs := xs) (k := k) (fun h => hk h.1))
    by_cases a1 : 1 ≤ k
    · have a2 : 128 < k := by omega
      clear hk
      go_enter Try.func71, Try.ntmps71
      go_wp2
      go_ret
      exact ⟨ret_bool HF.out.symm, Below.refl _ _⟩
    · clear hk
      go_enter Try.func71, Try.ntmps71
      go_wp2
      go_ret
      exact ⟨ret_bool HF.out.symm, Below.refl _ _⟩
end Go.Proofs.Ytofgjcfiinmimaa.lst

/- More facts on rows of the call's own: their form, prefixes, stores of pairs. -/
set_option linter.unusedVariables false
namespace Go.Proofs.Ytofgjcfiinmimaa.mem
open Go.RowKit
section
variable {w w' : World} {base : Nat} {e : TypeId} {size n c g : Nat} {v : Value} {xs : List Value}
theorem own_form2 (h : w.ownsRow base e size v n xs) (hn : 0 < n) :
    ∃ g c, v = .slice (some ⟨g, 0, none⟩) n c ∧ n ≤ c ∧ c ≤ 9223372036854775807 ∧ base ≤ g ∧ g < w.heap.size := by
  rcases h.2 with ⟨rfl, rfl⟩ | ⟨g, cap, cur, rfl, hb, hh, hnc, hcm, _⟩
  · omega
  · refine ⟨g, cap, rfl, hnc, hcm, hb, ?_⟩
    rcases Nat.lt_or_ge g w.heap.size with h1 | h1
    · exact h1
    · rw [Array.getElem?_eq_none h1] at hh; cases hh
theorem own_prefix (h : w.ownsRow base e size (.slice (some ⟨g, 0, none⟩) n c) n xs) {k : Nat} (hk : k ≤ n) :
    w.ownsRow base e size (.slice (some ⟨g, 0, none⟩) k c) k (xs.take (k * size)) := by
  rcases h.2 with ⟨h1, _⟩ | ⟨g', cap, cur, h1, hb, hh, hnc, hcm, hs, hx⟩
  · cases h1
  · simp only [Value.slice.injEq, Option.some.injEq, Addr.mk.injEq, and_true, true_and] at h1
    obtain ⟨rfl, rfl⟩ := h1
    have hks : k * size ≤ n * size := Nat.mul_le_mul_right _ hk
    refine ⟨by rw [List.length_take, h.1]; exact Nat.min_eq_left hks, .inr ⟨g, c, cur, rfl, hb, hh, by omega, hcm, hs, ?_⟩⟩
    rw [← hx, List.take_take, Nat.min_eq_left hks]
theorem own_reads (h : w.ownsRow base e size (.slice (some ⟨g, 0, none⟩) n c) n xs) {k : Nat} (hk : k ≤ n) :
    Reads w (g + 1) size (some ⟨g, k * size, none⟩) (n - k) (xs.drop (k * size)) := by
  refine ⟨by rw [List.length_drop, h.1, Nat.sub_mul], fun hn => ⟨_, rfl, by simp, fun j u hu => ?_⟩⟩
  have hj : k * size + j < n * size := by
    rcases Nat.lt_or_ge (k * size + j) (n * size) with h1 | h1
    · exact h1
    · rw [List.getElem?_eq_none (by rw [List.length_drop, h.1]; omega)] at hu; cases hu
  have hadd : (⟨g, k * size, none⟩ : Addr).add j = ⟨g, k * size + j, none⟩ := by unfold Addr.add; split <;> simp_all
  rw [hadd, h.cellAt _ hj, ← hu, List.getElem?_drop]
theorem own_cut (h : w.ownsRow base e size (.slice (some ⟨g, 0, none⟩) n c) n xs) {k : Nat} (hk : k ≤ n) (hc : n ≤ c) :
    Reads w (g + 1) size (if c = k then some ⟨g, 0, none⟩ else some ⟨g, k * size, none⟩) (n - k) (xs.drop (k * size)) := by
  split
  · have hz : n - k = 0 := by omega
    refine ⟨by rw [List.length_drop, h.1, ← Nat.sub_mul], fun h0 => by omega⟩
  · exact own_reads h hk
theorem own_keep (h : w.ownsRow base e size v n xs) (hb : Below w.heap.size w w') : w'.ownsRow base e size v n xs := by
  refine ⟨h.1, ?_⟩
  rcases h.2 with h2 | ⟨g, cap, cur, hv, hg, hh, r⟩
  · exact .inl h2
  · have hlt : g < w.heap.size := by
      rcases Nat.lt_or_ge g w.heap.size with h1 | h1
      · exact h1
      · rw [Array.getElem?_eq_none h1] at hh; cases hh
    exact .inr ⟨g, cap, cur, hv, hg, by rw [hb.block g hlt]; exact hh, r⟩
theorem below_box2 {w w1 : World} (hbase : base ≤ w.heap.size) (hown : w.ownsRow base e size v n xs) {o : Obj} (hg : (w.alloc o).grownBy w1 v.ownBlock) : Below base w w1 :=
  ((Below.refl _ _).alloc hbase o).grown hg (by simp; omega) (own_block_ge hown)
/-- A pair is stored at place b. -/
theorem pc_set (ys : List (Int × Int)) (b : Nat) (p : Int × Int) : ((pc ys).set (b * 2) (.int .i64 p.1)).set (b * 2 + 1) (.int .i64 p.2) = pc (ys.set b p) := by
  induction ys generalizing b with
  | nil => simp [pc]
  | cons q ys ih =>
    cases b with
    | zero => simp [pc_cons]
    | succ b =>
      rw [pc_cons, show (b + 1) * 2 = b * 2 + 1 + 1 by omega, List.set_cons_succ, List.set_cons_succ, List.set_cons_succ, List.set_cons_succ, ih, List.set_cons_succ, pc_cons]
theorem own_store2 {ys : List (Int × Int)} (h : w.ownsRow base e 2 (.slice (some ⟨g, 0, none⟩) n c) n (pc ys)) (b : Nat) (x y : Int) :
    ((w.setCell ⟨g, b * 2, none⟩ (.int .i64 x)).setCell ⟨g, b * 2 + 1, none⟩ (.int .i64 y)).ownsRow base e 2 (.slice (some ⟨g, 0, none⟩) n c) n (pc (ys.set b (x, y))) := by
  have := ((h.stored (b * 2) (.int .i64 x)).1.stored (b * 2 + 1) (.int .i64 y)).1
  rw [pc_set ys b (x, y)] at this
  exact this
theorem own_pair {ys : List (Int × Int)} (h : w.ownsRow base e 2 (.slice (some ⟨g, 0, none⟩) n c) n (pc ys)) {i : Nat} (hi : i < n) :
    w.cell? ⟨g, i * 2, none⟩ = some (.int .i64 (ys[i]?.getD (0, 0)).1) ∧ w.cell? ⟨g, i * 2 + 1, none⟩ = some (.int .i64 (ys[i]?.getD (0, 0)).2) := by
  have hl : ys.length = n := by have := h.1; rw [pc_length] at this; omega
  obtain ⟨h1, h2⟩ := pc_get ys i (by omega)
  rw [h.cellAt _ (by omega), h.cellAt _ (by omega), h1, h2, List.getElem?_eq_getElem (by omega)]
  exact ⟨rfl, rfl⟩
theorem own_empty2 {t : TypeId} (hg : w.heap.size = g) (hb : base ≤ g) : (w.alloc (.cells #[] t)).ownsRow base t size (.slice (some ⟨g, 0, none⟩) 0 0) 0 [] := by
  subst hg
  exact ⟨by simp, .inr ⟨w.heap.size, 0, #[], rfl, hb, heap_alloc_new w _, Nat.le_refl _, Nat.zero_le _, by simp, by simp⟩⟩
theorem blk_new2 {t : TypeId} {cs : Array Value} (hg : w.heap.size = g) : Blk (w.alloc (.cells cs t)) g t cs := by subst hg; exact Blk.new w t cs
theorem reads_blk {t : TypeId} {cs : Array Value} (h : Blk w g t cs) (hs : cs.size = n * size) : Reads w (g + 1) size (some ⟨g, 0, none⟩) n cs.toList := by
  refine ⟨by simpa using hs, fun _ => ⟨_, rfl, by simp, fun j u hu => ?_⟩⟩
  have hadd : (⟨g, 0, none⟩ : Addr).add j = ⟨g, j, none⟩ := by unfold Addr.add; split <;> simp_all
  rw [hadd, h.cell]
  simpa using hu
end
end Go.Proofs.Ytofgjcfiinmimaa.mem

/- Contracts of buckets.Counts and of its reference. -/
namespace Go.Proofs.Ytofgjcfiinmimaa.lst
open Go.RowKit Go.Proofs.Ytofgjcfiinmimaa.mem Go.Proofs.Ytofgjcfiinmimaa.buk
set_option linter.unusedVariables false

def cntN (ys : List (Int × Int)) (N : Nat) : Array Value := ((List.range N).map fun l => Value.int .i64 (cnt ys l)).toArray
theorem cntN_get (ys : List (Int × Int)) (N l : Nat) (h : l < N) : (cntN ys N)[l]? = some (.int .i64 (cnt ys l)) := by
  simp [cntN, h]
theorem cntN_made (N : Nat) : madeCells #[Value.int .i64 0] N = cntN [] N := by
  apply Array.ext'
  simp [madeCells, cntN, cnt_nil, Nat.mod_one]
theorem cntN_step {xs : List (Int × Int)} {i N : Nat} (hi : i < xs.length) (h : 0 ≤ (at_ xs i).2 ∧ (at_ xs i).2 < (N : Int)) :
    (cntN (xs.take i) N).setIfInBounds (at_ xs i).2.toNat (.int .i64 ((cnt (xs.take i) (at_ xs i).2.toNat : Int) + 1)) = cntN (xs.take (i + 1)) N := by
  apply Array.ext'
  apply List.ext_getElem?
  intro j
  simp only [cntN, Array.toList_setIfInBounds, List.getElem?_set, List.length_map, List.length_range, List.getElem?_map]
  by_cases hj : j < N
  · simp only [List.getElem?_range hj, Option.map_some]
    rw [cnt_take hi]
    by_cases e : (at_ xs i).2.toNat = j
    · subst e
      rw [if_pos rfl, if_pos (by omega), if_pos (by omega)]
      simp
    · rw [if_neg e, if_neg (by omega)]
      simp
  · rw [List.getElem?_eq_none (by simpa using hj)]
    rw [if_neg (by omega)]
    simp
theorem cntN_skip {xs : List (Int × Int)} {i N : Nat} (hi : i < xs.length) (h : (N : Int) ≤ (at_ xs i).2) : cntN (xs.take i) N = cntN (xs.take (i + 1)) N := by
  unfold cntN
  congr 1
  apply List.map_congr_left
  intro l hl
  rw [cnt_take hi, if_neg (by have := List.mem_range.1 hl; omega)]
  rfl
def lvOk (xs : List (Int × Int)) (m : Nat) : Prop := ∀ i, i < m → 0 ≤ (at_ xs i).2 ∧ (at_ xs i).2 ≤ 30
open Classical in
noncomputable def countsI (xs : List (Int × Int)) : List Int := if 0 < xs.length ∧ lvOk xs xs.length then (List.range ((at_ xs 0).2.toNat + 1)).map fun l => (cnt xs l : Int) else []
theorem countsI_t {xs : List (Int × Int)} (h : 0 < xs.length ∧ lvOk xs xs.length) : countsI xs = (List.range ((at_ xs 0).2.toNat + 1)).map fun l => (cnt xs l : Int) := if_pos h
theorem countsI_f {xs : List (Int × Int)} (h : ¬ (0 < xs.length ∧ lvOk xs xs.length)) : countsI xs = [] := if_neg h

theorem lvOk_succ {xs : List (Int × Int)} {m : Nat} (h : lvOk xs m) (hm : 0 ≤ (at_ xs m).2 ∧ (at_ xs m).2 ≤ 30) : lvOk xs (m + 1) := fun i hi => by
  rcases Nat.lt_or_ge i m with h1 | h1
  · exact h i h1
  · obtain rfl : i = m := by omega
    exact hm
theorem cntN_list (xs : List (Int × Int)) (N : Nat) : (cntN xs N).toList = ((List.range N).map fun l => (cnt xs l : Int)).map (Value.int .i64) := by
  simp [cntN]
theorem cntN_size (xs : List (Int × Int)) (N : Nat) : (cntN xs N).size = N := by simp [cntN]

end Go.Proofs.Ytofgjcfiinmimaa.lst

/- Contract of Counts in the reference. -/
namespace Go.Proofs.Ytofgjcfiinmimaa.lst
open Go.RowKit Go.Proofs.Ytofgjcfiinmimaa.mem Go.Proofs.Ytofgjcfiinmimaa.buk
set_option linter.unusedVariables false
set_option linter.unusedSimpArgs false
def cntsTo (xs : List (Int × Int)) (l : Nat) : List Int := (List.range l).map fun i => (cnt xs i : Int)
theorem cntsTo_succ (xs : List (Int × Int)) (l : Nat) : cntsTo xs (l + 1) = cntsTo xs l ++ [(cnt xs l : Int)] := by simp [cntsTo, List.range_succ]
theorem cntsTo_zero (xs : List (Int × Int)) : cntsTo xs 0 = [] := rfl
end Go.Proofs.Ytofgjcfiinmimaa.lst
