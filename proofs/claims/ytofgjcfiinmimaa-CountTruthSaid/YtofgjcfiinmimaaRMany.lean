/- Contract of the reference's InsertMany. -/
import Derived.Test.YtofgjcfiinmimaaMgMany
import Derived.Test.YtofgjcfiinmimaaMgKeepM
namespace Go.Proofs.Ytofgjcfiinmimaa.lst
open Go.RowKit Go.Proofs.Ytofgjcfiinmimaa.mem Go.Proofs.Ytofgjcfiinmimaa.buk
set_option linter.unusedVariables false

theorem putR_length (k : Nat) : ∀ (f : Nat) (xs : List (Int × Int)) (l : Nat), (putR k f xs l).length ≤ xs.length
  | 0, _, _ => Nat.le_refl _
  | f + 1, xs, l => by
    by_cases h : cnt xs l ≤ k + 1
    · rw [putR_stop h]; exact Nat.le_refl _
    · rw [putR_go h]
      have ih := putR_length k f (joined xs (firstTo xs l xs.length).toNat l) (l + 1)
      rcases firstTo_spec xs l xs.length (Nat.le_refl _) with ⟨_, h2⟩ | ⟨b, h1, h2, h3⟩
      · rw [List.take_of_length_le (Nat.le_refl _)] at h2; omega
      · rw [List.take_of_length_le (Nat.le_refl _)] at h3
        rw [h1, Int.toNat_natCast] at ih ⊢
        rcases Nat.lt_or_ge (b + 1) xs.length with h4 | h4
        · have := joined_length (xs := xs) (b := b) (l := (l : Int)) h4
          omega
        · omega
theorem putC_length (xs : List (Int × Int)) (k : Nat) (t : Int) : (putC xs k t).length ≤ xs.length + 1 := by
  have := putR_length k 31 (xs ++ [(t, 0)]) 0
  simpa [putC] using this
theorem insM_length (xs : List (Int × Int)) (k t n : Int) : (insM xs k t n).length ≤ xs.length + 1024 := by
  by_cases h : manyP xs k t n
  · rw [insM_t h]
    have h1 := (validB_iff.1 h.1).1
    have h2 := h.2.2.1
    have := iterIns_length k.toNat (by omega) t n.toNat xs
    omega
  · rw [insM_f h]; simp
theorem lastT_tail {xs : List (Int × Int)} {t : Int} (h : lastT xs ≤ t) : 0 < xs.length → tailT xs ≤ t := fun h0 => by
  unfold lastT at h
  rw [if_neg (by omega)] at h
  exact h

set_option maxHeartbeats 8000000 in
set_option maxRecDepth 100000 in
theorem InsertManyRef_any (A : Option Addr) (n c : Nat) (xs : List (Int × Int)) (k t : Int) (cn : Int) (w : World) (h1 : PRead w w.heap.size A n xs) (hnc : n ≤ c) (hcm : c ≤ maxLen) (hsmall : n ≤ 50000) (hcn : -9223372036854775808 ≤ cn ∧ cn ≤ 9223372036854775807) :
    Calls Try.prog 77 #[.slice A n c, .int .i64 k, .int .i64 t, .int .i64 cn] w (NewP (insM xs k t cn) w) := by
  have hcm9 : c ≤ 9223372036854775807 := hcm
  clear hcm
  have HV := Lib.hid (ValidRef_any A n c xs k w h1 (by omega))
  have HK := Lib.hid (fun W => TickRef_any t W)
  have HM := Lib.hid (fun W (hb : Below w.heap.size w W) => last_any A n c xs W w.heap.size (h1.below hb) (by omega))
  have HT := Lib.hid (fun W (hb : Below w.heap.size w W) => TotalRef_any A n c xs W ((h1.below hb).more hb.size) (by omega))
  by_cases hv : validB xs k = true
  · rw [hv] at HV
    by_cases ha : 0 ≤ cn ∧ cn ≤ 1024
    · by_cases htk : 0 ≤ t ∧ t ≤ 16777216
      · rw [tickB_iff.2 htk] at HK
        by_cases hm : lastT xs ≤ t
        · have hmb := mayB_iff.2 ⟨htk, hm⟩
          have hvp := validB_iff.1 hv
          have hk := hvp.1
          have H1 := Lib.hid h1
          obtain ⟨m, rfl⟩ := Int.eq_ofNat_of_zero_le ha.1
          obtain ⟨kk, rfl⟩ := Int.eq_ofNat_of_zero_le (show 0 ≤ k by omega)
          obtain ⟨hk1, hk2⟩ : 1 ≤ kk ∧ kk ≤ 128 := by omega
          have hm1024 : m ≤ 1024 := by omega
          have hwt := wgt_total hvp.2.1
          have htl := lastT_tail hm
          unfold TotOk at HT
          by_cases h0 : 0 < m
          · by_cases ht : (totalN xs : Int) ≤ 1073741824 - m
            · have HI : Hid (insM xs kk t m = iterPut kk t m xs) := by
                rw [Hid, insM_t (xs := xs) (k := kk) (t := t) (n := m) ⟨hv, hmb, ha, fun _ => ht⟩, Int.toNat_natCast, Int.toNat_natCast]
                exact (iterPut_eq hk1 htk m xs hvp htl (by omega)).symm
              have ht2 : (totalN xs : Int) + m ≤ 1073741824 := by omega
              have ht0 : 0 ≤ (totalN xs : Int) := by omega
              clear hv hmb hk hvp ht h1 hwt htl ha
              generalize ((totalN xs : Nat) : Int) = tt at *
              generalize lastT xs = lt at *
              go_enter Try.func77, Try.ntmps77
              go_wp2_with (first | (go_at_call 94; refine HV.out.mono ?_; rintro e w1 ⟨rfl, hb1⟩; have HB1 := Lib.hid hb1; clear hb1) | (go_at_call 89; refine (HK.out _).mono ?_; rintro e w2 ⟨rfl, rfl⟩) | (go_at_call 95; refine (HM.out _ HB1.out).mono ?_; rintro e w2 ⟨rfl, rfl⟩) | (go_at_call 67; refine (HT.out _ HB1.out).mono ?_; rintro e w3 ⟨rfl, hb3⟩; have HB3 := Lib.hid (HB1.out.trans (hb3.mono HB1.out.size)); clear hb3))
              have HX0 : Hid (Reads w3 w3.heap.size 2 A n (pc xs)) := (H1.out.below HB3.out).more HB3.out.size
              go_loopg [0, 3] m (fun kx s0 s3 wr => ∃ (j : Nat) (ys : List (Int × Int)) (A5 : Option Addr) (l5 c5 : Nat), s3 = .int .i64 j ∧ s0 = .slice A5 l5 c5 ∧ j ≤ kx ∧ l5 + j ≤ 52000 ∧ l5 ≤ c5 ∧ c5 ≤ 9223372036854775807 ∧ Hid (Reads wr wr.heap.size 2 A5 l5 (pc ys)) ∧ Hid (Below w.heap.size w wr) ∧ Hid (iterPut kk t j ys = iterPut kk t m xs))
              case atStart => exact ⟨m, xs, A, n, c, rfl, rfl, Nat.le_refl _, by omega, hnc, hcm9, HX0, HB3, (rfl : iterPut kk t m xs = iterPut kk t m xs)⟩
              case round =>
                obtain ⟨j, ys, A5, l5, c5, rfl, rfl, hj, hlen, hlc, hc9, HR, HB, HE⟩ := hrel
                clear HX0 HB3
                by_cases h0 : 0 < j
                · obtain ⟨j, rfl⟩ : ∃ j', j = j' + 1 := ⟨j - 1, by omega⟩
                  have HX := Lib.hid (put_any A5 l5 c5 ys kk t wr HR.out (by omega) hk1 hk2)
                  have hly : ys.length = l5 := PRead.len (xs := ys) HR.out
                  have hgl := putC_length ys kk t
                  rw [hly] at hgl
                  have HE2 : Hid (iterPut kk t j (putC ys kk t) = iterPut kk t m xs) := HE.out
                  clear hly
                  generalize putC ys kk t = zs at *
                  go_wp2_with (go_at_call 96; refine HX.out.mono ?_; rintro e w5 ⟨A6, l6, c6, rfl, r1, r2, hr5, hb5⟩; have HB6 := Lib.hid (HB.out.trans (hb5.mono HB.out.size)); have HR6 := Lib.hid hr5; have r9 : c6 ≤ 9223372036854775807 := r2; have hl6 := hr5.len; clear hr5 hb5 r2)
                  go_roundg j
                  case measure => omega
                  case rel => exact ⟨j, zs, A6, l6, c6, by go_num, rfl, Nat.le_refl _, by omega, r1, r9, HR6, HB6, HE2⟩
                · obtain rfl : j = 0 := by omega
                  go_wp2
                  go_ret
                  rw [HI.out, ← HE.out]
                  exact ⟨A5, l5, c5, rfl, hlc, hc9, HR.out, HB.out⟩
            · have HI := Lib.hid (insM_f (xs := xs) (k := kk) (t := t) (n := m) (fun h => ht (h.2.2.2 (by omega))))
              have ht2 : 1073741824 < (totalN xs : Int) + m := by omega
              have ht3 : (totalN xs : Int) ≤ 70368744177664 := by have := totalN_le xs; have := h1.len; omega
              have ht0 : 0 ≤ (totalN xs : Int) := by omega
              clear hv hmb hk hvp ht h1 hwt htl ha
              generalize ((totalN xs : Nat) : Int) = tt at *
              generalize lastT xs = lt at *
              go_enter Try.func77, Try.ntmps77
              go_wp2_with (first | (go_at_call 94; refine HV.out.mono ?_; rintro e w1 ⟨rfl, hb1⟩; have HB1 := Lib.hid hb1; clear hb1) | (go_at_call 89; refine (HK.out _).mono ?_; rintro e w2 ⟨rfl, rfl⟩) | (go_at_call 95; refine (HM.out _ HB1.out).mono ?_; rintro e w2 ⟨rfl, rfl⟩) | (go_at_call 67; refine (HT.out _ HB1.out).mono ?_; rintro e w3 ⟨rfl, hb3⟩; have HB3 := Lib.hid (HB1.out.trans (hb3.mono HB1.out.size)); clear hb3))
              go_ret
              rw [HI.out]
              exact newP_nil _ _ HB3.out
          · obtain rfl : m = 0 := by omega
            have HI : Hid (insM xs kk t 0 = xs) := (insM_t (n := ((0 : Nat) : Int)) ⟨hv, hmb, ha, fun h => by omega⟩ : insM xs kk t ((0 : Nat) : Int) = iterIns kk t 0 xs)
            clear hv hmb hk hvp h1 hwt htl ha h0 HT
            generalize lastT xs = lt at *
            go_enter Try.func77, Try.ntmps77
            go_wp2_with (first | (go_at_call 94; refine HV.out.mono ?_; rintro e w1 ⟨rfl, hb1⟩; have HB1 := Lib.hid hb1; clear hb1) | (go_at_call 89; refine (HK.out _).mono ?_; rintro e w2 ⟨rfl, rfl⟩) | (go_at_call 95; refine (HM.out _ HB1.out).mono ?_; rintro e w2 ⟨rfl, rfl⟩))
            go_loop [0, 3] (fun s0 s3 => s3 = .int .i64 0 ∧ s0 = .slice A n c) (fun _ _ => 0)
            case atStart => exact ⟨rfl, rfl⟩
            case round =>
              obtain ⟨rfl, rfl⟩ := hrel
              go_wp2
              go_ret
              rw [HI.out]
              exact ⟨A, n, c, rfl, hnc, hcm9, (H1.out.below HB1.out).more HB1.out.size, HB1.out⟩
        · have HI := Lib.hid (insM_f (xs := xs) (k := k) (t := t) (n := cn) (fun h => hm (mayB_iff.1 h.2.1).2))
          obtain ⟨a1, a2⟩ := ha
          clear hv h1 HT
          generalize lastT xs = lt at *
          go_enter Try.func77, Try.ntmps77
          go_wp2_with (first | (go_at_call 94; refine HV.out.mono ?_; rintro e w1 ⟨rfl, hb1⟩; have HB1 := Lib.hid hb1; clear hb1) | (go_at_call 89; refine (HK.out _).mono ?_; rintro e w2 ⟨rfl, rfl⟩) | (go_at_call 95; refine (HM.out _ HB1.out).mono ?_; rintro e w2 ⟨rfl, rfl⟩))
          go_ret
          rw [HI.out]
          exact newP_nil _ _ HB1.out
      · rw [tickB_iff0.2 htk] at HK
        obtain ⟨a1, a2⟩ := ha
        have HI := Lib.hid (insM_f (xs := xs) (k := k) (t := t) (n := cn) (fun h => htk (mayB_iff.1 h.2.1).1))
        clear hv h1 HT HM
        go_enter Try.func77, Try.ntmps77
        go_wp2_with (first | (go_at_call 94; refine HV.out.mono ?_; rintro e w1 ⟨rfl, hb1⟩; have HB1 := Lib.hid hb1; clear hb1) | (go_at_call 89; refine (HK.out _).mono ?_; rintro e w2 ⟨rfl, rfl⟩))
        go_ret
        rw [HI.out]
        exact newP_nil _ _ HB1.out
    · have HI := Lib.hid (insM_f (xs := xs) (k := k) (t := t) (n := cn) (fun h => ha h.2.2.1))
      clear hv h1 HT HM
      by_cases a1 : 0 ≤ cn
      · have a2 : 1024 < cn := by omega
        clear ha
        go_enter Try.func77, Try.ntmps77
        go_wp2_with (go_at_call 94; refine HV.out.mono ?_; rintro e w1 ⟨rfl, hb1⟩; have HB1 := Lib.hid hb1; clear hb1)
        go_ret
        rw [HI.out]
        exact newP_nil _ _ HB1.out
      · clear ha
        go_enter Try.func77, Try.ntmps77
        go_wp2_with (go_at_call 94; refine HV.out.mono ?_; rintro e w1 ⟨rfl, hb1⟩; have HB1 := Lib.hid hb1; clear hb1)
        go_ret
        rw [HI.out]
        exact newP_nil _ _ HB1.out
  · have HI := Lib.hid (insM_f (xs := xs) (k := k) (t := t) (n := cn) (fun h => hv h.1))
    have hv2 : validB xs k = false := by simpa using hv
    rw [hv2] at HV
    clear hv hv2 h1 HT HM
    go_enter Try.func77, Try.ntmps77
    go_wp2_with (go_at_call 94; refine HV.out.mono ?_; rintro e w1 ⟨rfl, hb1⟩; have HB1 := Lib.hid hb1; clear hb1)
    go_ret
    rw [HI.out]
    exact newP_nil _ _ HB1.out
end Go.Proofs.Ytofgjcfiinmimaa.lst
