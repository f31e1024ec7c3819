/- Contracts of the reference's last and Insert. -/
import Derived.Test.YtjapjfcennemeaaInsert
import Derived.Test.YtjapjfcennemeaaPut
import Derived.Test.YtjapjfcennemeaaMgPutEq
import Derived.Test.YtjapjfcennemeaaValidR
namespace Go.Proofs.Ytjapjfcennemeaa.lst
open Go.RowKit Go.Proofs.Ytjapjfcennemeaa.mem Go.Proofs.Ytjapjfcennemeaa.buk
set_option linter.unusedVariables false

set_option maxHeartbeats 2000000 in
theorem last_any (A : Option Addr) (n c : Nat) (xs : List (Int × Int)) (w : World) (B : Nat) (h1 : PRead w B A n xs) (hsmall : n ≤ 65536) :
    Calls Try.prog 85 #[.slice A n c] w fun e w' => e = .returned (.int .i64 (lastT xs)) ∧ w = w' := by
  have hl := h1.len
  by_cases h0 : 0 < n
  · obtain ⟨ad, rfl, _, hc1, _⟩ := h1.at_ (show n - 1 < n by omega)
    change w.cell? (ad.add ((n - 1) * 2)) = some (.int .i64 (at_ xs (n - 1)).1) at hc1
    have HR : Hid (lastT xs = (at_ xs (n - 1)).1) := by unfold lastT; rw [if_neg (by omega), hl]; rfl
    clear hl h1
    generalize (at_ xs (n - 1)).1 = z at *
    go_enter Try.func85, Try.ntmps85
    go_wp2
    go_ret
    exact ⟨ret_int HR.out.symm, rfl⟩
  · obtain rfl : n = 0 := by omega
    have HR : Hid (lastT xs = 0) := by unfold lastT; rw [if_pos hl]; rfl
    clear hl h1
    go_enter Try.func85, Try.ntmps85
    go_wp2
    go_ret
    exact ⟨ret_int HR.out.symm, rfl⟩

theorem wgt_total {xs : List (Int × Int)} (h : ordOk xs xs.length) : wgt xs = totalN xs := by
  have hl : ∀ p ∈ xs, 0 ≤ p.2 ∧ p.2 ≤ 30 := by
    intro p hp
    obtain ⟨i, hi, rfl⟩ := List.mem_iff_getElem.1 hp
    have := (h i hi).2.1
    simpa [at_, List.getElem?_eq_getElem hi] using this
  clear h
  induction xs with
  | nil => rfl
  | cons p r ih =>
    have h1 := hl p (List.mem_cons_self ..)
    simp only [wgt, totalN, ih (fun q hq => hl q (List.mem_cons_of_mem _ hq))]
    unfold wt
    rw [if_pos h1]

theorem insI_length (xs : List (Int × Int)) (k t : Int) : (insI xs k t).length ≤ xs.length + 1 := by
  by_cases h : validB xs k = true ∧ mayB xs t = true ∧ totalN xs < 1073741824
  · rw [insI_t h]
    have := (validB_iff.1 h.1).1
    exact insC_length xs k.toNat (by omega) t
  · rw [insI_f h]; simp

set_option maxHeartbeats 4000000 in
set_option maxRecDepth 100000 in
theorem InsertRef_any (A : Option Addr) (n c : Nat) (xs : List (Int × Int)) (k t : Int) (w : World) (h1 : PRead w w.heap.size A n xs) (hsmall : n ≤ 60000) :
    Calls Try.prog 26 #[.slice A n c, .int .i64 k, .int .i64 t] w (NewP (insI xs k t) w) := by
  have HV := Lib.hid (ValidRef_any A n c xs k w h1 (by omega))
  have HK := Lib.hid (fun W => TickRef_any t W)
  have HM := Lib.hid (fun W (hb : Below w.heap.size w W) => last_any A n c xs W w.heap.size (h1.below hb) (by omega))
  have HT := Lib.hid (fun W (hb : Below w.heap.size w W) => TotalRef_any A n c xs W ((h1.below hb).more hb.size) (by omega))
  by_cases hv : validB xs k = true
  · rw [hv] at HV
    by_cases htk : 0 ≤ t ∧ t ≤ 16777216
    · rw [tickB_iff.2 htk] at HK
      by_cases hm : lastT xs ≤ t
      · have hmb := mayB_iff.2 ⟨htk, hm⟩
        by_cases ht : totalN xs < 1073741824
        · have hvp := validB_iff.1 hv
          have hk := hvp.1
          obtain ⟨kk, rfl⟩ := Int.eq_ofNat_of_zero_le (show 0 ≤ k by omega)
          obtain ⟨hk1, hk2⟩ : 1 ≤ kk ∧ kk ≤ 128 := by omega
          have HI : Hid (insI xs kk t = putC xs kk t) := by
            rw [Hid, insI_t (xs := xs) (k := kk) (t := t) ⟨hv, hmb, ht⟩, Int.toNat_natCast]
            exact (putC_eq hk1 hvp.2.1 (by rw [wgt_total hvp.2.1]; exact ht) t).symm
          have HP := Lib.hid (fun W (hb : Below w.heap.size w W) => put_any A n c xs kk t W ((h1.below hb).more hb.size) (by omega) hk1 hk2)
          have hti : (totalN xs : Int) < 1073741824 := by omega
          clear hv hmb hk hvp ht h1
          unfold TotOk at HT
          generalize ((totalN xs : Nat) : Int) = tt at *
          generalize lastT xs = lt at *
          go_enter Try.func26, Try.ntmps26
          go_wp2_with (first | (go_at_call 70; refine HV.out.mono ?_; rintro e w1 ⟨rfl, hb1⟩; have HB1 := Lib.hid hb1; clear hb1) | (go_at_call 79; refine (HK.out _).mono ?_; rintro e w2 ⟨rfl, rfl⟩) | (go_at_call 85; refine (HM.out _ HB1.out).mono ?_; rintro e w2 ⟨rfl, rfl⟩) | (go_at_call 75; refine (HT.out _ HB1.out).mono ?_; rintro e w3 ⟨rfl, hb3⟩; have HB3 := Lib.hid (HB1.out.trans (hb3.mono HB1.out.size)); clear hb3) | (go_at_call 86; refine (HP.out _ HB3.out).mono ?_; rintro e w5 ⟨A5, m5, c5, rfl, r1, r2, hr5, hb5⟩; have HB5 := Lib.hid (HB3.out.trans (hb5.mono HB3.out.size)); have HR5 := Lib.hid hr5; clear hr5 hb5))
          go_ret
          rw [HI.out]
          exact ⟨A5, m5, c5, rfl, r1, r2, HR5.out, HB5.out⟩
        · have HI := Lib.hid (insI_f (xs := xs) (k := k) (t := t) (fun h => ht h.2.2))
          have hti : 1073741824 ≤ (totalN xs : Int) := by omega
          clear hv hmb ht h1
          unfold TotOk at HT
          generalize ((totalN xs : Nat) : Int) = tt at *
          generalize lastT xs = lt at *
          go_enter Try.func26, Try.ntmps26
          go_wp2_with (first | (go_at_call 70; refine HV.out.mono ?_; rintro e w1 ⟨rfl, hb1⟩; have HB1 := Lib.hid hb1; clear hb1) | (go_at_call 79; refine (HK.out _).mono ?_; rintro e w2 ⟨rfl, rfl⟩) | (go_at_call 85; refine (HM.out _ HB1.out).mono ?_; rintro e w2 ⟨rfl, rfl⟩) | (go_at_call 75; refine (HT.out _ HB1.out).mono ?_; rintro e w3 ⟨rfl, hb3⟩; have HB3 := Lib.hid (HB1.out.trans (hb3.mono HB1.out.size)); clear hb3))
          go_ret
          rw [HI.out]
          exact newP_nil _ _ HB3.out
      · have HI := Lib.hid (insI_f (xs := xs) (k := k) (t := t) (fun h => hm (mayB_iff.1 h.2.1).2))
        clear hv h1 HT
        generalize lastT xs = lt at *
        go_enter Try.func26, Try.ntmps26
        go_wp2_with (first | (go_at_call 70; refine HV.out.mono ?_; rintro e w1 ⟨rfl, hb1⟩; have HB1 := Lib.hid hb1; clear hb1) | (go_at_call 79; refine (HK.out _).mono ?_; rintro e w2 ⟨rfl, rfl⟩) | (go_at_call 85; refine (HM.out _ HB1.out).mono ?_; rintro e w2 ⟨rfl, rfl⟩))
        go_ret
        rw [HI.out]
        exact newP_nil _ _ HB1.out
    · rw [tickB_iff0.2 htk] at HK
      have HI := Lib.hid (insI_f (xs := xs) (k := k) (t := t) (fun h => htk (mayB_iff.1 h.2.1).1))
      clear hv h1 HT HM
      go_enter Try.func26, Try.ntmps26
      go_wp2_with (first | (go_at_call 70; refine HV.out.mono ?_; rintro e w1 ⟨rfl, hb1⟩; have HB1 := Lib.hid hb1; clear hb1) | (go_at_call 79; refine (HK.out _).mono ?_; rintro e w2 ⟨rfl, rfl⟩))
      go_ret
      rw [HI.out]
      exact newP_nil _ _ HB1.out
  · have HI := Lib.hid (insI_f (xs := xs) (k := k) (t := t) (fun h => hv h.1))
    have hv2 : validB xs k = false := by simpa using hv
    rw [hv2] at HV
    clear hv hv2 h1 HT HM
    go_enter Try.func26, Try.ntmps26
    go_wp2_with (go_at_call 70; refine HV.out.mono ?_; rintro e w1 ⟨rfl, hb1⟩; have HB1 := Lib.hid hb1; clear hb1)
    go_ret
    rw [HI.out]
    exact newP_nil _ _ HB1.out
end Go.Proofs.Ytjapjfcennemeaa.lst
