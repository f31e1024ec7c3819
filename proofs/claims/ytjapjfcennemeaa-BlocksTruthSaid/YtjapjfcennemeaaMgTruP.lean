/- Insert; RIns; BPlnL; TruP: texts in one. -/
import Derived.Test.YtjapjfcennemeaaMgIns
import Derived.Test.YtjapjfcennemeaaMgValidR
import Derived.Test.YtjapjfcennemeaaPut
import Derived.Test.YtjapjfcennemeaaMgPutEq
import Derived.Test.YtjapjfcennemeaaMgBLaw
import Derived.Test.YtjapjfcennemeaaMgCnt8
import Derived.Test.YtjapjfcennemeaaBAsk
import Derived.Test.YtjapjfcennemeaaBExp
set_option linter.unusedVariables false
set_option linter.unusedSimpArgs false
/- Contracts of buckets.may, Insert and InsertMany. -/
namespace Go.Proofs.Ytjapjfcennemeaa.lst
open Go.RowKit Go.Proofs.Ytjapjfcennemeaa.mem Go.Proofs.Ytjapjfcennemeaa.buk
set_option linter.unusedVariables false

def lastT (xs : List (Int × Int)) : Int := if xs.length = 0 then 0 else (at_ xs (xs.length - 1)).1
def mayB (xs : List (Int × Int)) (t : Int) : Bool := decide ((0 ≤ t ∧ t ≤ 16777216) ∧ lastT xs ≤ t)
theorem mayB_iff {xs : List (Int × Int)} {t : Int} : mayB xs t = true ↔ (0 ≤ t ∧ t ≤ 16777216) ∧ lastT xs ≤ t := by simp [mayB]
theorem mayB_f {xs : List (Int × Int)} {t : Int} (h : ¬ ((0 ≤ t ∧ t ≤ 16777216) ∧ lastT xs ≤ t)) : mayB xs t = false := by
  cases hb : mayB xs t with
  | false => rfl
  | true => exact absurd (mayB_iff.1 hb) h

open Classical in
noncomputable def insI (xs : List (Int × Int)) (k t : Int) : List (Int × Int) :=
  if validB xs k = true ∧ mayB xs t = true ∧ totalN xs < 1073741824 then insC xs k.toNat t else []
theorem insI_t {xs : List (Int × Int)} {k t : Int} (h : validB xs k = true ∧ mayB xs t = true ∧ totalN xs < 1073741824) : insI xs k t = insC xs k.toNat t := if_pos h
theorem insI_f {xs : List (Int × Int)} {k t : Int} (h : ¬ (validB xs k = true ∧ mayB xs t = true ∧ totalN xs < 1073741824)) : insI xs k t = [] := if_neg h
theorem newP_nil (w w' : World) (hb : Below w.heap.size w w') : NewP [] w (.returned (.slice none 0 0)) w' := ⟨none, 0, 0, rfl, Nat.le_refl _, Nat.zero_le _, .nil_, hb⟩

end Go.Proofs.Ytjapjfcennemeaa.lst

/- Contracts of the reference's last and Insert. -/
namespace Go.Proofs.Ytjapjfcennemeaa.lst
open Go.RowKit Go.Proofs.Ytjapjfcennemeaa.mem Go.Proofs.Ytjapjfcennemeaa.buk
set_option linter.unusedVariables false

set_option maxHeartbeats 2000000 in
theorem last_any (A : Option Addr) (n c : Nat) (xs : List (Int × Int)) (w : World) (B : Nat) (h1 : PRead w B A n xs) (hsmall : n ≤ 65536) :
    Calls Try.prog 85 #[.slice A n c] w fun e w' => e = .returned (.int .i64 (lastT xs)) ∧ w = w' := by
  have hl := h1.len
  by_cases h0 : 0 < n
  · obtain ⟨ad, rfl, _, hc1, _⟩ := h1.at_ (show n - 1 < n by omega)
    change w.cell? (ad.add ((n - 1) * 2)) = some (.int .i64 (at_ xs (n - 1)).1) at hc1
    have HR : Hid (lastT xs = (at_ xs (n - 1)).1) := by unfold lastT; rw [if_neg (by omega), hl]; rfl
    clear hl h1
    generalize (at_ xs (n - 1)).1 = z at *
    go_enter Try.func85, Try.ntmps85
    go_wp2
    go_ret
    exact ⟨ret_int HR.out.symm, rfl⟩
  · obtain rfl : n = 0 := by omega
    have HR : Hid (lastT xs = 0) := by unfold lastT; rw [if_pos hl]; rfl
    clear hl h1
    go_enter Try.func85, Try.ntmps85
    go_wp2
    go_ret
    exact ⟨ret_int HR.out.symm, rfl⟩

theorem wgt_total {xs : List (Int × Int)} (h : ordOk xs xs.length) : wgt xs = totalN xs := by
  have hl : ∀ p ∈ xs, 0 ≤ p.2 ∧ p.2 ≤ 30 := by
    intro p hp
    obtain ⟨i, hi, rfl⟩ := List.mem_iff_getElem.1 hp
    have := (h i hi).2.1
    simpa [at_, List.getElem?_eq_getElem hi] using this
  clear h
  induction xs with
  | nil => rfl
  | cons p r ih =>
    have h1 := hl p (List.mem_cons_self ..)
    simp only [wgt, totalN, ih (fun q hq => hl q (List.mem_cons_of_mem _ hq))]
    unfold wt
    rw [if_pos h1]

theorem insI_length (xs : List (Int × Int)) (k t : Int) : (insI xs k t).length ≤ xs.length + 1 := by
  by_cases h : validB xs k = true ∧ mayB xs t = true ∧ totalN xs < 1073741824
  · rw [insI_t h]
    have := (validB_iff.1 h.1).1
    exact insC_length xs k.toNat (by omega) t
  · rw [insI_f h]; simp

set_option maxHeartbeats 4000000 in
set_option maxRecDepth 100000 in
theorem InsertRef_any (A : Option Addr) (n c : Nat) (xs : List (Int × Int)) (k t : Int) (w : World) (h1 : PRead w w.heap.size A n xs) (hsmall : n ≤ 60000) :
    Calls Try.prog 26 #[.slice A n c, .int .i64 k, .int .i64 t] w (NewP (insI xs k t) w) := by
  have HV := Lib.hid (ValidRef_any A n c xs k w h1 (by omega))
  have HK := Lib.hid (fun W => TickRef_any t W)
  have HM := Lib.hid (fun W (hb : Below w.heap.size w W) => last_any A n c xs W w.heap.size (h1.below hb) (by omega))
  have HT := Lib.hid (fun W (hb : Below w.heap.size w W) => TotalRef_any A n c xs W ((h1.below hb).more hb.size) (by omega))
  by_cases hv : validB xs k = true
  · rw [hv] at HV
    by_cases htk : 0 ≤ t ∧ t ≤ 16777216
    · rw [tickB_iff.2 htk] at HK
      by_cases hm : lastT xs ≤ t
      · have hmb := mayB_iff.2 ⟨htk, hm⟩
        by_cases ht : totalN xs < 1073741824
        · have hvp := validB_iff.1 hv
          have hk := hvp.1
          obtain ⟨kk, rfl⟩ := Int.eq_ofNat_of_zero_le (show 0 ≤ k by omega)
          obtain ⟨hk1, hk2⟩ : 1 ≤ kk ∧ kk ≤ 128 := by omega
          have HI : Hid (insI xs kk t = putC xs kk t) := by
            rw [Hid, insI_t (xs := xs) (k := kk) (t := t) ⟨hv, hmb, ht⟩, Int.toNat_natCast]
            exact (putC_eq hk1 hvp.2.1 (by rw [wgt_total hvp.2.1]; exact ht) t).symm
          have HP := Lib.hid (fun W (hb : Below w.heap.size w W) => put_any A n c xs kk t W ((h1.below hb).more hb.size) (by omega) hk1 hk2)
          have hti : (totalN xs : Int) < 1073741824 := by omega
          clear hv hmb hk hvp ht h1
          unfold TotOk at HT
          generalize ((totalN xs : Nat) : Int) = tt at *
          generalize lastT xs = lt at *
          go_enter Try.func26, Try.ntmps26
          go_wp2_with (first | (go_at_call 70; refine HV.out.mono ?_; rintro e w1 ⟨rfl, hb1⟩; have HB1 := Lib.hid hb1; clear hb1) | (go_at_call 79; refine (HK.out _).mono ?_; rintro e w2 ⟨rfl, rfl⟩) | (go_at_call 85; refine (HM.out _ HB1.out).mono ?_; rintro e w2 ⟨rfl, rfl⟩) | (go_at_call 75; refine (HT.out _ HB1.out).mono ?_; rintro e w3 ⟨rfl, hb3⟩; have HB3 := Lib.hid (HB1.out.trans (hb3.mono HB1.out.size)); clear hb3) | (go_at_call 86; refine (HP.out _ HB3.out).mono ?_; rintro e w5 ⟨A5, m5, c5, rfl, r1, r2, hr5, hb5⟩; have HB5 := Lib.hid (HB3.out.trans (hb5.mono HB3.out.size)); have HR5 := Lib.hid hr5; clear hr5 hb5))
          go_ret
          rw [HI.out]
          exact ⟨A5, m5, c5, rfl, r1, r2, HR5.out, HB5.out⟩
        · have HI := Lib.hid (insI_f (xs := xs) (k := k) (t := t) (fun h => ht h.2.2))
          have hti : 1073741824 ≤ (totalN xs : Int) := by omega
          clear hv hmb ht h1
          unfold TotOk at HT
          generalize ((totalN xs : Nat) : Int) = tt at *
          generalize lastT xs = lt at *
          go_enter Try.func26, Try.ntmps26
          go_wp2_with (first | (go_at_call 70; refine HV.out.mono ?_; rintro e w1 ⟨rfl, hb1⟩; have HB1 := Lib.hid hb1; clear hb1) | (go_at_call 79; refine (HK.out _).mono ?_; rintro e w2 ⟨rfl, rfl⟩) | (go_at_call 85; refine (HM.out _ HB1.out).mono ?_; rintro e w2 ⟨rfl, rfl⟩) | (go_at_call 75; refine (HT.out _ HB1.out).mono ?_; rintro e w3 ⟨rfl, hb3⟩; have HB3 := Lib.hid (HB1.out.trans (hb3.mono HB1.out.size)); clear hb3))
          go_ret
          rw [HI.out]
          exact newP_nil _ _ HB3.out
      · have HI := Lib.hid (insI_f (xs := xs) (k := k) (t := t) (fun h => hm (mayB_iff.1 h.2.1).2))
        clear hv h1 HT
        generalize lastT xs = lt at *
        go_enter Try.func26, Try.ntmps26
        go_wp2_with (first | (go_at_call 70; refine HV.out.mono ?_; rintro e w1 ⟨rfl, hb1⟩; have HB1 := Lib.hid hb1; clear hb1) | (go_at_call 79; refine (HK.out _).mono ?_; rintro e w2 ⟨rfl, rfl⟩) | (go_at_call 85; refine (HM.out _ HB1.out).mono ?_; rintro e w2 ⟨rfl, rfl⟩))
        go_ret
        rw [HI.out]
        exact newP_nil _ _ HB1.out
    · rw [tickB_iff0.2 htk] at HK
      have HI := Lib.hid (insI_f (xs := xs) (k := k) (t := t) (fun h => htk (mayB_iff.1 h.2.1).1))
      clear hv h1 HT HM
      go_enter Try.func26, Try.ntmps26
      go_wp2_with (first | (go_at_call 70; refine HV.out.mono ?_; rintro e w1 ⟨rfl, hb1⟩; have HB1 := Lib.hid hb1; clear hb1) | (go_at_call 79; refine (HK.out _).mono ?_; rintro e w2 ⟨rfl, rfl⟩))
      go_ret
      rw [HI.out]
      exact newP_nil _ _ HB1.out
  · have HI := Lib.hid (insI_f (xs := xs) (k := k) (t := t) (fun h => hv h.1))
    have hv2 : validB xs k = false := by simpa using hv
    rw [hv2] at HV
    clear hv hv2 h1 HT HM
    go_enter Try.func26, Try.ntmps26
    go_wp2_with (go_at_call 70; refine HV.out.mono ?_; rintro e w1 ⟨rfl, hb1⟩; have HB1 := Lib.hid hb1; clear hb1)
    go_ret
    rw [HI.out]
    exact newP_nil _ _ HB1.out
end Go.Proofs.Ytjapjfcennemeaa.lst

/- Plain: the plain buckets of an insertion into blocks, number of blocks. -/
namespace Go.Proofs.Ytjapjfcennemeaa.rnk
open Go.Proofs.Ytjapjfcennemeaa.mem Go.Proofs.Ytjapjfcennemeaa.buk
open Go.Proofs.Ytjapjfcennemeaa.lst (insI insI_t mayB mayB_iff lastT totalN)
set_option linter.unusedVariables false
theorem len_wgt : ∀ xs : L2, xs.length ≤ wgt xs
  | [] => Nat.le_refl _
  | p :: r => by
    have h1 := len_wgt r
    have h2 : 1 ≤ 2 ^ p.2.toNat := Nat.one_le_two_pow
    have e : wgt (p :: r) = 2 ^ p.2.toNat + wgt r := rfl
    rw [e, List.length_cons]; omega
theorem len_total {xs : List K5} {k b : Int} (h : validK xs k b = true) : xs.length ≤ totalK xs := by
  have h1 := (validB_iff.1 (validK_iff.1 h).2.1).2.1
  have h2 := wgt_tot h1
  have h3 := len_wgt (plainK xs)
  rw [plainK_length] at h3
  unfold totalK
  omega
theorem lastT_plain (xs : List K5) : lastT (plainK xs) = lastK xs := by
  unfold lastT lastK
  rw [plainK_length]
  split
  · rfl
  · rw [at_plainK]
theorem insI_plain {xs : List K5} {k b t v : Int} (h : mayK xs k b t v = true) : insI (plainK xs) k t = plainK (insKC xs k.toNat b t v) := by
  obtain ⟨h1, h2, h3, _, h5⟩ := mayK_iff2.1 h
  rw [insI_t ⟨(validK_iff.1 h1).2.1, mayB_iff.2 ⟨h2, by rw [lastT_plain]; exact h3⟩, h5⟩]
  exact insKC_plain xs k.toNat b t v
end Go.Proofs.Ytjapjfcennemeaa.rnk

/- What the law of the truth of blocks needs beside the contracts: expiry by the keys, the answers of no block and of some. -/
namespace Go.Proofs.Ytjapjfcennemeaa.rnk
open Go.RowKit Go.Proofs.Ytjapjfcennemeaa.mem Go.Proofs.Ytjapjfcennemeaa.gro Go.Proofs.Ytjapjfcennemeaa.blk
set_option linter.unusedVariables false
theorem exp_key (f : Int) : ∀ xs : List BlkM, (expireB f xs).map bkey = expK f (xs.map bkey)
  | [] => rfl
  | x :: r => by
    have h1 : (bkey x).1 = x.t := rfl
    by_cases h : x.t < f
    · rw [expB_yes h, exp_key f r]
      unfold expK
      rw [List.map_cons, List.dropWhile_cons, if_pos (by rw [h1]; simpa using h)]
    · rw [expB_no h]
      unfold expK
      rw [List.map_cons, List.dropWhile_cons, if_neg (by rw [h1]; simpa using h)]
theorem rkK_nil (v : Int) : rkK [] v = bnd6 0 0 := rfl
theorem quK_nil {p q : Int} (h : asksQ p q) : quK [] p q = (0, 7) := by
  have h1 : sureK [] = ((0, []), 0) := rfl
  unfold quK
  rw [h1, if_pos rfl]
  exact quaV_7 val_nil h rfl
theorem rkK_cons {x : K5} {r : List K5} {N : Int} {es : L3} (h : sureK (x :: r) = ((N, es), 0)) (v : Int) : rkK (x :: r) v = bnd6 (lw es (cutV es v)) (up es N (cutV es v) + 2 ^ x.2.2.1.toNat - 1) := by
  unfold rkK rkLo rkHi
  rw [h, if_pos rfl, if_neg (by simp)]
  rfl
theorem quK_cons {x : K5} {r : List K5} {N : Int} {es : L3} (h : sureK (x :: r) = ((N, es), 0)) (p q : Int) : quK (x :: r) p q = quaV N es p q := by
  unfold quK
  rw [h, if_pos rfl]
theorem lev_zero {W : World} {B n : Nat} {ad : Addr} {y : BlkM} {yr : List BlkM} (h : BRead W B (some ad) n (y :: yr)) (h0 : 0 < n) : W.cell? ⟨ad.block, ad.off + 2, none⟩ = some (.int .i64 y.level) := by
  obtain ⟨ad', y', e, _, hx, HC, _⟩ := BRead.zero h h0
  injection e with e
  subst e
  obtain rfl : y = y' := by simpa using hx
  exact (HC.out W (Below.refl _ _)).2.2.1
section
variable {xs : List K5} {k b w now : Int} {its : Its}
theorem RunB.ents (h : RunB xs k b w now its) (hl : its.length ≤ 1000) (hb : b ≤ 65536) : xs.length ≤ 1000 ∧ entsK xs ≤ xs.length * (b + 1).toNat := by
  have h1 := h.total
  have h2 := len_total h.valid
  exact ⟨by omega, ents_valid h.valid⟩
theorem RunB.step (h : RunB xs k b w now its) {T V : Int} (hT : now ≤ T) (hw : 1 ≤ w) (hn : T ≤ 16777216) (hv : -4096 ≤ V ∧ V ≤ 4096) (hl : its.length ≤ 1000) : mayK (expK (T - w + 1) xs) k b T V = true ∧ RunB (insKC (expK (T - w + 1) xs) k.toNat b T V) k b w T (its ++ [(T, V)]) :=
  ⟨(h.adv hT).may hn hv (by omega), (h.adv hT).ins hw hn hv (by omega)⟩
end
end Go.Proofs.Ytjapjfcennemeaa.rnk
