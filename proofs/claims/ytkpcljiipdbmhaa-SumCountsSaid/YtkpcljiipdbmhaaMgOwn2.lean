/- Insert; Own2: texts in one. -/
import Derived.Test.YtkpcljiipdbmhaaMgIns
import Derived.Test.YtkpcljiipdbmhaaMgCountsR
/- Contracts of buckets.may, Insert and InsertMany. -/
namespace Go.Proofs.Ytkpcljiipdbmhaa.lst
open Go.RowKit Go.Proofs.Ytkpcljiipdbmhaa.mem Go.Proofs.Ytkpcljiipdbmhaa.buk
set_option linter.unusedVariables false

def lastT (xs : List (Int × Int)) : Int := if xs.length = 0 then 0 else (at_ xs (xs.length - 1)).1
def mayB (xs : List (Int × Int)) (t : Int) : Bool := decide ((0 ≤ t ∧ t ≤ 16777216) ∧ lastT xs ≤ t)
theorem mayB_iff {xs : List (Int × Int)} {t : Int} : mayB xs t = true ↔ (0 ≤ t ∧ t ≤ 16777216) ∧ lastT xs ≤ t := by simp [mayB]
theorem mayB_f {xs : List (Int × Int)} {t : Int} (h : ¬ ((0 ≤ t ∧ t ≤ 16777216) ∧ lastT xs ≤ t)) : mayB xs t = false := by
  cases hb : mayB xs t with
  | false => rfl
  | true => exact absurd (mayB_iff.1 hb) h

set_option maxHeartbeats 2000000 in
theorem may_any (A : Option Addr) (n c : Nat) (xs : List (Int × Int)) (t : Int) (w : World) (B : Nat) (h1 : PRead w B A n xs) (hsmall : n ≤ 65536) :
    Calls Try.prog 92 #[.slice A n c, .int .i64 t] w fun e w' => e = .returned (.bool (mayB xs t)) ∧ w = w' := by
  have hl := h1.len
  have HT := Lib.hid (fun W => tick_any t W)
  by_cases ht : 0 ≤ t ∧ t ≤ 16777216
  · rw [tickB_iff.2 ht] at HT
    by_cases h0 : 0 < n
    · obtain ⟨ad, rfl, _, hc1, _⟩ := h1.at_ (show n - 1 < n by omega)
      change w.cell? (ad.add ((n - 1) * 2)) = some (.int .i64 (at_ xs (n - 1)).1) at hc1
      have hlt : lastT xs = (at_ xs (n - 1)).1 := by unfold lastT; rw [if_neg (by omega), hl]
      have HM := Lib.hid (@mayB_iff xs t)
      have HF := Lib.hid (@mayB_f xs t)
      rw [hlt] at HM HF
      clear hlt hl h1
      generalize (at_ xs (n - 1)).1 = z at *
      by_cases hz : z ≤ t
      · have HR : Hid (mayB xs t = true) := HM.out.2 ⟨ht, hz⟩
        clear HM HF
        go_enter Try.func92, Try.ntmps92
        go_wp2_with (go_at_call 102; refine (HT.out _).mono ?_; rintro e w' ⟨rfl, rfl⟩)
        go_ret
        exact ⟨ret_bool HR.out.symm, rfl⟩
      · have HR : Hid (mayB xs t = false) := HF.out (fun h => hz h.2)
        clear HM HF
        go_enter Try.func92, Try.ntmps92
        go_wp2_with (go_at_call 102; refine (HT.out _).mono ?_; rintro e w' ⟨rfl, rfl⟩)
        go_ret
        exact ⟨ret_bool (by rw [HR.out]; simp; omega), rfl⟩
    · obtain rfl : n = 0 := by omega
      have HR : Hid (mayB xs t = true) := mayB_iff.2 ⟨ht, by unfold lastT; rw [if_pos hl]; exact ht.1⟩
      clear hl h1
      go_enter Try.func92, Try.ntmps92
      go_wp2_with (go_at_call 102; refine (HT.out _).mono ?_; rintro e w' ⟨rfl, rfl⟩)
      go_ret
      exact ⟨ret_bool HR.out.symm, rfl⟩
  · rw [tickB_iff0.2 ht] at HT
    have HR : Hid (mayB xs t = false) := mayB_f (fun h => ht h.1)
    clear hl h1
    go_enter Try.func92, Try.ntmps92
    go_wp2_with (go_at_call 102; refine (HT.out _).mono ?_; rintro e w' ⟨rfl, rfl⟩)
    go_ret
    exact ⟨ret_bool HR.out.symm, rfl⟩

open Classical in
noncomputable def insI (xs : List (Int × Int)) (k t : Int) : List (Int × Int) :=
  if validB xs k = true ∧ mayB xs t = true ∧ totalN xs < 1073741824 then insC xs k.toNat t else []
theorem insI_t {xs : List (Int × Int)} {k t : Int} (h : validB xs k = true ∧ mayB xs t = true ∧ totalN xs < 1073741824) : insI xs k t = insC xs k.toNat t := if_pos h
theorem insI_f {xs : List (Int × Int)} {k t : Int} (h : ¬ (validB xs k = true ∧ mayB xs t = true ∧ totalN xs < 1073741824)) : insI xs k t = [] := if_neg h
theorem newP_nil (w w' : World) (hb : Below w.heap.size w w') : NewP [] w (.returned (.slice none 0 0)) w' := ⟨none, 0, 0, rfl, Nat.le_refl _, Nat.zero_le _, .nil_, hb⟩

set_option maxHeartbeats 4000000 in
set_option maxRecDepth 100000 in
theorem Insert_any (A : Option Addr) (n c : Nat) (xs : List (Int × Int)) (k t : Int) (w : World) (h1 : PRead w w.heap.size A n xs) (hsmall : n ≤ 64000) :
    Calls Try.prog 64 #[.slice A n c, .int .i64 k, .int .i64 t] w (NewP (insI xs k t) w) := by
  have HV := Lib.hid (Valid_any A n c xs k w h1 (by omega))
  have HM := Lib.hid (fun W (hb : Below w.heap.size w W) => may_any A n c xs t W w.heap.size (h1.below hb) (by omega))
  have HT := Lib.hid (fun W (hb : Below w.heap.size w W) => Total_any A n c xs W ((h1.below hb).more hb.size) (by omega))
  by_cases hv : validB xs k = true
  · rw [hv] at HV
    by_cases hm : mayB xs t = true
    · rw [hm] at HM
      by_cases ht : totalN xs < 1073741824
      · have HI := Lib.hid (insI_t (xs := xs) (k := k) (t := t) ⟨hv, hm, ht⟩)
        have hk := (validB_iff.1 hv).1
        obtain ⟨kk, rfl⟩ := Int.eq_ofNat_of_zero_le (show 0 ≤ k by omega)
        obtain ⟨hk1, hk2⟩ : 1 ≤ kk ∧ kk ≤ 128 := by omega
        clear hv hm hk
        have hti : (totalN xs : Int) < 1073741824 := by omega
        clear ht
        obtain ⟨i0, hi0, hz0, hz1, hz2⟩ := info_parts bucket_info
        have HJ := Lib.hid hi0
        have HZ0 := Lib.hid hz0
        have HZ1 := Lib.hid hz1
        have HZ2 := Lib.hid hz2
        clear hi0 hz0 hz1 hz2
        have H1 := Lib.hid h1
        clear h1
        unfold TotOk at HT
        generalize ((totalN xs : Nat) : Int) = tt at *
        go_enter Try.func64, Try.ntmps64
        go_wp2_with fail
        refine HV.out.mono ?_
        rintro e w1 ⟨rfl, hb1⟩
        have HB1 := Lib.hid hb1
        clear hb1
        go_wp2_with fail
        refine (HM.out _ HB1.out).mono ?_
        rintro e w2 ⟨rfl, rfl⟩
        go_wp2_with fail
        refine (HT.out _ HB1.out).mono ?_
        rintro e w3 ⟨rfl, hb3⟩
        have HB3 := Lib.hid (HB1.out.trans (hb3.mono HB1.out.size))
        clear hb3
        go_wp2_with (first | (go_at_call 69; refine HV.out.mono ?_; rintro e w1 ⟨rfl, hb1⟩; have HB1 := Lib.hid hb1; clear hb1) | (go_at_call 92; refine (HM.out _ HB1.out).mono ?_; rintro e w2 ⟨rfl, rfl⟩) | (go_at_call 63; refine (HT.out _ HB1.out).mono ?_; rintro e w3 ⟨rfl, hb3⟩; have HB3 := Lib.hid (HB1.out.trans (hb3.mono HB1.out.size)); clear hb3) | (at_builtin; go_loud (refine wpList_append_any _ rfl (.tmp 22) (.tmp 23) 22 rfl w3.heap.size 87 i0 (.agg #[.int .i64 0, .int .i64 0]) 2 16 Try.underlying22 HJ.out HZ0.out HZ1.out HZ2.out rfl (by omega) (.slice (some ⟨w3.heap.size, 0, none⟩) 0 0) 0 [] rfl (own_empty w3 87) w.heap.size A n c (pc xs) rfl ((H1.out.below HB3.out).alloc HB3.out.size _) (pc_oneCell xs) (by unfold maxLen; omega) (by omega) (by simp) ?_); intro v4 w4 hown4 hg4 hat4; simp only [Nat.zero_add, List.nil_append] at hown4; obtain ⟨A4, c4, rfl, q1, q2, q3⟩ := own_form hown4; have HB4 : Hid (Below w3.heap.size w3 w4) := ((Below.refl _ _).alloc (Nat.le_refl _) _).grown hg4 (by simp) (by simp [Value.ownBlock]); have HO4 := Lib.hid hown4; clear hown4 hg4 hat4))
        have HX := Lib.hid (insert_any A4 n c4 xs kk t w3.heap.size w4 HO4.out HB4.out.size (by omega) hk1 hk2)
        go_wp2_with (go_at_call 93; refine HX.out.mono ?_; rintro e w5 ⟨v5, rfl, hown5, hb5⟩; have HB5 := Lib.hid (((HB3.out.trans (HB4.out.mono HB3.out.size)).trans (hb5.mono HB3.out.size))); have HO5 := Lib.hid hown5; clear hown5 hb5)
        go_ret
        rw [HI.out]
        exact newP_own HB5.out HO5.out rfl
      · have HI := Lib.hid (insI_f (xs := xs) (k := k) (t := t) (fun h => ht h.2.2))
        have hti : 1073741824 ≤ (totalN xs : Int) := by omega
        clear hv hm ht h1
        unfold TotOk at HT
        generalize ((totalN xs : Nat) : Int) = tt at *
        go_enter Try.func64, Try.ntmps64
        go_wp2_with (first | (go_at_call 69; refine HV.out.mono ?_; rintro e w1 ⟨rfl, hb1⟩; have HB1 := Lib.hid hb1; clear hb1) | (go_at_call 92; refine (HM.out _ HB1.out).mono ?_; rintro e w2 ⟨rfl, rfl⟩) | (go_at_call 63; refine (HT.out _ HB1.out).mono ?_; rintro e w3 ⟨rfl, hb3⟩; have HB3 := Lib.hid (HB1.out.trans (hb3.mono HB1.out.size)); clear hb3))
        go_ret
        rw [HI.out]
        exact newP_nil _ _ HB3.out
    · have HI := Lib.hid (insI_f (xs := xs) (k := k) (t := t) (fun h => hm h.2.1))
      have hm2 : mayB xs t = false := by simpa using hm
      rw [hm2] at HM
      clear hv hm hm2 h1
      go_enter Try.func64, Try.ntmps64
      go_wp2_with (first | (go_at_call 69; refine HV.out.mono ?_; rintro e w1 ⟨rfl, hb1⟩; have HB1 := Lib.hid hb1; clear hb1) | (go_at_call 92; refine (HM.out _ HB1.out).mono ?_; rintro e w2 ⟨rfl, rfl⟩))
      go_ret
      rw [HI.out]
      exact newP_nil _ _ HB1.out
  · have HI := Lib.hid (insI_f (xs := xs) (k := k) (t := t) (fun h => hv h.1))
    have hv2 : validB xs k = false := by simpa using hv
    rw [hv2] at HV
    clear hv hv2 h1
    go_enter Try.func64, Try.ntmps64
    go_wp2_with (first | (go_at_call 69; refine HV.out.mono ?_; rintro e w1 ⟨rfl, hb1⟩; have HB1 := Lib.hid hb1; clear hb1))
    go_ret
    rw [HI.out]
    exact newP_nil _ _ HB1.out
end Go.Proofs.Ytkpcljiipdbmhaa.lst

/- An append onto a row of the call's own leaves what was there. -/
namespace Go.Proofs.Ytkpcljiipdbmhaa.mem
open Go.RowKit
theorem below_own {W w1 a : World} {B base : Nat} {e : TypeId} {size n : Nat} {v : Value} {xs : List Value} (hg : W.grownBy w1 v.ownBlock) (hown : W.ownsRow base e size v n xs) (hb : Below B a W) (hB : B ≤ base) (hW : B ≤ W.heap.size) : Below B a w1 :=
  hb.grown hg hW (fun k hk => Nat.le_trans hB (own_block_ge hown k hk))
theorem own_mono {w : World} {base base' : Nat} {e : TypeId} {size n : Nat} {v : Value} {xs : List Value} (h : w.ownsRow base e size v n xs) (hb : base' ≤ base) : w.ownsRow base' e size v n xs := by
  refine ⟨h.1, ?_⟩
  rcases h.2 with h2 | ⟨g, cap, cur, hv, hg, r⟩
  · exact .inl h2
  · exact .inr ⟨g, cap, cur, hv, Nat.le_trans hb hg, r⟩
end Go.Proofs.Ytkpcljiipdbmhaa.mem
