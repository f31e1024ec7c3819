/- NewF; InsertF: texts in one. -/
import Derived.Test.YtofgjcfiinmimaaApp
import Derived.Test.YtofgjcfiinmimaaMgPut
/- What comes back as a new slice of pairs: its block is new. -/
namespace Go.Proofs.Ytofgjcfiinmimaa.lst
open Go.RowKit Go.Proofs.Ytofgjcfiinmimaa.mem
set_option linter.unusedVariables false
def NewF (ys : List (Int × Int)) (w : World) (e : Ending) (w' : World) : Prop :=
  ∃ A m c, e = .returned (.slice A m c) ∧ m ≤ c ∧ (c ≤ maxLen ∧ ∀ ad, A = some ad → w.heap.size ≤ ad.block) ∧ PRead w' w'.heap.size A m ys ∧ Below w.heap.size w w'
theorem own_new {w : World} {base : Nat} {e : TypeId} {size n c : Nat} {A : Option Addr} {xs : List Value} (h : w.ownsRow base e size (.slice A n c) n xs) : ∀ ad, A = some ad → base ≤ ad.block := by
  rintro ad rfl
  exact own_block_ge h ad.block rfl
theorem newF_of_own {w W w1 : World} {base : Nat} {e : TypeId} {v : Value} {n : Nat} {ys : List (Int × Int)} {xs : List Value} {row : Option Nat} (hb : Below w.heap.size w W) (hown : w1.ownsRow base e 2 v n xs) (hx : xs = pc ys)
    (hg : W.grownBy w1 row) (hr : ∀ k, row = some k → w.heap.size ≤ k) (hbase : w.heap.size ≤ base := by first | exact Nat.le_refl _ | omega | (simp; omega)) : NewF ys w (.returned v) w1 := by
  obtain ⟨A, c, rfl, h1, h2, h3⟩ := own_form hown
  subst hx
  exact ⟨A, n, c, rfl, h1, ⟨h2, fun ad h => Nat.le_trans hbase (own_new hown ad h)⟩, h3, hb.grown hg hb.size hr⟩
theorem newF_own {w w1 : World} {base : Nat} {e : TypeId} {v : Value} {n : Nat} {ys : List (Int × Int)} {xs : List Value} (hb : Below w.heap.size w w1) (hown : w1.ownsRow base e 2 v n xs) (hx : xs = pc ys)
    (hbase : w.heap.size ≤ base := by first | exact Nat.le_refl _ | omega | (simp; omega)) : NewF ys w (.returned v) w1 := by
  obtain ⟨A, c, rfl, h1, h2, h3⟩ := own_form hown
  subst hx
  exact ⟨A, n, c, rfl, h1, ⟨h2, fun ad h => Nat.le_trans hbase (own_new hown ad h)⟩, h3, hb⟩
theorem newF_nil (w w' : World) (hb : Below w.heap.size w w') : NewF [] w (.returned (.slice none 0 0)) w' := ⟨none, 0, 0, rfl, Nat.le_refl _, ⟨Nat.zero_le _, fun ad h => by cases h⟩, .nil_, hb⟩
/-- Its block is new, or below a bound. -/
def NewG (B : Nat) (ys : List (Int × Int)) (w : World) (e : Ending) (w' : World) : Prop :=
  ∃ A m c, e = .returned (.slice A m c) ∧ m ≤ c ∧ (c ≤ maxLen ∧ (0 < m → ∀ ad, A = some ad → w.heap.size ≤ ad.block ∨ ad.block < B)) ∧ PRead w' w'.heap.size A m ys ∧ Below w.heap.size w w'
theorem newG_nil (B : Nat) (w w' : World) (hb : Below w.heap.size w w') : NewG B [] w (.returned (.slice none 0 0)) w' := ⟨none, 0, 0, rfl, Nat.le_refl _, ⟨Nat.zero_le _, fun _ ad h => by cases h⟩, .nil_, hb⟩
end Go.Proofs.Ytofgjcfiinmimaa.lst

/- Contract, with a new slice. -/
namespace Go.Proofs.Ytofgjcfiinmimaa.lst
open Go.RowKit Go.Proofs.Ytofgjcfiinmimaa.mem Go.Proofs.Ytofgjcfiinmimaa.buk
set_option linter.unusedVariables false
set_option maxHeartbeats 4000000 in
set_option maxRecDepth 100000 in
theorem Insert_f (A : Option Addr) (n c : Nat) (xs : List (Int × Int)) (k t : Int) (w : World) (h1 : PRead w w.heap.size A n xs) (hsmall : n ≤ 64000) :
    Calls Try.prog 66 #[.slice A n c, .int .i64 k, .int .i64 t] w (NewF (insI xs k t) w) := by
  have HV := Lib.hid (Valid_any A n c xs k w h1 (by omega))
  have HM := Lib.hid (fun W (hb : Below w.heap.size w W) => may_any A n c xs t W w.heap.size (h1.below hb) (by omega))
  have HT := Lib.hid (fun W (hb : Below w.heap.size w W) => Total_any A n c xs W ((h1.below hb).more hb.size) (by omega))
  by_cases hv : validB xs k = true
  · rw [hv] at HV
    by_cases hm : mayB xs t = true
    · rw [hm] at HM
      by_cases ht : totalN xs < 1073741824
      · have HI := Lib.hid (insI_t (xs := xs) (k := k) (t := t) ⟨hv, hm, ht⟩)
        have hk := (validB_iff.1 hv).1
        obtain ⟨kk, rfl⟩ := Int.eq_ofNat_of_zero_le (show 0 ≤ k by omega)
        obtain ⟨hk1, hk2⟩ : 1 ≤ kk ∧ kk ≤ 128 := by omega
        clear hv hm hk
        have hti : (totalN xs : Int) < 1073741824 := by omega
        clear ht
        obtain ⟨i0, hi0, hz0, hz1, hz2⟩ := info_parts bucket_info
        have HJ := Lib.hid hi0
        have HZ0 := Lib.hid hz0
        have HZ1 := Lib.hid hz1
        have HZ2 := Lib.hid hz2
        clear hi0 hz0 hz1 hz2
        have H1 := Lib.hid h1
        clear h1
        unfold TotOk at HT
        generalize ((totalN xs : Nat) : Int) = tt at *
        go_enter Try.func66, Try.ntmps66
        go_wp2_with fail
        refine HV.out.mono ?_
        rintro e w1 ⟨rfl, hb1⟩
        have HB1 := Lib.hid hb1
        clear hb1
        go_wp2_with fail
        refine (HM.out _ HB1.out).mono ?_
        rintro e w2 ⟨rfl, rfl⟩
        go_wp2_with fail
        refine (HT.out _ HB1.out).mono ?_
        rintro e w3 ⟨rfl, hb3⟩
        have HB3 := Lib.hid (HB1.out.trans (hb3.mono HB1.out.size))
        clear hb3
        go_wp2_with (first | (go_at_call 71; refine HV.out.mono ?_; rintro e w1 ⟨rfl, hb1⟩; have HB1 := Lib.hid hb1; clear hb1) | (go_at_call 92; refine (HM.out _ HB1.out).mono ?_; rintro e w2 ⟨rfl, rfl⟩) | (go_at_call 65; refine (HT.out _ HB1.out).mono ?_; rintro e w3 ⟨rfl, hb3⟩; have HB3 := Lib.hid (HB1.out.trans (hb3.mono HB1.out.size)); clear hb3) | (at_builtin; go_loud (refine wpList_append_any _ rfl (.tmp 22) (.tmp 23) 22 rfl w3.heap.size 87 i0 (.agg #[.int .i64 0, .int .i64 0]) 2 16 Try.underlying22 HJ.out HZ0.out HZ1.out HZ2.out rfl (by omega) (.slice (some ⟨w3.heap.size, 0, none⟩) 0 0) 0 [] rfl (own_empty w3 87) w.heap.size A n c (pc xs) rfl ((H1.out.below HB3.out).alloc HB3.out.size _) (pc_oneCell xs) (by unfold maxLen; omega) (by omega) (by simp) ?_); intro v4 w4 hown4 hg4 hat4; simp only [Nat.zero_add, List.nil_append] at hown4; obtain ⟨A4, c4, rfl, q1, q2, q3⟩ := own_form hown4; have HB4 : Hid (Below w3.heap.size w3 w4) := ((Below.refl _ _).alloc (Nat.le_refl _) _).grown hg4 (by simp) (by simp [Value.ownBlock]); have HO4 := Lib.hid hown4; clear hown4 hg4 hat4))
        have HX := Lib.hid (insert_any A4 n c4 xs kk t w3.heap.size w4 HO4.out HB4.out.size (by omega) hk1 hk2)
        go_wp2_with (go_at_call 93; refine HX.out.mono ?_; rintro e w5 ⟨v5, rfl, hown5, hb5⟩; have HB5 := Lib.hid (((HB3.out.trans (HB4.out.mono HB3.out.size)).trans (hb5.mono HB3.out.size))); have HO5 := Lib.hid hown5; clear hown5 hb5)
        go_ret
        rw [HI.out]
        exact newF_own HB5.out HO5.out rfl HB3.out.size
      · have HI := Lib.hid (insI_f (xs := xs) (k := k) (t := t) (fun h => ht h.2.2))
        have hti : 1073741824 ≤ (totalN xs : Int) := by omega
        clear hv hm ht h1
        unfold TotOk at HT
        generalize ((totalN xs : Nat) : Int) = tt at *
        go_enter Try.func66, Try.ntmps66
        go_wp2_with (first | (go_at_call 71; refine HV.out.mono ?_; rintro e w1 ⟨rfl, hb1⟩; have HB1 := Lib.hid hb1; clear hb1) | (go_at_call 92; refine (HM.out _ HB1.out).mono ?_; rintro e w2 ⟨rfl, rfl⟩) | (go_at_call 65; refine (HT.out _ HB1.out).mono ?_; rintro e w3 ⟨rfl, hb3⟩; have HB3 := Lib.hid (HB1.out.trans (hb3.mono HB1.out.size)); clear hb3))
        go_ret
        rw [HI.out]
        exact newF_nil _ _ HB3.out
    · have HI := Lib.hid (insI_f (xs := xs) (k := k) (t := t) (fun h => hm h.2.1))
      have hm2 : mayB xs t = false := by simpa using hm
      rw [hm2] at HM
      clear hv hm hm2 h1
      go_enter Try.func66, Try.ntmps66
      go_wp2_with (first | (go_at_call 71; refine HV.out.mono ?_; rintro e w1 ⟨rfl, hb1⟩; have HB1 := Lib.hid hb1; clear hb1) | (go_at_call 92; refine (HM.out _ HB1.out).mono ?_; rintro e w2 ⟨rfl, rfl⟩))
      go_ret
      rw [HI.out]
      exact newF_nil _ _ HB1.out
  · have HI := Lib.hid (insI_f (xs := xs) (k := k) (t := t) (fun h => hv h.1))
    have hv2 : validB xs k = false := by simpa using hv
    rw [hv2] at HV
    clear hv hv2 h1
    go_enter Try.func66, Try.ntmps66
    go_wp2_with (first | (go_at_call 71; refine HV.out.mono ?_; rintro e w1 ⟨rfl, hb1⟩; have HB1 := Lib.hid hb1; clear hb1))
    go_ret
    rw [HI.out]
    exact newF_nil _ _ HB1.out
end Go.Proofs.Ytofgjcfiinmimaa.lst
