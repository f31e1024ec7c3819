/- RIns; Many; RMany: texts in one. -/
import Derived.Test.YtofgjcfiinmimaaMgPut
import Derived.Test.YtofgjcfiinmimaaMgPutEq
import Derived.Test.YtofgjcfiinmimaaValidR
import Derived.Test.YtofgjcfiinmimaaMgKeepM
/- Contracts of the reference's last and Insert. -/
namespace Go.Proofs.Ytofgjcfiinmimaa.lst
open Go.RowKit Go.Proofs.Ytofgjcfiinmimaa.mem Go.Proofs.Ytofgjcfiinmimaa.buk
set_option linter.unusedVariables false

set_option maxHeartbeats 2000000 in
theorem last_any (A : Option Addr) (n c : Nat) (xs : List (Int × Int)) (w : World) (B : Nat) (h1 : PRead w B A n xs) (hsmall : n ≤ 65536) :
    Calls Try.prog 95 #[.slice A n c] w fun e w' => e = .returned (.int .i64 (lastT xs)) ∧ w = w' := by
  have hl := h1.len
  by_cases h0 : 0 < n
  · obtain ⟨ad, rfl, _, hc1, _⟩ := h1.at_ (show n - 1 < n by omega)
    change w.cell? (ad.add ((n - 1) * 2)) = some (.int .i64 (at_ xs (n - 1)).1) at hc1
    have HR : Hid (lastT xs = (at_ xs (n - 1)).1) := by unfold lastT; rw [if_neg (by omega), hl]; rfl
    clear hl h1
    generalize (at_ xs (n - 1)).1 = z at *
    go_enter Try.func95, Try.ntmps95
    go_wp2
    go_ret
    exact ⟨ret_int HR.out.symm, rfl⟩
  · obtain rfl : n = 0 := by omega
    have HR : Hid (lastT xs = 0) := by unfold lastT; rw [if_pos hl]; rfl
    clear hl h1
    go_enter Try.func95, Try.ntmps95
    go_wp2
    go_ret
    exact ⟨ret_int HR.out.symm, rfl⟩

theorem wgt_total {xs : List (Int × Int)} (h : ordOk xs xs.length) : wgt xs = totalN xs := by
  have hl : ∀ p ∈ xs, 0 ≤ p.2 ∧ p.2 ≤ 30 := by
    intro p hp
    obtain ⟨i, hi, rfl⟩ := List.mem_iff_getElem.1 hp
    have := (h i hi).2.1
    simpa [at_, List.getElem?_eq_getElem hi] using this
  clear h
  induction xs with
  | nil => rfl
  | cons p r ih =>
    have h1 := hl p (List.mem_cons_self ..)
    simp only [wgt, totalN, ih (fun q hq => hl q (List.mem_cons_of_mem _ hq))]
    unfold wt
    rw [if_pos h1]

theorem insI_length (xs : List (Int × Int)) (k t : Int) : (insI xs k t).length ≤ xs.length + 1 := by
  by_cases h : validB xs k = true ∧ mayB xs t = true ∧ totalN xs < 1073741824
  · rw [insI_t h]
    have := (validB_iff.1 h.1).1
    exact insC_length xs k.toNat (by omega) t
  · rw [insI_f h]; simp

set_option maxHeartbeats 4000000 in
set_option maxRecDepth 100000 in
theorem InsertRef_any (A : Option Addr) (n c : Nat) (xs : List (Int × Int)) (k t : Int) (w : World) (h1 : PRead w w.heap.size A n xs) (hsmall : n ≤ 60000) :
    Calls Try.prog 68 #[.slice A n c, .int .i64 k, .int .i64 t] w (NewP (insI xs k t) w) := by
  have HV := Lib.hid (ValidRef_any A n c xs k w h1 (by omega))
  have HK := Lib.hid (fun W => TickRef_any t W)
  have HM := Lib.hid (fun W (hb : Below w.heap.size w W) => last_any A n c xs W w.heap.size (h1.below hb) (by omega))
  have HT := Lib.hid (fun W (hb : Below w.heap.size w W) => TotalRef_any A n c xs W ((h1.below hb).more hb.size) (by omega))
  by_cases hv : validB xs k = true
  · rw [hv] at HV
    by_cases htk : 0 ≤ t ∧ t ≤ 16777216
    · rw [tickB_iff.2 htk] at HK
      by_cases hm : lastT xs ≤ t
      · have hmb := mayB_iff.2 ⟨htk, hm⟩
        by_cases ht : totalN xs < 1073741824
        · have hvp := validB_iff.1 hv
          have hk := hvp.1
          obtain ⟨kk, rfl⟩ := Int.eq_ofNat_of_zero_le (show 0 ≤ k by omega)
          obtain ⟨hk1, hk2⟩ : 1 ≤ kk ∧ kk ≤ 128 := by omega
          have HI : Hid (insI xs kk t = putC xs kk t) := by
            rw [Hid, insI_t (xs := xs) (k := kk) (t := t) ⟨hv, hmb, ht⟩, Int.toNat_natCast]
            exact (putC_eq hk1 hvp.2.1 (by rw [wgt_total hvp.2.1]; exact ht) t).symm
          have HP := Lib.hid (fun W (hb : Below w.heap.size w W) => put_any A n c xs kk t W ((h1.below hb).more hb.size) (by omega) hk1 hk2)
          have hti : (totalN xs : Int) < 1073741824 := by omega
          clear hv hmb hk hvp ht h1
          unfold TotOk at HT
          generalize ((totalN xs : Nat) : Int) = tt at *
          generalize lastT xs = lt at *
          go_enter Try.func68, Try.ntmps68
          go_wp2_with (first | (go_at_call 94; refine HV.out.mono ?_; rintro e w1 ⟨rfl, hb1⟩; have HB1 := Lib.hid hb1; clear hb1) | (go_at_call 89; refine (HK.out _).mono ?_; rintro e w2 ⟨rfl, rfl⟩) | (go_at_call 95; refine (HM.out _ HB1.out).mono ?_; rintro e w2 ⟨rfl, rfl⟩) | (go_at_call 67; refine (HT.out _ HB1.out).mono ?_; rintro e w3 ⟨rfl, hb3⟩; have HB3 := Lib.hid (HB1.out.trans (hb3.mono HB1.out.size)); clear hb3) | (go_at_call 96; refine (HP.out _ HB3.out).mono ?_; rintro e w5 ⟨A5, m5, c5, rfl, r1, r2, hr5, hb5⟩; have HB5 := Lib.hid (HB3.out.trans (hb5.mono HB3.out.size)); have HR5 := Lib.hid hr5; clear hr5 hb5))
          go_ret
          rw [HI.out]
          exact ⟨A5, m5, c5, rfl, r1, r2, HR5.out, HB5.out⟩
        · have HI := Lib.hid (insI_f (xs := xs) (k := k) (t := t) (fun h => ht h.2.2))
          have hti : 1073741824 ≤ (totalN xs : Int) := by omega
          clear hv hmb ht h1
          unfold TotOk at HT
          generalize ((totalN xs : Nat) : Int) = tt at *
          generalize lastT xs = lt at *
          go_enter Try.func68, Try.ntmps68
          go_wp2_with (first | (go_at_call 94; refine HV.out.mono ?_; rintro e w1 ⟨rfl, hb1⟩; have HB1 := Lib.hid hb1; clear hb1) | (go_at_call 89; refine (HK.out _).mono ?_; rintro e w2 ⟨rfl, rfl⟩) | (go_at_call 95; refine (HM.out _ HB1.out).mono ?_; rintro e w2 ⟨rfl, rfl⟩) | (go_at_call 67; refine (HT.out _ HB1.out).mono ?_; rintro e w3 ⟨rfl, hb3⟩; have HB3 := Lib.hid (HB1.out.trans (hb3.mono HB1.out.size)); clear hb3))
          go_ret
          rw [HI.out]
          exact newP_nil _ _ HB3.out
      · have HI := Lib.hid (insI_f (xs := xs) (k := k) (t := t) (fun h => hm (mayB_iff.1 h.2.1).2))
        clear hv h1 HT
        generalize lastT xs = lt at *
        go_enter Try.func68, Try.ntmps68
        go_wp2_with (first | (go_at_call 94; refine HV.out.mono ?_; rintro e w1 ⟨rfl, hb1⟩; have HB1 := Lib.hid hb1; clear hb1) | (go_at_call 89; refine (HK.out _).mono ?_; rintro e w2 ⟨rfl, rfl⟩) | (go_at_call 95; refine (HM.out _ HB1.out).mono ?_; rintro e w2 ⟨rfl, rfl⟩))
        go_ret
        rw [HI.out]
        exact newP_nil _ _ HB1.out
    · rw [tickB_iff0.2 htk] at HK
      have HI := Lib.hid (insI_f (xs := xs) (k := k) (t := t) (fun h => htk (mayB_iff.1 h.2.1).1))
      clear hv h1 HT HM
      go_enter Try.func68, Try.ntmps68
      go_wp2_with (first | (go_at_call 94; refine HV.out.mono ?_; rintro e w1 ⟨rfl, hb1⟩; have HB1 := Lib.hid hb1; clear hb1) | (go_at_call 89; refine (HK.out _).mono ?_; rintro e w2 ⟨rfl, rfl⟩))
      go_ret
      rw [HI.out]
      exact newP_nil _ _ HB1.out
  · have HI := Lib.hid (insI_f (xs := xs) (k := k) (t := t) (fun h => hv h.1))
    have hv2 : validB xs k = false := by simpa using hv
    rw [hv2] at HV
    clear hv hv2 h1 HT HM
    go_enter Try.func68, Try.ntmps68
    go_wp2_with (go_at_call 94; refine HV.out.mono ?_; rintro e w1 ⟨rfl, hb1⟩; have HB1 := Lib.hid hb1; clear hb1)
    go_ret
    rw [HI.out]
    exact newP_nil _ _ HB1.out
end Go.Proofs.Ytofgjcfiinmimaa.lst

/- Contract of buckets.InsertMany. -/
namespace Go.Proofs.Ytofgjcfiinmimaa.lst
open Go.RowKit Go.Proofs.Ytofgjcfiinmimaa.mem Go.Proofs.Ytofgjcfiinmimaa.buk
set_option linter.unusedVariables false

def manyP (xs : List (Int × Int)) (k t n : Int) : Prop := validB xs k = true ∧ mayB xs t = true ∧ (0 ≤ n ∧ n ≤ 1024) ∧ (0 < n → (totalN xs : Int) ≤ 1073741824 - n)
open Classical in
noncomputable def insM (xs : List (Int × Int)) (k t n : Int) : List (Int × Int) := if manyP xs k t n then iterIns k.toNat t n.toNat xs else []
theorem insM_t {xs : List (Int × Int)} {k t n : Int} (h : manyP xs k t n) : insM xs k t n = iterIns k.toNat t n.toNat xs := if_pos h
theorem insM_f {xs : List (Int × Int)} {k t n : Int} (h : ¬ manyP xs k t n) : insM xs k t n = [] := if_neg h

set_option maxHeartbeats 8000000 in
set_option maxRecDepth 100000 in
theorem InsertMany_any (A : Option Addr) (n c : Nat) (xs : List (Int × Int)) (k t : Int) (cn : Int) (w : World) (h1 : PRead w w.heap.size A n xs) (hsmall : n ≤ 60000) :
    Calls Try.prog 76 #[.slice A n c, .int .i64 k, .int .i64 t, .int .i64 cn] w (NewP (insM xs k t cn) w) := by
  have HV := Lib.hid (Valid_any A n c xs k w h1 (by omega))
  have HM := Lib.hid (fun W (hb : Below w.heap.size w W) => may_any A n c xs t W w.heap.size (h1.below hb) (by omega))
  have HT := Lib.hid (fun W (hb : Below w.heap.size w W) => Total_any A n c xs W ((h1.below hb).more hb.size) (by omega))
  by_cases hv : validB xs k = true
  · rw [hv] at HV
    by_cases hm : mayB xs t = true
    · rw [hm] at HM
      by_cases ha : 0 ≤ cn ∧ cn ≤ 1024
      · unfold TotOk at HT
        have HL := Lib.hid h1.len
        have H1 := Lib.hid h1
        have hk := (validB_iff.1 hv).1
        obtain ⟨m, rfl⟩ := Int.eq_ofNat_of_zero_le ha.1
        obtain ⟨kk, rfl⟩ := Int.eq_ofNat_of_zero_le (show 0 ≤ k by omega)
        obtain ⟨hk1, hk2⟩ : 1 ≤ kk ∧ kk ≤ 128 := by omega
        obtain ⟨i0, hi0, hz0, hz1, hz2⟩ := info_parts bucket_info
        have HJ := Lib.hid hi0
        have HZ0 := Lib.hid hz0
        have HZ1 := Lib.hid hz1
        have HZ2 := Lib.hid hz2
        clear hi0 hz0 hz1 hz2 h1
        have hm1024 : m ≤ 1024 := by omega
        by_cases h0 : 0 < m
        · by_cases ht : (totalN xs : Int) ≤ 1073741824 - m
          · have HI : Hid (insM xs kk t m = iterIns kk t m xs) := insM_t ⟨hv, hm, ha, fun _ => ht⟩
            clear hv hm ha hk
            generalize ((totalN xs : Nat) : Int) = tt at *
            go_enter Try.func76, Try.ntmps76
            go_wp2_with (first | (go_at_call 71; refine HV.out.mono ?_; rintro e w1 ⟨rfl, hb1⟩; have HB1 := Lib.hid hb1; clear hb1) | (go_at_call 92; refine (HM.out _ HB1.out).mono ?_; rintro e w2 ⟨rfl, rfl⟩) | (go_at_call 65; refine (HT.out _ HB1.out).mono ?_; rintro e w3 ⟨rfl, hb3⟩; have HB3 := Lib.hid (HB1.out.trans (hb3.mono HB1.out.size)); clear hb3) | (at_builtin; go_loud (refine wpList_append_any _ rfl (.tmp 39) (.tmp 40) 22 rfl w3.heap.size 87 i0 (.agg #[.int .i64 0, .int .i64 0]) 2 16 Try.underlying22 HJ.out HZ0.out HZ1.out HZ2.out rfl (by omega) (.slice (some ⟨w3.heap.size, 0, none⟩) 0 0) 0 [] rfl (own_empty w3 87) w.heap.size A n c (pc xs) rfl ((H1.out.below HB3.out).alloc HB3.out.size _) (pc_oneCell xs) (by unfold maxLen; omega) (by omega) (by simp) ?_); intro v4 w4 hown4 hg4 hat4; simp only [Nat.zero_add, List.nil_append] at hown4; obtain ⟨A4, c4, rfl, q1, q2, q3⟩ := own_form hown4; have HB4 : Hid (Below w3.heap.size w3 w4) := ((Below.refl _ _).alloc (Nat.le_refl _) _).grown hg4 (by simp) (by simp [Value.ownBlock]); have HO4 := Lib.hid hown4; clear hown4 hg4 hat4))
            have HB5 : Hid (Below w.heap.size w w4) := HB3.out.trans (HB4.out.mono HB3.out.size)
            have hbz : w3.heap.size ≤ w4.heap.size := HB4.out.size
            have hww : w.heap.size ≤ w3.heap.size := HB3.out.size
            generalize w3.heap.size = base at *
            clear HB4 H1 q1 q2 q3
            go_loopg [3, 9] m (fun kx s3 s9 wr => ∃ (j : Nat) (ys : List (Int × Int)) (A5 : Option Addr) (c5 : Nat), s3 = .int .i64 j ∧ s9 = .slice A5 ys.length c5 ∧ j ≤ kx ∧ ys.length + j ≤ 65000 ∧ base ≤ wr.heap.size ∧ Hid (wr.ownsRow base 87 2 (.slice A5 ys.length c5) ys.length (pc ys)) ∧ Hid (Below w.heap.size w wr) ∧ Hid (iterIns kk t j ys = iterIns kk t m xs))
            case atStart => exact ⟨m, xs, A4, c4, rfl, by rw [HL.out], Nat.le_refl _, by rw [HL.out]; omega, hbz, (by rw [Hid, HL.out]; exact HO4.out), HB5, (rfl : iterIns kk t m xs = iterIns kk t m xs)⟩
            case round =>
              obtain ⟨j, ys, A5, c5, rfl, rfl, hj, hlen, hbw, HO, HB, HE⟩ := hrel
              clear HB5 HO4
              have HLy : Hid (ys.length = ys.length) := rfl
              by_cases h0 : 0 < j
              · obtain ⟨j, rfl⟩ : ∃ j', j = j' + 1 := ⟨j - 1, by omega⟩
                have HX := Lib.hid (insert_any A5 ys.length c5 ys kk t base wr HO.out hbw (by omega) hk1 hk2)
                have hgl := insC_length ys kk hk1 t
                have HE2 : Hid (iterIns kk t j (insC ys kk t) = iterIns kk t m xs) := HE.out
                generalize insC ys kk t = zs at *
                generalize ys.length = ly at *
                go_wp2_with (go_at_call 93; refine HX.out.mono ?_; rintro e w5 ⟨v5, rfl, hown5, hb5⟩; obtain ⟨A6, c6, rfl, r1, r2, r3⟩ := own_form hown5; have HB6 := Lib.hid (HB.out.trans (hb5.mono hww)); have HO6 := Lib.hid hown5; have hz5 : wr.heap.size ≤ w5.heap.size := hb5.size; clear hown5 hb5 r1 r2 r3)
                go_roundg j
                case measure => omega
                case rel => exact ⟨j, zs, A6, c6, by go_num, rfl, Nat.le_refl _, by omega, by omega, HO6, HB6, HE2⟩
              · obtain rfl : j = 0 := by omega
                generalize hlz : ys.length = ly at *
                have HLz := Lib.hid hlz
                clear hlz
                go_wp2
                go_ret
                rw [HI.out]
                exact newP_own HB.out HO.out (by rw [← HE.out]; rfl)
          · have HI := Lib.hid (insM_f (xs := xs) (k := kk) (t := t) (n := m) (fun h => ht (h.2.2.2 (by omega))))
            have ht2 : 1073741824 - (m : Int) < totalN xs := by omega
            clear hv hm ha hk ht
            generalize ((totalN xs : Nat) : Int) = tt at *
            go_enter Try.func76, Try.ntmps76
            go_wp2_with (first | (go_at_call 71; refine HV.out.mono ?_; rintro e w1 ⟨rfl, hb1⟩; have HB1 := Lib.hid hb1; clear hb1) | (go_at_call 92; refine (HM.out _ HB1.out).mono ?_; rintro e w2 ⟨rfl, rfl⟩) | (go_at_call 65; refine (HT.out _ HB1.out).mono ?_; rintro e w3 ⟨rfl, hb3⟩; have HB3 := Lib.hid (HB1.out.trans (hb3.mono HB1.out.size)); clear hb3))
            go_ret
            rw [HI.out]
            exact newP_nil _ _ HB3.out
        · obtain rfl : m = 0 := by omega
          have HI : Hid (insM xs kk t 0 = xs) := (insM_t (n := ((0 : Nat) : Int)) ⟨hv, hm, ha, fun h => by omega⟩ : insM xs kk t ((0 : Nat) : Int) = iterIns kk t 0 xs)
          clear hv hm ha hk h0 HT
          go_enter Try.func76, Try.ntmps76
          go_wp2_with (first | (go_at_call 71; refine HV.out.mono ?_; rintro e w1 ⟨rfl, hb1⟩; have HB1 := Lib.hid hb1; clear hb1) | (go_at_call 92; refine (HM.out _ HB1.out).mono ?_; rintro e w2 ⟨rfl, rfl⟩) | (at_builtin; go_loud (refine wpList_append_any _ rfl (.tmp 39) (.tmp 40) 22 rfl w1.heap.size 87 i0 (.agg #[.int .i64 0, .int .i64 0]) 2 16 Try.underlying22 HJ.out HZ0.out HZ1.out HZ2.out rfl (by omega) (.slice (some ⟨w1.heap.size, 0, none⟩) 0 0) 0 [] rfl (own_empty w1 87) w.heap.size A n c (pc xs) rfl ((H1.out.below HB1.out).alloc HB1.out.size _) (pc_oneCell xs) (by unfold maxLen; omega) (by omega) (by simp) ?_); intro v4 w4 hown4 hg4 hat4; simp only [Nat.zero_add, List.nil_append] at hown4; obtain ⟨A4, c4, rfl, q1, q2, q3⟩ := own_form hown4; have HB4 : Hid (Below w1.heap.size w1 w4) := ((Below.refl _ _).alloc (Nat.le_refl _) _).grown hg4 (by simp) (by simp [Value.ownBlock]); have HO4 := Lib.hid hown4; clear hown4 hg4 hat4))
          go_loop [3, 9] (fun s3 s9 => s3 = .int .i64 0 ∧ s9 = .slice A4 n c4) (fun _ _ => 0)
          case atStart => exact ⟨rfl, rfl⟩
          case round =>
            obtain ⟨rfl, rfl⟩ := hrel
            go_wp2
            go_ret
            rw [HI.out]
            exact newP_own (HB1.out.trans (HB4.out.mono HB1.out.size)) HO4.out rfl
      · have HI := Lib.hid (insM_f (xs := xs) (k := k) (t := t) (n := cn) (fun h => ha h.2.2.1))
        clear hv hm h1 HT
        by_cases a1 : 0 ≤ cn
        · have a2 : 1024 < cn := by omega
          clear ha
          go_enter Try.func76, Try.ntmps76
          go_wp2_with (first | (go_at_call 71; refine HV.out.mono ?_; rintro e w1 ⟨rfl, hb1⟩; have HB1 := Lib.hid hb1; clear hb1) | (go_at_call 92; refine (HM.out _ HB1.out).mono ?_; rintro e w2 ⟨rfl, rfl⟩))
          go_ret
          rw [HI.out]
          exact newP_nil _ _ HB1.out
        · clear ha
          go_enter Try.func76, Try.ntmps76
          go_wp2_with (first | (go_at_call 71; refine HV.out.mono ?_; rintro e w1 ⟨rfl, hb1⟩; have HB1 := Lib.hid hb1; clear hb1) | (go_at_call 92; refine (HM.out _ HB1.out).mono ?_; rintro e w2 ⟨rfl, rfl⟩))
          go_ret
          rw [HI.out]
          exact newP_nil _ _ HB1.out
    · have HI := Lib.hid (insM_f (xs := xs) (k := k) (t := t) (n := cn) (fun h => hm h.2.1))
      have hm2 : mayB xs t = false := by simpa using hm
      rw [hm2] at HM
      clear hv hm hm2 h1 HT
      go_enter Try.func76, Try.ntmps76
      go_wp2_with (first | (go_at_call 71; refine HV.out.mono ?_; rintro e w1 ⟨rfl, hb1⟩; have HB1 := Lib.hid hb1; clear hb1) | (go_at_call 92; refine (HM.out _ HB1.out).mono ?_; rintro e w2 ⟨rfl, rfl⟩))
      go_ret
      rw [HI.out]
      exact newP_nil _ _ HB1.out
  · have HI := Lib.hid (insM_f (xs := xs) (k := k) (t := t) (n := cn) (fun h => hv h.1))
    have hv2 : validB xs k = false := by simpa using hv
    rw [hv2] at HV
    clear hv hv2 h1 HT HM
    go_enter Try.func76, Try.ntmps76
    go_wp2_with (go_at_call 71; refine HV.out.mono ?_; rintro e w1 ⟨rfl, hb1⟩; have HB1 := Lib.hid hb1; clear hb1)
    go_ret
    rw [HI.out]
    exact newP_nil _ _ HB1.out
end Go.Proofs.Ytofgjcfiinmimaa.lst

/- Contract of the reference's InsertMany. -/
namespace Go.Proofs.Ytofgjcfiinmimaa.lst
open Go.RowKit Go.Proofs.Ytofgjcfiinmimaa.mem Go.Proofs.Ytofgjcfiinmimaa.buk
set_option linter.unusedVariables false

theorem putR_length (k : Nat) : ∀ (f : Nat) (xs : List (Int × Int)) (l : Nat), (putR k f xs l).length ≤ xs.length
  | 0, _, _ => Nat.le_refl _
  | f + 1, xs, l => by
    by_cases h : cnt xs l ≤ k + 1
    · rw [putR_stop h]; exact Nat.le_refl _
    · rw [putR_go h]
      have ih := putR_length k f (joined xs (firstTo xs l xs.length).toNat l) (l + 1)
      rcases firstTo_spec xs l xs.length (Nat.le_refl _) with ⟨_, h2⟩ | ⟨b, h1, h2, h3⟩
      · rw [List.take_of_length_le (Nat.le_refl _)] at h2; omega
      · rw [List.take_of_length_le (Nat.le_refl _)] at h3
        rw [h1, Int.toNat_natCast] at ih ⊢
        rcases Nat.lt_or_ge (b + 1) xs.length with h4 | h4
        · have := joined_length (xs := xs) (b := b) (l := (l : Int)) h4
          omega
        · omega
theorem putC_length (xs : List (Int × Int)) (k : Nat) (t : Int) : (putC xs k t).length ≤ xs.length + 1 := by
  have := putR_length k 31 (xs ++ [(t, 0)]) 0
  simpa [putC] using this
theorem insM_length (xs : List (Int × Int)) (k t n : Int) : (insM xs k t n).length ≤ xs.length + 1024 := by
  by_cases h : manyP xs k t n
  · rw [insM_t h]
    have h1 := (validB_iff.1 h.1).1
    have h2 := h.2.2.1
    have := iterIns_length k.toNat (by omega) t n.toNat xs
    omega
  · rw [insM_f h]; simp
theorem lastT_tail {xs : List (Int × Int)} {t : Int} (h : lastT xs ≤ t) : 0 < xs.length → tailT xs ≤ t := fun h0 => by
  unfold lastT at h
  rw [if_neg (by omega)] at h
  exact h

set_option maxHeartbeats 8000000 in
set_option maxRecDepth 100000 in
theorem InsertManyRef_any (A : Option Addr) (n c : Nat) (xs : List (Int × Int)) (k t : Int) (cn : Int) (w : World) (h1 : PRead w w.heap.size A n xs) (hnc : n ≤ c) (hcm : c ≤ maxLen) (hsmall : n ≤ 50000) (hcn : -9223372036854775808 ≤ cn ∧ cn ≤ 9223372036854775807) :
    Calls Try.prog 77 #[.slice A n c, .int .i64 k, .int .i64 t, .int .i64 cn] w (NewP (insM xs k t cn) w) := by
  have hcm9 : c ≤ 9223372036854775807 := hcm
  clear hcm
  have HV := Lib.hid (ValidRef_any A n c xs k w h1 (by omega))
  have HK := Lib.hid (fun W => TickRef_any t W)
  have HM := Lib.hid (fun W (hb : Below w.heap.size w W) => last_any A n c xs W w.heap.size (h1.below hb) (by omega))
  have HT := Lib.hid (fun W (hb : Below w.heap.size w W) => TotalRef_any A n c xs W ((h1.below hb).more hb.size) (by omega))
  by_cases hv : validB xs k = true
  · rw [hv] at HV
    by_cases ha : 0 ≤ cn ∧ cn ≤ 1024
    · by_cases htk : 0 ≤ t ∧ t ≤ 16777216
      · rw [tickB_iff.2 htk] at HK
        by_cases hm : lastT xs ≤ t
        · have hmb := mayB_iff.2 ⟨htk, hm⟩
          have hvp := validB_iff.1 hv
          have hk := hvp.1
          have H1 := Lib.hid h1
          obtain ⟨m, rfl⟩ := Int.eq_ofNat_of_zero_le ha.1
          obtain ⟨kk, rfl⟩ := Int.eq_ofNat_of_zero_le (show 0 ≤ k by omega)
          obtain ⟨hk1, hk2⟩ : 1 ≤ kk ∧ kk ≤ 128 := by omega
          have hm1024 : m ≤ 1024 := by omega
          have hwt := wgt_total hvp.2.1
          have htl := lastT_tail hm
          unfold TotOk at HT
          by_cases h0 : 0 < m
          · by_cases ht : (totalN xs : Int) ≤ 1073741824 - m
            · have HI : Hid (insM xs kk t m = iterPut kk t m xs) := by
                rw [Hid, insM_t (xs := xs) (k := kk) (t := t) (n := m) ⟨hv, hmb, ha, fun _ => ht⟩, Int.toNat_natCast, Int.toNat_natCast]
                exact (iterPut_eq hk1 htk m xs hvp htl (by omega)).symm
              have ht2 : (totalN xs : Int) + m ≤ 1073741824 := by omega
              have ht0 : 0 ≤ (totalN xs : Int) := by omega
              clear hv hmb hk hvp ht h1 hwt htl ha
              generalize ((totalN xs : Nat) : Int) = tt at *
              generalize lastT xs = lt at *
              go_enter Try.func77, Try.ntmps77
              go_wp2_with (first | (go_at_call 94; refine HV.out.mono ?_; rintro e w1 ⟨rfl, hb1⟩; have HB1 := Lib.hid hb1; clear hb1) | (go_at_call 89; refine (HK.out _).mono ?_; rintro e w2 ⟨rfl, rfl⟩) | (go_at_call 95; refine (HM.out _ HB1.out).mono ?_; rintro e w2 ⟨rfl, rfl⟩) | (go_at_call 67; refine (HT.out _ HB1.out).mono ?_; rintro e w3 ⟨rfl, hb3⟩; have HB3 := Lib.hid (HB1.out.trans (hb3.mono HB1.out.size)); clear hb3))
              have HX0 : Hid (Reads w3 w3.heap.size 2 A n (pc xs)) := (H1.out.below HB3.out).more HB3.out.size
              go_loopg [0, 3] m (fun kx s0 s3 wr => ∃ (j : Nat) (ys : List (Int × Int)) (A5 : Option Addr) (l5 c5 : Nat), s3 = .int .i64 j ∧ s0 = .slice A5 l5 c5 ∧ j ≤ kx ∧ l5 + j ≤ 52000 ∧ l5 ≤ c5 ∧ c5 ≤ 9223372036854775807 ∧ Hid (Reads wr wr.heap.size 2 A5 l5 (pc ys)) ∧ Hid (Below w.heap.size w wr) ∧ Hid (iterPut kk t j ys = iterPut kk t m xs))
              case atStart => exact ⟨m, xs, A, n, c, rfl, rfl, Nat.le_refl _, by omega, hnc, hcm9, HX0, HB3, (rfl : iterPut kk t m xs = iterPut kk t m xs)⟩
              case round =>
                obtain ⟨j, ys, A5, l5, c5, rfl, rfl, hj, hlen, hlc, hc9, HR, HB, HE⟩ := hrel
                clear HX0 HB3
                by_cases h0 : 0 < j
                · obtain ⟨j, rfl⟩ : ∃ j', j = j' + 1 := ⟨j - 1, by omega⟩
                  have HX := Lib.hid (put_any A5 l5 c5 ys kk t wr HR.out (by omega) hk1 hk2)
                  have hly : ys.length = l5 := PRead.len (xs := ys) HR.out
                  have hgl := putC_length ys kk t
                  rw [hly] at hgl
                  have HE2 : Hid (iterPut kk t j (putC ys kk t) = iterPut kk t m xs) := HE.out
                  clear hly
                  generalize putC ys kk t = zs at *
                  go_wp2_with (go_at_call 96; refine HX.out.mono ?_; rintro e w5 ⟨A6, l6, c6, rfl, r1, r2, hr5, hb5⟩; have HB6 := Lib.hid (HB.out.trans (hb5.mono HB.out.size)); have HR6 := Lib.hid hr5; have r9 : c6 ≤ 9223372036854775807 := r2; have hl6 := hr5.len; clear hr5 hb5 r2)
                  go_roundg j
                  case measure => omega
                  case rel => exact ⟨j, zs, A6, l6, c6, by go_num, rfl, Nat.le_refl _, by omega, r1, r9, HR6, HB6, HE2⟩
                · obtain rfl : j = 0 := by omega
                  go_wp2
                  go_ret
                  rw [HI.out, ← HE.out]
                  exact ⟨A5, l5, c5, rfl, hlc, hc9, HR.out, HB.out⟩
            · have HI := Lib.hid (insM_f (xs := xs) (k := kk) (t := t) (n := m) (fun h => ht (h.2.2.2 (by omega))))
              have ht2 : 1073741824 < (totalN xs : Int) + m := by omega
              have ht3 : (totalN xs : Int) ≤ 70368744177664 := by have := totalN_le xs; have := h1.len; omega
              have ht0 : 0 ≤ (totalN xs : Int) := by omega
              clear hv hmb hk hvp ht h1 hwt htl ha
              generalize ((totalN xs : Nat) : Int) = tt at *
              generalize lastT xs = lt at *
              go_enter Try.func77, Try.ntmps77
              go_wp2_with (first | (go_at_call 94; refine HV.out.mono ?_; rintro e w1 ⟨rfl, hb1⟩; have HB1 := Lib.hid hb1; clear hb1) | (go_at_call 89; refine (HK.out _).mono ?_; rintro e w2 ⟨rfl, rfl⟩) | (go_at_call 95; refine (HM.out _ HB1.out).mono ?_; rintro e w2 ⟨rfl, rfl⟩) | (go_at_call 67; refine (HT.out _ HB1.out).mono ?_; rintro e w3 ⟨rfl, hb3⟩; have HB3 := Lib.hid (HB1.out.trans (hb3.mono HB1.out.size)); clear hb3))
              go_ret
              rw [HI.out]
              exact newP_nil _ _ HB3.out
          · obtain rfl : m = 0 := by omega
            have HI : Hid (insM xs kk t 0 = xs) := (insM_t (n := ((0 : Nat) : Int)) ⟨hv, hmb, ha, fun h => by omega⟩ : insM xs kk t ((0 : Nat) : Int) = iterIns kk t 0 xs)
            clear hv hmb hk hvp h1 hwt htl ha h0 HT
            generalize lastT xs = lt at *
            go_enter Try.func77, Try.ntmps77
            go_wp2_with (first | (go_at_call 94; refine HV.out.mono ?_; rintro e w1 ⟨rfl, hb1⟩; have HB1 := Lib.hid hb1; clear hb1) | (go_at_call 89; refine (HK.out _).mono ?_; rintro e w2 ⟨rfl, rfl⟩) | (go_at_call 95; refine (HM.out _ HB1.out).mono ?_; rintro e w2 ⟨rfl, rfl⟩))
            go_loop [0, 3] (fun s0 s3 => s3 = .int .i64 0 ∧ s0 = .slice A n c) (fun _ _ => 0)
            case atStart => exact ⟨rfl, rfl⟩
            case round =>
              obtain ⟨rfl, rfl⟩ := hrel
              go_wp2
              go_ret
              rw [HI.out]
              exact ⟨A, n, c, rfl, hnc, hcm9, (H1.out.below HB1.out).more HB1.out.size, HB1.out⟩
        · have HI := Lib.hid (insM_f (xs := xs) (k := k) (t := t) (n := cn) (fun h => hm (mayB_iff.1 h.2.1).2))
          obtain ⟨a1, a2⟩ := ha
          clear hv h1 HT
          generalize lastT xs = lt at *
          go_enter Try.func77, Try.ntmps77
          go_wp2_with (first | (go_at_call 94; refine HV.out.mono ?_; rintro e w1 ⟨rfl, hb1⟩; have HB1 := Lib.hid hb1; clear hb1) | (go_at_call 89; refine (HK.out _).mono ?_; rintro e w2 ⟨rfl, rfl⟩) | (go_at_call 95; refine (HM.out _ HB1.out).mono ?_; rintro e w2 ⟨rfl, rfl⟩))
          go_ret
          rw [HI.out]
          exact newP_nil _ _ HB1.out
      · rw [tickB_iff0.2 htk] at HK
        obtain ⟨a1, a2⟩ := ha
        have HI := Lib.hid (insM_f (xs := xs) (k := k) (t := t) (n := cn) (fun h => htk (mayB_iff.1 h.2.1).1))
        clear hv h1 HT HM
        go_enter Try.func77, Try.ntmps77
        go_wp2_with (first | (go_at_call 94; refine HV.out.mono ?_; rintro e w1 ⟨rfl, hb1⟩; have HB1 := Lib.hid hb1; clear hb1) | (go_at_call 89; refine (HK.out _).mono ?_; rintro e w2 ⟨rfl, rfl⟩))
        go_ret
        rw [HI.out]
        exact newP_nil _ _ HB1.out
    · have HI := Lib.hid (insM_f (xs := xs) (k := k) (t := t) (n := cn) (fun h => ha h.2.2.1))
      clear hv h1 HT HM
      by_cases a1 : 0 ≤ cn
      · have a2 : 1024 < cn := by omega
        clear ha
        go_enter Try.func77, Try.ntmps77
        go_wp2_with (go_at_call 94; refine HV.out.mono ?_; rintro e w1 ⟨rfl, hb1⟩; have HB1 := Lib.hid hb1; clear hb1)
        go_ret
        rw [HI.out]
        exact newP_nil _ _ HB1.out
      · clear ha
        go_enter Try.func77, Try.ntmps77
        go_wp2_with (go_at_call 94; refine HV.out.mono ?_; rintro e w1 ⟨rfl, hb1⟩; have HB1 := Lib.hid hb1; clear hb1)
        go_ret
        rw [HI.out]
        exact newP_nil _ _ HB1.out
  · have HI := Lib.hid (insM_f (xs := xs) (k := k) (t := t) (n := cn) (fun h => hv h.1))
    have hv2 : validB xs k = false := by simpa using hv
    rw [hv2] at HV
    clear hv hv2 h1 HT HM
    go_enter Try.func77, Try.ntmps77
    go_wp2_with (go_at_call 94; refine HV.out.mono ?_; rintro e w1 ⟨rfl, hb1⟩; have HB1 := Lib.hid hb1; clear hb1)
    go_ret
    rw [HI.out]
    exact newP_nil _ _ HB1.out
end Go.Proofs.Ytofgjcfiinmimaa.lst
