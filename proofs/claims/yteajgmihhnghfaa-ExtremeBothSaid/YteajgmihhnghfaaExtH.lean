/- Contract of the reference's best value; steps of a deque in order. -/
import Derived.Test.YteajgmihhnghfaaExtR
import Derived.Test.YteajgmihhnghfaaExtC
import Derived.Test.YteajgmihhnghfaaExtE
namespace Go.Proofs.Yteajgmihhnghfaa.ext
open Go.RowKit Go.Proofs.Yteajgmihhnghfaa.mem Go.Proofs.Yteajgmihhnghfaa.gro
open Go.Proofs.Yteajgmihhnghfaa.buk (at_)
open Go.Proofs.Yteajgmihhnghfaa.lst (expireL)
set_option linter.unusedVariables false
set_option linter.unusedSimpArgs false
set_option maxHeartbeats 8000000 in
set_option maxRecDepth 100000 in
theorem Extreme8_any (m : Bool) (A : Option Addr) (n c : Nat) (xs : L2) (w : World) (h1 : PRead w w.heap.size A n xs) (hs : n ≤ 1000) :
    Calls Try.prog 27 #[.slice A n c, .bool m] w fun e w' => e = .returned (.tuple #[.int .i64 (bestN m xs n), .bool (decide (0 < n))]) ∧ Below w.heap.size w w' := by
  have H1 := Lib.hid h1
  have HL := Lib.hid h1.len
  clear h1
  by_cases h0 : 0 < n
  case neg =>
    obtain rfl : n = 0 := by omega
    have e : xs = [] := List.eq_nil_of_length_eq_zero HL.out
    subst e
    go_enter Try.func27, Try.ntmps27
    go_wp2
    go_ret2
    exact ⟨rfl, Below.refl _ _⟩
  have hn0 : ((n : Int) == 0) = false := by simp; omega
  obtain ⟨ad, rfl, hbl, hc1, hc2⟩ := PRead.at_ H1.out h0
  rw [show ad.add (0 * 2) = ad from by simp [Addr.add]] at hc1 hc2
  change w.cell? ⟨ad.block, ad.off + 1, none⟩ = some (.int .i64 (at_ xs 0).2) at hc2
  rw [decide_eq_true h0]
  have HB0 : Hid (bestN m xs 0 = (at_ xs 0).2) := rfl
  generalize (at_ xs 0).2 = V at *
  clear hc1
  go_enter Try.func27, Try.ntmps27
  go_wp2_with fail
  go_loopg [6, 18] n (fun kx s6 s18 wr => ∃ (i : Nat) (b : Int), s18 = .int .i64 i ∧ s6 = .int .i64 b ∧ i ≤ n ∧ n - i ≤ kx ∧ Hid (bestN m xs i = b) ∧ Hid (Below w.heap.size w wr))
  case atStart => exact ⟨0, V, rfl, rfl, by omega, by omega, HB0, Below.refl _ _⟩
  case round =>
    clear HB0 hc2 hn0
    obtain ⟨i, b, rfl, rfl, hin, hik, hb, HB⟩ := hrel
    by_cases hlt : i < n
    case neg =>
      obtain rfl : n = i := by omega
      obtain rfl := hb.out
      go_wp2
      go_ret2
      exact ⟨rfl, HB.out⟩
    obtain ⟨ad', e, _, hd1, hd2⟩ := PRead.at_ (H1.out.below HB.out) hlt
    injection e with e
    subst e
    have hs2 := HB.out.size
    have hbl2 : ad.block < wr.heap.size := by omega
    change wr.cell? (ad.add (i * 2)) = some (.int .i64 (at_ xs i).1) at hd1
    change wr.cell? ⟨(ad.add (i * 2)).block, (ad.add (i * 2)).off + 1, none⟩ = some (.int .i64 (at_ xs i).2) at hd2
    have HS := Lib.hid (bestN_succ m xs i)
    rw [hb.out] at HS
    generalize (at_ xs i).1 = t at *
    generalize (at_ xs i).2 = x at *
    obtain ⟨s, hs3⟩ : ∃ s, wr.heap.size = s := ⟨_, rfl⟩
    have RA := (Bx.nil_.new (W := wr) (t := 40) (c := #[Value.int IntKind.i64 t, Value.int IntKind.i64 x]) hs3).rules
    simp only [Rules] at RA
    cases m
    case true =>
      by_cases hc : b < x
      · go_wp2
        go_roundg (n - (i + 1))
        case measure => omega
        case rel => exact ⟨i + 1, x, by go_num, rfl, by omega, by omega, Lib.hid (by rw [HS.out, if_pos (by simpa [key] using hc)]), HB.out.alloc HB.out.size _⟩
      · go_wp2
        go_roundg (n - (i + 1))
        case measure => omega
        case rel => exact ⟨i + 1, b, by go_num, rfl, by omega, by omega, Lib.hid (by rw [HS.out, if_neg (by simpa [key] using hc)]), HB.out.alloc HB.out.size _⟩
    case false =>
      by_cases hc : x < b
      · go_wp2
        go_roundg (n - (i + 1))
        case measure => omega
        case rel => exact ⟨i + 1, x, by go_num, rfl, by omega, by omega, Lib.hid (by rw [HS.out, if_pos (by simp [key]; omega)]), HB.out.alloc HB.out.size _⟩
      · go_wp2
        go_roundg (n - (i + 1))
        case measure => omega
        case rel => exact ⟨i + 1, b, by go_num, rfl, by omega, by omega, Lib.hid (by rw [HS.out, if_neg (by simp [key]; omega)]), HB.out.alloc HB.out.size _⟩
section
variable {m : Bool} {v p o x tt : Int} {A : Option Addr} {n c : Nat} {xs : L2} {w : World}
theorem AdvE_ok (h1 : PRead w w.heap.size A n xs) (hnc : n ≤ c) (hcm : c ≤ maxLen) (hsmall : n ≤ 2000) (hf : valE m v p o xs = true) (ht : o ≤ tt ∧ tt ≤ 16777216) :
    Calls Try.prog 14 #[.agg #[Value.bool m, Value.int IntKind.i64 v, Value.int IntKind.i64 p, Value.int IntKind.i64 o, Value.slice A n c], .int .i64 tt] w (NewE m v p tt (expireL (tt - v + 1) xs) 0 w) := by
  have := Advance_f m v p o tt A n c xs w h1 hnc hcm hsmall
  have e : timeE o tt = 0 := by unfold timeE; rw [if_neg (by omega)]
  rw [hf, e, okT_0] at this
  simpa only [kp_t, kb_t, lsK_t, advE_t, Bool.true_and] using this
theorem AddE_ok (h1 : PRead w w.heap.size A n xs) (hnc : n ≤ c) (hcm : c ≤ maxLen) (hsmall : n ≤ 2000) (hf : valE m v p o xs = true) (hx : -4096 ≤ x ∧ x ≤ 4096) (hp : ((addL m x o xs).length : Int) ≤ p) :
    Calls Try.prog 16 #[.agg #[Value.bool m, Value.int IntKind.i64 v, Value.int IntKind.i64 p, Value.int IntKind.i64 o, Value.slice A n c], .int .i64 x] w (NewE m v p o (addL m x o xs) 0 w) := by
  have := Add_f m v p o x A n c xs w h1 hnc hcm hsmall
  have e := (add_law (x := x) hf rfl).2
  rw [decide_eq_false (by omega)] at e
  rw [hf, valB_iff.2 hx, e, addEr_0] at this
  simpa only [kp_t, kb_t, lsK_t, Bool.true_and, Bool.not_false] using this
theorem AddE_full (h1 : PRead w w.heap.size A n xs) (hnc : n ≤ c) (hcm : c ≤ maxLen) (hsmall : n ≤ 2000) (hf : valE m v p o xs = true) (hx : -4096 ≤ x ∧ x ≤ 4096) (hp : p < ((addL m x o xs).length : Int)) :
    Calls Try.prog 16 #[.agg #[Value.bool m, Value.int IntKind.i64 v, Value.int IntKind.i64 p, Value.int IntKind.i64 o, Value.slice A n c], .int .i64 x] w (NewE false 0 0 0 [] 5 w) := by
  have := Add_f m v p o x A n c xs w h1 hnc hcm hsmall
  have e := (add_law (x := x) hf rfl).2
  rw [decide_eq_true hp] at e
  rw [hf, valB_iff.2 hx, e, addEr_u] at this
  simpa only [kp_f, kb_f, lsK_f, Bool.true_and, Bool.not_true] using this
theorem AskE_ok (h1 : PRead w w.heap.size A n xs) (hsmall : n ≤ 2000) (hf : valE m v p o xs = true) :
    Calls Try.prog 18 #[.agg #[Value.bool m, Value.int IntKind.i64 v, Value.int IntKind.i64 p, Value.int IntKind.i64 o, Value.slice A n c]] w fun e w' => e = .returned (.tuple #[.int .i64 (at_ xs 0).2, .int .i64 (if n = 0 then 7 else 0)]) ∧ Below w.heap.size w w' := by
  have := Ask_any m v p o A n c xs w h1 hsmall
  rw [hf, askV_t, askE_t] at this
  exact this
theorem NewE_ok (h : mayB v p o = true) (w : World) : Calls Try.prog 9 #[.bool m, .int .i64 v, .int .i64 p, .int .i64 o] w fun e w' => e = .returned (.tuple #[.agg #[.bool m, .int .i64 v, .int .i64 p, .int .i64 o, .slice none 0 0], .int .i64 0]) ∧ Below w.heap.size w w' := by
  have := New_any m v p o w
  rw [h] at this
  simpa only [kp_t, kb_t, er1_t] using this
end
end Go.Proofs.Yteajgmihhnghfaa.ext
