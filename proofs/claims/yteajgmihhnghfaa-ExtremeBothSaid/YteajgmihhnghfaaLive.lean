/- Contract of the statements' own list of the items in a window. -/
import Derived.Test.YteajgmihhnghfaaItems
import Derived.Test.YteajgmihhnghfaaNewF
import Derived.Test.YteajgmihhnghfaaBox
namespace Go.Proofs.Yteajgmihhnghfaa.made
open Go.RowKit Go.Proofs.Yteajgmihhnghfaa.mem
set_option linter.unusedVariables false
set_option linter.unusedSimpArgs false
def liveI (now v : Int) (its : List (Int × Int)) : List (Int × Int) := its.filter (fun p => decide (now - v < p.1) && decide (p.1 ≤ now))
theorem live_take {now v : Int} {its : List (Int × Int)} {i : Nat} (h : i < its.length) : liveI now v (its.take (i + 1)) = liveI now v (its.take i) ++ if now - v < (buk.at_ its i).1 ∧ (buk.at_ its i).1 ≤ now then [((buk.at_ its i).1, (buk.at_ its i).2)] else [] := by
  have e : buk.at_ its i = its[i] := by simp [buk.at_, List.getElem?_eq_getElem h]
  unfold liveI
  rw [e, List.take_succ_eq_append_getElem h, List.filter_append]
  congr 1
  by_cases h1 : now - v < its[i].1 ∧ its[i].1 ≤ now
  · rw [if_pos h1]; simp [h1]
  · rw [if_neg h1]; simp only [List.filter_cons, List.filter_nil]
    rw [if_neg (by simpa using h1)]
theorem live_len (now v : Int) (its : List (Int × Int)) (i : Nat) : (liveI now v (its.take i)).length ≤ i := by
  have := List.length_filter_le (fun p : Int × Int => decide (now - v < p.1) && decide (p.1 ≤ now)) (its.take i)
  rw [List.length_take] at this
  unfold liveI; omega
set_option maxHeartbeats 4000000 in
set_option maxRecDepth 100000 in
theorem Live_any (A : Option Addr) (n c : Nat) (zs : List (Int × Int)) (now v : Int) (w : World) (h1 : PRead w w.heap.size A n zs) (hnc : n ≤ c) (hcm : c ≤ maxLen) (hn : 0 ≤ now ∧ now ≤ 100000000) (hv : 1 ≤ v ∧ v ≤ 100000000) (hs : n ≤ 1000) :
    Calls Try.prog 24 #[.slice A n c, .int .i64 now, .int .i64 v] w (lst.NewF (liveI now v zs) w) := by
  have H1 := Lib.hid h1
  have HL := Lib.hid h1.len
  have hcm9 : c ≤ 9223372036854775807 := hcm
  have hnv : IntKind.i64.wrap (now - v) = now - v := IntWalk.i64_in _ (by omega)
  clear h1 hcm hn hv
  obtain ⟨i0, hi0, hz0, hz1, hz2⟩ := info_parts item_info
  have HI := Lib.hid hi0
  have HZ0 := Lib.hid hz0
  have HZ1 := Lib.hid hz1
  have HZ2 := Lib.hid hz2
  clear hi0 hz0 hz1 hz2
  go_enter Try.func24, Try.ntmps24
  go_wp2
  go_loopg [7, 12] n (fun kx s7 s12 wr => ∃ (u : Value) (ys : List (Int × Int)) (i : Nat), s12 = .int .i64 i ∧ u = s7 ∧ i ≤ n ∧ n - i ≤ kx ∧ Hid (liveI now v (zs.take i) = ys) ∧ Hid (wr.ownsRow w.heap.size 40 2 u ys.length (pc ys)) ∧ Hid (Below w.heap.size w wr))
  case atStart => exact ⟨_, [], 0, rfl, rfl, by omega, by omega, rfl, own_nil _ _ _ _, Below.refl _ _⟩
  case round =>
    obtain ⟨u, ys, i, rfl, rfl, hin, hik, HY, HO, HB⟩ := hrel
    by_cases hlt : i < n
    case neg =>
      obtain rfl : i = n := by omega
      have e : zs.take i = zs := List.take_of_length_le (by rw [HL.out]; exact Nat.le_refl _)
      rw [e] at HY
      go_wp2
      go_ret
      exact lst.newF_own HB.out HO.out (by rw [HY.out])
    have H2 := H1.out.below HB.out
    obtain ⟨ad, rfl, hbl, hc1, hc2⟩ := PRead.at_ H2 hlt
    have hs2 := HB.out.size
    have hbl2 : ad.block < wr.heap.size := by omega
    have HY2 := Lib.hid (live_take (now := now) (v := v) (its := zs) (i := i) (by rw [HL.out]; exact hlt))
    have hyl := live_len now v zs i
    rw [HY.out] at hyl HY2
    clear H2
    change wr.cell? (ad.add (i * 2)) = some (.int .i64 (buk.at_ zs i).1) at hc1
    change wr.cell? ⟨(ad.add (i * 2)).block, (ad.add (i * 2)).off + 1, none⟩ = some (.int .i64 (buk.at_ zs i).2) at hc2
    generalize (buk.at_ zs i).1 = x at *
    generalize (buk.at_ zs i).2 = y at *
    obtain ⟨s, hs3⟩ : ∃ s, wr.heap.size = s := ⟨_, rfl⟩
    have RA := (gro.Bx.nil_.new (W := wr) (t := 40) (c := #[Value.int IntKind.i64 x, Value.int IntKind.i64 y]) hs3).rules
    simp only [gro.Rules] at RA
    by_cases q1 : now - v < x
    case neg =>
      rw [if_neg (fun h => q1 h.1), List.append_nil] at HY2
      go_wp2_with fail
      go_roundg (n - (i + 1))
      case measure => omega
      case rel => exact ⟨u, ys, i + 1, by go_num, rfl, by omega, by omega, HY2.out, own_alloc HO.out _, HB.out.alloc HB.out.size _⟩
    by_cases q2 : x ≤ now
    case neg =>
      rw [if_neg (fun h => q2 h.2), List.append_nil] at HY2
      go_wp2_with fail
      go_roundg (n - (i + 1))
      case measure => omega
      case rel => exact ⟨u, ys, i + 1, by go_num, rfl, by omega, by omega, HY2.out, own_alloc HO.out _, HB.out.alloc HB.out.size _⟩
    rw [if_pos ⟨q1, q2⟩] at HY2
    have HPC := Lib.hid (pc_snoc ys x y)
    obtain ⟨W1, hW1⟩ : ∃ W, wr.alloc (.cells #[Value.int IntKind.i64 x, Value.int IntKind.i64 y] 40) = W := ⟨_, rfl⟩
    have HO1 : Hid (W1.ownsRow w.heap.size 40 2 u ys.length (pc ys)) := by rw [← hW1]; exact own_alloc HO.out _
    have HB1 : Hid (Below w.heap.size w W1) := by rw [← hW1]; exact HB.out.alloc HB.out.size _
    rw [hW1] at RA
    go_wp2_with (at_builtin; go_loud (refine wpList_append_any _ rfl (.tmp 28) (.tmp 30) 22 rfl w.heap.size 40 i0 (.agg #[.int .i64 0, .int .i64 0]) 2 16 Try.underlying22 HI.out HZ0.out HZ1.out HZ2.out rfl (by omega) u ys.length _ rfl (own_alloc HO1.out _) _ _ 1 1 _ rfl (reads_new _ _ _ rfl) (by simp [Value.oneCell']) (by unfold maxLen; omega) (by omega) (by have := HB1.out.size; simp; omega) ?_); intro v1 w1 hown1 hg1 hat1)
    go_roundg (n - (i + 1))
    case measure => omega
    case rel => exact ⟨v1, ys ++ [(x, y)], i + 1, by go_num, rfl, by omega, by omega, HY2.out, by rw [Hid, HPC.out, List.length_append]; exact hown1, below_box HB1.out HO1.out hg1⟩
end Go.Proofs.Yteajgmihhnghfaa.made
