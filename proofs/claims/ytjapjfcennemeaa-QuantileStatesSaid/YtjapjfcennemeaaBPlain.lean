/- Contracts of both lists of the plain buckets of blocks, and of both totals. -/
import Derived.Test.YtjapjfcennemeaaMgPruV
import Derived.Test.YtjapjfcennemeaaBExp
import Derived.Test.YtjapjfcennemeaaMgExpire
import Derived.Test.YtjapjfcennemeaaMgTotal
namespace Go.Proofs.Ytjapjfcennemeaa.blk
open Go.RowKit Go.Proofs.Ytjapjfcennemeaa.mem Go.Proofs.Ytjapjfcennemeaa.rnk
set_option linter.unusedVariables false
set_option linter.unusedSimpArgs false
set_option pp.maxSteps 200000
def plainB (xs : List BlkM) : List (Int × Int) := xs.map fun b => (b.t, b.level)
theorem plainB_key (xs : List BlkM) : plainB xs = plainK (xs.map bkey) := by unfold plainB plainK; rw [List.map_map]; rfl
theorem plainB_len (xs : List BlkM) : (plainB xs).length = xs.length := by simp [plainB]
theorem plainB_take {xs : List BlkM} {i : Nat} {b : BlkM} (h : xs[i]? = some b) : (plainB xs).take (i + 1) = (plainB xs).take i ++ [(b.t, b.level)] := by
  have hi : i < xs.length := by rw [List.getElem?_eq_some_iff] at h; exact h.1
  rw [List.take_add_one]
  congr 1
  unfold plainB
  rw [List.getElem?_map, h]
  rfl
theorem BRead.key_len {w : World} {B n : Nat} {A : Option Addr} {xs : List BlkM} (h : BRead w B A n xs) : (xs.map bkey).length = n := by rw [List.length_map]; exact h.len
set_option maxHeartbeats 4000000 in
set_option maxRecDepth 100000 in
theorem Plain_any (A : Option Addr) (n c : Nat) (xs : List BlkM) (w : World) (h1 : BRead w w.heap.size A n xs) (hs : n ≤ 65000) : Calls Try.prog 68 #[.slice A n c] w (NewP (plainB xs) w) := by
  have H1 := Lib.hid h1
  have HL := Lib.hid h1.len
  clear h1
  obtain ⟨i0, hi0, hz0, hz1, hz2⟩ := info_parts lst.bucket_info
  have HI := Lib.hid hi0
  have HZ0 := Lib.hid hz0
  have HZ1 := Lib.hid hz1
  have HZ2 := Lib.hid hz2
  clear hi0 hz0 hz1 hz2
  go_enter Try.func68, Try.ntmps68
  go_wp2
  go_loopg [3, 8] n (fun kx s3 s8 wr => ∃ (u : Value) (i : Nat), s8 = .int .i64 i ∧ u = s3 ∧ i ≤ n ∧ n - i ≤ kx ∧ Hid (wr.ownsRow w.heap.size 102 2 u i (pc ((plainB xs).take i))) ∧ Hid (Below w.heap.size w wr))
  case atStart => exact ⟨_, 0, rfl, rfl, by omega, by omega, own_nil _ _ _ _, Below.refl _ _⟩
  case round =>
    obtain ⟨u, i, rfl, rfl, hin, hik, HO, HB⟩ := hrel
    by_cases hlt : i < n
    case neg =>
      obtain rfl : i = n := by omega
      go_wp2
      go_ret
      exact newP_own HB.out HO.out (by rw [List.take_of_length_le (by rw [plainB_len, HL.out]; exact Nat.le_refl _)])
    obtain ⟨ad, b, rfl, hbl, hb, hc1, hc2, hc3, hc4, hc5, _⟩ := BRead.at_ (H1.out.below HB.out) hlt
    have HT := Lib.hid (plainB_take hb)
    have hsz := HB.out.size
    have hbl2 : ad.block < wr.heap.size := by omega
    clear hb
    generalize b.t = bt at *
    generalize b.last = bl at *
    generalize b.level = bv at *
    generalize b.num = bn at *
    generalize b.adr = ba at *
    generalize b.en = be at *
    generalize b.ec = bq at *
    obtain ⟨W1, hW1⟩ : ∃ W1, wr.alloc (.cells #[Value.int IntKind.i64 bt, Value.int IntKind.i64 bl, Value.int IntKind.i64 bv, Value.int IntKind.i64 bn, Value.slice ba be bq] 64) = W1 := ⟨_, rfl⟩
    have HO1 := Lib.hid (own_alloc HO.out (.cells #[Value.int IntKind.i64 bt, Value.int IntKind.i64 bl, Value.int IntKind.i64 bv, Value.int IntKind.i64 bn, Value.slice ba be bq] 64))
    have HB1 := Lib.hid (HB.out.alloc HB.out.size (.cells #[Value.int IntKind.i64 bt, Value.int IntKind.i64 bl, Value.int IntKind.i64 bv, Value.int IntKind.i64 bn, Value.slice ba be bq] 64))
    clear hW1 W1
    go_wp2_with (at_builtin; go_loud (refine wpList_append_any _ rfl (.tmp 12) (.tmp 18) 34 rfl w.heap.size 102 i0 (.agg #[.int .i64 0, .int .i64 0]) 2 16 Try.underlying34 HI.out HZ0.out HZ1.out HZ2.out rfl (by omega) u i _ rfl (own_alloc HO1.out _) _ _ 1 1 _ rfl (reads_blk (blk_new2 (by simp)) rfl) (by simp [Value.oneCell']) (by unfold maxLen; omega) (by omega) (by simp; omega) ?_); intro v2 w2 hown2 hg2 hat2; have HB2 := Lib.hid (below_own hg2 (own_alloc HO1.out _) (HB1.out.alloc HB1.out.size _) (Nat.le_refl _) (by simp; omega)); have HO2 := Lib.hid hown2; clear hown2 hg2 hat2)
    go_roundg (n - (i + 1))
    case measure => omega
    case rel => exact ⟨v2, i + 1, by go_num, rfl, by omega, by omega, (by rw [HT.out, pc_append]; exact HO2.out), HB2.out⟩
set_option maxHeartbeats 4000000 in
set_option maxRecDepth 100000 in
theorem PlainR_any (A : Option Addr) (n c : Nat) (xs : List BlkM) (w : World) (h1 : BRead w w.heap.size A n xs) (hs : n ≤ 65000) : Calls Try.prog 28 #[.slice A n c] w (NewP (plainB xs) w) := by
  have H1 := Lib.hid h1
  have HL := Lib.hid h1.len
  clear h1
  obtain ⟨i0, hi0, hz0, hz1, hz2⟩ := info_parts lst.bucket_info
  have HI := Lib.hid hi0
  have HZ0 := Lib.hid hz0
  have HZ1 := Lib.hid hz1
  have HZ2 := Lib.hid hz2
  clear hi0 hz0 hz1 hz2
  go_enter Try.func28, Try.ntmps28
  go_wp2
  go_loopg [3, 8] n (fun kx s3 s8 wr => ∃ (u : Value) (i : Nat), s8 = .int .i64 i ∧ u = s3 ∧ i ≤ n ∧ n - i ≤ kx ∧ Hid (wr.ownsRow w.heap.size 102 2 u i (pc ((plainB xs).take i))) ∧ Hid (Below w.heap.size w wr))
  case atStart => exact ⟨_, 0, rfl, rfl, by omega, by omega, own_nil _ _ _ _, Below.refl _ _⟩
  case round =>
    obtain ⟨u, i, rfl, rfl, hin, hik, HO, HB⟩ := hrel
    by_cases hlt : i < n
    case neg =>
      obtain rfl : i = n := by omega
      go_wp2
      go_ret
      exact newP_own HB.out HO.out (by rw [List.take_of_length_le (by rw [plainB_len, HL.out]; exact Nat.le_refl _)])
    obtain ⟨ad, b, rfl, hbl, hb, hc1, hc2, hc3, hc4, hc5, _⟩ := BRead.at_ (H1.out.below HB.out) hlt
    have HT := Lib.hid (plainB_take hb)
    have hsz := HB.out.size
    have hbl2 : ad.block < wr.heap.size := by omega
    clear hb
    generalize b.t = bt at *
    generalize b.last = bl at *
    generalize b.level = bv at *
    generalize b.num = bn at *
    generalize b.adr = ba at *
    generalize b.en = be at *
    generalize b.ec = bq at *
    obtain ⟨W1, hW1⟩ : ∃ W1, wr.alloc (.cells #[Value.int IntKind.i64 bt, Value.int IntKind.i64 bl, Value.int IntKind.i64 bv, Value.int IntKind.i64 bn, Value.slice ba be bq] 64) = W1 := ⟨_, rfl⟩
    have HO1 := Lib.hid (own_alloc HO.out (.cells #[Value.int IntKind.i64 bt, Value.int IntKind.i64 bl, Value.int IntKind.i64 bv, Value.int IntKind.i64 bn, Value.slice ba be bq] 64))
    have HB1 := Lib.hid (HB.out.alloc HB.out.size (.cells #[Value.int IntKind.i64 bt, Value.int IntKind.i64 bl, Value.int IntKind.i64 bv, Value.int IntKind.i64 bn, Value.slice ba be bq] 64))
    clear hW1 W1
    go_wp2_with (at_builtin; go_loud (refine wpList_append_any _ rfl (.tmp 12) (.tmp 18) 34 rfl w.heap.size 102 i0 (.agg #[.int .i64 0, .int .i64 0]) 2 16 Try.underlying34 HI.out HZ0.out HZ1.out HZ2.out rfl (by omega) u i _ rfl (own_alloc HO1.out _) _ _ 1 1 _ rfl (reads_blk (blk_new2 (by simp)) rfl) (by simp [Value.oneCell']) (by unfold maxLen; omega) (by omega) (by simp; omega) ?_); intro v2 w2 hown2 hg2 hat2; have HB2 := Lib.hid (below_own hg2 (own_alloc HO1.out _) (HB1.out.alloc HB1.out.size _) (Nat.le_refl _) (by simp; omega)); have HO2 := Lib.hid hown2; clear hown2 hg2 hat2)
    go_roundg (n - (i + 1))
    case measure => omega
    case rel => exact ⟨v2, i + 1, by go_num, rfl, by omega, by omega, (by rw [HT.out, pc_append]; exact HO2.out), HB2.out⟩
set_option maxHeartbeats 4000000 in
set_option maxRecDepth 100000 in
theorem TotalB_any (A : Option Addr) (n c : Nat) (xs : List BlkM) (w : World) (h1 : BRead w w.heap.size A n xs) (hs : n ≤ 65000) : Calls Try.prog 19 #[.slice A n c] w fun e w' => e = .returned (.int .i64 (totalK (xs.map bkey))) ∧ Below w.heap.size w w' := by
  have HK := Lib.hid (show totalK (xs.map bkey) = lst.totalN (plainB xs) by unfold totalK; rw [plainB_key])
  have HP := Lib.hid (Plain_any A n c xs w h1 hs)
  have HL := Lib.hid h1.len
  clear h1
  go_enter Try.func19, Try.ntmps19
  go_wp2_with fail
  refine HP.out.mono ?_
  rintro e w1 ⟨A1, m1, c1, rfl, q1, q2, q3, hb1⟩
  have hm1 : m1 = n := by have := PRead.len q3; rw [plainB_len, HL.out] at this; omega
  have HT := Lib.hid (lst.Total_any A1 m1 c1 (plainB xs) w1 q3 (by omega))
  have HB := Lib.hid hb1
  clear q3 hb1 hm1
  go_wp2_with (go_at_call 74; refine HT.out.mono ?_; rintro e w2 ⟨rfl, hb2⟩; have HB2 := Lib.hid (HB.out.trans (hb2.mono HB.out.size)); clear hb2)
  go_ret
  exact ⟨ret_int (by rw [HK.out]), HB2.out⟩
set_option maxHeartbeats 4000000 in
set_option maxRecDepth 100000 in
theorem TotalBR_any (A : Option Addr) (n c : Nat) (xs : List BlkM) (w : World) (h1 : BRead w w.heap.size A n xs) (hs : n ≤ 65000) : Calls Try.prog 20 #[.slice A n c] w fun e w' => e = .returned (.int .i64 (totalK (xs.map bkey))) ∧ Below w.heap.size w w' := by
  have HK := Lib.hid (show totalK (xs.map bkey) = lst.totalN (plainB xs) by unfold totalK; rw [plainB_key])
  have HP := Lib.hid (PlainR_any A n c xs w h1 hs)
  have HL := Lib.hid h1.len
  clear h1
  go_enter Try.func20, Try.ntmps20
  go_wp2_with fail
  refine HP.out.mono ?_
  rintro e w1 ⟨A1, m1, c1, rfl, q1, q2, q3, hb1⟩
  have hm1 : m1 = n := by have := PRead.len q3; rw [plainB_len, HL.out] at this; omega
  have HT := Lib.hid (lst.TotalRef_any A1 m1 c1 (plainB xs) w1 q3 (by omega))
  have HB := Lib.hid hb1
  clear q3 hb1 hm1
  go_wp2_with (go_at_call 75; refine HT.out.mono ?_; rintro e w2 ⟨rfl, hb2⟩; have HB2 := Lib.hid (HB.out.trans (hb2.mono HB.out.size)); clear hb2)
  go_ret
  exact ⟨ret_int (by rw [HK.out]), HB2.out⟩
end Go.Proofs.Ytjapjfcennemeaa.blk
