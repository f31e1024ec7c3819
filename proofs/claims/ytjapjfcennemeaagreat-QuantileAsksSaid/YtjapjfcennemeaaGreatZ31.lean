/- RWid: proved here in one text, no conditions beyond those that each theorem states. -/
import Derived.LoopN
import Derived.Test.YtjapjfcennemeaaGreatZ27
import Derived.Test.YtjapjfcennemeaaGreatZ9
set_option linter.unusedVariables false
set_option linter.unusedSimpArgs false
namespace Go.Proofs.YtjapjfcennemeaaGreat.rnk
open Go.RowKit Go.Proofs.YtjapjfcennemeaaGreat.mem Go.Proofs.YtjapjfcennemeaaGreat.gro
set_option linter.unusedVariables false
set_option linter.unusedSimpArgs false
set_option pp.maxSteps 200000
def NewE (ys : L3) (w : World) (e : Ending) (w' : World) : Prop :=
  ∃ A m c, e = .returned (.slice A m c) ∧ m ≤ c ∧ c ≤ maxLen ∧ ERead w' w'.heap.size A m ys ∧ Below w.heap.size w w' ∧ ∀ ad, A = some ad → w.heap.size ≤ ad.block
theorem newE_own {w W : World} {base n : Nat} {v : Value} {ys : L3} (hb : Below w.heap.size w W) (ho : W.ownsRow base 79 3 v n (tc ys)) (hbase : w.heap.size ≤ base) : NewE ys w (.returned v) W := by
  have hge := own_block_ge ho
  obtain ⟨A, c, rfl, q1, q2, q3⟩ := own_form ho
  exact ⟨A, n, c, rfl, q1, q2, q3, hb, fun ad h => by have := hge ad.block (by rw [h]; rfl); omega⟩
theorem wlo_bd {o : L3} {n : Nat} (hb : ∀ i < n, (0 ≤ (at3 o i).2.1 ∧ (at3 o i).2.1 ≤ 1099511627776) ∧ 0 ≤ (at3 o i).2.2 ∧ (at3 o i).2.2 ≤ 1099511627776) (f : Bool) (v : Int) : ∀ j, j ≤ n → 0 ≤ wlo o f v j ∧ wlo o f v j ≤ 1099511627776
  | 0, _ => ⟨Int.le_refl _, by show (0 : Int) ≤ _; omega⟩
  | j + 1, h => by
    have h1 := wlo_bd hb f v j (by omega)
    have h2 := (hb j (by omega)).1
    unfold wlo
    split
    · exact h2
    · exact h1
theorem whi_bd {o : L3} {n : Nat} {N : Int} (hN : 0 ≤ N ∧ N ≤ 1099511627776) (hb : ∀ i < n, (0 ≤ (at3 o i).2.1 ∧ (at3 o i).2.1 ≤ 1099511627776) ∧ 0 ≤ (at3 o i).2.2 ∧ (at3 o i).2.2 ≤ 1099511627776) (f : Bool) (v : Int) : ∀ d, d ≤ n → -1 ≤ whi o N f v n d ∧ whi o N f v n d ≤ 1099511627776
  | 0, _ => by unfold whi; omega
  | d + 1, h => by
    have h1 := whi_bd hN hb f v d (by omega)
    have h2 := (hb (n - (d + 1)) (by omega)).2
    unfold whi
    split <;> omega
theorem widL_take {a o : L3} {n : Int} {f : Bool} {i : Nat} (h : i < a.length) : (widL a o n f).take (i + 1) = (widL a o n f).take i ++ [widE o n f (at3 a i)] := by
  have h2 : i < (widL a o n f).length := by rw [widL_len]; exact h
  rw [List.take_succ_eq_append_getElem h2]
  congr 2
  have := widL_at (o := o) (n := n) (f := f) h
  unfold at3 at this
  rw [List.getElem?_eq_getElem h2] at this
  exact this
set_option maxHeartbeats 16000000 in
set_option maxRecDepth 100000 in
theorem widT_any (a : Int) (A1 : Option Addr) (n1 c1 : Nat) (x : L3) (b : Int) (A2 : Option Addr) (n2 c2 : Nat) (y : L3) (w : World) (h1 : ERead w w.heap.size A1 n1 x) (h2 : ERead w w.heap.size A2 n2 y) (hs1 : n1 ≤ 8388608) (hs2 : n2 ≤ 8388608) (hv1 : valR a x = true) (hv2 : valR b y = true) : Calls Tryz.prog 91 #[.agg #[.int .i64 a, .slice A1 n1 c1], .agg #[.int .i64 b, .slice A2 n2 c2], .bool true] w (NewE (widL x y b true) w) := by
  have H1 := Lib.hid h1
  have H2 := Lib.hid h2
  have HL1 := Lib.hid h1.len
  have HL2 := Lib.hid h2.len
  have HB1 := Lib.hid (bnds_of_val HL1.out hv1)
  have HB2 := Lib.hid (bnds_of_val HL2.out hv2)
  have hbN : 0 ≤ b ∧ b ≤ 1099511627776 := ⟨(valR_iff.1 hv2).1.1, (valR_iff.1 hv2).1.2.1⟩
  have HW1 := Lib.hid (fun v => wlo_bd HB2.out true v n2 (Nat.le_refl _))
  have HW2 := Lib.hid (fun v => whi_bd hbN HB2.out true v n2 (Nat.le_refl _))
  have HT := Lib.hid (fun i (hi : i < n1) => widL_take (o := y) (n := b) (f := true) (show i < x.length by rw [HL1.out]; exact hi))
  have HTE := Lib.hid (show (widL x y b true).take n1 = widL x y b true from List.take_of_length_le (by rw [widL_len, HL1.out]; exact Nat.le_refl _))
  clear h1 h2 hv1 hv2
  obtain ⟨i0, hi0, hz0, hz1, hz2⟩ := info_parts entry_info
  have HI := Lib.hid hi0
  have HZ0 := Lib.hid hz0
  have HZ1 := Lib.hid hz1
  have HZ2 := Lib.hid hz2
  clear hi0 hz0 hz1 hz2
  go_enter Tryz.func91, Tryz.ntmps91
  go_wp2_with fail
  obtain ⟨W0, hW, hs0, K0, B0⟩ := start2 w 39 39 #[Value.int IntKind.i64 a, Value.slice A1 n1 c1] #[Value.int IntKind.i64 b, Value.slice A2 n2 c2]
  rw [hW]
  clear hW
  have KK := Lib.hid K0
  have BB := Lib.hid B0
  have R := K0.rules
  simp only [Rules] at R
  clear K0 B0 hs0
  go_wp2_with fail
  obtain ⟨sb, hsb⟩ : ∃ s, W0.heap.size = s := ⟨_, rfl⟩
  have hsb2 : w.heap.size + 1 < sb := by have := (KK.out _ (List.mem_cons_self ..)).lt; omega
  clear R
  go_loopg [7, 19] n1 (fun kx s7 s19 wr => ∃ (u : Value) (i : Nat), s19 = .int .i64 i ∧ u = s7 ∧ i ≤ n1 ∧ n1 - i ≤ kx ∧ Hid (wr.ownsRow sb 79 3 u i (tc ((widL x y b true).take i))) ∧ Hid (Bx wr [(w.heap.size + 1, 39, #[Value.int IntKind.i64 b, Value.slice A2 n2 c2]), (w.heap.size, 39, #[Value.int IntKind.i64 a, Value.slice A1 n1 c1])]) ∧ Hid (Below w.heap.size w wr) ∧ sb ≤ wr.heap.size)
  case atStart => exact ⟨_, 0, rfl, rfl, Nat.zero_le _, by omega, own_nil _ _ _ _, KK, BB, by omega⟩
  case round =>
    clear KK BB
    obtain ⟨u, i, rfl, rfl, hi, hik, HO, KK, BB, szb⟩ := hrel
    have R := KK.out.rules
    simp only [Rules] at R
    by_cases hlt : i < n1
    case neg =>
      obtain rfl : i = n1 := by omega
      go_wp2
      go_ret
      exact newE_own BB.out (by have := HO.out; rw [HTE.out] at this; exact this) (by omega)
    obtain ⟨ad1, rfl, hbx, HCx⟩ := ERead.cells H1.out hlt
    have bx := HB1.out i hlt
    have bxm := bx.1
    have bxx := bx.2
    have hTs := Lib.hid (HT.out i hlt)
    have hwe : Hid (widE y b true (at3 x i) = ((at3 x i).1, (at3 x i).2.1 + wlo y true (at3 x i).1 n2, (at3 x i).2.2 + whi y b true (at3 x i).1 n2 n2)) := by rw [Hid, widE, HL2.out]
    rw [hwe.out] at hTs
    clear bx hwe HT
    generalize (at3 x i).1 = v0 at *
    generalize (at3 x i).2.1 = m0 at *
    generalize (at3 x i).2.2 = x0 at *
    have w1 := HW1.out v0
    have w2 := HW2.out v0
    clear HW1 HW2
    obtain ⟨ge, hge⟩ : ∃ s, wr.heap.size = s := ⟨_, rfl⟩
    have hub := Lib.hid (fun k (h : u.ownBlock = some k) => show sb ≤ k ∧ k < ge by have := World.ownsRow.lt HO.out k h; omega)
    have BZ := Lib.hid (BB.out.alloc BB.out.size (.cells #[Value.int IntKind.i64 v0, Value.int IntKind.i64 m0, Value.int IntKind.i64 x0] 79))
    have KZ := Lib.hid (KK.out.new (t := 79) (c := #[Value.int IntKind.i64 v0, Value.int IntKind.i64 m0, Value.int IntKind.i64 x0]) hge)
    have HOZ := Lib.hid (own_alloc HO.out (.cells #[Value.int IntKind.i64 v0, Value.int IntKind.i64 m0, Value.int IntKind.i64 x0] 79))
    obtain ⟨q1, q2, q3⟩ := HCx.out _ BB.out
    go_wp2_with fail
    obtain ⟨W3, hW, K3, B3, z3⟩ := name_world KZ.out BZ.out (s := ge + 1) (by simp; omega)
    rw [hW]
    rw [hW] at HOZ
    clear hW KK BB KZ BZ R HO q1 q2 q3
    have KK := Lib.hid K3
    have BB := Lib.hid B3
    have HO := HOZ
    have R := K3.rules
    simp only [Rules] at R
    clear K3 B3 HOZ
    (refine gro.wp_region_grown (by kernel_rfl) (by kernel_rfl) ?_; (repeat (go_big_quiet_step ((fail)))); refine wpQuiet_nil ?_; intro _ hw'; obtain ⟨nx, hw''⟩ := hw'; subst hw'')
    replace BB := Lib.hid (BB.out.trans ((below_grown _ nx).mono BB.out.size))
    replace KK := Lib.hid (KK.out.below (below_grown _ nx))
    replace HO := Lib.hid (own_keep HO.out (below_grown _ nx))
    replace z3 := Nat.le_trans z3 (below_grown _ nx).size
    clear R
    generalize grown _ nx = W5 at *
    have R := KK.out.rules
    simp only [Rules] at R
    go_wp2_with fail
    clear R
    go_loopg [10, 28] n2 (fun kx s10 s28 wq => ∃ j : Nat, s28 = .int .i64 j ∧ s10 = .int .i64 (wlo y true v0 j) ∧ j ≤ n2 ∧ n2 - j ≤ kx ∧ Hid (Below W5.heap.size W5 wq))
    case atStart => exact ⟨0, rfl, rfl, Nat.zero_le _, by omega, Below.refl _ _⟩
    case round =>
      obtain ⟨j, rfl, rfl, hj, hjk, BQ⟩ := hrel
      have KQ := Lib.hid (KK.out.below BQ.out)
      have R2 := KQ.out.rules
      simp only [Rules] at R2
      by_cases hlt2 : j < n2
      case pos =>
        obtain ⟨ad2, rfl, hb2, HC2⟩ := ERead.cells H2.out hlt2
        have hS : Hid (wlo y true v0 (j + 1) = if (at3 y j).1 < v0 ∨ (true = false ∧ (at3 y j).1 = v0) then (at3 y j).2.1 else wlo y true v0 j) := rfl
        obtain ⟨q1, q2, q3⟩ := HC2.out _ (BB.out.trans (BQ.out.mono BB.out.size))
        generalize (at3 y j).1 = uv at *
        generalize (at3 y j).2.1 = um at *
        generalize (at3 y j).2.2 = ux at *
        by_cases hc : uv < v0
        case pos =>
          have hS2 := Lib.hid (hS.out.trans (if_pos (.inl hc)))
          go_wp2
          go_roundg (n2 - (j + 1))
          case measure => omega
          case rel => exact ⟨j + 1, by go_num, by rw [hS2.out], by omega, by omega, BQ.out.alloc BQ.out.size _⟩
        have hS2 := Lib.hid (hS.out.trans (if_neg (fun h => by rcases h with h | h; exact hc h; exact absurd h.1 (by decide))))
        go_wp2
        go_roundg (n2 - (j + 1))
        case measure => omega
        case rel => exact ⟨j + 1, by go_num, by rw [hS2.out], by omega, by omega, BQ.out.alloc BQ.out.size _⟩
      obtain rfl : j = n2 := by omega
      go_wp2_with fail
      go_loopg [11, 14] j (fun kx s11 s14 wp => ∃ (d : Nat) (z : Int), s14 = .int .i64 z ∧ s11 = .int .i64 (whi y b true v0 j d) ∧ d ≤ j ∧ j - d ≤ kx ∧ Hid (z = (j : Int) - 1 - d) ∧ Hid (Below W5.heap.size W5 wp))
      case atStart => exact ⟨0, (j : Int) - 1, by first | rfl | go_num, rfl, Nat.zero_le _, by omega, by rw [Hid]; simp, BQ⟩
      case round =>
        clear KQ R2 BQ
        obtain ⟨d, z, rfl, rfl, hd, hdk, hz, BQ⟩ := hrel
        have KQ := Lib.hid (KK.out.below BQ.out)
        have R2 := KQ.out.rules
        simp only [Rules] at R2
        by_cases hlt3 : d < j
        case pos =>
          have hz2 : z.toNat = j - (d + 1) := by have := hz.out; omega
          have hz3 : 0 ≤ z := by have := hz.out; omega
          have hz4 : z < (j : Int) := by have := hz.out; omega
          have hz5 : IntKind.i64.wrap (z - 1) = z - 1 := IntWalk.i64_in _ (by omega)
          have hz6 : Hid (z - 1 = (j : Int) - 1 - ((d + 1 : Nat) : Int)) := by have := hz.out; rw [Hid]; omega
          have hb3 := (HB2.out (j - (d + 1)) (by omega)).2
          obtain ⟨ad2, rfl, hb2, HC2⟩ := ERead.cells H2.out (show j - (d + 1) < j by omega)
          have hS : Hid (whi y b true v0 j (d + 1) = if v0 < (at3 y (j - (d + 1))).1 ∨ (true = true ∧ (at3 y (j - (d + 1))).1 = v0) then (at3 y (j - (d + 1))).2.2 - 1 else whi y b true v0 j d) := rfl
          obtain ⟨q1, q2, q3⟩ := HC2.out _ (BB.out.trans (BQ.out.mono BB.out.size))
          generalize (at3 y (j - (d + 1))).1 = uv at *
          generalize (at3 y (j - (d + 1))).2.1 = um at *
          generalize (at3 y (j - (d + 1))).2.2 = ux at *
          have s1 : IntKind.i64.wrap (ux - 1) = ux - 1 := IntWalk.i64_in _ (by omega)
          by_cases hc : v0 < uv
          case pos =>
            have hS2 := Lib.hid (hS.out.trans (if_pos (.inl hc)))
            go_wp2
            go_roundg (j - (d + 1))
            case measure => omega
            case rel => exact ⟨d + 1, z - 1, rfl, by rw [hS2.out], by omega, by omega, hz6, BQ.out.alloc BQ.out.size _⟩
          by_cases he : uv = v0
          case pos =>
            have hd : (uv == v0) = true := by simpa using he
            have hS2 := Lib.hid (hS.out.trans (if_pos (.inr ⟨rfl, he⟩)))
            go_wp2
            go_roundg (j - (d + 1))
            case measure => omega
            case rel => exact ⟨d + 1, z - 1, rfl, by rw [hS2.out], by omega, by omega, hz6, BQ.out.alloc BQ.out.size _⟩
          have hd : (uv == v0) = false := by simpa using he
          have hS2 := Lib.hid (hS.out.trans (if_neg (fun h => by rcases h with h | h; exact hc h; exact he h.2)))
          go_wp2
          go_roundg (j - (d + 1))
          case measure => omega
          case rel => exact ⟨d + 1, z - 1, rfl, by rw [hS2.out], by omega, by omega, hz6, BQ.out.alloc BQ.out.size _⟩
        obtain rfl : d = j := by omega
        have hz1 : ¬ 0 ≤ z := by have := hz.out; omega
        have s1 : IntKind.i64.wrap (m0 + wlo y true v0 d) = m0 + wlo y true v0 d := IntWalk.i64_in _ (by omega)
        have s2 : IntKind.i64.wrap (x0 + whi y b true v0 d d) = x0 + whi y b true v0 d d := IntWalk.i64_in _ (by omega)
        generalize wlo y true v0 d = lo at *
        generalize whi y b true v0 d d = up at *
        have HO5 := Lib.hid (own_keep HO.out BQ.out)
        have BB5 := Lib.hid (BB.out.trans (BQ.out.mono BB.out.size))
        have hsz5 := Nat.le_trans z3 BQ.out.size
        have hszb := Nat.le_trans (show sb ≤ ge + 1 by omega) hsz5
        go_wp2_with (at_builtin; (refine wpList_append_any _ rfl (.tmp 82) (.tmp 94) 37 rfl sb 79 i0 (.agg #[.int .i64 0, .int .i64 0, .int .i64 0]) 3 24 Tryz.underlying37 HI.out HZ0.out HZ1.out HZ2.out rfl (by omega) u i _ rfl (own_alloc HO5.out _) _ _ 1 1 _ rfl (reads_blk (blk_new2 rfl) rfl) (by simp [Value.oneCell']) (by unfold maxLen; omega) (by omega) (by simp; omega) ?_); intro v2 w2 hown2 hg2 hat2; have HBB2 := Lib.hid (below_own hg2 (own_alloc HO5.out _) (BB5.out.alloc BB5.out.size _) (by omega) (by simp; omega)); have KX := Lib.hid (Bx.app3 (KQ.out.alloc _) hg2 (fun q hq h => by have h8 := hub.out _ h.symm; simp at hq; rcases hq with h | h | h <;> subst h <;> simp at h8 <;> omega)); have hsz2 := hg2.size; have HO2 := Lib.hid hown2; clear hown2 hg2 hat2)
        go_roundg (n1 - (i + 1))
        case measure => omega
        case rel => exact ⟨v2, i + 1, by go_num, rfl, by omega, by omega, Lib.hid (by rw [hTs.out, tc_append, tc_one]; exact HO2.out), Lib.hid (KX.out.tail), HBB2, by simp at hsz2; omega⟩
set_option maxHeartbeats 16000000 in
set_option maxRecDepth 100000 in
theorem widF_any (a : Int) (A1 : Option Addr) (n1 c1 : Nat) (x : L3) (b : Int) (A2 : Option Addr) (n2 c2 : Nat) (y : L3) (w : World) (h1 : ERead w w.heap.size A1 n1 x) (h2 : ERead w w.heap.size A2 n2 y) (hs1 : n1 ≤ 8388608) (hs2 : n2 ≤ 8388608) (hv1 : valR a x = true) (hv2 : valR b y = true) : Calls Tryz.prog 91 #[.agg #[.int .i64 a, .slice A1 n1 c1], .agg #[.int .i64 b, .slice A2 n2 c2], .bool false] w (NewE (widL x y b false) w) := by
  have H1 := Lib.hid h1
  have H2 := Lib.hid h2
  have HL1 := Lib.hid h1.len
  have HL2 := Lib.hid h2.len
  have HB1 := Lib.hid (bnds_of_val HL1.out hv1)
  have HB2 := Lib.hid (bnds_of_val HL2.out hv2)
  have hbN : 0 ≤ b ∧ b ≤ 1099511627776 := ⟨(valR_iff.1 hv2).1.1, (valR_iff.1 hv2).1.2.1⟩
  have HW1 := Lib.hid (fun v => wlo_bd HB2.out false v n2 (Nat.le_refl _))
  have HW2 := Lib.hid (fun v => whi_bd hbN HB2.out false v n2 (Nat.le_refl _))
  have HT := Lib.hid (fun i (hi : i < n1) => widL_take (o := y) (n := b) (f := false) (show i < x.length by rw [HL1.out]; exact hi))
  have HTE := Lib.hid (show (widL x y b false).take n1 = widL x y b false from List.take_of_length_le (by rw [widL_len, HL1.out]; exact Nat.le_refl _))
  clear h1 h2 hv1 hv2
  obtain ⟨i0, hi0, hz0, hz1, hz2⟩ := info_parts entry_info
  have HI := Lib.hid hi0
  have HZ0 := Lib.hid hz0
  have HZ1 := Lib.hid hz1
  have HZ2 := Lib.hid hz2
  clear hi0 hz0 hz1 hz2
  go_enter Tryz.func91, Tryz.ntmps91
  go_wp2_with fail
  obtain ⟨W0, hW, hs0, K0, B0⟩ := start2 w 39 39 #[Value.int IntKind.i64 a, Value.slice A1 n1 c1] #[Value.int IntKind.i64 b, Value.slice A2 n2 c2]
  rw [hW]
  clear hW
  have KK := Lib.hid K0
  have BB := Lib.hid B0
  have R := K0.rules
  simp only [Rules] at R
  clear K0 B0 hs0
  go_wp2_with fail
  obtain ⟨sb, hsb⟩ : ∃ s, W0.heap.size = s := ⟨_, rfl⟩
  have hsb2 : w.heap.size + 1 < sb := by have := (KK.out _ (List.mem_cons_self ..)).lt; omega
  clear R
  go_loopg [7, 19] n1 (fun kx s7 s19 wr => ∃ (u : Value) (i : Nat), s19 = .int .i64 i ∧ u = s7 ∧ i ≤ n1 ∧ n1 - i ≤ kx ∧ Hid (wr.ownsRow sb 79 3 u i (tc ((widL x y b false).take i))) ∧ Hid (Bx wr [(w.heap.size + 1, 39, #[Value.int IntKind.i64 b, Value.slice A2 n2 c2]), (w.heap.size, 39, #[Value.int IntKind.i64 a, Value.slice A1 n1 c1])]) ∧ Hid (Below w.heap.size w wr) ∧ sb ≤ wr.heap.size)
  case atStart => exact ⟨_, 0, rfl, rfl, Nat.zero_le _, by omega, own_nil _ _ _ _, KK, BB, by omega⟩
  case round =>
    clear KK BB
    obtain ⟨u, i, rfl, rfl, hi, hik, HO, KK, BB, szb⟩ := hrel
    have R := KK.out.rules
    simp only [Rules] at R
    by_cases hlt : i < n1
    case neg =>
      obtain rfl : i = n1 := by omega
      go_wp2
      go_ret
      exact newE_own BB.out (by have := HO.out; rw [HTE.out] at this; exact this) (by omega)
    obtain ⟨ad1, rfl, hbx, HCx⟩ := ERead.cells H1.out hlt
    have bx := HB1.out i hlt
    have bxm := bx.1
    have bxx := bx.2
    have hTs := Lib.hid (HT.out i hlt)
    have hwe : Hid (widE y b false (at3 x i) = ((at3 x i).1, (at3 x i).2.1 + wlo y false (at3 x i).1 n2, (at3 x i).2.2 + whi y b false (at3 x i).1 n2 n2)) := by rw [Hid, widE, HL2.out]
    rw [hwe.out] at hTs
    clear bx hwe HT
    generalize (at3 x i).1 = v0 at *
    generalize (at3 x i).2.1 = m0 at *
    generalize (at3 x i).2.2 = x0 at *
    have w1 := HW1.out v0
    have w2 := HW2.out v0
    clear HW1 HW2
    obtain ⟨ge, hge⟩ : ∃ s, wr.heap.size = s := ⟨_, rfl⟩
    have hub := Lib.hid (fun k (h : u.ownBlock = some k) => show sb ≤ k ∧ k < ge by have := World.ownsRow.lt HO.out k h; omega)
    have BZ := Lib.hid (BB.out.alloc BB.out.size (.cells #[Value.int IntKind.i64 v0, Value.int IntKind.i64 m0, Value.int IntKind.i64 x0] 79))
    have KZ := Lib.hid (KK.out.new (t := 79) (c := #[Value.int IntKind.i64 v0, Value.int IntKind.i64 m0, Value.int IntKind.i64 x0]) hge)
    have HOZ := Lib.hid (own_alloc HO.out (.cells #[Value.int IntKind.i64 v0, Value.int IntKind.i64 m0, Value.int IntKind.i64 x0] 79))
    obtain ⟨q1, q2, q3⟩ := HCx.out _ BB.out
    go_wp2_with fail
    obtain ⟨W3, hW, K3, B3, z3⟩ := name_world KZ.out BZ.out (s := ge + 1) (by simp; omega)
    rw [hW]
    rw [hW] at HOZ
    clear hW KK BB KZ BZ R HO q1 q2 q3
    have KK := Lib.hid K3
    have BB := Lib.hid B3
    have HO := HOZ
    have R := K3.rules
    simp only [Rules] at R
    clear K3 B3 HOZ
    (refine gro.wp_region_grown (by kernel_rfl) (by kernel_rfl) ?_; (repeat (go_big_quiet_step ((fail)))); refine wpQuiet_nil ?_; intro _ hw'; obtain ⟨nx, hw''⟩ := hw'; subst hw'')
    replace BB := Lib.hid (BB.out.trans ((below_grown _ nx).mono BB.out.size))
    replace KK := Lib.hid (KK.out.below (below_grown _ nx))
    replace HO := Lib.hid (own_keep HO.out (below_grown _ nx))
    replace z3 := Nat.le_trans z3 (below_grown _ nx).size
    clear R
    generalize grown _ nx = W5 at *
    have R := KK.out.rules
    simp only [Rules] at R
    go_wp2_with fail
    clear R
    go_loopg [10, 28] n2 (fun kx s10 s28 wq => ∃ j : Nat, s28 = .int .i64 j ∧ s10 = .int .i64 (wlo y false v0 j) ∧ j ≤ n2 ∧ n2 - j ≤ kx ∧ Hid (Below W5.heap.size W5 wq))
    case atStart => exact ⟨0, rfl, rfl, Nat.zero_le _, by omega, Below.refl _ _⟩
    case round =>
      obtain ⟨j, rfl, rfl, hj, hjk, BQ⟩ := hrel
      have KQ := Lib.hid (KK.out.below BQ.out)
      have R2 := KQ.out.rules
      simp only [Rules] at R2
      by_cases hlt2 : j < n2
      case pos =>
        obtain ⟨ad2, rfl, hb2, HC2⟩ := ERead.cells H2.out hlt2
        have hS : Hid (wlo y false v0 (j + 1) = if (at3 y j).1 < v0 ∨ (false = false ∧ (at3 y j).1 = v0) then (at3 y j).2.1 else wlo y false v0 j) := rfl
        obtain ⟨q1, q2, q3⟩ := HC2.out _ (BB.out.trans (BQ.out.mono BB.out.size))
        generalize (at3 y j).1 = uv at *
        generalize (at3 y j).2.1 = um at *
        generalize (at3 y j).2.2 = ux at *
        by_cases hc : uv < v0
        case pos =>
          have hS2 := Lib.hid (hS.out.trans (if_pos (.inl hc)))
          go_wp2
          go_roundg (n2 - (j + 1))
          case measure => omega
          case rel => exact ⟨j + 1, by go_num, by rw [hS2.out], by omega, by omega, BQ.out.alloc BQ.out.size _⟩
        by_cases he : uv = v0
        case pos =>
          have hd : (uv == v0) = true := by simpa using he
          have hS2 := Lib.hid (hS.out.trans (if_pos (.inr ⟨rfl, he⟩)))
          go_wp2
          go_roundg (n2 - (j + 1))
          case measure => omega
          case rel => exact ⟨j + 1, by go_num, by rw [hS2.out], by omega, by omega, BQ.out.alloc BQ.out.size _⟩
        have hd : (uv == v0) = false := by simpa using he
        have hS2 := Lib.hid (hS.out.trans (if_neg (fun h => by rcases h with h | h; exact hc h; exact he h.2)))
        go_wp2
        go_roundg (n2 - (j + 1))
        case measure => omega
        case rel => exact ⟨j + 1, by go_num, by rw [hS2.out], by omega, by omega, BQ.out.alloc BQ.out.size _⟩
      obtain rfl : j = n2 := by omega
      go_wp2_with fail
      go_loopg [11, 14] j (fun kx s11 s14 wp => ∃ (d : Nat) (z : Int), s14 = .int .i64 z ∧ s11 = .int .i64 (whi y b false v0 j d) ∧ d ≤ j ∧ j - d ≤ kx ∧ Hid (z = (j : Int) - 1 - d) ∧ Hid (Below W5.heap.size W5 wp))
      case atStart => exact ⟨0, (j : Int) - 1, by first | rfl | go_num, rfl, Nat.zero_le _, by omega, by rw [Hid]; simp, BQ⟩
      case round =>
        clear KQ R2 BQ
        obtain ⟨d, z, rfl, rfl, hd, hdk, hz, BQ⟩ := hrel
        have KQ := Lib.hid (KK.out.below BQ.out)
        have R2 := KQ.out.rules
        simp only [Rules] at R2
        by_cases hlt3 : d < j
        case pos =>
          have hz2 : z.toNat = j - (d + 1) := by have := hz.out; omega
          have hz3 : 0 ≤ z := by have := hz.out; omega
          have hz4 : z < (j : Int) := by have := hz.out; omega
          have hz5 : IntKind.i64.wrap (z - 1) = z - 1 := IntWalk.i64_in _ (by omega)
          have hz6 : Hid (z - 1 = (j : Int) - 1 - ((d + 1 : Nat) : Int)) := by have := hz.out; rw [Hid]; omega
          have hb3 := (HB2.out (j - (d + 1)) (by omega)).2
          obtain ⟨ad2, rfl, hb2, HC2⟩ := ERead.cells H2.out (show j - (d + 1) < j by omega)
          have hS : Hid (whi y b false v0 j (d + 1) = if v0 < (at3 y (j - (d + 1))).1 ∨ (false = true ∧ (at3 y (j - (d + 1))).1 = v0) then (at3 y (j - (d + 1))).2.2 - 1 else whi y b false v0 j d) := rfl
          obtain ⟨q1, q2, q3⟩ := HC2.out _ (BB.out.trans (BQ.out.mono BB.out.size))
          generalize (at3 y (j - (d + 1))).1 = uv at *
          generalize (at3 y (j - (d + 1))).2.1 = um at *
          generalize (at3 y (j - (d + 1))).2.2 = ux at *
          have s1 : IntKind.i64.wrap (ux - 1) = ux - 1 := IntWalk.i64_in _ (by omega)
          by_cases hc : v0 < uv
          case pos =>
            have hS2 := Lib.hid (hS.out.trans (if_pos (.inl hc)))
            go_wp2
            go_roundg (j - (d + 1))
            case measure => omega
            case rel => exact ⟨d + 1, z - 1, rfl, by rw [hS2.out], by omega, by omega, hz6, BQ.out.alloc BQ.out.size _⟩
          have hS2 := Lib.hid (hS.out.trans (if_neg (fun h => by rcases h with h | h; exact hc h; exact absurd h.1 (by decide))))
          go_wp2
          go_roundg (j - (d + 1))
          case measure => omega
          case rel => exact ⟨d + 1, z - 1, rfl, by rw [hS2.out], by omega, by omega, hz6, BQ.out.alloc BQ.out.size _⟩
        obtain rfl : d = j := by omega
        have hz1 : ¬ 0 ≤ z := by have := hz.out; omega
        have s1 : IntKind.i64.wrap (m0 + wlo y false v0 d) = m0 + wlo y false v0 d := IntWalk.i64_in _ (by omega)
        have s2 : IntKind.i64.wrap (x0 + whi y b false v0 d d) = x0 + whi y b false v0 d d := IntWalk.i64_in _ (by omega)
        generalize wlo y false v0 d = lo at *
        generalize whi y b false v0 d d = up at *
        have HO5 := Lib.hid (own_keep HO.out BQ.out)
        have BB5 := Lib.hid (BB.out.trans (BQ.out.mono BB.out.size))
        have hsz5 := Nat.le_trans z3 BQ.out.size
        have hszb := Nat.le_trans (show sb ≤ ge + 1 by omega) hsz5
        go_wp2_with (at_builtin; (refine wpList_append_any _ rfl (.tmp 82) (.tmp 94) 37 rfl sb 79 i0 (.agg #[.int .i64 0, .int .i64 0, .int .i64 0]) 3 24 Tryz.underlying37 HI.out HZ0.out HZ1.out HZ2.out rfl (by omega) u i _ rfl (own_alloc HO5.out _) _ _ 1 1 _ rfl (reads_blk (blk_new2 rfl) rfl) (by simp [Value.oneCell']) (by unfold maxLen; omega) (by omega) (by simp; omega) ?_); intro v2 w2 hown2 hg2 hat2; have HBB2 := Lib.hid (below_own hg2 (own_alloc HO5.out _) (BB5.out.alloc BB5.out.size _) (by omega) (by simp; omega)); have KX := Lib.hid (Bx.app3 (KQ.out.alloc _) hg2 (fun q hq h => by have h8 := hub.out _ h.symm; simp at hq; rcases hq with h | h | h <;> subst h <;> simp at h8 <;> omega)); have hsz2 := hg2.size; have HO2 := Lib.hid hown2; clear hown2 hg2 hat2)
        go_roundg (n1 - (i + 1))
        case measure => omega
        case rel => exact ⟨v2, i + 1, by go_num, rfl, by omega, by omega, Lib.hid (by rw [hTs.out, tc_append, tc_one]; exact HO2.out), Lib.hid (KX.out.tail), HBB2, by simp at hsz2; omega⟩
end Go.Proofs.YtjapjfcennemeaaGreat.rnk
