/- Items; Live; RunO: texts in one. -/
import Derived.Test.YtofgjcfiinmimaaMgMade
import Derived.Test.YtofgjcfiinmimaaMgCountsR
import Derived.Test.YtofgjcfiinmimaaMgPutEq
import Derived.Test.YtofgjcfiinmimaaMgGrown
import Derived.LoopN
import Derived.Test.YtofgjcfiinmimaaMgInsertF
import Derived.Test.YtofgjcfiinmimaaMgBox
import Derived.Test.YtofgjcfiinmimaaMgPut
/- Contracts of the statements' own lists of items. -/
namespace Go.Proofs.Ytofgjcfiinmimaa.made
open Go.RowKit Go.Proofs.Ytofgjcfiinmimaa.mem
set_option linter.unusedVariables false
set_option linter.unusedSimpArgs false
theorem tdiv_bd {a : Int} (ha : -9223372036854775808 ≤ a ∧ a ≤ 9223372036854775807) : -9223372036854775808 ≤ a.tdiv 8 ∧ a.tdiv 8 ≤ 9223372036854775807 := by
  have : (a.tdiv 8).natAbs = a.natAbs / 8 := Int.natAbs_tdiv a 8
  omega
set_option maxHeartbeats 2000000 in
set_option maxRecDepth 100000 in
theorem Value_any (a : Int) (w : World) (ha : -9223372036854775808 ≤ a ∧ a ≤ 9223372036854775807) :
    Calls Try.prog 75 #[.int .i64 a] w fun e w' => (∃ v : Int, e = .returned (.int .i64 v) ∧ -4096 ≤ v ∧ v ≤ 4096) ∧ w = w' := by
  have hb := tdiv_bd ha
  have M8 := Lib.hid (fun W => Mod_any a 8 W ha (by omega) (by omega))
  have M1 := Lib.hid (fun W => Mod_any (a.tdiv 8) 8193 W hb (by omega) (by omega))
  have M2 := Lib.hid (fun W => Mod_any (a.tdiv 8) 2 W hb (by omega) (by omega))
  have M3 := Lib.hid (fun W => Mod_any (a.tdiv 8) 13 W hb (by omega) (by omega))
  have b1 : 0 ≤ a.tdiv 8 % 8193 ∧ a.tdiv 8 % 8193 < 8193 := ⟨Int.emod_nonneg _ (by omega), Int.emod_lt_of_pos _ (by omega)⟩
  have b2 : 0 ≤ a.tdiv 8 % 2 ∧ a.tdiv 8 % 2 < 2 := ⟨Int.emod_nonneg _ (by omega), Int.emod_lt_of_pos _ (by omega)⟩
  have b3 : 0 ≤ a.tdiv 8 % 13 ∧ a.tdiv 8 % 13 < 13 := ⟨Int.emod_nonneg _ (by omega), Int.emod_lt_of_pos _ (by omega)⟩
  obtain ⟨b1, b1'⟩ := b1
  obtain ⟨b2, b2'⟩ := b2
  obtain ⟨b3, b3'⟩ := b3
  have hqw : IntKind.i64.wrap (a.tdiv 8) = a.tdiv 8 := IntWalk.i64_in _ hb
  obtain ⟨ha1, ha2⟩ := ha
  generalize a.tdiv 8 % 8193 = x1 at *
  generalize a.tdiv 8 % 2 = x2 at *
  generalize a.tdiv 8 % 13 = x3 at *
  by_cases h0 : a % 8 = 0
  · have q0 : (a % 8 == 0) = true := by simpa using h0
    have w1 : IntKind.i64.wrap (x1 - 4096) = x1 - 4096 := IntWalk.i64_in _ (by omega)
    generalize a % 8 = r at *
    clear h0
    go_enter Try.func75, Try.ntmps75
    go_wp2_with fail
    (with_reducible refine (M8.out _).mono ?_)
    rintro e w1 ⟨rfl, rfl⟩
    go_wp2_with fail
    (with_reducible refine (M1.out _).mono ?_)
    rintro e w1 ⟨rfl, rfl⟩
    go_wp2
    go_ret
    exact ⟨⟨_, rfl, by omega, by omega⟩, rfl⟩
  · have q0 : (a % 8 == 0) = false := by simpa using h0
    by_cases h1 : a % 8 = 1
    · have q1 : (a % 8 == 1) = true := by simpa using h1
      have w1 : IntKind.i64.wrap (2 * x2) = 2 * x2 := IntWalk.i64_in _ (by omega)
      have w2 : IntKind.i64.wrap (2 * x2 - 1) = 2 * x2 - 1 := IntWalk.i64_in _ (by omega)
      have w3 : IntKind.i64.wrap (4096 * (2 * x2 - 1)) = 4096 * (2 * x2 - 1) := IntWalk.i64_in _ (by omega)
      generalize a % 8 = r at *
      clear h0 h1
      go_enter Try.func75, Try.ntmps75
      go_wp2_with fail
      (with_reducible refine (M8.out _).mono ?_)
      rintro e w1 ⟨rfl, rfl⟩
      go_wp2_with fail
      (with_reducible refine (M2.out _).mono ?_)
      rintro e w1 ⟨rfl, rfl⟩
      go_wp2
      go_ret
      exact ⟨⟨_, rfl, by omega, by omega⟩, rfl⟩
    · have q1 : (a % 8 == 1) = false := by simpa using h1
      have w1 : IntKind.i64.wrap (x3 - 6) = x3 - 6 := IntWalk.i64_in _ (by omega)
      generalize a % 8 = r at *
      clear h0 h1
      go_enter Try.func75, Try.ntmps75
      go_wp2_with fail
      (with_reducible refine (M8.out _).mono ?_)
      rintro e w1 ⟨rfl, rfl⟩
      go_wp2_with fail
      (with_reducible refine (M3.out _).mono ?_)
      rintro e w1 ⟨rfl, rfl⟩
      go_wp2
      go_ret
      exact ⟨⟨_, rfl, by omega, by omega⟩, rfl⟩
set_option maxHeartbeats 2000000 in
set_option maxRecDepth 100000 in
theorem Gap_any (a v : Int) (w : World) (ha : -9223372036854775808 ≤ a ∧ a ≤ 9223372036854775807) (hv : 1 ≤ v ∧ v ≤ 1000) :
    Calls Try.prog 74 #[.int .i64 a, .int .i64 v] w fun e w' => (∃ g : Int, e = .returned (.int .i64 g) ∧ 0 ≤ g ∧ g ≤ 2 * v + 1) ∧ w = w' := by
  have hb := tdiv_bd ha
  obtain ⟨hv1, hv2⟩ := hv
  have M8 := Lib.hid (fun W => Mod_any a 8 W ha (by omega) (by omega))
  have M1 := Lib.hid (fun W => Mod_any (a.tdiv 8) (2 * v + 2) W hb (by omega) (by omega))
  have M3 := Lib.hid (fun W => Mod_any (a.tdiv 8) 3 W hb (by omega) (by omega))
  have b1 : 0 ≤ a.tdiv 8 % (2 * v + 2) ∧ a.tdiv 8 % (2 * v + 2) < 2 * v + 2 := ⟨Int.emod_nonneg _ (by omega), Int.emod_lt_of_pos _ (by omega)⟩
  have b3 : 0 ≤ a.tdiv 8 % 3 ∧ a.tdiv 8 % 3 < 3 := ⟨Int.emod_nonneg _ (by omega), Int.emod_lt_of_pos _ (by omega)⟩
  obtain ⟨b1, b1'⟩ := b1
  obtain ⟨b3, b3'⟩ := b3
  have hqw : IntKind.i64.wrap (a.tdiv 8) = a.tdiv 8 := IntWalk.i64_in _ hb
  have w1 : IntKind.i64.wrap (2 * v) = 2 * v := IntWalk.i64_in _ (by omega)
  have w2 : IntKind.i64.wrap (2 * v + 2) = 2 * v + 2 := IntWalk.i64_in _ (by omega)
  obtain ⟨ha1, ha2⟩ := ha
  generalize a.tdiv 8 % (2 * v + 2) = x1 at *
  generalize a.tdiv 8 % 3 = x3 at *
  have w3 : IntKind.i64.wrap (1 + x3) = 1 + x3 := IntWalk.i64_in _ (by omega)
  by_cases h0 : a % 8 = 0
  · have q0 : (a % 8 == 0) = true := by simpa using h0
    generalize a % 8 = r at *
    clear h0
    go_enter Try.func74, Try.ntmps74
    go_wp2_with fail
    (with_reducible refine (M8.out _).mono ?_)
    rintro e w1 ⟨rfl, rfl⟩
    go_wp2_with fail
    (with_reducible refine (M1.out _).mono ?_)
    rintro e w1 ⟨rfl, rfl⟩
    go_wp2
    go_ret
    exact ⟨⟨_, rfl, by omega, by omega⟩, rfl⟩
  · have q0 : (a % 8 == 0) = false := by simpa using h0
    by_cases h1 : a % 8 = 1
    · have q1 : (a % 8 == 1) = true := by simpa using h1
      generalize a % 8 = r at *
      clear h0 h1
      go_enter Try.func74, Try.ntmps74
      go_wp2_with fail
      (with_reducible refine (M8.out _).mono ?_)
      rintro e w1 ⟨rfl, rfl⟩
      go_wp2_with fail
      (with_reducible refine (M3.out _).mono ?_)
      rintro e w1 ⟨rfl, rfl⟩
      go_wp2
      go_ret
      exact ⟨⟨_, rfl, by omega, by omega⟩, rfl⟩
    · have q1 : (a % 8 == 1) = false := by simpa using h1
      by_cases h2 : a % 8 = 2
      · have q2 : (a % 8 == 2) = true := by simpa using h2
        generalize a % 8 = r at *
        clear h0 h1 h2
        go_enter Try.func74, Try.ntmps74
        go_wp2_with fail
        (with_reducible refine (M8.out _).mono ?_)
        rintro e w1 ⟨rfl, rfl⟩
        go_wp2_with fail
        (with_reducible refine (M3.out _).mono ?_)
        rintro e w1 ⟨rfl, rfl⟩
        go_wp2
        go_ret
        exact ⟨⟨_, rfl, by omega, by omega⟩, rfl⟩
      · have q2 : (a % 8 == 2) = false := by simpa using h2
        generalize a % 8 = r at *
        clear h0 h1 h2
        go_enter Try.func74, Try.ntmps74
        go_wp2_with fail
        (with_reducible refine (M8.out _).mono ?_)
        rintro e w1 ⟨rfl, rfl⟩
        go_wp2
        go_ret
        exact ⟨⟨_, rfl, by omega, by omega⟩, rfl⟩
/-- Items whose ticks ascend. -/
def ItOk (its : List (Int × Int)) (v : Int) : Prop := ∀ i, i < its.length → (0 ≤ (buk.at_ its i).1 ∧ (buk.at_ its i).1 ≤ (i + 1) * (2 * v + 1)) ∧ (-4096 ≤ (buk.at_ its i).2 ∧ (buk.at_ its i).2 ≤ 4096) ∧ (0 < i → (buk.at_ its (i - 1)).1 ≤ (buk.at_ its i).1)
theorem at_snoc_lt {xs : List (Int × Int)} {p : Int × Int} {i : Nat} (h : i < xs.length) : buk.at_ (xs ++ [p]) i = buk.at_ xs i := by simp [buk.at_, List.getElem?_append_left h]
theorem at_snoc_eq {xs : List (Int × Int)} {p : Int × Int} : buk.at_ (xs ++ [p]) xs.length = p := by simp [buk.at_]
theorem ItOk.snoc {its : List (Int × Int)} {v t x : Int} (h : ItOk its v) (ht : 0 ≤ t ∧ t ≤ (its.length + 1) * (2 * v + 1)) (hx : -4096 ≤ x ∧ x ≤ 4096) (hl : 0 < its.length → (buk.at_ its (its.length - 1)).1 ≤ t) : ItOk (its ++ [(t, x)]) v := by
  intro i hi
  rw [List.length_append, List.length_singleton] at hi
  rcases Nat.lt_or_ge i its.length with h1 | h1
  · rw [at_snoc_lt h1]
    obtain ⟨a, b, c⟩ := h i h1
    refine ⟨a, b, fun h0 => ?_⟩
    rw [at_snoc_lt (by omega)]
    exact c h0
  · obtain rfl : i = its.length := by omega
    rw [at_snoc_eq]
    refine ⟨ht, hx, fun h0 => ?_⟩
    rw [at_snoc_lt (by omega)]
    exact hl h0
theorem item_info : (Try.prog.info? 61).map (fun i => (i.zero, i.size, i.bytes)) = some (some (.agg #[.int .i64 0, .int .i64 0]), 2, 16) := by kernel_rfl
theorem pc_snoc (xs : List (Int × Int)) (t x : Int) : pc (xs ++ [(t, x)]) = pc xs ++ [.int .i64 t, .int .i64 x] := by simp [pc]
set_option maxHeartbeats 4000000 in
set_option maxRecDepth 100000 in
theorem Items_any (A : Option Addr) (n c : Nat) (zs : List (Int × Int)) (v : Int) (most : Nat) (w : World) (h1 : PRead w w.heap.size A n zs) (hr : ∀ p ∈ zs, (-9223372036854775808 ≤ p.1 ∧ p.1 ≤ 9223372036854775807) ∧ (-9223372036854775808 ≤ p.2 ∧ p.2 ≤ 9223372036854775807)) (hnc : n ≤ c) (hcm : c ≤ maxLen) (hv : 1 ≤ v ∧ v ≤ 1000) (hm : most ≤ 1000) :
    Calls Try.prog 33 #[.slice A n c, .int .i64 v, .int .i64 most] w fun e w' => ∃ (u : Value) (its : List (Int × Int)), e = .returned u ∧ w'.ownsRow w.heap.size 61 2 u its.length (pc its) ∧ its.length ≤ most ∧ ItOk its v ∧ Below w.heap.size w w' := by
  have H1 := Lib.hid h1
  have HL := Lib.hid h1.len
  have HR := Lib.hid hr
  obtain ⟨hv1, hv2⟩ := hv
  have hcm9 : c ≤ 9223372036854775807 := hcm
  clear h1 hr hcm
  obtain ⟨i0, hi0, hz0, hz1, hz2⟩ := info_parts item_info
  have HI := Lib.hid hi0
  have HZ0 := Lib.hid hz0
  have HZ1 := Lib.hid hz1
  have HZ2 := Lib.hid hz2
  clear hi0 hz0 hz1 hz2
  go_enter Try.func33, Try.ntmps33
  go_wp2
  go_loopg [7, 8, 9] n (fun kx s7 s8 s9 wr => ∃ (u : Value) (t : Int) (its : List (Int × Int)) (i : Nat), its.length = i ∧ s9 = .int .i64 i ∧ s8 = .int .i64 t ∧ u = s7 ∧ i ≤ n ∧ i ≤ most ∧ n - i ≤ kx ∧ 0 ≤ t ∧ t ≤ i * (2 * v + 1) ∧ Hid (0 < i → (buk.at_ its (i - 1)).1 ≤ t) ∧ Hid (wr.ownsRow w.heap.size 61 2 u i (pc its)) ∧ Hid (ItOk its v) ∧ Hid (Below w.heap.size w wr))
  case atStart => exact ⟨_, 0, [], 0, rfl, rfl, rfl, rfl, by omega, by omega, by omega, by omega, by simp, fun h => by omega, own_nil _ _ _ _, fun i hi => by simp at hi, Below.refl _ _⟩
  case round =>
    obtain ⟨u, t, its, i, hil, rfl, rfl, rfl, hin, him, hik, ht0, ht1, HT, HO, HK, HB⟩ := hrel
    by_cases hlt : i < n
    case neg =>
      go_wp2
      go_ret
      subst hil
      exact ⟨u, its, rfl, HO.out, him, HK.out, HB.out⟩
    by_cases hlt2 : i < most
    case neg =>
      go_wp2
      go_ret
      subst hil
      exact ⟨u, its, rfl, HO.out, him, HK.out, HB.out⟩
    have H2 := H1.out.below HB.out
    obtain ⟨ad, rfl, hbl, hc1, hc2⟩ := PRead.at_ H2 hlt
    have hs := HB.out.size
    have hbl2 : ad.block < wr.heap.size := by omega
    clear H2
    have hrr := HR.out (buk.at_ zs i) (by
      have h : i < zs.length := by rw [HL.out]; exact hlt
      have e : buk.at_ zs i = zs[i] := by simp [buk.at_, List.getElem?_eq_getElem h]
      rw [e]; exact List.getElem_mem _)
    change wr.cell? (ad.add (i * 2)) = some (.int .i64 (buk.at_ zs i).1) at hc1
    change wr.cell? ⟨(ad.add (i * 2)).block, (ad.add (i * 2)).off + 1, none⟩ = some (.int .i64 (buk.at_ zs i).2) at hc2
    generalize (buk.at_ zs i).1 = x at *
    generalize (buk.at_ zs i).2 = y at *
    have HG := Lib.hid (fun W => Gap_any x v W hrr.1 ⟨hv1, hv2⟩)
    have HV := Lib.hid (fun W => Value_any y W hrr.2)
    clear hrr
    have hex : ((i : Int) + 1) * (2 * v + 1) = i * (2 * v + 1) + (2 * v + 1) := by rw [Int.add_mul, Int.one_mul]
    have hti : (i : Int) * (2 * v + 1) ≤ 1000 * 2001 := Int.mul_le_mul (by omega) (by omega) (by omega) (by omega)
    generalize (i : Int) * (2 * v + 1) = im at *
    go_wp2_with fail
    (refine (HG.out _).mono ?_)
    rintro e w1 ⟨⟨g, rfl, hg0, hg1⟩, rfl⟩
    have hw : IntKind.i64.wrap (t + g) = t + g := IntWalk.i64_in _ (by omega)
    go_wp2_with fail
    (refine (HV.out _).mono ?_)
    rintro e w1 ⟨⟨x2, rfl, hx0, hx1⟩, rfl⟩
    have HK2 : Hid (ItOk (its ++ [(t + g, x2)]) v) := HK.out.snoc ⟨by omega, by rw [hil, hex]; omega⟩ ⟨hx0, hx1⟩ (fun h => by have := HT.out (by omega); rw [hil]; omega)
    have HT2 : Hid (0 < i + 1 → (buk.at_ (its ++ [(t + g, x2)]) (i + 1 - 1)).1 ≤ t + g) := fun _ => by
      rw [show i + 1 - 1 = its.length by omega, at_snoc_eq]; exact Int.le_refl _
    have HPC := Lib.hid (pc_snoc its (t + g) x2)
    clear HK HT
    go_wp2_with (at_builtin; go_loud (refine wpList_append_any _ rfl (.tmp 30) (.tmp 39) 48 rfl w.heap.size 61 i0 (.agg #[.int .i64 0, .int .i64 0]) 2 16 Try.underlying48 HI.out HZ0.out HZ1.out HZ2.out rfl (by omega) u i _ rfl (own_alloc HO.out _) _ _ 1 1 _ rfl (reads_new _ _ _ rfl) (by simp [Value.oneCell']) (by unfold maxLen; omega) (by omega) (by have := HB.out.size; simp; omega) ?_); intro v1 w1 hown1 hg1 hat1)
    go_roundg (n - (i + 1))
    case measure => omega
    case rel => exact ⟨v1, t + g, its ++ [(t + g, x2)], i + 1, by simp [hil], by go_num, rfl, rfl, by omega, by omega, by omega, by omega, by rw [show ((i + 1 : Nat) : Int) = (i : Int) + 1 by omega, hex]; omega, HT2.out, by rw [Hid, HPC.out]; exact hown1, HK2.out, below_box HB.out HO.out hg1⟩
end Go.Proofs.Ytofgjcfiinmimaa.made

/- Contract of the statements' own list of the items in a window. -/
namespace Go.Proofs.Ytofgjcfiinmimaa.made
open Go.RowKit Go.Proofs.Ytofgjcfiinmimaa.mem
set_option linter.unusedVariables false
set_option linter.unusedSimpArgs false
def liveI (now v : Int) (its : List (Int × Int)) : List (Int × Int) := its.filter (fun p => decide (now - v < p.1) && decide (p.1 ≤ now))
theorem live_take {now v : Int} {its : List (Int × Int)} {i : Nat} (h : i < its.length) : liveI now v (its.take (i + 1)) = liveI now v (its.take i) ++ if now - v < (buk.at_ its i).1 ∧ (buk.at_ its i).1 ≤ now then [((buk.at_ its i).1, (buk.at_ its i).2)] else [] := by
  have e : buk.at_ its i = its[i] := by simp [buk.at_, List.getElem?_eq_getElem h]
  unfold liveI
  rw [e, List.take_succ_eq_append_getElem h, List.filter_append]
  congr 1
  by_cases h1 : now - v < its[i].1 ∧ its[i].1 ≤ now
  · rw [if_pos h1]; simp [h1]
  · rw [if_neg h1]; simp only [List.filter_cons, List.filter_nil]
    rw [if_neg (by simpa using h1)]
theorem live_len (now v : Int) (its : List (Int × Int)) (i : Nat) : (liveI now v (its.take i)).length ≤ i := by
  have := List.length_filter_le (fun p : Int × Int => decide (now - v < p.1) && decide (p.1 ≤ now)) (its.take i)
  rw [List.length_take] at this
  unfold liveI; omega
set_option maxHeartbeats 4000000 in
set_option maxRecDepth 100000 in
theorem Live_any (A : Option Addr) (n c : Nat) (zs : List (Int × Int)) (now v : Int) (w : World) (h1 : PRead w w.heap.size A n zs) (hnc : n ≤ c) (hcm : c ≤ maxLen) (hn : 0 ≤ now ∧ now ≤ 100000000) (hv : 1 ≤ v ∧ v ≤ 100000000) (hs : n ≤ 1000) :
    Calls Try.prog 50 #[.slice A n c, .int .i64 now, .int .i64 v] w (lst.NewF (liveI now v zs) w) := by
  have H1 := Lib.hid h1
  have HL := Lib.hid h1.len
  have hcm9 : c ≤ 9223372036854775807 := hcm
  have hnv : IntKind.i64.wrap (now - v) = now - v := IntWalk.i64_in _ (by omega)
  clear h1 hcm hn hv
  obtain ⟨i0, hi0, hz0, hz1, hz2⟩ := info_parts item_info
  have HI := Lib.hid hi0
  have HZ0 := Lib.hid hz0
  have HZ1 := Lib.hid hz1
  have HZ2 := Lib.hid hz2
  clear hi0 hz0 hz1 hz2
  go_enter Try.func50, Try.ntmps50
  go_wp2
  go_loopg [7, 12] n (fun kx s7 s12 wr => ∃ (u : Value) (ys : List (Int × Int)) (i : Nat), s12 = .int .i64 i ∧ u = s7 ∧ i ≤ n ∧ n - i ≤ kx ∧ Hid (liveI now v (zs.take i) = ys) ∧ Hid (wr.ownsRow w.heap.size 61 2 u ys.length (pc ys)) ∧ Hid (Below w.heap.size w wr))
  case atStart => exact ⟨_, [], 0, rfl, rfl, by omega, by omega, rfl, own_nil _ _ _ _, Below.refl _ _⟩
  case round =>
    obtain ⟨u, ys, i, rfl, rfl, hin, hik, HY, HO, HB⟩ := hrel
    by_cases hlt : i < n
    case neg =>
      obtain rfl : i = n := by omega
      have e : zs.take i = zs := List.take_of_length_le (by rw [HL.out]; exact Nat.le_refl _)
      rw [e] at HY
      go_wp2
      go_ret
      exact lst.newF_own HB.out HO.out (by rw [HY.out])
    have H2 := H1.out.below HB.out
    obtain ⟨ad, rfl, hbl, hc1, hc2⟩ := PRead.at_ H2 hlt
    have hs2 := HB.out.size
    have hbl2 : ad.block < wr.heap.size := by omega
    have HY2 := Lib.hid (live_take (now := now) (v := v) (its := zs) (i := i) (by rw [HL.out]; exact hlt))
    have hyl := live_len now v zs i
    rw [HY.out] at hyl HY2
    clear H2
    change wr.cell? (ad.add (i * 2)) = some (.int .i64 (buk.at_ zs i).1) at hc1
    change wr.cell? ⟨(ad.add (i * 2)).block, (ad.add (i * 2)).off + 1, none⟩ = some (.int .i64 (buk.at_ zs i).2) at hc2
    generalize (buk.at_ zs i).1 = x at *
    generalize (buk.at_ zs i).2 = y at *
    obtain ⟨s, hs3⟩ : ∃ s, wr.heap.size = s := ⟨_, rfl⟩
    have RA := (gro.Bx.nil_.new (W := wr) (t := 61) (c := #[Value.int IntKind.i64 x, Value.int IntKind.i64 y]) hs3).rules
    simp only [gro.Rules] at RA
    by_cases q1 : now - v < x
    case neg =>
      rw [if_neg (fun h => q1 h.1), List.append_nil] at HY2
      go_wp2_with fail
      go_roundg (n - (i + 1))
      case measure => omega
      case rel => exact ⟨u, ys, i + 1, by go_num, rfl, by omega, by omega, HY2.out, own_alloc HO.out _, HB.out.alloc HB.out.size _⟩
    by_cases q2 : x ≤ now
    case neg =>
      rw [if_neg (fun h => q2 h.2), List.append_nil] at HY2
      go_wp2_with fail
      go_roundg (n - (i + 1))
      case measure => omega
      case rel => exact ⟨u, ys, i + 1, by go_num, rfl, by omega, by omega, HY2.out, own_alloc HO.out _, HB.out.alloc HB.out.size _⟩
    rw [if_pos ⟨q1, q2⟩] at HY2
    have HPC := Lib.hid (pc_snoc ys x y)
    obtain ⟨W1, hW1⟩ : ∃ W, wr.alloc (.cells #[Value.int IntKind.i64 x, Value.int IntKind.i64 y] 61) = W := ⟨_, rfl⟩
    have HO1 : Hid (W1.ownsRow w.heap.size 61 2 u ys.length (pc ys)) := by rw [← hW1]; exact own_alloc HO.out _
    have HB1 : Hid (Below w.heap.size w W1) := by rw [← hW1]; exact HB.out.alloc HB.out.size _
    rw [hW1] at RA
    go_wp2_with (at_builtin; go_loud (refine wpList_append_any _ rfl (.tmp 28) (.tmp 30) 48 rfl w.heap.size 61 i0 (.agg #[.int .i64 0, .int .i64 0]) 2 16 Try.underlying48 HI.out HZ0.out HZ1.out HZ2.out rfl (by omega) u ys.length _ rfl (own_alloc HO1.out _) _ _ 1 1 _ rfl (reads_new _ _ _ rfl) (by simp [Value.oneCell']) (by unfold maxLen; omega) (by omega) (by have := HB1.out.size; simp; omega) ?_); intro v1 w1 hown1 hg1 hat1)
    go_roundg (n - (i + 1))
    case measure => omega
    case rel => exact ⟨v1, ys ++ [(x, y)], i + 1, by go_num, rfl, by omega, by omega, HY2.out, by rw [Hid, HPC.out, List.length_append]; exact hown1, below_box HB1.out HO1.out hg1⟩
end Go.Proofs.Ytofgjcfiinmimaa.made

/- Rows of a call's own beside boxes and lists; live items of a list. -/
namespace Go.Proofs.Ytofgjcfiinmimaa.cst
open Go.RowKit Go.Proofs.Ytofgjcfiinmimaa.mem Go.Proofs.Ytofgjcfiinmimaa.lst Go.Proofs.Ytofgjcfiinmimaa.gro
set_option linter.unusedVariables false
section
variable {W w1 : World} {L : List (Nat × TypeId × Array Value)} {g base size n m : Nat} {e : TypeId} {u v1 : Value} {xs : List Value} {A : Option Addr} {ys : List (Int × Int)} {o : Obj} {row : Option Nat}
theorem own5 (h : W.ownsRow base e size u n xs) (hg : g < base) (u0 u1 u2 u3 u4 : Value) : (((((W.setCell ⟨g, 0, none⟩ u0).setCell ⟨g, 1, none⟩ u1).setCell ⟨g, 2, none⟩ u2).setCell ⟨g, 3, none⟩ u3).setCell ⟨g, 4, none⟩ u4).ownsRow base e size u n xs :=
  ownsRow_setCell_below (ownsRow_setCell_below (ownsRow_setCell_below (ownsRow_setCell_below (ownsRow_setCell_below h (a := ⟨g, 0, none⟩) hg u0) (a := ⟨g, 1, none⟩) hg u1) (a := ⟨g, 2, none⟩) hg u2) (a := ⟨g, 3, none⟩) hg u3) (a := ⟨g, 4, none⟩) hg u4
theorem own6 (h : W.ownsRow base e size u n xs) (hg : g < base) (u0 u1 u2 u3 u4 u5 : Value) : ((((((W.setCell ⟨g, 0, none⟩ u0).setCell ⟨g, 1, none⟩ u1).setCell ⟨g, 2, none⟩ u2).setCell ⟨g, 3, none⟩ u3).setCell ⟨g, 4, none⟩ u4).setCell ⟨g, 5, none⟩ u5).ownsRow base e size u n xs :=
  ownsRow_setCell_below (own5 h hg u0 u1 u2 u3 u4) (a := ⟨g, 5, none⟩) hg u5
theorem Bx.app (h : Bx W L) (hg : W.grownBy w1 row) (hd : ∀ p ∈ L, some p.1 ≠ row) : Bx w1 L := fun p hp => (h p hp).grown hg (hd p hp)
theorem PRead.app (h : PRead W W.heap.size A n ys) (hg : W.grownBy w1 row) (hd : 0 < n → ∀ ad, A = some ad → some ad.block ≠ row) : PRead w1 w1.heap.size A n ys := by
  obtain ⟨h1, h2⟩ := h
  refine ⟨h1, fun hn => ?_⟩
  obtain ⟨ad, e, hb, hc⟩ := h2 hn
  refine ⟨ad, e, Nat.lt_of_lt_of_le hb hg.size, fun j v hv => ?_⟩
  rw [← hc j v hv]
  exact World.cell?_of_block (by rw [block_of_add]; exact hg.block _ hb (hd hn ad e))
theorem dist_app (h : PRead W W.heap.size A n ys) (hd : 0 < n → ∀ ad, A = some ad → some ad.block ≠ u.ownBlock) (hat : v1.ownBlock = u.ownBlock ∨ v1.ownBlock = some W.heap.size) : 0 < n → ∀ ad, A = some ad → some ad.block ≠ v1.ownBlock := fun h0 ad e he => by
  rcases hat with h1 | h1
  · exact hd h0 ad e (he.trans h1)
  · have := PRead.blk h h0 ad e
    rw [h1] at he
    injection he with he
    omega
theorem grown_below {B : Nat} {w : World} (hb : Below B w W) (hB : B ≤ W.heap.size) (hg : W.grownBy w1 row) (hr : ∀ k, row = some k → B ≤ k) : Below B w w1 := hb.grown hg hB hr
end
theorem liveN_map {now v : Int} {its : List (Int × Int)} (h : ∀ p ∈ its, p.1 ≤ now) : (made.liveI now v its).length = buk.liveN (now - v) (its.map (·.1)) := by
  unfold made.liveI buk.liveN
  rw [List.countP_map, List.countP_eq_length_filter]
  congr 1
  refine List.filter_congr (fun p hp => ?_)
  have := h p hp
  simp [this]
theorem full_law {k p t q l : Int} (hk : 1 ≤ k) (hl : q ≤ l) (h : k * (t - q) ≤ q) (ht : t = p) : ¬ l * (k + 1) < p * k := by
  subst ht
  have h1 : q * (k + 1) ≤ l * (k + 1) := Int.mul_le_mul_of_nonneg_right hl (by omega)
  have e1 : k * (t - q) = t * k - q * k := by rw [Int.mul_sub, Int.mul_comm k t, Int.mul_comm k q]
  have e2 : q * (k + 1) = q * k + q := by rw [Int.mul_add, Int.mul_one]
  omega
end Go.Proofs.Ytofgjcfiinmimaa.cst
