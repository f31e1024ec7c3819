/- Made; Items; ItemsP; NewF; Live: texts in one. -/
import Derived.Test.YtjapjfcennemeaaMgTri
import Derived.Test.YtjapjfcennemeaaMgExpire
import Derived.Test.YtjapjfcennemeaaMgCasc
import Derived.Test.YtjapjfcennemeaaMgBox
import Derived.LoopN
import Derived.Test.YtjapjfcennemeaaApp
set_option linter.unusedVariables false
set_option linter.unusedSimpArgs false
/- Contract of the statements' own Mod and Int. -/
namespace Go.Proofs.Ytjapjfcennemeaa.made
open Go.RowKit Go.Proofs.Ytjapjfcennemeaa.mem
set_option linter.unusedVariables false
set_option maxHeartbeats 1000000 in
theorem Mod_any (a n : Int) (w : World) (ha : -9223372036854775808 ≤ a ∧ a ≤ 9223372036854775807) (hn : 1 ≤ n) (hn2 : n ≤ 4611686018427387904) :
    Calls Try.prog 38 #[.int .i64 a, .int .i64 n] w fun e w' => e = .returned (.int .i64 (a % n)) ∧ w = w' := by
  obtain ⟨a1, a2⟩ := ha
  have e1 : a.tmod n = if 0 ≤ a ∨ a % n = 0 then a % n else a % n - n := by
    rw [Int.tmod_eq_emod]
    have : n ∣ a ↔ a % n = 0 := Int.dvd_iff_emod_eq_zero
    simp only [this]
    by_cases hc : 0 ≤ a ∨ a % n = 0
    · rw [if_pos hc, if_pos hc]; simp
    · rw [if_neg hc, if_neg hc]; omega
  have h0 : 0 ≤ a % n := Int.emod_nonneg _ (by omega)
  have h1 : a % n < n := Int.emod_lt_of_pos _ (by omega)
  have HE := Lib.hid e1
  clear e1
  by_cases hneg : 0 ≤ a
  · go_enter Try.func38, Try.ntmps38
    go_wp2
    go_ret
    exact ⟨rfl, rfl⟩
  · by_cases hz : a % n = 0
    · have ht : a.tmod n = 0 := by rw [HE.out, if_pos (.inr hz), hz]
      have HZ := Lib.hid hz
      clear hz h0 h1
      go_enter Try.func38, Try.ntmps38
      go_wp2
      go_ret
      exact ⟨ret_int HZ.out.symm, rfl⟩
    · have ht : a.tmod n = a % n - n := by rw [HE.out, if_neg (by omega)]
      generalize a % n = r at *
      have HQ := Lib.hid ht
      have hq1 : a.tmod n < 0 := by omega
      have hq2 : 0 ≤ a.tmod n + n := by omega
      have hq3 : a.tmod n + n ≤ 4611686018427387904 := by omega
      clear ht h0 h1 hz
      go_enter Try.func38, Try.ntmps38
      go_wp2
      go_ret
      exact ⟨ret_int (by rw [HQ.out]; omega), rfl⟩
set_option maxHeartbeats 1000000 in
theorem Int_any (a n : Int) (w : World) (ha : -9223372036854775808 ≤ a ∧ a ≤ 9223372036854775807) (hn : 1 ≤ n) (hn2 : n ≤ 4611686018427387904) :
    Calls Try.prog 24 #[.int .i64 a, .int .i64 n] w fun e w' => e = .returned (.int .i64 (a % n)) ∧ w = w' := by
  have hM := Lib.hid (Mod_any a n w ha hn hn2)
  have h0 : 0 ≤ a % n := Int.emod_nonneg _ (by omega)
  have h1 : a % n < n := Int.emod_lt_of_pos _ (by omega)
  generalize a % n = r at *
  obtain ⟨a1, a2⟩ := ha
  go_enter Try.func24, Try.ntmps24
  go_wp2_with (go_at_call 38; refine hM.out.mono ?_; rintro e w' ⟨rfl, rfl⟩)
  go_ret
  exact ⟨rfl, rfl⟩
end Go.Proofs.Ytjapjfcennemeaa.made

/- Contracts of the statements' own lists of items. -/
namespace Go.Proofs.Ytjapjfcennemeaa.made
open Go.RowKit Go.Proofs.Ytjapjfcennemeaa.mem
set_option linter.unusedVariables false
set_option linter.unusedSimpArgs false
theorem tdiv_bd {a : Int} (ha : -9223372036854775808 ≤ a ∧ a ≤ 9223372036854775807) : -9223372036854775808 ≤ a.tdiv 8 ∧ a.tdiv 8 ≤ 9223372036854775807 := by
  have : (a.tdiv 8).natAbs = a.natAbs / 8 := Int.natAbs_tdiv a 8
  omega
set_option maxHeartbeats 2000000 in
set_option maxRecDepth 100000 in
theorem Value_any (a : Int) (w : World) (ha : -9223372036854775808 ≤ a ∧ a ≤ 9223372036854775807) :
    Calls Try.prog 84 #[.int .i64 a] w fun e w' => (∃ v : Int, e = .returned (.int .i64 v) ∧ -4096 ≤ v ∧ v ≤ 4096) ∧ w = w' := by
  have hb := tdiv_bd ha
  have M8 := Lib.hid (fun W => Mod_any a 8 W ha (by omega) (by omega))
  have M1 := Lib.hid (fun W => Mod_any (a.tdiv 8) 8193 W hb (by omega) (by omega))
  have M2 := Lib.hid (fun W => Mod_any (a.tdiv 8) 2 W hb (by omega) (by omega))
  have M3 := Lib.hid (fun W => Mod_any (a.tdiv 8) 13 W hb (by omega) (by omega))
  have b1 : 0 ≤ a.tdiv 8 % 8193 ∧ a.tdiv 8 % 8193 < 8193 := ⟨Int.emod_nonneg _ (by omega), Int.emod_lt_of_pos _ (by omega)⟩
  have b2 : 0 ≤ a.tdiv 8 % 2 ∧ a.tdiv 8 % 2 < 2 := ⟨Int.emod_nonneg _ (by omega), Int.emod_lt_of_pos _ (by omega)⟩
  have b3 : 0 ≤ a.tdiv 8 % 13 ∧ a.tdiv 8 % 13 < 13 := ⟨Int.emod_nonneg _ (by omega), Int.emod_lt_of_pos _ (by omega)⟩
  obtain ⟨b1, b1'⟩ := b1
  obtain ⟨b2, b2'⟩ := b2
  obtain ⟨b3, b3'⟩ := b3
  have hqw : IntKind.i64.wrap (a.tdiv 8) = a.tdiv 8 := IntWalk.i64_in _ hb
  obtain ⟨ha1, ha2⟩ := ha
  generalize a.tdiv 8 % 8193 = x1 at *
  generalize a.tdiv 8 % 2 = x2 at *
  generalize a.tdiv 8 % 13 = x3 at *
  by_cases h0 : a % 8 = 0
  · have q0 : (a % 8 == 0) = true := by simpa using h0
    have w1 : IntKind.i64.wrap (x1 - 4096) = x1 - 4096 := IntWalk.i64_in _ (by omega)
    generalize a % 8 = r at *
    clear h0
    go_enter Try.func84, Try.ntmps84
    go_wp2_with fail
    (with_reducible refine (M8.out _).mono ?_)
    rintro e w1 ⟨rfl, rfl⟩
    go_wp2_with fail
    (with_reducible refine (M1.out _).mono ?_)
    rintro e w1 ⟨rfl, rfl⟩
    go_wp2
    go_ret
    exact ⟨⟨_, rfl, by omega, by omega⟩, rfl⟩
  · have q0 : (a % 8 == 0) = false := by simpa using h0
    by_cases h1 : a % 8 = 1
    · have q1 : (a % 8 == 1) = true := by simpa using h1
      have w1 : IntKind.i64.wrap (2 * x2) = 2 * x2 := IntWalk.i64_in _ (by omega)
      have w2 : IntKind.i64.wrap (2 * x2 - 1) = 2 * x2 - 1 := IntWalk.i64_in _ (by omega)
      have w3 : IntKind.i64.wrap (4096 * (2 * x2 - 1)) = 4096 * (2 * x2 - 1) := IntWalk.i64_in _ (by omega)
      generalize a % 8 = r at *
      clear h0 h1
      go_enter Try.func84, Try.ntmps84
      go_wp2_with fail
      (with_reducible refine (M8.out _).mono ?_)
      rintro e w1 ⟨rfl, rfl⟩
      go_wp2_with fail
      (with_reducible refine (M2.out _).mono ?_)
      rintro e w1 ⟨rfl, rfl⟩
      go_wp2
      go_ret
      exact ⟨⟨_, rfl, by omega, by omega⟩, rfl⟩
    · have q1 : (a % 8 == 1) = false := by simpa using h1
      have w1 : IntKind.i64.wrap (x3 - 6) = x3 - 6 := IntWalk.i64_in _ (by omega)
      generalize a % 8 = r at *
      clear h0 h1
      go_enter Try.func84, Try.ntmps84
      go_wp2_with fail
      (with_reducible refine (M8.out _).mono ?_)
      rintro e w1 ⟨rfl, rfl⟩
      go_wp2_with fail
      (with_reducible refine (M3.out _).mono ?_)
      rintro e w1 ⟨rfl, rfl⟩
      go_wp2
      go_ret
      exact ⟨⟨_, rfl, by omega, by omega⟩, rfl⟩
set_option maxHeartbeats 2000000 in
set_option maxRecDepth 100000 in
theorem Gap_any (a v : Int) (w : World) (ha : -9223372036854775808 ≤ a ∧ a ≤ 9223372036854775807) (hv : 1 ≤ v ∧ v ≤ 1000) :
    Calls Try.prog 83 #[.int .i64 a, .int .i64 v] w fun e w' => (∃ g : Int, e = .returned (.int .i64 g) ∧ 0 ≤ g ∧ g ≤ 2 * v + 1) ∧ w = w' := by
  have hb := tdiv_bd ha
  obtain ⟨hv1, hv2⟩ := hv
  have M8 := Lib.hid (fun W => Mod_any a 8 W ha (by omega) (by omega))
  have M1 := Lib.hid (fun W => Mod_any (a.tdiv 8) (2 * v + 2) W hb (by omega) (by omega))
  have M3 := Lib.hid (fun W => Mod_any (a.tdiv 8) 3 W hb (by omega) (by omega))
  have b1 : 0 ≤ a.tdiv 8 % (2 * v + 2) ∧ a.tdiv 8 % (2 * v + 2) < 2 * v + 2 := ⟨Int.emod_nonneg _ (by omega), Int.emod_lt_of_pos _ (by omega)⟩
  have b3 : 0 ≤ a.tdiv 8 % 3 ∧ a.tdiv 8 % 3 < 3 := ⟨Int.emod_nonneg _ (by omega), Int.emod_lt_of_pos _ (by omega)⟩
  obtain ⟨b1, b1'⟩ := b1
  obtain ⟨b3, b3'⟩ := b3
  have hqw : IntKind.i64.wrap (a.tdiv 8) = a.tdiv 8 := IntWalk.i64_in _ hb
  have w1 : IntKind.i64.wrap (2 * v) = 2 * v := IntWalk.i64_in _ (by omega)
  have w2 : IntKind.i64.wrap (2 * v + 2) = 2 * v + 2 := IntWalk.i64_in _ (by omega)
  obtain ⟨ha1, ha2⟩ := ha
  generalize a.tdiv 8 % (2 * v + 2) = x1 at *
  generalize a.tdiv 8 % 3 = x3 at *
  have w3 : IntKind.i64.wrap (1 + x3) = 1 + x3 := IntWalk.i64_in _ (by omega)
  by_cases h0 : a % 8 = 0
  · have q0 : (a % 8 == 0) = true := by simpa using h0
    generalize a % 8 = r at *
    clear h0
    go_enter Try.func83, Try.ntmps83
    go_wp2_with fail
    (with_reducible refine (M8.out _).mono ?_)
    rintro e w1 ⟨rfl, rfl⟩
    go_wp2_with fail
    (with_reducible refine (M1.out _).mono ?_)
    rintro e w1 ⟨rfl, rfl⟩
    go_wp2
    go_ret
    exact ⟨⟨_, rfl, by omega, by omega⟩, rfl⟩
  · have q0 : (a % 8 == 0) = false := by simpa using h0
    by_cases h1 : a % 8 = 1
    · have q1 : (a % 8 == 1) = true := by simpa using h1
      generalize a % 8 = r at *
      clear h0 h1
      go_enter Try.func83, Try.ntmps83
      go_wp2_with fail
      (with_reducible refine (M8.out _).mono ?_)
      rintro e w1 ⟨rfl, rfl⟩
      go_wp2_with fail
      (with_reducible refine (M3.out _).mono ?_)
      rintro e w1 ⟨rfl, rfl⟩
      go_wp2
      go_ret
      exact ⟨⟨_, rfl, by omega, by omega⟩, rfl⟩
    · have q1 : (a % 8 == 1) = false := by simpa using h1
      by_cases h2 : a % 8 = 2
      · have q2 : (a % 8 == 2) = true := by simpa using h2
        generalize a % 8 = r at *
        clear h0 h1 h2
        go_enter Try.func83, Try.ntmps83
        go_wp2_with fail
        (with_reducible refine (M8.out _).mono ?_)
        rintro e w1 ⟨rfl, rfl⟩
        go_wp2_with fail
        (with_reducible refine (M3.out _).mono ?_)
        rintro e w1 ⟨rfl, rfl⟩
        go_wp2
        go_ret
        exact ⟨⟨_, rfl, by omega, by omega⟩, rfl⟩
      · have q2 : (a % 8 == 2) = false := by simpa using h2
        generalize a % 8 = r at *
        clear h0 h1 h2
        go_enter Try.func83, Try.ntmps83
        go_wp2_with fail
        (with_reducible refine (M8.out _).mono ?_)
        rintro e w1 ⟨rfl, rfl⟩
        go_wp2
        go_ret
        exact ⟨⟨_, rfl, by omega, by omega⟩, rfl⟩
/-- Items whose ticks ascend. -/
def ItOk (its : List (Int × Int)) (v : Int) : Prop := ∀ i, i < its.length → (0 ≤ (buk.at_ its i).1 ∧ (buk.at_ its i).1 ≤ (i + 1) * (2 * v + 1)) ∧ (-4096 ≤ (buk.at_ its i).2 ∧ (buk.at_ its i).2 ≤ 4096) ∧ (0 < i → (buk.at_ its (i - 1)).1 ≤ (buk.at_ its i).1)
theorem at_snoc_lt {xs : List (Int × Int)} {p : Int × Int} {i : Nat} (h : i < xs.length) : buk.at_ (xs ++ [p]) i = buk.at_ xs i := by simp [buk.at_, List.getElem?_append_left h]
theorem at_snoc_eq {xs : List (Int × Int)} {p : Int × Int} : buk.at_ (xs ++ [p]) xs.length = p := by simp [buk.at_]
theorem ItOk.snoc {its : List (Int × Int)} {v t x : Int} (h : ItOk its v) (ht : 0 ≤ t ∧ t ≤ (its.length + 1) * (2 * v + 1)) (hx : -4096 ≤ x ∧ x ≤ 4096) (hl : 0 < its.length → (buk.at_ its (its.length - 1)).1 ≤ t) : ItOk (its ++ [(t, x)]) v := by
  intro i hi
  rw [List.length_append, List.length_singleton] at hi
  rcases Nat.lt_or_ge i its.length with h1 | h1
  · rw [at_snoc_lt h1]
    obtain ⟨a, b, c⟩ := h i h1
    refine ⟨a, b, fun h0 => ?_⟩
    rw [at_snoc_lt (by omega)]
    exact c h0
  · obtain rfl : i = its.length := by omega
    rw [at_snoc_eq]
    refine ⟨ht, hx, fun h0 => ?_⟩
    rw [at_snoc_lt (by omega)]
    exact hl h0
theorem item_info : (Try.prog.info? 37).map (fun i => (i.zero, i.size, i.bytes)) = some (some (.agg #[.int .i64 0, .int .i64 0]), 2, 16) := by kernel_rfl
theorem pc_snoc (xs : List (Int × Int)) (t x : Int) : pc (xs ++ [(t, x)]) = pc xs ++ [.int .i64 t, .int .i64 x] := by simp [pc]
set_option maxHeartbeats 4000000 in
set_option maxRecDepth 100000 in
theorem Items_any (A : Option Addr) (n c : Nat) (zs : List (Int × Int)) (v : Int) (most : Nat) (w : World) (h1 : PRead w w.heap.size A n zs) (hr : ∀ p ∈ zs, (-9223372036854775808 ≤ p.1 ∧ p.1 ≤ 9223372036854775807) ∧ (-9223372036854775808 ≤ p.2 ∧ p.2 ≤ 9223372036854775807)) (hnc : n ≤ c) (hcm : c ≤ maxLen) (hv : 1 ≤ v ∧ v ≤ 1000) (hm : most ≤ 1000) :
    Calls Try.prog 25 #[.slice A n c, .int .i64 v, .int .i64 most] w fun e w' => ∃ (u : Value) (its : List (Int × Int)), e = .returned u ∧ w'.ownsRow w.heap.size 37 2 u its.length (pc its) ∧ its.length ≤ most ∧ ItOk its v ∧ Below w.heap.size w w' := by
  have H1 := Lib.hid h1
  have HL := Lib.hid h1.len
  have HR := Lib.hid hr
  obtain ⟨hv1, hv2⟩ := hv
  have hcm9 : c ≤ 9223372036854775807 := hcm
  clear h1 hr hcm
  obtain ⟨i0, hi0, hz0, hz1, hz2⟩ := info_parts item_info
  have HI := Lib.hid hi0
  have HZ0 := Lib.hid hz0
  have HZ1 := Lib.hid hz1
  have HZ2 := Lib.hid hz2
  clear hi0 hz0 hz1 hz2
  go_enter Try.func25, Try.ntmps25
  go_wp2
  go_loopg [7, 8, 9] n (fun kx s7 s8 s9 wr => ∃ (u : Value) (t : Int) (its : List (Int × Int)) (i : Nat), its.length = i ∧ s9 = .int .i64 i ∧ s8 = .int .i64 t ∧ u = s7 ∧ i ≤ n ∧ i ≤ most ∧ n - i ≤ kx ∧ 0 ≤ t ∧ t ≤ i * (2 * v + 1) ∧ Hid (0 < i → (buk.at_ its (i - 1)).1 ≤ t) ∧ Hid (wr.ownsRow w.heap.size 37 2 u i (pc its)) ∧ Hid (ItOk its v) ∧ Hid (Below w.heap.size w wr))
  case atStart => exact ⟨_, 0, [], 0, rfl, rfl, rfl, rfl, by omega, by omega, by omega, by omega, by simp, fun h => by omega, own_nil _ _ _ _, fun i hi => by simp at hi, Below.refl _ _⟩
  case round =>
    obtain ⟨u, t, its, i, hil, rfl, rfl, rfl, hin, him, hik, ht0, ht1, HT, HO, HK, HB⟩ := hrel
    by_cases hlt : i < n
    case neg =>
      go_wp2
      go_ret
      subst hil
      exact ⟨u, its, rfl, HO.out, him, HK.out, HB.out⟩
    by_cases hlt2 : i < most
    case neg =>
      go_wp2
      go_ret
      subst hil
      exact ⟨u, its, rfl, HO.out, him, HK.out, HB.out⟩
    have H2 := H1.out.below HB.out
    obtain ⟨ad, rfl, hbl, hc1, hc2⟩ := PRead.at_ H2 hlt
    have hs := HB.out.size
    have hbl2 : ad.block < wr.heap.size := by omega
    clear H2
    have hrr := HR.out (buk.at_ zs i) (by
      have h : i < zs.length := by rw [HL.out]; exact hlt
      have e : buk.at_ zs i = zs[i] := by simp [buk.at_, List.getElem?_eq_getElem h]
      rw [e]; exact List.getElem_mem _)
    change wr.cell? (ad.add (i * 2)) = some (.int .i64 (buk.at_ zs i).1) at hc1
    change wr.cell? ⟨(ad.add (i * 2)).block, (ad.add (i * 2)).off + 1, none⟩ = some (.int .i64 (buk.at_ zs i).2) at hc2
    generalize (buk.at_ zs i).1 = x at *
    generalize (buk.at_ zs i).2 = y at *
    have HG := Lib.hid (fun W => Gap_any x v W hrr.1 ⟨hv1, hv2⟩)
    have HV := Lib.hid (fun W => Value_any y W hrr.2)
    clear hrr
    have hex : ((i : Int) + 1) * (2 * v + 1) = i * (2 * v + 1) + (2 * v + 1) := by rw [Int.add_mul, Int.one_mul]
    have hti : (i : Int) * (2 * v + 1) ≤ 1000 * 2001 := Int.mul_le_mul (by omega) (by omega) (by omega) (by omega)
    generalize (i : Int) * (2 * v + 1) = im at *
    go_wp2_with fail
    (refine (HG.out _).mono ?_)
    rintro e w1 ⟨⟨g, rfl, hg0, hg1⟩, rfl⟩
    have hw : IntKind.i64.wrap (t + g) = t + g := IntWalk.i64_in _ (by omega)
    go_wp2_with fail
    (refine (HV.out _).mono ?_)
    rintro e w1 ⟨⟨x2, rfl, hx0, hx1⟩, rfl⟩
    have HK2 : Hid (ItOk (its ++ [(t + g, x2)]) v) := HK.out.snoc ⟨by omega, by rw [hil, hex]; omega⟩ ⟨hx0, hx1⟩ (fun h => by have := HT.out (by omega); rw [hil]; omega)
    have HT2 : Hid (0 < i + 1 → (buk.at_ (its ++ [(t + g, x2)]) (i + 1 - 1)).1 ≤ t + g) := fun _ => by
      rw [show i + 1 - 1 = its.length by omega, at_snoc_eq]; exact Int.le_refl _
    have HPC := Lib.hid (pc_snoc its (t + g) x2)
    clear HK HT
    go_wp2_with (at_builtin; go_loud (refine wpList_append_any _ rfl (.tmp 30) (.tmp 39) 32 rfl w.heap.size 37 i0 (.agg #[.int .i64 0, .int .i64 0]) 2 16 Try.underlying32 HI.out HZ0.out HZ1.out HZ2.out rfl (by omega) u i _ rfl (own_alloc HO.out _) _ _ 1 1 _ rfl (reads_new _ _ _ rfl) (by simp [Value.oneCell']) (by unfold maxLen; omega) (by omega) (by have := HB.out.size; simp; omega) ?_); intro v1 w1 hown1 hg1 hat1)
    go_roundg (n - (i + 1))
    case measure => omega
    case rel => exact ⟨v1, t + g, its ++ [(t + g, x2)], i + 1, by simp [hil], by go_num, rfl, rfl, by omega, by omega, by omega, by omega, by rw [show ((i + 1 : Nat) : Int) = (i : Int) + 1 by omega, hex]; omega, HT2.out, by rw [Hid, HPC.out]; exact hown1, HK2.out, below_box HB.out HO.out hg1⟩
end Go.Proofs.Ytjapjfcennemeaa.made

/- Contract of the statements' own lists of items with values that are not negative. -/
namespace Go.Proofs.Ytjapjfcennemeaa.made
open Go.RowKit Go.Proofs.Ytjapjfcennemeaa.mem
set_option linter.unusedVariables false
set_option linter.unusedSimpArgs false
theorem pc_set1 (ys : List (Int × Int)) (b : Nat) (y : Int) : (pc ys).set (b * 2 + 1) (.int .i64 y) = pc (ys.set b ((buk.at_ ys b).1, y)) := by
  induction ys generalizing b with
  | nil => simp [pc]
  | cons q ys ih =>
    cases b with
    | zero => simp [pc_cons, buk.at_]
    | succ b =>
      rw [pc_cons, show (b + 1) * 2 + 1 = b * 2 + 1 + 1 + 1 by omega, List.set_cons_succ, List.set_cons_succ, ih, List.set_cons_succ, pc_cons]
      simp [buk.at_]
theorem at_set {ys : List (Int × Int)} {b i : Nat} {p : Int × Int} (hb : b < ys.length) : buk.at_ (ys.set b p) i = if b = i then p else buk.at_ ys i := by
  unfold buk.at_
  rw [List.getElem?_set]
  by_cases h : b = i
  · subst h; rw [if_pos rfl, if_pos rfl, if_pos hb]; rfl
  · rw [if_neg h, if_neg h]
/-- The first k values are not negative, and at most m. -/
def MidOk (its : List (Int × Int)) (v m : Int) (k : Nat) : Prop := ∀ i, i < its.length → (0 ≤ (buk.at_ its i).1 ∧ (buk.at_ its i).1 ≤ (i + 1) * (2 * v + 1)) ∧ (-4096 ≤ (buk.at_ its i).2 ∧ (buk.at_ its i).2 ≤ 4096) ∧ (0 < i → (buk.at_ its (i - 1)).1 ≤ (buk.at_ its i).1) ∧ (i < k → 0 ≤ (buk.at_ its i).2 ∧ (buk.at_ its i).2 ≤ m)
theorem MidOk.start {its : List (Int × Int)} {v m : Int} (h : ItOk its v) : MidOk its v m 0 := fun i hi => ⟨(h i hi).1, (h i hi).2.1, (h i hi).2.2, fun h => by omega⟩
theorem MidOk.step {its : List (Int × Int)} {v m : Int} {k : Nat} (h : MidOk its v m k) (hk : k < its.length) {y : Int} (hy : 0 ≤ y ∧ y ≤ m) (hm : m ≤ 4096) : MidOk (its.set k ((buk.at_ its k).1, y)) v m (k + 1) := by
  intro i hi
  rw [List.length_set] at hi
  have e : ∀ j, (buk.at_ (its.set k ((buk.at_ its k).1, y)) j).1 = (buk.at_ its j).1 := fun j => by
    rw [at_set hk]; split
    · rename_i h; subst h; rfl
    · rfl
  obtain ⟨a, b, c, d⟩ := h i hi
  rw [e, e]
  refine ⟨a, ?_, c, fun hik => ?_⟩
  · rw [at_set hk]; split
    · exact ⟨by simp; omega, by simp; omega⟩
    · exact b
  · rw [at_set hk]; split
    · exact hy
    · rename_i hne; exact d (by omega)
/-- Ticks that ascend, and values in a range. -/
def Asc (its : List (Int × Int)) (lo hi : Int) : Prop := ∀ i, i < its.length → (0 ≤ (buk.at_ its i).1 ∧ (buk.at_ its i).1 ≤ 100000) ∧ (lo ≤ (buk.at_ its i).2 ∧ (buk.at_ its i).2 ≤ hi) ∧ (i + 1 < its.length → (buk.at_ its i).1 ≤ (buk.at_ its (i + 1)).1)
theorem tick_bd {its : List (Int × Int)} {v : Int} {i : Nat} (hi : i < its.length) (hl : its.length ≤ 1000) (hv : 1 ≤ v ∧ v ≤ 40) {t : Int} (h : t ≤ (i + 1) * (2 * v + 1)) : t ≤ 100000 := by
  have : ((i : Int) + 1) * (2 * v + 1) ≤ 1000 * 81 := Int.mul_le_mul (by omega) (by omega) (by omega) (by omega)
  omega
theorem ItOk.asc {its : List (Int × Int)} {v : Int} (h : ItOk its v) (hl : its.length ≤ 1000) (hv : 1 ≤ v ∧ v ≤ 40) : Asc its (-4096) 4096 := fun i hi => by
  obtain ⟨⟨a, b⟩, c, d⟩ := h i hi
  exact ⟨⟨a, tick_bd hi hl hv b⟩, c, fun h2 => (h (i + 1) h2).2.2 (by omega)⟩
theorem MidOk.asc {its : List (Int × Int)} {v m : Int} (h : MidOk its v m its.length) (hl : its.length ≤ 1000) (hv : 1 ≤ v ∧ v ≤ 40) : Asc its 0 m := fun i hi => by
  obtain ⟨⟨a, b⟩, _, c, d⟩ := h i hi
  exact ⟨⟨a, tick_bd hi hl hv b⟩, d hi, fun h2 => (h (i + 1) h2).2.2.1 (by omega)⟩
end Go.Proofs.Ytjapjfcennemeaa.made

/- What comes back as a new slice of pairs: its block is new. -/
namespace Go.Proofs.Ytjapjfcennemeaa.lst
open Go.RowKit Go.Proofs.Ytjapjfcennemeaa.mem
set_option linter.unusedVariables false
def NewF (ys : List (Int × Int)) (w : World) (e : Ending) (w' : World) : Prop :=
  ∃ A m c, e = .returned (.slice A m c) ∧ m ≤ c ∧ (c ≤ maxLen ∧ ∀ ad, A = some ad → w.heap.size ≤ ad.block) ∧ PRead w' w'.heap.size A m ys ∧ Below w.heap.size w w'
theorem own_new {w : World} {base : Nat} {e : TypeId} {size n c : Nat} {A : Option Addr} {xs : List Value} (h : w.ownsRow base e size (.slice A n c) n xs) : ∀ ad, A = some ad → base ≤ ad.block := by
  rintro ad rfl
  exact own_block_ge h ad.block rfl
theorem newF_of_own {w W w1 : World} {base : Nat} {e : TypeId} {v : Value} {n : Nat} {ys : List (Int × Int)} {xs : List Value} {row : Option Nat} (hb : Below w.heap.size w W) (hown : w1.ownsRow base e 2 v n xs) (hx : xs = pc ys)
    (hg : W.grownBy w1 row) (hr : ∀ k, row = some k → w.heap.size ≤ k) (hbase : w.heap.size ≤ base := by first | exact Nat.le_refl _ | omega | (simp; omega)) : NewF ys w (.returned v) w1 := by
  obtain ⟨A, c, rfl, h1, h2, h3⟩ := own_form hown
  subst hx
  exact ⟨A, n, c, rfl, h1, ⟨h2, fun ad h => Nat.le_trans hbase (own_new hown ad h)⟩, h3, hb.grown hg hb.size hr⟩
theorem newF_own {w w1 : World} {base : Nat} {e : TypeId} {v : Value} {n : Nat} {ys : List (Int × Int)} {xs : List Value} (hb : Below w.heap.size w w1) (hown : w1.ownsRow base e 2 v n xs) (hx : xs = pc ys)
    (hbase : w.heap.size ≤ base := by first | exact Nat.le_refl _ | omega | (simp; omega)) : NewF ys w (.returned v) w1 := by
  obtain ⟨A, c, rfl, h1, h2, h3⟩ := own_form hown
  subst hx
  exact ⟨A, n, c, rfl, h1, ⟨h2, fun ad h => Nat.le_trans hbase (own_new hown ad h)⟩, h3, hb⟩
theorem newF_nil (w w' : World) (hb : Below w.heap.size w w') : NewF [] w (.returned (.slice none 0 0)) w' := ⟨none, 0, 0, rfl, Nat.le_refl _, ⟨Nat.zero_le _, fun ad h => by cases h⟩, .nil_, hb⟩
/-- Its block is new, or below a bound. -/
def NewG (B : Nat) (ys : List (Int × Int)) (w : World) (e : Ending) (w' : World) : Prop :=
  ∃ A m c, e = .returned (.slice A m c) ∧ m ≤ c ∧ (c ≤ maxLen ∧ (0 < m → ∀ ad, A = some ad → w.heap.size ≤ ad.block ∨ ad.block < B)) ∧ PRead w' w'.heap.size A m ys ∧ Below w.heap.size w w'
theorem newG_nil (B : Nat) (w w' : World) (hb : Below w.heap.size w w') : NewG B [] w (.returned (.slice none 0 0)) w' := ⟨none, 0, 0, rfl, Nat.le_refl _, ⟨Nat.zero_le _, fun _ ad h => by cases h⟩, .nil_, hb⟩
end Go.Proofs.Ytjapjfcennemeaa.lst

/- Contract of the statements' own list of the items in a window. -/
namespace Go.Proofs.Ytjapjfcennemeaa.made
open Go.RowKit Go.Proofs.Ytjapjfcennemeaa.mem
set_option linter.unusedVariables false
set_option linter.unusedSimpArgs false
def liveI (now v : Int) (its : List (Int × Int)) : List (Int × Int) := its.filter (fun p => decide (now - v < p.1) && decide (p.1 ≤ now))
theorem live_take {now v : Int} {its : List (Int × Int)} {i : Nat} (h : i < its.length) : liveI now v (its.take (i + 1)) = liveI now v (its.take i) ++ if now - v < (buk.at_ its i).1 ∧ (buk.at_ its i).1 ≤ now then [((buk.at_ its i).1, (buk.at_ its i).2)] else [] := by
  have e : buk.at_ its i = its[i] := by simp [buk.at_, List.getElem?_eq_getElem h]
  unfold liveI
  rw [e, List.take_succ_eq_append_getElem h, List.filter_append]
  congr 1
  by_cases h1 : now - v < its[i].1 ∧ its[i].1 ≤ now
  · rw [if_pos h1]; simp [h1]
  · rw [if_neg h1]; simp only [List.filter_cons, List.filter_nil]
    rw [if_neg (by simpa using h1)]
theorem live_len (now v : Int) (its : List (Int × Int)) (i : Nat) : (liveI now v (its.take i)).length ≤ i := by
  have := List.length_filter_le (fun p : Int × Int => decide (now - v < p.1) && decide (p.1 ≤ now)) (its.take i)
  rw [List.length_take] at this
  unfold liveI; omega
set_option maxHeartbeats 4000000 in
set_option maxRecDepth 100000 in
theorem Live_any (A : Option Addr) (n c : Nat) (zs : List (Int × Int)) (now v : Int) (w : World) (h1 : PRead w w.heap.size A n zs) (hnc : n ≤ c) (hcm : c ≤ maxLen) (hn : 0 ≤ now ∧ now ≤ 100000000) (hv : 1 ≤ v ∧ v ≤ 100000000) (hs : n ≤ 1000) :
    Calls Try.prog 39 #[.slice A n c, .int .i64 now, .int .i64 v] w (lst.NewF (liveI now v zs) w) := by
  have H1 := Lib.hid h1
  have HL := Lib.hid h1.len
  have hcm9 : c ≤ 9223372036854775807 := hcm
  have hnv : IntKind.i64.wrap (now - v) = now - v := IntWalk.i64_in _ (by omega)
  clear h1 hcm hn hv
  obtain ⟨i0, hi0, hz0, hz1, hz2⟩ := info_parts item_info
  have HI := Lib.hid hi0
  have HZ0 := Lib.hid hz0
  have HZ1 := Lib.hid hz1
  have HZ2 := Lib.hid hz2
  clear hi0 hz0 hz1 hz2
  go_enter Try.func39, Try.ntmps39
  go_wp2
  go_loopg [7, 12] n (fun kx s7 s12 wr => ∃ (u : Value) (ys : List (Int × Int)) (i : Nat), s12 = .int .i64 i ∧ u = s7 ∧ i ≤ n ∧ n - i ≤ kx ∧ Hid (liveI now v (zs.take i) = ys) ∧ Hid (wr.ownsRow w.heap.size 37 2 u ys.length (pc ys)) ∧ Hid (Below w.heap.size w wr))
  case atStart => exact ⟨_, [], 0, rfl, rfl, by omega, by omega, rfl, own_nil _ _ _ _, Below.refl _ _⟩
  case round =>
    obtain ⟨u, ys, i, rfl, rfl, hin, hik, HY, HO, HB⟩ := hrel
    by_cases hlt : i < n
    case neg =>
      obtain rfl : i = n := by omega
      have e : zs.take i = zs := List.take_of_length_le (by rw [HL.out]; exact Nat.le_refl _)
      rw [e] at HY
      go_wp2
      go_ret
      exact lst.newF_own HB.out HO.out (by rw [HY.out])
    have H2 := H1.out.below HB.out
    obtain ⟨ad, rfl, hbl, hc1, hc2⟩ := PRead.at_ H2 hlt
    have hs2 := HB.out.size
    have hbl2 : ad.block < wr.heap.size := by omega
    have HY2 := Lib.hid (live_take (now := now) (v := v) (its := zs) (i := i) (by rw [HL.out]; exact hlt))
    have hyl := live_len now v zs i
    rw [HY.out] at hyl HY2
    clear H2
    change wr.cell? (ad.add (i * 2)) = some (.int .i64 (buk.at_ zs i).1) at hc1
    change wr.cell? ⟨(ad.add (i * 2)).block, (ad.add (i * 2)).off + 1, none⟩ = some (.int .i64 (buk.at_ zs i).2) at hc2
    generalize (buk.at_ zs i).1 = x at *
    generalize (buk.at_ zs i).2 = y at *
    obtain ⟨s, hs3⟩ : ∃ s, wr.heap.size = s := ⟨_, rfl⟩
    have RA := (gro.Bx.nil_.new (W := wr) (t := 37) (c := #[Value.int IntKind.i64 x, Value.int IntKind.i64 y]) hs3).rules
    simp only [gro.Rules] at RA
    by_cases q1 : now - v < x
    case neg =>
      rw [if_neg (fun h => q1 h.1), List.append_nil] at HY2
      go_wp2_with fail
      go_roundg (n - (i + 1))
      case measure => omega
      case rel => exact ⟨u, ys, i + 1, by go_num, rfl, by omega, by omega, HY2.out, own_alloc HO.out _, HB.out.alloc HB.out.size _⟩
    by_cases q2 : x ≤ now
    case neg =>
      rw [if_neg (fun h => q2 h.2), List.append_nil] at HY2
      go_wp2_with fail
      go_roundg (n - (i + 1))
      case measure => omega
      case rel => exact ⟨u, ys, i + 1, by go_num, rfl, by omega, by omega, HY2.out, own_alloc HO.out _, HB.out.alloc HB.out.size _⟩
    rw [if_pos ⟨q1, q2⟩] at HY2
    have HPC := Lib.hid (pc_snoc ys x y)
    obtain ⟨W1, hW1⟩ : ∃ W, wr.alloc (.cells #[Value.int IntKind.i64 x, Value.int IntKind.i64 y] 37) = W := ⟨_, rfl⟩
    have HO1 : Hid (W1.ownsRow w.heap.size 37 2 u ys.length (pc ys)) := by rw [← hW1]; exact own_alloc HO.out _
    have HB1 : Hid (Below w.heap.size w W1) := by rw [← hW1]; exact HB.out.alloc HB.out.size _
    rw [hW1] at RA
    go_wp2_with (at_builtin; go_loud (refine wpList_append_any _ rfl (.tmp 28) (.tmp 30) 32 rfl w.heap.size 37 i0 (.agg #[.int .i64 0, .int .i64 0]) 2 16 Try.underlying32 HI.out HZ0.out HZ1.out HZ2.out rfl (by omega) u ys.length _ rfl (own_alloc HO1.out _) _ _ 1 1 _ rfl (reads_new _ _ _ rfl) (by simp [Value.oneCell']) (by unfold maxLen; omega) (by omega) (by have := HB1.out.size; simp; omega) ?_); intro v1 w1 hown1 hg1 hat1)
    go_roundg (n - (i + 1))
    case measure => omega
    case rel => exact ⟨v1, ys ++ [(x, y)], i + 1, by go_num, rfl, by omega, by omega, HY2.out, by rw [Hid, HPC.out, List.length_append]; exact hown1, below_box HB1.out HO1.out hg1⟩
end Go.Proofs.Ytjapjfcennemeaa.made
