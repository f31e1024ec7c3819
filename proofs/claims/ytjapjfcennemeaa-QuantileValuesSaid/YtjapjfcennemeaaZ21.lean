/- Items: proved here in one text, no conditions beyond those that each theorem states. -/
import Derived.LoopN
import Derived.Test.YtjapjfcennemeaaZ3
import Derived.Test.YtjapjfcennemeaaZ5
import Derived.Test.YtjapjfcennemeaaZ13
set_option linter.unusedVariables false
set_option linter.unusedSimpArgs false
namespace Go.Proofs.Ytjapjfcennemeaa.made
open Go.RowKit Go.Proofs.Ytjapjfcennemeaa.mem
set_option linter.unusedVariables false
set_option linter.unusedSimpArgs false
theorem tdiv_bd {a : Int} (ha : -9223372036854775808 ≤ a ∧ a ≤ 9223372036854775807) : -9223372036854775808 ≤ a.tdiv 8 ∧ a.tdiv 8 ≤ 9223372036854775807 := by
  have : (a.tdiv 8).natAbs = a.natAbs / 8 := Int.natAbs_tdiv a 8
  omega
set_option maxHeartbeats 2000000 in
set_option maxRecDepth 100000 in
theorem Value_any (a : Int) (w : World) (ha : -9223372036854775808 ≤ a ∧ a ≤ 9223372036854775807) :
    Calls Try.prog 84 #[.int .i64 a] w fun e w' => (∃ v : Int, e = .returned (.int .i64 v) ∧ -4096 ≤ v ∧ v ≤ 4096) ∧ w = w' := by
  have hb := tdiv_bd ha
  have M8 := Lib.hid (fun W => Mod_any a 8 W ha (by omega) (by omega))
  have M1 := Lib.hid (fun W => Mod_any (a.tdiv 8) 8193 W hb (by omega) (by omega))
  have M2 := Lib.hid (fun W => Mod_any (a.tdiv 8) 2 W hb (by omega) (by omega))
  have M3 := Lib.hid (fun W => Mod_any (a.tdiv 8) 13 W hb (by omega) (by omega))
  have b1 : 0 ≤ a.tdiv 8 % 8193 ∧ a.tdiv 8 % 8193 < 8193 := ⟨Int.emod_nonneg _ (by omega), Int.emod_lt_of_pos _ (by omega)⟩
  have b2 : 0 ≤ a.tdiv 8 % 2 ∧ a.tdiv 8 % 2 < 2 := ⟨Int.emod_nonneg _ (by omega), Int.emod_lt_of_pos _ (by omega)⟩
  have b3 : 0 ≤ a.tdiv 8 % 13 ∧ a.tdiv 8 % 13 < 13 := ⟨Int.emod_nonneg _ (by omega), Int.emod_lt_of_pos _ (by omega)⟩
  obtain ⟨b1, b1'⟩ := b1
  obtain ⟨b2, b2'⟩ := b2
  obtain ⟨b3, b3'⟩ := b3
  have hqw : IntKind.i64.wrap (a.tdiv 8) = a.tdiv 8 := IntWalk.i64_in _ hb
  obtain ⟨ha1, ha2⟩ := ha
  generalize a.tdiv 8 % 8193 = x1 at *
  generalize a.tdiv 8 % 2 = x2 at *
  generalize a.tdiv 8 % 13 = x3 at *
  by_cases h0 : a % 8 = 0
  · have q0 : (a % 8 == 0) = true := by simpa using h0
    have w1 : IntKind.i64.wrap (x1 - 4096) = x1 - 4096 := IntWalk.i64_in _ (by omega)
    generalize a % 8 = r at *
    clear h0
    go_enter Try.func84, Try.ntmps84
    go_wp2_with fail
    (with_reducible refine (M8.out _).mono ?_)
    rintro e w1 ⟨rfl, rfl⟩
    go_wp2_with fail
    (with_reducible refine (M1.out _).mono ?_)
    rintro e w1 ⟨rfl, rfl⟩
    go_wp2
    go_ret
    exact ⟨⟨_, rfl, by omega, by omega⟩, rfl⟩
  · have q0 : (a % 8 == 0) = false := by simpa using h0
    by_cases h1 : a % 8 = 1
    · have q1 : (a % 8 == 1) = true := by simpa using h1
      have w1 : IntKind.i64.wrap (2 * x2) = 2 * x2 := IntWalk.i64_in _ (by omega)
      have w2 : IntKind.i64.wrap (2 * x2 - 1) = 2 * x2 - 1 := IntWalk.i64_in _ (by omega)
      have w3 : IntKind.i64.wrap (4096 * (2 * x2 - 1)) = 4096 * (2 * x2 - 1) := IntWalk.i64_in _ (by omega)
      generalize a % 8 = r at *
      clear h0 h1
      go_enter Try.func84, Try.ntmps84
      go_wp2_with fail
      (with_reducible refine (M8.out _).mono ?_)
      rintro e w1 ⟨rfl, rfl⟩
      go_wp2_with fail
      (with_reducible refine (M2.out _).mono ?_)
      rintro e w1 ⟨rfl, rfl⟩
      go_wp2
      go_ret
      exact ⟨⟨_, rfl, by omega, by omega⟩, rfl⟩
    · have q1 : (a % 8 == 1) = false := by simpa using h1
      have w1 : IntKind.i64.wrap (x3 - 6) = x3 - 6 := IntWalk.i64_in _ (by omega)
      generalize a % 8 = r at *
      clear h0 h1
      go_enter Try.func84, Try.ntmps84
      go_wp2_with fail
      (with_reducible refine (M8.out _).mono ?_)
      rintro e w1 ⟨rfl, rfl⟩
      go_wp2_with fail
      (with_reducible refine (M3.out _).mono ?_)
      rintro e w1 ⟨rfl, rfl⟩
      go_wp2
      go_ret
      exact ⟨⟨_, rfl, by omega, by omega⟩, rfl⟩
set_option maxHeartbeats 2000000 in
set_option maxRecDepth 100000 in
theorem Gap_any (a v : Int) (w : World) (ha : -9223372036854775808 ≤ a ∧ a ≤ 9223372036854775807) (hv : 1 ≤ v ∧ v ≤ 1000) :
    Calls Try.prog 83 #[.int .i64 a, .int .i64 v] w fun e w' => (∃ g : Int, e = .returned (.int .i64 g) ∧ 0 ≤ g ∧ g ≤ 2 * v + 1) ∧ w = w' := by
  have hb := tdiv_bd ha
  obtain ⟨hv1, hv2⟩ := hv
  have M8 := Lib.hid (fun W => Mod_any a 8 W ha (by omega) (by omega))
  have M1 := Lib.hid (fun W => Mod_any (a.tdiv 8) (2 * v + 2) W hb (by omega) (by omega))
  have M3 := Lib.hid (fun W => Mod_any (a.tdiv 8) 3 W hb (by omega) (by omega))
  have b1 : 0 ≤ a.tdiv 8 % (2 * v + 2) ∧ a.tdiv 8 % (2 * v + 2) < 2 * v + 2 := ⟨Int.emod_nonneg _ (by omega), Int.emod_lt_of_pos _ (by omega)⟩
  have b3 : 0 ≤ a.tdiv 8 % 3 ∧ a.tdiv 8 % 3 < 3 := ⟨Int.emod_nonneg _ (by omega), Int.emod_lt_of_pos _ (by omega)⟩
  obtain ⟨b1, b1'⟩ := b1
  obtain ⟨b3, b3'⟩ := b3
  have hqw : IntKind.i64.wrap (a.tdiv 8) = a.tdiv 8 := IntWalk.i64_in _ hb
  have w1 : IntKind.i64.wrap (2 * v) = 2 * v := IntWalk.i64_in _ (by omega)
  have w2 : IntKind.i64.wrap (2 * v + 2) = 2 * v + 2 := IntWalk.i64_in _ (by omega)
  obtain ⟨ha1, ha2⟩ := ha
  generalize a.tdiv 8 % (2 * v + 2) = x1 at *
  generalize a.tdiv 8 % 3 = x3 at *
  have w3 : IntKind.i64.wrap (1 + x3) = 1 + x3 := IntWalk.i64_in _ (by omega)
  by_cases h0 : a % 8 = 0
  · have q0 : (a % 8 == 0) = true := by simpa using h0
    generalize a % 8 = r at *
    clear h0
    go_enter Try.func83, Try.ntmps83
    go_wp2_with fail
    (with_reducible refine (M8.out _).mono ?_)
    rintro e w1 ⟨rfl, rfl⟩
    go_wp2_with fail
    (with_reducible refine (M1.out _).mono ?_)
    rintro e w1 ⟨rfl, rfl⟩
    go_wp2
    go_ret
    exact ⟨⟨_, rfl, by omega, by omega⟩, rfl⟩
  · have q0 : (a % 8 == 0) = false := by simpa using h0
    by_cases h1 : a % 8 = 1
    · have q1 : (a % 8 == 1) = true := by simpa using h1
      generalize a % 8 = r at *
      clear h0 h1
      go_enter Try.func83, Try.ntmps83
      go_wp2_with fail
      (with_reducible refine (M8.out _).mono ?_)
      rintro e w1 ⟨rfl, rfl⟩
      go_wp2_with fail
      (with_reducible refine (M3.out _).mono ?_)
      rintro e w1 ⟨rfl, rfl⟩
      go_wp2
      go_ret
      exact ⟨⟨_, rfl, by omega, by omega⟩, rfl⟩
    · have q1 : (a % 8 == 1) = false := by simpa using h1
      by_cases h2 : a % 8 = 2
      · have q2 : (a % 8 == 2) = true := by simpa using h2
        generalize a % 8 = r at *
        clear h0 h1 h2
        go_enter Try.func83, Try.ntmps83
        go_wp2_with fail
        (with_reducible refine (M8.out _).mono ?_)
        rintro e w1 ⟨rfl, rfl⟩
        go_wp2_with fail
        (with_reducible refine (M3.out _).mono ?_)
        rintro e w1 ⟨rfl, rfl⟩
        go_wp2
        go_ret
        exact ⟨⟨_, rfl, by omega, by omega⟩, rfl⟩
      · have q2 : (a % 8 == 2) = false := by simpa using h2
        generalize a % 8 = r at *
        clear h0 h1 h2
        go_enter Try.func83, Try.ntmps83
        go_wp2_with fail
        (with_reducible refine (M8.out _).mono ?_)
        rintro e w1 ⟨rfl, rfl⟩
        go_wp2
        go_ret
        exact ⟨⟨_, rfl, by omega, by omega⟩, rfl⟩
def ItOk (its : List (Int × Int)) (v : Int) : Prop := ∀ i, i < its.length → (0 ≤ (buk.at_ its i).1 ∧ (buk.at_ its i).1 ≤ (i + 1) * (2 * v + 1)) ∧ (-4096 ≤ (buk.at_ its i).2 ∧ (buk.at_ its i).2 ≤ 4096) ∧ (0 < i → (buk.at_ its (i - 1)).1 ≤ (buk.at_ its i).1)
theorem at_snoc_lt {xs : List (Int × Int)} {p : Int × Int} {i : Nat} (h : i < xs.length) : buk.at_ (xs ++ [p]) i = buk.at_ xs i := by simp [buk.at_, List.getElem?_append_left h]
theorem at_snoc_eq {xs : List (Int × Int)} {p : Int × Int} : buk.at_ (xs ++ [p]) xs.length = p := by simp [buk.at_]
theorem ItOk.snoc {its : List (Int × Int)} {v t x : Int} (h : ItOk its v) (ht : 0 ≤ t ∧ t ≤ (its.length + 1) * (2 * v + 1)) (hx : -4096 ≤ x ∧ x ≤ 4096) (hl : 0 < its.length → (buk.at_ its (its.length - 1)).1 ≤ t) : ItOk (its ++ [(t, x)]) v := by
  intro i hi
  rw [List.length_append, List.length_singleton] at hi
  rcases Nat.lt_or_ge i its.length with h1 | h1
  · rw [at_snoc_lt h1]
    obtain ⟨a, b, c⟩ := h i h1
    refine ⟨a, b, fun h0 => ?_⟩
    rw [at_snoc_lt (by omega)]
    exact c h0
  · obtain rfl : i = its.length := by omega
    rw [at_snoc_eq]
    refine ⟨ht, hx, fun h0 => ?_⟩
    rw [at_snoc_lt (by omega)]
    exact hl h0
theorem item_info : (Try.prog.info? 37).map (fun i => (i.zero, i.size, i.bytes)) = some (some (.agg #[.int .i64 0, .int .i64 0]), 2, 16) := by kernel_rfl
theorem pc_snoc (xs : List (Int × Int)) (t x : Int) : pc (xs ++ [(t, x)]) = pc xs ++ [.int .i64 t, .int .i64 x] := by simp [pc]
set_option maxHeartbeats 4000000 in
set_option maxRecDepth 100000 in
theorem Items_any (A : Option Addr) (n c : Nat) (zs : List (Int × Int)) (v : Int) (most : Nat) (w : World) (h1 : PRead w w.heap.size A n zs) (hr : ∀ p ∈ zs, (-9223372036854775808 ≤ p.1 ∧ p.1 ≤ 9223372036854775807) ∧ (-9223372036854775808 ≤ p.2 ∧ p.2 ≤ 9223372036854775807)) (hnc : n ≤ c) (hcm : c ≤ maxLen) (hv : 1 ≤ v ∧ v ≤ 1000) (hm : most ≤ 1000) :
    Calls Try.prog 25 #[.slice A n c, .int .i64 v, .int .i64 most] w fun e w' => ∃ (u : Value) (its : List (Int × Int)), e = .returned u ∧ w'.ownsRow w.heap.size 37 2 u its.length (pc its) ∧ its.length ≤ most ∧ ItOk its v ∧ Below w.heap.size w w' := by
  have H1 := Lib.hid h1
  have HL := Lib.hid h1.len
  have HR := Lib.hid hr
  obtain ⟨hv1, hv2⟩ := hv
  have hcm9 : c ≤ 9223372036854775807 := hcm
  clear h1 hr hcm
  obtain ⟨i0, hi0, hz0, hz1, hz2⟩ := info_parts item_info
  have HI := Lib.hid hi0
  have HZ0 := Lib.hid hz0
  have HZ1 := Lib.hid hz1
  have HZ2 := Lib.hid hz2
  clear hi0 hz0 hz1 hz2
  go_enter Try.func25, Try.ntmps25
  go_wp2
  go_loopg [7, 8, 9] n (fun kx s7 s8 s9 wr => ∃ (u : Value) (t : Int) (its : List (Int × Int)) (i : Nat), its.length = i ∧ s9 = .int .i64 i ∧ s8 = .int .i64 t ∧ u = s7 ∧ i ≤ n ∧ i ≤ most ∧ n - i ≤ kx ∧ 0 ≤ t ∧ t ≤ i * (2 * v + 1) ∧ Hid (0 < i → (buk.at_ its (i - 1)).1 ≤ t) ∧ Hid (wr.ownsRow w.heap.size 37 2 u i (pc its)) ∧ Hid (ItOk its v) ∧ Hid (Below w.heap.size w wr))
  case atStart => exact ⟨_, 0, [], 0, rfl, rfl, rfl, rfl, by omega, by omega, by omega, by omega, by simp, fun h => by omega, own_nil _ _ _ _, fun i hi => by simp at hi, Below.refl _ _⟩
  case round =>
    obtain ⟨u, t, its, i, hil, rfl, rfl, rfl, hin, him, hik, ht0, ht1, HT, HO, HK, HB⟩ := hrel
    by_cases hlt : i < n
    case neg =>
      go_wp2
      go_ret
      subst hil
      exact ⟨u, its, rfl, HO.out, him, HK.out, HB.out⟩
    by_cases hlt2 : i < most
    case neg =>
      go_wp2
      go_ret
      subst hil
      exact ⟨u, its, rfl, HO.out, him, HK.out, HB.out⟩
    have H2 := H1.out.below HB.out
    obtain ⟨ad, rfl, hbl, hc1, hc2⟩ := PRead.at_ H2 hlt
    have hs := HB.out.size
    have hbl2 : ad.block < wr.heap.size := by omega
    clear H2
    have hrr := HR.out (buk.at_ zs i) (by
      have h : i < zs.length := by rw [HL.out]; exact hlt
      have e : buk.at_ zs i = zs[i] := by simp [buk.at_, List.getElem?_eq_getElem h]
      rw [e]; exact List.getElem_mem _)
    change wr.cell? (ad.add (i * 2)) = some (.int .i64 (buk.at_ zs i).1) at hc1
    change wr.cell? ⟨(ad.add (i * 2)).block, (ad.add (i * 2)).off + 1, none⟩ = some (.int .i64 (buk.at_ zs i).2) at hc2
    generalize (buk.at_ zs i).1 = x at *
    generalize (buk.at_ zs i).2 = y at *
    have HG := Lib.hid (fun W => Gap_any x v W hrr.1 ⟨hv1, hv2⟩)
    have HV := Lib.hid (fun W => Value_any y W hrr.2)
    clear hrr
    have hex : ((i : Int) + 1) * (2 * v + 1) = i * (2 * v + 1) + (2 * v + 1) := by rw [Int.add_mul, Int.one_mul]
    have hti : (i : Int) * (2 * v + 1) ≤ 1000 * 2001 := Int.mul_le_mul (by omega) (by omega) (by omega) (by omega)
    generalize (i : Int) * (2 * v + 1) = im at *
    go_wp2_with fail
    (refine (HG.out _).mono ?_)
    rintro e w1 ⟨⟨g, rfl, hg0, hg1⟩, rfl⟩
    have hw : IntKind.i64.wrap (t + g) = t + g := IntWalk.i64_in _ (by omega)
    go_wp2_with fail
    (refine (HV.out _).mono ?_)
    rintro e w1 ⟨⟨x2, rfl, hx0, hx1⟩, rfl⟩
    have HK2 : Hid (ItOk (its ++ [(t + g, x2)]) v) := HK.out.snoc ⟨by omega, by rw [hil, hex]; omega⟩ ⟨hx0, hx1⟩ (fun h => by have := HT.out (by omega); rw [hil]; omega)
    have HT2 : Hid (0 < i + 1 → (buk.at_ (its ++ [(t + g, x2)]) (i + 1 - 1)).1 ≤ t + g) := fun _ => by
      rw [show i + 1 - 1 = its.length by omega, at_snoc_eq]; exact Int.le_refl _
    have HPC := Lib.hid (pc_snoc its (t + g) x2)
    clear HK HT
    go_wp2_with (at_builtin; go_loud (refine wpList_append_any _ rfl (.tmp 30) (.tmp 39) 32 rfl w.heap.size 37 i0 (.agg #[.int .i64 0, .int .i64 0]) 2 16 Try.underlying32 HI.out HZ0.out HZ1.out HZ2.out rfl (by omega) u i _ rfl (own_alloc HO.out _) _ _ 1 1 _ rfl (reads_new _ _ _ rfl) (by simp [Value.oneCell']) (by unfold maxLen; omega) (by omega) (by have := HB.out.size; simp; omega) ?_); intro v1 w1 hown1 hg1 hat1)
    go_roundg (n - (i + 1))
    case measure => omega
    case rel => exact ⟨v1, t + g, its ++ [(t + g, x2)], i + 1, by simp [hil], by go_num, rfl, rfl, by omega, by omega, by omega, by omega, by rw [show ((i + 1 : Nat) : Int) = (i : Int) + 1 by omega, hex]; omega, HT2.out, by rw [Hid, HPC.out]; exact hown1, HK2.out, below_box HB.out HO.out hg1⟩
end Go.Proofs.Ytjapjfcennemeaa.made
