/- Contract of Counts in the reference. -/
import Derived.Test.YtnohkjalglogaaaCounts
import Derived.Test.YtnohkjalglogaaaCanon
namespace Go.Proofs.Ytnohkjalglogaaa.lst
open Go.RowKit Go.Proofs.Ytnohkjalglogaaa.mem Go.Proofs.Ytnohkjalglogaaa.buk
set_option linter.unusedVariables false
set_option linter.unusedSimpArgs false
def cntsTo (xs : List (Int × Int)) (l : Nat) : List Int := (List.range l).map fun i => (cnt xs i : Int)
theorem cntsTo_succ (xs : List (Int × Int)) (l : Nat) : cntsTo xs (l + 1) = cntsTo xs l ++ [(cnt xs l : Int)] := by simp [cntsTo, List.range_succ]
theorem cntsTo_zero (xs : List (Int × Int)) : cntsTo xs 0 = [] := rfl
set_option maxHeartbeats 4000000 in
set_option maxRecDepth 100000 in
theorem CountsR_any (A : Option Addr) (n c : Nat) (xs : List (Int × Int)) (w : World) (h1 : PRead w w.heap.size A n xs) (hsmall : n ≤ 65536) :
    Calls Try.prog 33 #[.slice A n c] w (NewI (countsI xs) w) := by
  have HL := Lib.hid h1.len
  have H1 := Lib.hid h1
  clear h1
  obtain ⟨i0, hi0, hz0, hz1, hz2⟩ := info_parts int_info
  have HI := Lib.hid hi0
  have HZ0 := Lib.hid hz0
  have HZ1 := Lib.hid hz1
  have HZ2 := Lib.hid hz2
  clear hi0 hz0 hz1 hz2
  by_cases hn0 : 0 < n
  · have hnb : ((n : Int) == 0) = false := by simp; omega
    go_enter Try.func33, Try.ntmps33
    go_wp2
    go_loopg [15] n (fun kx s wr => ∃ k : Nat, k ≤ n ∧ s = .int .i64 k ∧ n - k ≤ kx ∧ Hid (lvOk xs k) ∧ Hid (Below w.heap.size w wr))
    case atStart => exact ⟨0, Nat.zero_le _, rfl, by omega, fun i hi => absurd hi (Nat.not_lt_zero _), Below.refl _ _⟩
    case round =>
      obtain ⟨k, hk, rfl, hg, HV, HB⟩ := hrel
      by_cases hlt : k < n
      · have H2 := H1.out.below HB.out
        obtain ⟨ad, rfl, hbl, hc1, hc2⟩ := PRead.at_ H2 hlt
        have hs := HB.out.size
        have hbl2 : ad.block < wr.heap.size := by omega
        clear H2
        have hS := Lib.hid (lvOk_succ HV.out)
        have hN : Hid (¬ (0 ≤ (at_ xs k).2 ∧ (at_ xs k).2 ≤ 30) → countsI xs = []) := fun h => countsI_f (fun h2 => h (h2.2 k (by rw [HL.out]; exact hlt)))
        change wr.cell? (ad.add (k * 2)) = some (.int .i64 (at_ xs k).1) at hc1
        change wr.cell? ⟨(ad.add (k * 2)).block, (ad.add (k * 2)).off + 1, none⟩ = some (.int .i64 (at_ xs k).2) at hc2
        generalize (at_ xs k).1 = t1 at *
        generalize (at_ xs k).2 = l1 at *
        by_cases hl1 : l1 < 0
        · have q1 : decide (l1 < 0) = true := decide_eq_true hl1
          have hE := Lib.hid (hN.out (by omega))
          clear hN hS
          go_wp2
          go_ret
          rw [hE.out]
          exact newI_nil _ _ (HB.out.alloc HB.out.size _)
        · have q1 : decide (l1 < 0) = false := decide_eq_false hl1
          by_cases hl2 : 30 < l1
          · have q2 : decide (30 < l1) = true := decide_eq_true hl2
            have hE := Lib.hid (hN.out (by omega))
            clear hN hS
            go_wp2
            go_ret
            rw [hE.out]
            exact newI_nil _ _ (HB.out.alloc HB.out.size _)
          · have q2 : decide (30 < l1) = false := decide_eq_false hl2
            go_wp2
            go_roundg (n - (k + 1))
            case measure => omega
            case rel => exact ⟨k + 1, by omega, by go_num, by omega, hS.out (by omega), HB.out.alloc HB.out.size _⟩
      · obtain rfl : n = k := by omega
        have hE : Hid (countsI xs = (List.range ((at_ xs 0).2.toNat + 1)).map fun l => (cnt xs l : Int)) := countsI_t ⟨by rw [HL.out]; exact hn0, by rw [HL.out]; exact HV.out⟩
        have hl0 := HV.out 0 hn0
        obtain ⟨N, hN⟩ := Int.eq_ofNat_of_zero_le hl0.1
        have HN := Lib.hid hN
        rw [hN, Int.toNat_natCast] at hE
        have hN30 : N ≤ 30 := by omega
        clear hN hl0
        go_wp2
        go_loopg [6, 3] (N + 1) (fun kx s6 s3 wx => ∃ (l : Nat) (v : Value), s6 = .int .i64 l ∧ v = s3 ∧ l ≤ N + 1 ∧ N + 1 - l ≤ kx ∧ Hid (wx.ownsRow w.heap.size 3 1 v l ((cntsTo xs l).map (Value.int .i64))) ∧ Hid (Below w.heap.size w wx))
        case atStart => exact ⟨0, _, rfl, rfl, Nat.zero_le _, by omega, own_nil _ _ _ _, HB.out⟩
        case round =>
          obtain ⟨l, v, rfl, rfl, hl, hlk, HO, HB2⟩ := hrel
          have H2 := H1.out.below HB2.out
          obtain ⟨ad, rfl, hbl, hc1, hc2⟩ := PRead.at_ H2 hn0
          rw [show ad.add (0 * 2) = ad from by simp [Addr.add]] at hc1 hc2
          change wr.cell? ⟨ad.block, ad.off + 1, none⟩ = some (.int .i64 (at_ xs 0).2) at hc2
          rw [HN.out] at hc2
          have hs := HB2.out.size
          have hbl2 : ad.block < wr.heap.size := by omega
          clear H2 hc1
          by_cases hle : l ≤ N
          · have q3 : decide ((l : Int) ≤ N) = true := decide_eq_true (by omega)
            go_wp2_with fail
            obtain ⟨wo, rfl⟩ : ∃ wo : World, wo = wr := ⟨_, rfl⟩
            clear hc2
            go_loopg [7, 38] n (fun kx s7 s38 wi => ∃ i : Nat, s38 = .int .i64 i ∧ s7 = .int .i64 (cnt (xs.take i) l) ∧ i ≤ n ∧ n - i ≤ kx ∧ Hid (Below wo.heap.size wo wi))
            case atStart => exact ⟨0, rfl, rfl, Nat.zero_le _, by omega, Below.refl _ _⟩
            case round =>
              obtain ⟨i, rfl, rfl, him, hik, HBi⟩ := hrel
              by_cases hlt : i < n
              · have H3 := (H1.out.below HB2.out).below (HBi.out.mono (show w.heap.size ≤ wo.heap.size by omega))
                obtain ⟨ae, hea, hbl3, hd1, hd2⟩ := PRead.at_ H3 hlt
                injection hea with hea
                subst hea
                have hws := HBi.out.size
                have hbl4 : ad.block < wr.heap.size := by omega
                clear H3
                have HCS := Lib.hid (cnt_take (xs := xs) (k := i) (by rw [HL.out]; exact hlt) l)
                have hcl := cnt_le (xs.take i) l
                rw [List.length_take] at hcl
                change wr.cell? (ad.add (i * 2)) = some (.int .i64 (at_ xs i).1) at hd1
                change wr.cell? ⟨(ad.add (i * 2)).block, (ad.add (i * 2)).off + 1, none⟩ = some (.int .i64 (at_ xs i).2) at hd2
                generalize (at_ xs i).1 = t1 at *
                generalize (at_ xs i).2 = l1 at *
                generalize cnt (xs.take i) l = ci at *
                by_cases e1 : l1 = (l : Int)
                · have e1b : (l1 == (l : Int)) = true := by simpa using e1
                  have HE1 := Lib.hid e1
                  clear e1
                  go_wp2
                  go_roundg (n - (i + 1))
                  case measure => omega
                  case rel => exact ⟨i + 1, by go_num, by rw [HCS.out, if_pos HE1.out]; go_num, by omega, by omega, HBi.out.alloc HBi.out.size _⟩
                · have e1b : (l1 == (l : Int)) = false := by simpa using e1
                  go_wp2
                  go_roundg (n - (i + 1))
                  case measure => omega
                  case rel => exact ⟨i + 1, by go_num, by rw [HCS.out, if_neg e1]; rfl, by omega, by omega, HBi.out.alloc HBi.out.size _⟩
              · obtain rfl : i = n := by omega
                have hfull : xs.take i = xs := List.take_of_length_le (by rw [HL.out]; exact Nat.le_refl _)
                rw [hfull]
                have HO2 := Lib.hid (own_keep HO.out HBi.out)
                have HB3 := Lib.hid (HB2.out.trans (HBi.out.mono (show w.heap.size ≤ wo.heap.size by omega)))
                have hcl := cnt_le xs l
                rw [HL.out] at hcl
                have HSU := Lib.hid (cntsTo_succ xs l)
                clear HO HBi HB2 hfull
                generalize cnt xs l = cc at *
                go_wp2_with (at_builtin; go_loud (refine wpList_append_any _ rfl (.tmp 49) (.tmp 51) 28 rfl w.heap.size 3 i0 (.int .i64 0) 1 8 Try.underlying28 HI.out HZ0.out HZ1.out HZ2.out rfl (by omega) v l _ rfl (own_alloc HO2.out _) _ _ 1 1 _ rfl (reads_new _ _ _ rfl) (by simp [Value.oneCell']) (by unfold maxLen; omega) (by omega) (by have := HB3.out.size; simp; omega) ?_); intro v1 w1 hown1 hg1 hat1)
                go_roundg (N + 1 - (l + 1))
                case measure => omega
                case rel => exact ⟨l + 1, v1, by go_num, rfl, by omega, by omega, by rw [Hid, HSU.out]; have h := hown1; simp only [List.map_append, List.map_cons, List.map_nil] at h ⊢; exact h, below_box HB3.out HO2.out hg1⟩
          · have q3 : decide ((l : Int) ≤ N) = false := decide_eq_false (by omega)
            obtain rfl : l = N + 1 := by omega
            go_wp2
            go_ret
            exact newI_own HB2.out HO.out (by rw [hE.out]; rfl)
  · obtain rfl : n = 0 := by omega
    have hE : countsI xs = [] := countsI_f (fun h => by have := HL.out; omega)
    have HE := Lib.hid hE
    clear hE
    go_enter Try.func33, Try.ntmps33
    go_wp2
    go_ret
    rw [HE.out]
    exact newI_nil _ _ (Below.refl _ _)
end Go.Proofs.Ytnohkjalglogaaa.lst
