/- RAskR: proved here in one text, no conditions beyond those that each theorem states. -/
import Derived.LoopN
import Derived.Deep.DeepCutAuto
import Derived.Deep.CutBlock
import Derived.Test.YtjapjfcennemeaaGreatZ48
import Derived.Test.YtjapjfcennemeaaGreatZ20
import Derived.Test.YtjapjfcennemeaaGreatZ47
import Derived.Test.YtjapjfcennemeaaGreatZ13
import Derived.Test.YtjapjfcennemeaaGreatZ7
set_option linter.unusedVariables false
set_option linter.unusedSimpArgs false
namespace Go.Proofs.YtjapjfcennemeaaGreat.rnk
open Go.RowKit Go.Proofs.YtjapjfcennemeaaGreat.mem Go.Proofs.YtjapjfcennemeaaGreat.gro
set_option linter.unusedVariables false
set_option linter.unusedSimpArgs false
set_option pp.maxSteps 200000
def lwM (es : L3) (p i : Nat) : Int := lw es (min i p)
def upM (es : L3) (N : Int) (p j : Nat) : Int := up es N (max j p)
theorem lwM_0 (es : L3) (p : Nat) : lwM es p 0 = 0 := by unfold lwM; rw [Nat.zero_min]; rfl
theorem lwM_lt {es : L3} {p i : Nat} (h : i < p) : lwM es p (i + 1) = (at3 es i).2.1 := by unfold lwM; rw [Nat.min_eq_left (by omega)]; exact lw_succ es i
theorem lwM_ge {es : L3} {p i : Nat} (h : p ≤ i) : lwM es p (i + 1) = lwM es p i := by unfold lwM; rw [Nat.min_eq_right (by omega), Nat.min_eq_right h]
theorem lwM_end {es : L3} {p i : Nat} (h : p ≤ i) : lwM es p i = lw es p := by unfold lwM; rw [Nat.min_eq_right h]
theorem upM_n {es : L3} {N : Int} {p n : Nat} (h : p ≤ n) : upM es N p n = up es N n := by unfold upM; rw [Nat.max_eq_left h]
theorem upM_ge {es : L3} {N : Int} {p j : Nat} (h : p ≤ j) : upM es N p j = up es N j := by unfold upM; rw [Nat.max_eq_left h]
theorem upM_lt {es : L3} {N : Int} {p j : Nat} (h : j < p) : upM es N p j = upM es N p (j + 1) := by unfold upM; rw [Nat.max_eq_right (by omega), Nat.max_eq_right (by omega)]
theorem upM_0 {es : L3} {N : Int} {p : Nat} : upM es N p 0 = up es N p := by unfold upM; rw [Nat.zero_max]
set_option maxHeartbeats 8000000 in
set_option maxRecDepth 100000 in
theorem Between_any (A : Option Addr) (n c : Nat) (es : L3) (N v : Int) (w : World) (h1 : ERead w w.heap.size A n es) (hs : n ≤ 9223372036854775807) (hv : valR N es = true) : Calls Tryz.prog 75 #[.slice A n c, .int .i64 N, .int .i64 v] w fun e w' => e = .returned (.tuple #[.int .i64 (lw es (cutV es v)), .int .i64 (up es N (cutV es v))]) ∧ Below w.heap.size w w' := by
  have H1 := Lib.hid h1
  have HL := Lib.hid h1.len
  obtain ⟨hp0, hp1, hp2⟩ := cutV_spec v es
  rw [HL.out] at hp0 hp2
  have hasc := asc_of_val hv
  have HBd := Lib.hid (bnds_of_val HL.out hv)
  obtain ⟨p, hp⟩ : ∃ p, cutV es v = p := ⟨_, rfl⟩
  rw [hp] at hp0 hp1 hp2 ⊢
  have HG := Lib.hid (fun i (hi : i < n) (hpi : p ≤ i) => show v < (at3 es i).1 by have := hp2 (by omega); have := hasc p i hpi (by rw [HL.out]; exact hi); omega)
  have HP := Lib.hid hp1
  have HS := Lib.hid (fun i => lw_succ es i)
  have HUp := Lib.hid (fun i (hi : i < n) => up_lt (es := es) (N := N) (i := i) (by rw [HL.out]; exact hi))
  have HUe := Lib.hid (up_end (es := es) (N := N) (i := n) (by rw [HL.out]; exact Nat.le_refl _))
  clear h1 hv hp hp1 hp2 hasc
  go_enter Tryz.func75, Tryz.ntmps75
  go_wp2_with fail
  go_loopg [8, 16] n (fun kx s8 s16 wr => ∃ i : Nat, s16 = .int .i64 i ∧ s8 = .int .i64 (lwM es p i) ∧ i ≤ n ∧ n - i ≤ kx ∧ Hid (Below w.heap.size w wr))
  case atStart => exact ⟨0, rfl, by rw [lwM_0], Nat.zero_le _, by omega, Below.refl _ _⟩
  case round =>
    obtain ⟨i, rfl, rfl, hi, hik, BB⟩ := hrel
    by_cases hlt : i < n
    case pos =>
      obtain ⟨ad, rfl, hbl, HC⟩ := ERead.cells H1.out hlt
      obtain ⟨f1, f2, f3⟩ := HC.out _ BB.out
      have hg := Lib.hid (fun h => HG.out i hlt h)
      have hq := Lib.hid (fun h => HP.out i h)
      have hl := Lib.hid (fun (h : i < p) => lwM_lt (es := es) h)
      clear HC
      generalize (at3 es i).1 = xv at *
      generalize (at3 es i).2.1 = xm at *
      generalize (at3 es i).2.2 = xx at *
      by_cases hc : xv ≤ v
      case pos =>
        have hpi : i < p := by
          rcases Nat.lt_or_ge i p with h | h
          · exact h
          · have := hg.out h; omega
        have hm : Hid (lwM es p (i + 1) = xm) := by rw [Hid]; exact hl.out hpi
        go_wp2
        go_roundg (n - (i + 1))
        case measure => omega
        case rel => exact ⟨i + 1, by go_num, by rw [hm.out], by omega, by omega, BB.out.alloc BB.out.size _⟩
      have hpi : p ≤ i := by
        rcases Nat.lt_or_ge i p with h | h
        · have := hq.out h; omega
        · exact h
      have hm : Hid (lwM es p (i + 1) = lwM es p i) := lwM_ge hpi
      go_wp2
      go_roundg (n - (i + 1))
      case measure => omega
      case rel => exact ⟨i + 1, by go_num, by rw [hm.out], by omega, by omega, BB.out.alloc BB.out.size _⟩
    obtain rfl : i = n := by omega
    have hmn := Lib.hid (lwM_end (es := es) hp0)
    have s0 : IntKind.i64.wrap ((i : Int) - 1) = (i : Int) - 1 := IntWalk.i64_in _ (by omega)
    go_wp2_with fail
    go_loopg [9, 12] i (fun kx s9 s12 wr => ∃ (j : Nat) (z : Int), s12 = .int .i64 z ∧ s9 = .int .i64 (upM es N p j) ∧ j ≤ i ∧ j ≤ kx ∧ Hid (z = (j : Int) - 1) ∧ Hid (Below w.heap.size w wr))
    case atStart => exact ⟨i, (i : Int) - 1, by first | rfl | go_num | (go_num; rw [s0]) | rw [s0], by rw [upM_n hp0, HUe.out], Nat.le_refl _, Nat.le_refl _, rfl, BB⟩
    case round =>
      clear BB
      obtain ⟨j, z, rfl, rfl, hj, hjk, hz, BB⟩ := hrel
      by_cases h0 : 0 < j
      case neg =>
        obtain rfl : j = 0 := by omega
        rw [upM_0]
        have hz1 : ¬ 0 ≤ z := by have := hz.out; omega
        go_wp2
        refine bodyPost_ret (v := Value.tuple #[.int .i64 (lwM es p i), .int .i64 (up es N p)]) (by simp [results, Tryz.results75, go_sem]) rfl ⟨by rw [hmn.out], BB.out⟩
      have hlt2 : j - 1 < i := by omega
      obtain ⟨ad, rfl, hbl, HC⟩ := ERead.cells H1.out hlt2
      obtain ⟨f1, f2, f3⟩ := HC.out _ BB.out
      have hg := Lib.hid (fun h => HG.out (j - 1) hlt2 h)
      have hq := Lib.hid (fun h => HP.out (j - 1) h)
      have hu := Lib.hid (fun (h : p ≤ j - 1) => (upM_ge (es := es) (N := N) h).trans (HUp.out (j - 1) hlt2))
      have hb := HBd.out (j - 1) hlt2
      have hz2 : z.toNat = j - 1 := by have := hz.out; omega
      have hz3 : 0 ≤ z := by have := hz.out; omega
      have hz4 : z < (i : Int) := by have := hz.out; omega
      have hz5 : IntKind.i64.wrap (z - 1) = z - 1 := IntWalk.i64_in _ (by omega)
      have hz6 : Hid (z - 1 = ((j - 1 : Nat) : Int) - 1) := by have := hz.out; rw [Hid]; omega
      clear HC
      generalize (at3 es (j - 1)).1 = xv at *
      generalize (at3 es (j - 1)).2.1 = xm at *
      generalize (at3 es (j - 1)).2.2 = xx at *
      have s1 : IntKind.i64.wrap (xx - 1) = xx - 1 := IntWalk.i64_in _ (by omega)
      by_cases hc : v < xv
      case pos =>
        have hpi : p ≤ j - 1 := by
          rcases Nat.lt_or_ge (j - 1) p with h | h
          · have := hq.out h; omega
          · exact h
        have hm : Hid (upM es N p (j - 1) = xx - 1) := by rw [Hid]; exact hu.out hpi
        go_wp2
        go_roundg (j - 1)
        case measure => omega
        case rel => exact ⟨j - 1, z - 1, by rfl, by rw [hm.out], by omega, Nat.le_refl _, hz6, BB⟩
      have hpi : j - 1 < p := by
        rcases Nat.lt_or_ge (j - 1) p with h | h
        · exact h
        · have := hg.out h; omega
      have hm : Hid (upM es N p (j - 1) = upM es N p j) := by rw [Hid]; have h := upM_lt (es := es) (N := N) hpi; rw [show j - 1 + 1 = j by omega] at h; exact h
      go_wp2
      go_roundg (j - 1)
      case measure => omega
      case rel => exact ⟨j - 1, z - 1, by rfl, by rw [hm.out], by omega, Nat.le_refl _, hz6, BB⟩
set_option maxHeartbeats 8000000 in
set_option maxRecDepth 100000 in
theorem RankR_any (N : Int) (A : Option Addr) (n c : Nat) (es : L3) (v : Int) (w : World) (h1 : ERead w w.heap.size A n es) (hs : n ≤ 9223372036854775807) : Calls Tryz.prog 40 #[.agg #[.int .i64 N, .slice A n c], .int .i64 v] w fun e w' => e = .returned (rankV N es v) ∧ Below w.heap.size w w' := by
  have H1 := Lib.hid h1
  have HL := Lib.hid h1.len
  have HV := Lib.hid (fun W (hb : Below w.heap.size w W) => ValidateR_any N A n c es W ((h1.below hb).more hb.size) hs)
  clear h1
  unfold rankV
  rcases Bool.eq_false_or_eq_true (valR N es) with hv | hv
  case inr =>
    rw [if_neg (by rw [hv]; exact Bool.false_ne_true)]
    rw [hv, erS_f] at HV
    go_enter Tryz.func40, Tryz.ntmps40
    go_wp2_with fail
    obtain ⟨W0, hW, hs0, K0, B0⟩ := start2 w 39 33 #[Value.int IntKind.i64 N, Value.slice A n c] #[Value.int IntKind.i64 0, Value.int IntKind.i64 0, Value.int IntKind.i64 0, Value.int IntKind.i64 0, Value.int IntKind.i64 0, Value.int IntKind.i64 0]
    rw [hW]
    clear hW
    have KK := Lib.hid K0
    have BB := Lib.hid B0
    have R := K0.rules
    simp only [Rules] at R
    clear K0 B0 hs0
    go_wp2_with fail
    (with_reducible refine (HV.out _ BB.out).mono ?_)
    rintro e wv ⟨rfl, hbv⟩; replace BB := Lib.hid (BB.out.trans (hbv.mono BB.out.size)); replace KK := Lib.hid (KK.out.below hbv); replace R := KK.out.rules; simp only [gro.Rules] at R; clear hbv
    go_wp2
    refine bodyPost_ret (v := Value.tuple #[.agg #[.int .i64 0, .int .i64 0, .int .i64 0, .int .i64 0, .int .i64 0, .int .i64 0], .int .i64 2]) (by simp [results, Tryz.results40, go_sem, R]) rfl ⟨rfl, ?_⟩
    exact (((((BB.out.setCell (p := ⟨w.heap.size + 1, 0, none⟩) (by simp) _).setCell (p := ⟨w.heap.size + 1, 1, none⟩) (by simp) _).setCell (p := ⟨w.heap.size + 1, 2, none⟩) (by simp) _).setCell (p := ⟨w.heap.size + 1, 3, none⟩) (by simp) _).setCell (p := ⟨w.heap.size + 1, 4, none⟩) (by simp) _).setCell (p := ⟨w.heap.size + 1, 5, none⟩) (by simp) _
  rw [if_pos hv]
  obtain ⟨hp0, hp1, hp2⟩ := cutV_spec v es
  have HB := Lib.hid (lwup_bd hv hp0)
  have hN := (valR_iff.1 hv).1
  rw [HL.out] at hp0 hp2
  have HU := Lib.hid (fun p (hp : p ≤ n) h1 (h2 : p < n → v < (at3 es p).1) => cutV_uniq (es := es) (v := v) (p := p) (by rw [HL.out]; exact hp) h1 (by rw [HL.out]; exact h2))
  have HBd := Lib.hid (bnds_of_val HL.out hv)
  have HW := Lib.hid (fun W => wid.WholeBR_any (lw es (cutV es v)) (up es N (cutV es v)) (by have := HB.out; unfold wid.I64; omega) (by have := HB.out; unfold wid.I64; omega) W)
  have hle := HB.out.2.1
  simp only [wid.whl, if_pos hle, decide_eq_true hle] at HW
  obtain ⟨lo, hlo⟩ : ∃ lo, lw es (cutV es v) = lo := ⟨_, rfl⟩
  obtain ⟨hi, hhi⟩ : ∃ hi, up es N (cutV es v) = hi := ⟨_, rfl⟩
  rw [hlo, hhi] at HW ⊢
  have HLO := Lib.hid hlo
  have HHI := Lib.hid hhi
  clear hlo hhi hle
  have HBt := Lib.hid (fun W (hb : Below w.heap.size w W) => Between_any A n c es N v W ((H1.out.below hb).more hb.size) hs hv)
  rw [HLO.out, HHI.out] at HBt
  rw [hv, erS_t] at HV
  clear hv
  go_enter Tryz.func40, Tryz.ntmps40
  go_wp2_with fail
  obtain ⟨W0, hW, hs0, K0, B0⟩ := start2 w 39 33 #[Value.int IntKind.i64 N, Value.slice A n c] #[Value.int IntKind.i64 0, Value.int IntKind.i64 0, Value.int IntKind.i64 0, Value.int IntKind.i64 0, Value.int IntKind.i64 0, Value.int IntKind.i64 0]
  rw [hW]
  clear hW
  have KK := Lib.hid K0
  have BB := Lib.hid B0
  have R := K0.rules
  simp only [Rules] at R
  clear K0 B0 hs0
  go_wp2_with fail
  (with_reducible refine (HV.out _ BB.out).mono ?_)
  rintro e wv ⟨rfl, hbv⟩; replace BB := Lib.hid (BB.out.trans (hbv.mono BB.out.size)); replace KK := Lib.hid (KK.out.below hbv); replace R := KK.out.rules; simp only [gro.Rules] at R; clear hbv
  go_wp2_with fail
  (with_reducible refine (HBt.out _ BB.out).mono ?_)
  rintro e wv ⟨rfl, hbv⟩; replace BB := Lib.hid (BB.out.trans (hbv.mono BB.out.size)); replace KK := Lib.hid (KK.out.below hbv); replace R := KK.out.rules; simp only [gro.Rules] at R; clear hbv
  clear HU HBd HB HV H1
  go_wp2_with fail
  (with_reducible refine (HW.out _).mono ?_)
  rintro e wv ⟨rfl, hbv⟩; replace BB := Lib.hid (BB.out.trans (hbv.mono BB.out.size)); replace KK := Lib.hid (KK.out.below hbv); replace R := KK.out.rules; simp only [gro.Rules] at R; clear hbv
  obtain ⟨g8, hg8⟩ : ∃ s, wv.heap.size = s := ⟨_, rfl⟩
  have hw8 : w.heap.size + 1 < g8 := by have := (KK.out _ (List.mem_cons_self ..)).lt; omega
  have BZ := Lib.hid (BB.out.alloc BB.out.size (.cells (bnd6 lo hi) 33))
  have KZ := Lib.hid (KK.out.new (t := 33) (c := bnd6 lo hi) hg8)
  unfold bnd6 at BZ KZ
  go_upto_region 6 with fail
  obtain ⟨W3, hW, K3, B3, z3⟩ := name_world KZ.out BZ.out (s := g8 + 1) (by simp; omega)
  rw [hW]
  clear hW KK BB KZ BZ R HW
  have KK := Lib.hid K3
  have BB := Lib.hid B3
  have R := K3.rules
  simp only [Rules] at R
  clear K3 B3 z3
  go_wp2_with fail
  refine bodyPost_ret (v := Value.tuple #[.agg (bnd6 lo hi), .int .i64 0]) (by simp [results, Tryz.results40, go_sem, R, bnd6]) rfl ⟨rfl, ?_⟩
  exact (((((BB.out.setCell (p := ⟨w.heap.size + 1, 0, none⟩) (by simp) _).setCell (p := ⟨w.heap.size + 1, 1, none⟩) (by simp) _).setCell (p := ⟨w.heap.size + 1, 2, none⟩) (by simp) _).setCell (p := ⟨w.heap.size + 1, 3, none⟩) (by simp) _).setCell (p := ⟨w.heap.size + 1, 4, none⟩) (by simp) _).setCell (p := ⟨w.heap.size + 1, 5, none⟩) (by simp) _
end Go.Proofs.YtjapjfcennemeaaGreat.rnk
