/- ItemsP; Cst7; Awake12: texts in one. -/
import Derived.Test.YtofgjcfiinmimaaMgRunO
import Derived.Test.YtofgjcfiinmimaaCst5
import Derived.Test.YtofgjcfiinmimaaMgOpenC
import Derived.Test.YtofgjcfiinmimaaCst3
/- Contract of the statements' own lists of items with values that are not negative. -/
namespace Go.Proofs.Ytofgjcfiinmimaa.made
open Go.RowKit Go.Proofs.Ytofgjcfiinmimaa.mem
set_option linter.unusedVariables false
set_option linter.unusedSimpArgs false
theorem pc_set1 (ys : List (Int × Int)) (b : Nat) (y : Int) : (pc ys).set (b * 2 + 1) (.int .i64 y) = pc (ys.set b ((buk.at_ ys b).1, y)) := by
  induction ys generalizing b with
  | nil => simp [pc]
  | cons q ys ih =>
    cases b with
    | zero => simp [pc_cons, buk.at_]
    | succ b =>
      rw [pc_cons, show (b + 1) * 2 + 1 = b * 2 + 1 + 1 + 1 by omega, List.set_cons_succ, List.set_cons_succ, ih, List.set_cons_succ, pc_cons]
      simp [buk.at_]
theorem at_set {ys : List (Int × Int)} {b i : Nat} {p : Int × Int} (hb : b < ys.length) : buk.at_ (ys.set b p) i = if b = i then p else buk.at_ ys i := by
  unfold buk.at_
  rw [List.getElem?_set]
  by_cases h : b = i
  · subst h; rw [if_pos rfl, if_pos rfl, if_pos hb]; rfl
  · rw [if_neg h, if_neg h]
/-- The first k values are not negative, and at most m. -/
def MidOk (its : List (Int × Int)) (v m : Int) (k : Nat) : Prop := ∀ i, i < its.length → (0 ≤ (buk.at_ its i).1 ∧ (buk.at_ its i).1 ≤ (i + 1) * (2 * v + 1)) ∧ (-4096 ≤ (buk.at_ its i).2 ∧ (buk.at_ its i).2 ≤ 4096) ∧ (0 < i → (buk.at_ its (i - 1)).1 ≤ (buk.at_ its i).1) ∧ (i < k → 0 ≤ (buk.at_ its i).2 ∧ (buk.at_ its i).2 ≤ m)
theorem MidOk.start {its : List (Int × Int)} {v m : Int} (h : ItOk its v) : MidOk its v m 0 := fun i hi => ⟨(h i hi).1, (h i hi).2.1, (h i hi).2.2, fun h => by omega⟩
theorem MidOk.step {its : List (Int × Int)} {v m : Int} {k : Nat} (h : MidOk its v m k) (hk : k < its.length) {y : Int} (hy : 0 ≤ y ∧ y ≤ m) (hm : m ≤ 4096) : MidOk (its.set k ((buk.at_ its k).1, y)) v m (k + 1) := by
  intro i hi
  rw [List.length_set] at hi
  have e : ∀ j, (buk.at_ (its.set k ((buk.at_ its k).1, y)) j).1 = (buk.at_ its j).1 := fun j => by
    rw [at_set hk]; split
    · rename_i h; subst h; rfl
    · rfl
  obtain ⟨a, b, c, d⟩ := h i hi
  rw [e, e]
  refine ⟨a, ?_, c, fun hik => ?_⟩
  · rw [at_set hk]; split
    · exact ⟨by simp; omega, by simp; omega⟩
    · exact b
  · rw [at_set hk]; split
    · exact hy
    · rename_i hne; exact d (by omega)
set_option maxHeartbeats 4000000 in
set_option maxRecDepth 100000 in
theorem PositiveItems_any (A : Option Addr) (n c : Nat) (zs : List (Int × Int)) (v : Int) (many : Nat) (m : Int) (w : World) (h1 : PRead w w.heap.size A n zs) (hr : ∀ p ∈ zs, (-9223372036854775808 ≤ p.1 ∧ p.1 ≤ 9223372036854775807) ∧ (-9223372036854775808 ≤ p.2 ∧ p.2 ≤ 9223372036854775807)) (hnc : n ≤ c) (hcm : c ≤ maxLen) (hv : 1 ≤ v ∧ v ≤ 1000) (hm : many ≤ 1000) (hmm : 0 ≤ m ∧ m ≤ 4096) :
    Calls Try.prog 43 #[.slice A n c, .int .i64 v, .int .i64 many, .int .i64 m] w fun e w' => ∃ (u : Value) (its : List (Int × Int)), e = .returned u ∧ w'.ownsRow w.heap.size 61 2 u its.length (pc its) ∧ its.length ≤ many ∧ MidOk its v m its.length ∧ Below w.heap.size w w' := by
  have HIt := Lib.hid (Items_any A n c zs v many w h1 hr hnc hcm hv hm)
  obtain ⟨hm1, hm2⟩ := hmm
  clear h1 hr hcm
  go_enter Try.func43, Try.ntmps43
  go_wp2_with fail
  (refine HIt.out.mono ?_)
  rintro e w1 ⟨u, its, rfl, hown, hlm, hok, hb⟩
  have HB := Lib.hid hb
  have HO := Lib.hid hown
  have HK := Lib.hid (MidOk.start (m := m) hok)
  obtain ⟨A1, c1, rfl, q1, q2, q3⟩ := own_form hown
  obtain ⟨k, hk⟩ : ∃ k, its.length = k := ⟨_, rfl⟩
  rw [hk] at hlm HO q1
  clear hb hown hok q3 HIt
  simp only [hk]
  have q2' : c1 ≤ 9223372036854775807 := q2
  clear q2
  go_wp2
  go_loopg [17] k (fun kx s wr => ∃ (i : Nat) (cs : List (Int × Int)), cs.length = k ∧ s = .int .i64 i ∧ i ≤ k ∧ k - i ≤ kx ∧ Hid (wr.ownsRow w.heap.size 61 2 (.slice A1 k c1) k (pc cs)) ∧ Hid (MidOk cs v m i) ∧ Hid (Below w.heap.size w wr))
  case atStart => exact ⟨0, its, hk, rfl, by omega, by omega, HO.out, HK.out, HB.out⟩
  case round =>
    clear HB HO HK hk
    obtain ⟨i, cs, hcl, rfl, hik, hg, HO, HK, HB⟩ := hrel
    by_cases hlt : i < k
    · obtain ⟨g, c2, hg2, _, _, hbg, hgw⟩ := own_form2 HO.out (by omega)
      injection hg2 with hA hkk hcc
      subst hA hcc
      obtain ⟨hc1, hc2⟩ := own_pair HO.out hlt
      have hbd := HK.out i (by rw [hcl]; exact hlt)
      have hst := Lib.hid (fun y (hy : 0 ≤ y ∧ y ≤ m) => HK.out.step (y := y) (by rw [hcl]; exact hlt) hy (by omega))
      have HS := Lib.hid (fun y => (HO.out.stored (i * 2 + 1) (.int .i64 y)).1)
      have HP := Lib.hid (fun y => pc_set1 cs i y)
      change wr.cell? ⟨g, i * 2, none⟩ = some (.int .i64 (buk.at_ cs i).1) at hc1
      change wr.cell? ⟨g, i * 2 + 1, none⟩ = some (.int .i64 (buk.at_ cs i).2) at hc2
      obtain ⟨_, ⟨hb1, hb2⟩, _, _⟩ := hbd
      have HM := Lib.hid (fun W => Mod_any (buk.at_ cs i).2 (m + 1) W (by omega) (by omega) (by omega))
      have hmo : 0 ≤ (buk.at_ cs i).2 % (m + 1) ∧ (buk.at_ cs i).2 % (m + 1) < m + 1 := ⟨Int.emod_nonneg _ (by omega), Int.emod_lt_of_pos _ (by omega)⟩
      obtain ⟨hmo1, hmo2⟩ := hmo
      have hw : IntKind.i64.wrap (m + 1) = m + 1 := IntWalk.i64_in _ (by omega)
      have hfr : wr.frozen? ⟨g, i * 2 + 1, none⟩ = false := HO.out.frozenAt (i * 2 + 1)
      generalize (buk.at_ cs i).2 % (m + 1) = y at *
      generalize (buk.at_ cs i).2 = x at *
      go_wp2_with fail
      (with_reducible refine (HM.out _).mono ?_)
      rintro e w1 ⟨rfl, rfl⟩
      go_wp2
      go_roundg (k - (i + 1))
      case measure => omega
      case rel => exact ⟨i + 1, cs.set i ((buk.at_ cs i).1, y), by rw [List.length_set]; exact hcl, by go_num, by omega, by omega, by rw [Hid, ← HP.out]; exact HS.out y, hst.out y ⟨hmo1, by omega⟩, HB.out.setCell (p := ⟨g, i * 2 + 1, none⟩) hbg _⟩
    · obtain rfl : i = k := by omega
      go_wp2
      go_ret
      subst hcl
      exact ⟨_, cs, rfl, HO.out, hlm, HK.out, HB.out⟩
/-- Ticks that ascend, and values in a range. -/
def Asc (its : List (Int × Int)) (lo hi : Int) : Prop := ∀ i, i < its.length → (0 ≤ (buk.at_ its i).1 ∧ (buk.at_ its i).1 ≤ 100000) ∧ (lo ≤ (buk.at_ its i).2 ∧ (buk.at_ its i).2 ≤ hi) ∧ (i + 1 < its.length → (buk.at_ its i).1 ≤ (buk.at_ its (i + 1)).1)
theorem tick_bd {its : List (Int × Int)} {v : Int} {i : Nat} (hi : i < its.length) (hl : its.length ≤ 1000) (hv : 1 ≤ v ∧ v ≤ 40) {t : Int} (h : t ≤ (i + 1) * (2 * v + 1)) : t ≤ 100000 := by
  have : ((i : Int) + 1) * (2 * v + 1) ≤ 1000 * 81 := Int.mul_le_mul (by omega) (by omega) (by omega) (by omega)
  omega
theorem ItOk.asc {its : List (Int × Int)} {v : Int} (h : ItOk its v) (hl : its.length ≤ 1000) (hv : 1 ≤ v ∧ v ≤ 40) : Asc its (-4096) 4096 := fun i hi => by
  obtain ⟨⟨a, b⟩, c, d⟩ := h i hi
  exact ⟨⟨a, tick_bd hi hl hv b⟩, c, fun h2 => (h (i + 1) h2).2.2 (by omega)⟩
theorem MidOk.asc {its : List (Int × Int)} {v m : Int} (h : MidOk its v m its.length) (hl : its.length ≤ 1000) (hv : 1 ≤ v ∧ v ≤ 40) : Asc its 0 m := fun i hi => by
  obtain ⟨⟨a, b⟩, _, c, d⟩ := h i hi
  exact ⟨⟨a, tick_bd hi hl hv b⟩, d hi, fun h2 => (h (i + 1) h2).2.2.1 (by omega)⟩
end Go.Proofs.Ytofgjcfiinmimaa.made

/- The law's own example: a small histogram of sums. -/
namespace Go.Proofs.Ytofgjcfiinmimaa.cst
open Go.RowKit Go.Proofs.Ytofgjcfiinmimaa.mem Go.Proofs.Ytofgjcfiinmimaa.lst Go.Proofs.Ytofgjcfiinmimaa.gro
set_option linter.unusedVariables false
set_option linter.unusedSimpArgs false
theorem five_items : buk.iterIns 1 0 5 [] = [(0, 1), (0, 1), (0, 0)] := by rfl
theorem five_total : totalN [(0, 1), (0, 1), (0, 0)] = 5 := by rfl
theorem five_lo : qlo [(0, 1), (0, 1), (0, 0)] = 4 := by rfl
theorem five_ask : askV true [(0, 1), (0, 1), (0, 0)] = .agg #[.int .i64 4, .int .i64 1, .int .i64 4, .int .i64 1, .int .i64 5, .int .i64 1] := by
  unfold askV qv
  rw [five_lo, five_total]
  rfl
theorem five_good : lst.Good [(0, 1), (0, 1), (0, 0)] 1 0 5 := by
  obtain ⟨b1, b2, b3, b4⟩ := buk.iter_valid (k := 1) (t := 0) (by omega) 5 [] (buk.validP_nil (by omega) (by omega)) (fun h => by simp at h) (by simp [buk.wgt])
  rw [five_items] at b1 b2 b3 b4
  exact ⟨b1, fun h => b2 h, by rw [b3]; simp [buk.wgt]⟩
theorem five_many : insM [] 1 0 5 = [(0, 1), (0, 1), (0, 0)] := by
  have g0 := good_nil (k := 1) (by omega) (by omega)
  have hv := (good_tail g0 (by omega)).1
  have h : insM [] ((1 : Nat) : Int) 0 ((5 : Nat) : Int) = buk.iterIns 1 0 5 [] := insM_t ⟨hv, lst.mayB_iff.2 ⟨by omega, by simp [lastT]⟩, by omega, fun _ => by simp [totalN]⟩
  rw [five_items] at h
  exact h
theorem five_fit : fitS [] 10 1 100 9 0 = true ∧ fitS [(0, 1), (0, 1), (0, 0)] 10 1 100 9 0 = true := by
  have g0 := good_nil (k := 1) (by omega) (by omega)
  have h0 := (good_tail g0 (by omega)).1
  have h1 := (good_tail five_good (by omega)).1
  refine ⟨fitS_iff.2 ⟨goodS_iff.2 (by omega), h0, by simp [totalN], fun i hi => by simp at hi⟩, fitS_iff.2 ⟨goodS_iff.2 (by omega), h1, by rw [five_total]; omega, live_of five_good (by omega) (by omega) (by omega) (by omega) (fun i hi => ?_)⟩⟩
  have := (five_good.1.2.1 i hi).1.1
  omega
end Go.Proofs.Ytofgjcfiinmimaa.cst

/- Contract of the summing law's awake. -/
namespace Go.Proofs.Ytofgjcfiinmimaa.cst
open Go.RowKit Go.Proofs.Ytofgjcfiinmimaa.mem Go.Proofs.Ytofgjcfiinmimaa.lst Go.Proofs.Ytofgjcfiinmimaa.gro
set_option linter.unusedVariables false
set_option linter.unusedSimpArgs false
set_option maxHeartbeats 4000000 in
set_option maxRecDepth 100000 in
theorem awake12_any (w : World) : Calls Try.prog 21 #[] w fun e w' => e = .returned (.bool true) ∧ Below w.heap.size w w' := by
  have H1 : Hid (∀ W, Calls Try.prog 18 #[.int .i64 10, .int .i64 1, .int .i64 100, .int .i64 9, .int .i64 0] W fun e w' => e = .returned (.tuple #[.agg #[.int .i64 10, .int .i64 1, .int .i64 100, .int .i64 9, .int .i64 0, .slice none 0 0], .int .i64 0]) ∧ Below W.heap.size W w') := fun W => by
    have := NewS_any 10 1 100 9 0 W
    rw [show goodS 10 1 100 9 0 = true from goodS_iff.2 (by omega)] at this
    simpa only [kp_t, if_true] using this
  obtain ⟨ys, hys⟩ : ∃ ys : List (Int × Int), [(0, 1), (0, 1), (0, 0)] = ys := ⟨_, rfl⟩
  have H2 : Hid (∀ W, Calls Try.prog 37 #[.agg #[.int .i64 10, .int .i64 1, .int .i64 100, .int .i64 9, .int .i64 0, .slice none 0 0], .int .i64 5] W (NewSsf 10 1 100 9 0 ys 0 W)) := fun W => by
    have := AddS_any 10 1 100 9 0 5 none 0 0 [] W .nil_ (Nat.le_refl _) (Nat.zero_le _) (by omega) (by omega)
    rw [five_fit.1, five_many, hys, show decide ((0 : Int) ≤ 5 ∧ (5 : Int) ≤ 9) = true from by decide, show decide ((100 : Int) < ((totalN [] : Nat) : Int) + 5) = false from by simp [totalN]] at this
    simpa only [kp_t, lsK_t, addSE_k, Bool.true_and, Bool.not_false] using this
  have H3 : Hid (∀ (A : Option Addr) (n c : Nat) (W : World), PRead W W.heap.size A n ys → n ≤ c → c ≤ maxLen → Calls Try.prog 39 #[.agg #[.int .i64 10, .int .i64 1, .int .i64 100, .int .i64 9, .int .i64 0, .slice A n c]] W fun e w' => e = .returned (.tuple #[.agg #[.int .i64 4, .int .i64 1, .int .i64 4, .int .i64 1, .int .i64 5, .int .i64 1], .int .i64 0]) ∧ Below W.heap.size W w') := fun A n c W h1 h2 h3 => by
    have := AskS_any 10 1 100 9 0 A n c ys W h1 h2 h3 (by have := PRead.len h1; rw [← hys] at this; simp at this; omega)
    rw [← hys, five_fit.2, five_ask] at this
    simpa only [okE_t] using this
  clear hys
  go_enter Try.func21, Try.ntmps21
  go_wp2_with fail
  (with_reducible refine (H1.out _).mono ?_)
  rintro e w1 ⟨rfl, hb1⟩
  obtain ⟨s1, hs1⟩ : ∃ s, w1.heap.size = s := ⟨_, rfl⟩
  have hw1 := hb1.size
  rw [hs1] at hw1
  go_wp2_with fail
  obtain ⟨W1, hW, K1, B1, z1⟩ := name_world (Bx.nil_.new (W := w1) (t := 32) (c := #[Value.int IntKind.i64 10, Value.int IntKind.i64 1, Value.int IntKind.i64 100, Value.int IntKind.i64 9, Value.int IntKind.i64 0, Value.slice none 0 0]) hs1) (hb1.alloc hb1.size _) (s := s1 + 1) (by simp; omega)
  rw [hW]
  clear hW hb1 hs1
  have KK := Lib.hid K1
  have BB := Lib.hid B1
  have R := K1.rules
  simp only [Rules] at R
  clear K1 B1
  (refine (H2.out _).mono ?_)
  rintro e w2 ⟨A6, l6, c6, rfl, r1, ⟨r2, fr⟩, hr6, hb6⟩
  have fr6 : ∀ ad, A6 = some ad → s1 + 1 ≤ ad.block := fun ad h => Nat.le_trans z1 (fr ad h)
  replace BB := Lib.hid (BB.out.trans (hb6.mono BB.out.size))
  replace KK := Lib.hid (KK.out.below hb6)
  replace R := KK.out.rules
  simp only [Rules] at R
  clear hb6 fr z1
  go_wp2_with fail
  obtain ⟨W2, hW, KP, BP, z2⟩ := name_world (Bx.put6 (u0 := .int .i64 10) (u1 := .int .i64 1) (u2 := .int .i64 100) (u3 := .int .i64 9) (u4 := .int .i64 0) (u5 := .slice A6 l6 c6) KK.out (by simp)) ((((((BB.out.setCell (p := ⟨s1, 0, none⟩) hw1 _).setCell (p := ⟨s1, 1, none⟩) hw1 _).setCell (p := ⟨s1, 2, none⟩) hw1 _).setCell (p := ⟨s1, 3, none⟩) hw1 _).setCell (p := ⟨s1, 4, none⟩) hw1 _).setCell (p := ⟨s1, 5, none⟩) hw1 _) (s := 0) (by omega)
  have HR : PRead W2 W2.heap.size A6 l6 ys := by
    rw [← hW]
    exact PRead.sz (PRead.far (PRead.far (PRead.far (PRead.far (PRead.far (PRead.far hr6 ⟨s1, 0, none⟩ (fun h0 ad h => by have := fr6 ad h; simp; omega) _) ⟨s1, 1, none⟩ (fun h0 ad h => by have := fr6 ad h; simp; omega) _) ⟨s1, 2, none⟩ (fun h0 ad h => by have := fr6 ad h; simp; omega) _) ⟨s1, 3, none⟩ (fun h0 ad h => by have := fr6 ad h; simp; omega) _) ⟨s1, 4, none⟩ (fun h0 ad h => by have := fr6 ad h; simp; omega) _) ⟨s1, 5, none⟩ (fun h0 ad h => by have := fr6 ad h; simp; omega) _) (by simp [World.setCell])
  rw [hW]
  clear hW KK BB R hr6 fr6
  have KK := Lib.hid KP
  have BB := Lib.hid BP
  have R := KP.rules
  simp only [Rules] at R
  have H4 := Lib.hid (H3.out A6 l6 c6 W2 HR r1 r2)
  clear KP BP HR H3
  (with_reducible refine H4.out.mono ?_)
  rintro e wv ⟨rfl, hbv⟩; replace BB := Lib.hid (BB.out.trans (hbv.mono BB.out.size)); replace KK := Lib.hid (KK.out.below hbv); replace R := KK.out.rules; simp only [gro.Rules] at R; clear hbv
  obtain ⟨s5, hs5⟩ : ∃ s, wv.heap.size = s := ⟨_, rfl⟩
  replace KK := Lib.hid (KK.out.new (t := 43) (c := #[Value.int IntKind.i64 4, Value.int IntKind.i64 1, Value.int IntKind.i64 4, Value.int IntKind.i64 1, Value.int IntKind.i64 5, Value.int IntKind.i64 1]) hs5)
  replace BB := Lib.hid (BB.out.alloc BB.out.size (.cells #[Value.int IntKind.i64 4, Value.int IntKind.i64 1, Value.int IntKind.i64 4, Value.int IntKind.i64 1, Value.int IntKind.i64 5, Value.int IntKind.i64 1] 43))
  replace R := KK.out.rules
  simp only [Rules] at R
  go_wp2
  go_ret
  exact ⟨rfl, BB.out⟩
end Go.Proofs.Ytofgjcfiinmimaa.cst
