/- Cst7; Awake12: texts in one. -/
import Derived.Test.YtkpcljiipdbmhaaCst5
import Derived.Test.YtkpcljiipdbmhaaMgAwake11
import Derived.Test.YtkpcljiipdbmhaaCst3
/- The law's own example: a small histogram of sums. -/
namespace Go.Proofs.Ytkpcljiipdbmhaa.cst
open Go.RowKit Go.Proofs.Ytkpcljiipdbmhaa.mem Go.Proofs.Ytkpcljiipdbmhaa.lst Go.Proofs.Ytkpcljiipdbmhaa.gro
set_option linter.unusedVariables false
set_option linter.unusedSimpArgs false
theorem five_items : buk.iterIns 1 0 5 [] = [(0, 1), (0, 1), (0, 0)] := by rfl
theorem five_total : totalN [(0, 1), (0, 1), (0, 0)] = 5 := by rfl
theorem five_lo : qlo [(0, 1), (0, 1), (0, 0)] = 4 := by rfl
theorem five_ask : askV true [(0, 1), (0, 1), (0, 0)] = .agg #[.int .i64 4, .int .i64 1, .int .i64 4, .int .i64 1, .int .i64 5, .int .i64 1] := by
  unfold askV qv
  rw [five_lo, five_total]
  rfl
theorem five_good : lst.Good [(0, 1), (0, 1), (0, 0)] 1 0 5 := by
  obtain ⟨b1, b2, b3, b4⟩ := buk.iter_valid (k := 1) (t := 0) (by omega) 5 [] (buk.validP_nil (by omega) (by omega)) (fun h => by simp at h) (by simp [buk.wgt])
  rw [five_items] at b1 b2 b3 b4
  exact ⟨b1, fun h => b2 h, by rw [b3]; simp [buk.wgt]⟩
theorem five_many : insM [] 1 0 5 = [(0, 1), (0, 1), (0, 0)] := by
  have g0 := good_nil (k := 1) (by omega) (by omega)
  have hv := (good_tail g0 (by omega)).1
  have h : insM [] ((1 : Nat) : Int) 0 ((5 : Nat) : Int) = buk.iterIns 1 0 5 [] := insM_t ⟨hv, lst.mayB_iff.2 ⟨by omega, by simp [lastT]⟩, by omega, fun _ => by simp [totalN]⟩
  rw [five_items] at h
  exact h
theorem five_fit : fitS [] 10 1 100 9 0 = true ∧ fitS [(0, 1), (0, 1), (0, 0)] 10 1 100 9 0 = true := by
  have g0 := good_nil (k := 1) (by omega) (by omega)
  have h0 := (good_tail g0 (by omega)).1
  have h1 := (good_tail five_good (by omega)).1
  refine ⟨fitS_iff.2 ⟨goodS_iff.2 (by omega), h0, by simp [totalN], fun i hi => by simp at hi⟩, fitS_iff.2 ⟨goodS_iff.2 (by omega), h1, by rw [five_total]; omega, live_of five_good (by omega) (by omega) (by omega) (by omega) (fun i hi => ?_)⟩⟩
  have := (five_good.1.2.1 i hi).1.1
  omega
end Go.Proofs.Ytkpcljiipdbmhaa.cst

/- Contract of the summing law's awake. -/
namespace Go.Proofs.Ytkpcljiipdbmhaa.cst
open Go.RowKit Go.Proofs.Ytkpcljiipdbmhaa.mem Go.Proofs.Ytkpcljiipdbmhaa.lst Go.Proofs.Ytkpcljiipdbmhaa.gro
set_option linter.unusedVariables false
set_option linter.unusedSimpArgs false
set_option maxHeartbeats 4000000 in
set_option maxRecDepth 100000 in
theorem awake12_any (w : World) : Calls Try.prog 42 #[] w fun e w' => e = .returned (.bool true) ∧ Below w.heap.size w w' := by
  have H1 : Hid (∀ W, Calls Try.prog 39 #[.int .i64 10, .int .i64 1, .int .i64 100, .int .i64 9, .int .i64 0] W fun e w' => e = .returned (.tuple #[.agg #[.int .i64 10, .int .i64 1, .int .i64 100, .int .i64 9, .int .i64 0, .slice none 0 0], .int .i64 0]) ∧ Below W.heap.size W w') := fun W => by
    have := NewS_any 10 1 100 9 0 W
    rw [show goodS 10 1 100 9 0 = true from goodS_iff.2 (by omega)] at this
    simpa only [kp_t, if_true] using this
  obtain ⟨ys, hys⟩ : ∃ ys : List (Int × Int), [(0, 1), (0, 1), (0, 0)] = ys := ⟨_, rfl⟩
  have H2 : Hid (∀ W, Calls Try.prog 46 #[.agg #[.int .i64 10, .int .i64 1, .int .i64 100, .int .i64 9, .int .i64 0, .slice none 0 0], .int .i64 5] W (NewSsf 10 1 100 9 0 ys 0 W)) := fun W => by
    have := AddS_any 10 1 100 9 0 5 none 0 0 [] W .nil_ (Nat.le_refl _) (Nat.zero_le _) (by omega) (by omega)
    rw [five_fit.1, five_many, hys, show decide ((0 : Int) ≤ 5 ∧ (5 : Int) ≤ 9) = true from by decide, show decide ((100 : Int) < ((totalN [] : Nat) : Int) + 5) = false from by simp [totalN]] at this
    simpa only [kp_t, lsK_t, addSE_k, Bool.true_and, Bool.not_false] using this
  have H3 : Hid (∀ (A : Option Addr) (n c : Nat) (W : World), PRead W W.heap.size A n ys → n ≤ c → c ≤ maxLen → Calls Try.prog 48 #[.agg #[.int .i64 10, .int .i64 1, .int .i64 100, .int .i64 9, .int .i64 0, .slice A n c]] W fun e w' => e = .returned (.tuple #[.agg #[.int .i64 4, .int .i64 1, .int .i64 4, .int .i64 1, .int .i64 5, .int .i64 1], .int .i64 0]) ∧ Below W.heap.size W w') := fun A n c W h1 h2 h3 => by
    have := AskS_any 10 1 100 9 0 A n c ys W h1 h2 h3 (by have := PRead.len h1; rw [← hys] at this; simp at this; omega)
    rw [← hys, five_fit.2, five_ask] at this
    simpa only [okE_t] using this
  clear hys
  go_enter Try.func42, Try.ntmps42
  go_wp2_with fail
  (with_reducible refine (H1.out _).mono ?_)
  rintro e w1 ⟨rfl, hb1⟩
  obtain ⟨s1, hs1⟩ : ∃ s, w1.heap.size = s := ⟨_, rfl⟩
  have hw1 := hb1.size
  rw [hs1] at hw1
  go_wp2_with fail
  obtain ⟨W1, hW, K1, B1, z1⟩ := name_world (Bx.nil_.new (W := w1) (t := 60) (c := #[Value.int IntKind.i64 10, Value.int IntKind.i64 1, Value.int IntKind.i64 100, Value.int IntKind.i64 9, Value.int IntKind.i64 0, Value.slice none 0 0]) hs1) (hb1.alloc hb1.size _) (s := s1 + 1) (by simp; omega)
  rw [hW]
  clear hW hb1 hs1
  have KK := Lib.hid K1
  have BB := Lib.hid B1
  have R := K1.rules
  simp only [Rules] at R
  clear K1 B1
  (refine (H2.out _).mono ?_)
  rintro e w2 ⟨A6, l6, c6, rfl, r1, ⟨r2, fr⟩, hr6, hb6⟩
  have fr6 : ∀ ad, A6 = some ad → s1 + 1 ≤ ad.block := fun ad h => Nat.le_trans z1 (fr ad h)
  replace BB := Lib.hid (BB.out.trans (hb6.mono BB.out.size))
  replace KK := Lib.hid (KK.out.below hb6)
  replace R := KK.out.rules
  simp only [Rules] at R
  clear hb6 fr z1
  go_wp2_with fail
  obtain ⟨W2, hW, KP, BP, z2⟩ := name_world (Bx.put6 (u0 := .int .i64 10) (u1 := .int .i64 1) (u2 := .int .i64 100) (u3 := .int .i64 9) (u4 := .int .i64 0) (u5 := .slice A6 l6 c6) KK.out (by simp)) ((((((BB.out.setCell (p := ⟨s1, 0, none⟩) hw1 _).setCell (p := ⟨s1, 1, none⟩) hw1 _).setCell (p := ⟨s1, 2, none⟩) hw1 _).setCell (p := ⟨s1, 3, none⟩) hw1 _).setCell (p := ⟨s1, 4, none⟩) hw1 _).setCell (p := ⟨s1, 5, none⟩) hw1 _) (s := 0) (by omega)
  have HR : PRead W2 W2.heap.size A6 l6 ys := by
    rw [← hW]
    exact PRead.sz (PRead.far (PRead.far (PRead.far (PRead.far (PRead.far (PRead.far hr6 ⟨s1, 0, none⟩ (fun h0 ad h => by have := fr6 ad h; simp; omega) _) ⟨s1, 1, none⟩ (fun h0 ad h => by have := fr6 ad h; simp; omega) _) ⟨s1, 2, none⟩ (fun h0 ad h => by have := fr6 ad h; simp; omega) _) ⟨s1, 3, none⟩ (fun h0 ad h => by have := fr6 ad h; simp; omega) _) ⟨s1, 4, none⟩ (fun h0 ad h => by have := fr6 ad h; simp; omega) _) ⟨s1, 5, none⟩ (fun h0 ad h => by have := fr6 ad h; simp; omega) _) (by simp [World.setCell])
  rw [hW]
  clear hW KK BB R hr6 fr6
  have KK := Lib.hid KP
  have BB := Lib.hid BP
  have R := KP.rules
  simp only [Rules] at R
  have H4 := Lib.hid (H3.out A6 l6 c6 W2 HR r1 r2)
  clear KP BP HR H3
  (with_reducible refine H4.out.mono ?_)
  rintro e wv ⟨rfl, hbv⟩; replace BB := Lib.hid (BB.out.trans (hbv.mono BB.out.size)); replace KK := Lib.hid (KK.out.below hbv); replace R := KK.out.rules; simp only [gro.Rules] at R; clear hbv
  obtain ⟨s5, hs5⟩ : ∃ s, wv.heap.size = s := ⟨_, rfl⟩
  replace KK := Lib.hid (KK.out.new (t := 37) (c := #[Value.int IntKind.i64 4, Value.int IntKind.i64 1, Value.int IntKind.i64 4, Value.int IntKind.i64 1, Value.int IntKind.i64 5, Value.int IntKind.i64 1]) hs5)
  replace BB := Lib.hid (BB.out.alloc BB.out.size (.cells #[Value.int IntKind.i64 4, Value.int IntKind.i64 1, Value.int IntKind.i64 4, Value.int IntKind.i64 1, Value.int IntKind.i64 5, Value.int IntKind.i64 1] 37))
  replace R := KK.out.rules
  simp only [Rules] at R
  go_wp2
  go_ret
  exact ⟨rfl, BB.out⟩
end Go.Proofs.Ytkpcljiipdbmhaa.cst
