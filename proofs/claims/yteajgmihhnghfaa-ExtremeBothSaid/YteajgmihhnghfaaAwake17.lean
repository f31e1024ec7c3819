/- Contract of the deque law's awake. -/
import Derived.Test.YteajgmihhnghfaaExt1
namespace Go.Proofs.Yteajgmihhnghfaa.ext
open Go.RowKit Go.Proofs.Yteajgmihhnghfaa.mem Go.Proofs.Yteajgmihhnghfaa.gro
set_option linter.unusedVariables false
set_option linter.unusedSimpArgs false
theorem Bx.put5c {W : World} {L : List (Nat × TypeId × Array Value)} {g : Nat} {t : TypeId} {x0 x1 x2 x3 x4 u0 u1 u2 u3 u4 : Value} (h : Bx W ((g, t, #[x0, x1, x2, x3, x4]) :: L)) (hd : ∀ q ∈ L, q.1 ≠ g) :
    Bx (((((W.setCell ⟨g, 0, none⟩ u0).setCell ⟨g, 1, none⟩ u1).setCell ⟨g, 2, none⟩ u2).setCell ⟨g, 3, none⟩ u3).setCell ⟨g, 4, none⟩ u4) ((g, t, #[u0, u1, u2, u3, u4]) :: L) := by
  have := ((((h.puti hd 0 u0).puti hd 1 u1).puti hd 2 u2).puti hd 3 u3).puti hd 4 u4
  simpa using this
set_option maxHeartbeats 4000000 in
set_option maxRecDepth 100000 in
theorem awake17_any (w : World) : Calls Try.prog 12 #[] w fun e w' => e = .returned (.bool true) ∧ Below w.heap.size w w' := by
  have H1 : Hid (∀ W, Calls Try.prog 9 #[.bool true, .int .i64 3, .int .i64 9, .int .i64 0] W fun e w' => e = .returned (.tuple #[.agg #[.bool true, .int .i64 3, .int .i64 9, .int .i64 0, .slice none 0 0], .int .i64 0]) ∧ Below W.heap.size W w') := fun W => by
    have := New_any true 3 9 0 W
    rw [mayB_iff.2 (by omega)] at this
    simpa only [kp_t, kb_t, er1_t] using this
  have H2 := Lib.hid (fun W => Add_one W)
  have H3 := Lib.hid (fun A c W h => Ask_one A c W h)
  go_enter Try.func12, Try.ntmps12
  go_wp2_with fail
  (with_reducible refine (H1.out _).mono ?_)
  rintro e w1 ⟨rfl, hb1⟩
  obtain ⟨s1, hs1⟩ : ∃ s, w1.heap.size = s := ⟨_, rfl⟩
  have hw1 := hb1.size
  rw [hs1] at hw1
  go_wp2_with fail
  obtain ⟨W1, hW, K1, B1, z1⟩ := name_world (Bx.nil_.new (W := w1) (t := 24) (c := #[Value.bool true, Value.int IntKind.i64 3, Value.int IntKind.i64 9, Value.int IntKind.i64 0, Value.slice none 0 0]) hs1) (hb1.alloc hb1.size _) (s := s1 + 1) (by simp; omega)
  rw [hW]
  clear hW hb1 hs1
  have KK := Lib.hid K1
  have BB := Lib.hid B1
  have R := K1.rules
  simp only [Rules] at R
  clear K1 B1
  (refine (H2.out _).mono ?_)
  rintro e w2 ⟨A6, c6, rfl, fr, hr6, hb6⟩
  have fr6 : ∀ ad, A6 = some ad → s1 + 1 ≤ ad.block := fun ad h => Nat.le_trans z1 (fr ad h)
  replace BB := Lib.hid (BB.out.trans (hb6.mono BB.out.size))
  replace KK := Lib.hid (KK.out.below hb6)
  replace R := KK.out.rules
  simp only [Rules] at R
  clear hb6 fr z1
  go_wp2_with fail
  obtain ⟨W2, hW, KP, BP, z2⟩ := name_world (Bx.put5c (u0 := .bool true) (u1 := .int .i64 3) (u2 := .int .i64 9) (u3 := .int .i64 0) (u4 := .slice A6 1 c6) KK.out (by simp)) (((((BB.out.setCell (p := ⟨s1, 0, none⟩) hw1 _).setCell (p := ⟨s1, 1, none⟩) hw1 _).setCell (p := ⟨s1, 2, none⟩) hw1 _).setCell (p := ⟨s1, 3, none⟩) hw1 _).setCell (p := ⟨s1, 4, none⟩) hw1 _) (s := 0) (by omega)
  have HR : PRead W2 W2.heap.size A6 1 [(0, 5)] := by
    rw [← hW]
    exact PRead.sz ((PRead.far (PRead.far (PRead.far (PRead.far (PRead.far hr6 ⟨s1, 0, none⟩ (fun h0 ad h => by have := fr6 ad h; simp; omega) _) ⟨s1, 1, none⟩ (fun h0 ad h => by have := fr6 ad h; simp; omega) _) ⟨s1, 2, none⟩ (fun h0 ad h => by have := fr6 ad h; simp; omega) _) ⟨s1, 3, none⟩ (fun h0 ad h => by have := fr6 ad h; simp; omega) _) ⟨s1, 4, none⟩ (fun h0 ad h => by have := fr6 ad h; simp; omega) _)) (by simp [World.setCell])
  rw [hW]
  clear hW KK BB R hr6 fr6
  have BB := Lib.hid BP
  have R := KP.rules
  simp only [Rules] at R
  have H4 := Lib.hid (H3.out A6 c6 W2 HR)
  clear KP BP HR H3
  (with_reducible refine H4.out.mono ?_)
  rintro e wv ⟨rfl, hbv⟩
  replace BB := Lib.hid (BB.out.trans (hbv.mono BB.out.size))
  clear hbv R
  go_wp2
  go_ret
  exact ⟨rfl, BB.out⟩
end Go.Proofs.Yteajgmihhnghfaa.ext
