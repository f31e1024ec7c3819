/- Gcd; Eql; Box2: texts in one. -/
import Derived.Test.YtofgjcfiinmimaaDiv
import Derived.Test.YtofgjcfiinmimaaArith
import Derived.Test.YtofgjcfiinmimaaMgWide
import Derived.Laws.StructEq
import Derived.Test.YtofgjcfiinmimaaMgBox
/- Contracts of the two Gcd, of signed and of Cross. -/
namespace Go.Proofs.Ytofgjcfiinmimaa.wid
open Go.RowKit Go.Proofs.Ytofgjcfiinmimaa.mem Go.Proofs.Ytofgjcfiinmimaa.gro
set_option linter.unusedVariables false
theorem gcd_step {a b : Nat} (h : b ≠ 0) : Nat.gcd b (divr a b) = Nat.gcd a b := by
  unfold divr; rw [if_neg h, Nat.gcd_comm a b, Nat.gcd_rec b a, Nat.gcd_comm]
set_option maxHeartbeats 2000000 in
set_option maxRecDepth 100000 in
theorem Gcd_any (a b : Nat) (ha : a < 340282366920938463463374607431768211456) (hb : b < 340282366920938463463374607431768211456) (w : World) :
    Calls Try.prog 107 #[(Value.agg #[Value.int IntKind.u64 (hi (a)), Value.int IntKind.u64 (lo (a))]), (Value.agg #[Value.int IntKind.u64 (hi (b)), Value.int IntKind.u64 (lo (b))])] w fun e w' => e = .returned (Value.agg #[Value.int IntKind.u64 (hi (Nat.gcd a b)), Value.int IntKind.u64 (lo (Nat.gcd a b))]) ∧ Below w.heap.size w w' := by
  obtain ⟨G, hG⟩ : ∃ G, Nat.gcd a b = G := ⟨_, rfl⟩
  have HG := Lib.hid hG
  rw [hG]
  clear hG
  go_enter Try.func107, Try.ntmps107
  go_wp2_with fail
  obtain ⟨W0, hW, hs0, K0, B0⟩ := start3 w 99 99 99 #[Value.int IntKind.u64 (hi a), Value.int IntKind.u64 (lo a)] #[Value.int IntKind.u64 (hi b), Value.int IntKind.u64 (lo b)] #[Value.int IntKind.u64 0, Value.int IntKind.u64 0]
  rw [hW]
  clear hW
  have HK0 := Lib.hid K0
  have HB0 := Lib.hid B0
  have z0 : w.heap.size + 1 + 1 + 1 ≤ W0.heap.size := by omega
  clear K0 B0 hs0
  go_loopg [] b (fun kx wr => ∃ x y : Nat, x < 340282366920938463463374607431768211456 ∧ y < 340282366920938463463374607431768211456 ∧ y ≤ kx ∧ w.heap.size + 1 + 1 + 1 ≤ wr.heap.size ∧ Hid (Nat.gcd x y = G) ∧ Hid (Below w.heap.size w wr) ∧
    Hid (Bx wr [(w.heap.size + 1 + 1, 99, #[Value.int IntKind.u64 0, Value.int IntKind.u64 0]), (w.heap.size + 1, 99, #[Value.int IntKind.u64 (hi y), Value.int IntKind.u64 (lo y)]), (w.heap.size, 99, #[Value.int IntKind.u64 (hi x), Value.int IntKind.u64 (lo x)])]))
  case atStart => exact ⟨a, b, ha, hb, Nat.le_refl _, z0, HG, HB0, HK0⟩
  case round =>
    obtain ⟨x, y, hx, hy, hyk, hz, HGx, HBx, HKx⟩ := hrel
    clear HG HB0 HK0 z0 hb ha
    have R := HKx.out.rules
    simp only [Rules] at R
    have HZ := Lib.hid (fun W => zero_any y W)
    by_cases h0 : y = 0
    · subst h0
      rw [decide_eq_true rfl] at HZ
      have hGx : Hid (x = G) := by have := HGx.out; rwa [Nat.gcd_zero_right] at this
      go_wp2_with (go_at_call 127; refine (HZ.out _).mono ?_; rintro e w1 ⟨rfl, hb1⟩; have K1 := HKx.out.below hb1; clear R; have R := K1.rules; simp only [Rules] at R; have HK1 := Lib.hid K1; have HB1 := Lib.hid (HBx.out.trans (hb1.mono (by omega))); clear K1 hb1)
      refine bodyPost_ret (v := (Value.agg #[Value.int IntKind.u64 (hi (x)), Value.int IntKind.u64 (lo (x))])) (by simp [results, Try.results107, go_sem, R]) rfl ⟨?_, ?_⟩
      · rw [hGx.out]
      · exact (HB1.out.setCell (by first | (simp; done) | (simp; omega)) _).setCell (by first | (simp; done) | (simp; omega)) _
    · rw [decide_eq_false h0] at HZ
      have HD := Lib.hid (fun W => Div_any x y W hx hy)
      have hGy := Lib.hid ((gcd_step h0).trans HGx.out)
      have hlt : divr x y < y := by unfold divr; rw [if_neg h0]; exact Nat.mod_lt _ (by omega)
      generalize divr x y = rr at *
      generalize divq x y = qq at *
      generalize decide (y ≠ 0) = bb at *
      go_wp2_with fail
      refine (HZ.out _).mono ?_
      rintro e w1 ⟨rfl, hb1⟩
      obtain ⟨K1, B1, z1⟩ := HKx.out.call HBx.out (by omega) hb1
      clear R
      have R := K1.rules
      simp only [Rules] at R
      go_wp2_with fail
      refine (HD.out _).mono ?_
      rintro e w2 ⟨rfl, hb2⟩
      obtain ⟨K2, B2, z2⟩ := K1.call B1 (by omega) hb2
      clear R
      have R := K2.rules
      simp only [Rules] at R
      obtain ⟨s2, hs2⟩ : ∃ s2, w2.heap.size = s2 := ⟨_, rfl⟩
      have HK2 := Lib.hid K2
      have HB2 := Lib.hid B2
      have z3 : w.heap.size + 1 + 1 + 1 ≤ s2 := by omega
      clear K1 B1 K2 B2 hb1 hb2 z1 z2 HKx HBx
      go_wp2_with fail
      go_region
      have KP := (HK2.out.alloc (.cells #[Value.int IntKind.u64 (hi qq), Value.int IntKind.u64 (lo qq)] 99)).alloc (.cells #[Value.int IntKind.u64 (hi rr), Value.int IntKind.u64 (lo rr)] 99)
      have BP := (HB2.out.alloc (by omega) (.cells #[Value.int IntKind.u64 (hi qq), Value.int IntKind.u64 (lo qq)] 99)).alloc (by simp; omega) (.cells #[Value.int IntKind.u64 (hi rr), Value.int IntKind.u64 (lo rr)] 99)
      have sP : w.heap.size + 1 + 1 + 1 ≤ ((w2.alloc (.cells #[Value.int IntKind.u64 (hi qq), Value.int IntKind.u64 (lo qq)] 99)).alloc (.cells #[Value.int IntKind.u64 (hi rr), Value.int IntKind.u64 (lo rr)] 99)).heap.size := by simp; omega
      generalize (w2.alloc (.cells #[Value.int IntKind.u64 (hi qq), Value.int IntKind.u64 (lo qq)] 99)).alloc (.cells #[Value.int IntKind.u64 (hi rr), Value.int IntKind.u64 (lo rr)] 99) = WP at *
      go_wp2_with fail
      go_roundg rr
      case measure => omega
      case rel =>
        refine ⟨y, rr, hy, by omega, by omega, by simp only [World.drew, set2_size]; exact sP, hGy, (((((BP.setCell (by first | (simp; done) | (simp; omega)) _).setCell (by first | (simp; done) | (simp; omega)) _).setCell (by first | (simp; done) | (simp; omega)) _).setCell (by first | (simp; done) | (simp; omega)) _).drew), ?_⟩
        have KQ := KP.perm (L' := [(w.heap.size, 99, #[Value.int IntKind.u64 (hi x), Value.int IntKind.u64 (lo x)]), (w.heap.size + 1, 99, #[Value.int IntKind.u64 (hi y), Value.int IntKind.u64 (lo y)]), (w.heap.size + 1 + 1, 99, #[Value.int IntKind.u64 0, Value.int IntKind.u64 0])]) (by simp)
        exact (Bx.drew (Bx.put2 (Bx.swap (Bx.put2 KQ (by first | (simp; done) | (simp; omega)))) (by first | (simp; done) | (simp; omega)))).perm (by simp)
end Go.Proofs.Ytofgjcfiinmimaa.wid

/- Structs of two numbers, compared. -/
namespace Go.Proofs.Ytofgjcfiinmimaa.wid
open Go.RowKit Go.Proofs.Ytofgjcfiinmimaa.mem Go.Proofs.Ytofgjcfiinmimaa.gro
set_option linter.unusedVariables false
set_option linter.unusedSimpArgs false
theorem wide_eql0 (p q r s : Int) (w : World) : (binOp .eql 99 (Value.agg #[Value.int IntKind.u64 p, Value.int IntKind.u64 q]) (Value.agg #[Value.int IntKind.u64 r, Value.int IntKind.u64 s])).run Try.prog w = .ok (.bool (decide (p = r ∧ q = s))) w := by
  by_cases h1 : p = r
  · subst h1
    by_cases h2 : q = s
    · subst h2
      go_simp
    · go_simp
  · go_simp
theorem ratio_eql0 (p q r s : Int) (w : World) : (binOp .eql 41 (Value.agg #[Value.int IntKind.i64 p, Value.int IntKind.i64 q]) (Value.agg #[Value.int IntKind.i64 r, Value.int IntKind.i64 s])).run Try.prog w = .ok (.bool (decide (p = r ∧ q = s))) w := by
  by_cases h1 : p = r
  · subst h1
    by_cases h2 : q = s
    · subst h2
      go_simp
    · go_simp
  · go_simp
theorem wide_neq0 (p q r s : Int) (w : World) : (binOp .neq 99 (Value.agg #[Value.int IntKind.u64 p, Value.int IntKind.u64 q]) (Value.agg #[Value.int IntKind.u64 r, Value.int IntKind.u64 s])).run Try.prog w = .ok (.bool (!decide (p = r ∧ q = s))) w := by
  by_cases h1 : p = r
  · subst h1
    by_cases h2 : q = s
    · subst h2
      go_simp
    · go_simp
  · go_simp
theorem ratio_neq0 (p q r s : Int) (w : World) : (binOp .neq 41 (Value.agg #[Value.int IntKind.i64 p, Value.int IntKind.i64 q]) (Value.agg #[Value.int IntKind.i64 r, Value.int IntKind.i64 s])).run Try.prog w = .ok (.bool (!decide (p = r ∧ q = s))) w := by
  by_cases h1 : p = r
  · subst h1
    by_cases h2 : q = s
    · subst h2
      go_simp
    · go_simp
  · go_simp
theorem wide_eql (a b : Nat) (w : World) : (binOp .eql 99 (Value.agg #[Value.int IntKind.u64 (hi (a)), Value.int IntKind.u64 (lo (a))]) (Value.agg #[Value.int IntKind.u64 (hi (b)), Value.int IntKind.u64 (lo (b))])).run Try.prog w = .ok (.bool (decide (a = b))) w := by
  rw [wide_eql0, decide_eq_decide.2 ⟨fun h => eq_of h.1 h.2, fun h => by subst h; exact ⟨rfl, rfl⟩⟩]
theorem wide_neq (a b : Nat) (w : World) : (binOp .neq 99 (Value.agg #[Value.int IntKind.u64 (hi (a)), Value.int IntKind.u64 (lo (a))]) (Value.agg #[Value.int IntKind.u64 (hi (b)), Value.int IntKind.u64 (lo (b))])).run Try.prog w = .ok (.bool (!decide (a = b))) w := by
  rw [wide_neq0, decide_eq_decide.2 ⟨fun h => eq_of h.1 h.2, fun h => by subst h; exact ⟨rfl, rfl⟩⟩]
end Go.Proofs.Ytofgjcfiinmimaa.wid

/- Boxes: more of them at once. -/
namespace Go.Proofs.Ytofgjcfiinmimaa.gro
open Go.RowKit Go.Proofs.Ytofgjcfiinmimaa.mem
set_option linter.unusedVariables false
theorem start6 (w : World) (t1 t2 t3 t4 t5 t6 : TypeId) (c1 c2 c3 c4 c5 c6 : Array Value) :
    ∃ W, (((((w.alloc (.cells c1 t1)).alloc (.cells c2 t2)).alloc (.cells c3 t3)).alloc (.cells c4 t4)).alloc (.cells c5 t5)).alloc (.cells c6 t6) = W ∧ W.heap.size = w.heap.size + 1 + 1 + 1 + 1 + 1 + 1 ∧
      Bx W [(w.heap.size + 1 + 1 + 1 + 1 + 1, t6, c6), (w.heap.size + 1 + 1 + 1 + 1, t5, c5), (w.heap.size + 1 + 1 + 1, t4, c4), (w.heap.size + 1 + 1, t3, c3), (w.heap.size + 1, t2, c2), (w.heap.size, t1, c1)] ∧ Below w.heap.size w W := by
  obtain ⟨W, hW, hs, K, B⟩ := start4 w t1 t2 t3 t4 c1 c2 c3 c4
  rw [hW]
  exact ⟨_, rfl, by simp [hs], (K.new hs).new (by simp [hs]), (B.alloc (by omega) _).alloc (by simp; omega) _⟩
end Go.Proofs.Ytofgjcfiinmimaa.gro
