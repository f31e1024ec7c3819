/- QuadL; Times: texts in one. -/
import Derived.Test.YtofgjcfiinmimaaMgWide
import Derived.Test.YtofgjcfiinmimaaMgBox2
import Derived.Test.YtofgjcfiinmimaaMgBox
import Derived.LoopN
/- Numbers of four words: their digits, products with a word, order. No condition. -/
namespace Go.Proofs.Ytofgjcfiinmimaa.wid
set_option linter.unusedVariables false
def q0 (V : Nat) : Nat := V % 18446744073709551616
def q1 (V : Nat) : Nat := V / 18446744073709551616 % 18446744073709551616
def q2 (V : Nat) : Nat := V / 18446744073709551616 / 18446744073709551616 % 18446744073709551616
def q3 (V : Nat) : Nat := V / 18446744073709551616 / 18446744073709551616 / 18446744073709551616 % 18446744073709551616
theorem q0_lt (V : Nat) : q0 V < 18446744073709551616 := Nat.mod_lt _ (by decide)
theorem q1_lt (V : Nat) : q1 V < 18446744073709551616 := Nat.mod_lt _ (by decide)
theorem q2_lt (V : Nat) : q2 V < 18446744073709551616 := Nat.mod_lt _ (by decide)
theorem q3_lt (V : Nat) : q3 V < 18446744073709551616 := Nat.mod_lt _ (by decide)
theorem q_step (V n c : Nat) : (V * n + c) % 18446744073709551616 = ((V % 18446744073709551616) * n + c) % 18446744073709551616 ∧
    (V * n + c) / 18446744073709551616 = (V / 18446744073709551616) * n + ((V % 18446744073709551616) * n + c) / 18446744073709551616 := by
  have h : V * n = 18446744073709551616 * ((V / 18446744073709551616) * n) + (V % 18446744073709551616) * n := by
    rw [← Nat.mul_assoc, ← Nat.add_mul, Nat.div_add_mod]
  rw [h]
  generalize V / 18446744073709551616 * n = P
  generalize V % 18446744073709551616 * n = Q
  omega
/-- The carries of a product. -/
def cy1 (V n : Nat) : Nat := q0 V * n / 18446744073709551616
def cy2 (V n : Nat) : Nat := (q1 V * n + cy1 V n) / 18446744073709551616
def cy3 (V n : Nat) : Nat := (q2 V * n + cy2 V n) / 18446744073709551616
theorem q_mul (V n : Nat) : q0 (V * n) = q0 V * n % 18446744073709551616 ∧ q1 (V * n) = (q1 V * n + cy1 V n) % 18446744073709551616 ∧
    q2 (V * n) = (q2 V * n + cy2 V n) % 18446744073709551616 ∧ q3 (V * n) = (q3 V * n + cy3 V n) % 18446744073709551616 := by
  have a := q_step V n 0
  simp only [Nat.add_zero] at a
  have b := q_step (V / 18446744073709551616) n (cy1 V n)
  have c := q_step (V / 18446744073709551616 / 18446744073709551616) n (cy2 V n)
  have d := q_step (V / 18446744073709551616 / 18446744073709551616 / 18446744073709551616) n (cy3 V n)
  have a2 : V * n / 18446744073709551616 = V / 18446744073709551616 * n + cy1 V n := a.2
  have b2 : (V / 18446744073709551616 * n + cy1 V n) / 18446744073709551616 = V / 18446744073709551616 / 18446744073709551616 * n + cy2 V n := b.2
  have c2 : (V / 18446744073709551616 / 18446744073709551616 * n + cy2 V n) / 18446744073709551616 = V / 18446744073709551616 / 18446744073709551616 / 18446744073709551616 * n + cy3 V n := c.2
  refine ⟨a.1, ?_, ?_, ?_⟩
  · show V * n / 18446744073709551616 % 18446744073709551616 = _
    rw [a2]; exact b.1
  · show V * n / 18446744073709551616 / 18446744073709551616 % 18446744073709551616 = _
    rw [a2, b2]; exact c.1
  · show V * n / 18446744073709551616 / 18446744073709551616 / 18446744073709551616 % 18446744073709551616 = _
    rw [a2, b2, c2]; exact d.1
theorem cy_bd {x n c : Nat} (hx : x < 18446744073709551616) (hn : n < 18446744073709551616) (hc : c < 18446744073709551616) : (x * n + c) / 18446744073709551616 < 18446744073709551616 := by
  have : x * n ≤ 18446744073709551615 * 18446744073709551615 := Nat.mul_le_mul (by omega) (by omega)
  omega
theorem cy1_lt {V n : Nat} (hn : n < 18446744073709551616) : cy1 V n < 18446744073709551616 := by
  have := cy_bd (q0_lt V) hn (show 0 < 18446744073709551616 by decide)
  exact this
theorem cy2_lt {V n : Nat} (hn : n < 18446744073709551616) : cy2 V n < 18446744073709551616 := cy_bd (q1_lt V) hn (cy1_lt hn)
theorem cy3_lt {V n : Nat} (hn : n < 18446744073709551616) : cy3 V n < 18446744073709551616 := cy_bd (q2_lt V) hn (cy2_lt hn)
/-- One digit of a product, as the machine makes it. -/
theorem cy_word {x n c p : Nat} (hx : x < 18446744073709551616) (hn : n < 18446744073709551616) (hc : c < 18446744073709551616) (hp : p = x * n) :
    (lo p + (c : Int)) % 18446744073709551616 = (((x * n + c) % 18446744073709551616 : Nat) : Int) ∧ hi p + (lo p + (c : Int)) / 18446744073709551616 = (((x * n + c) / 18446744073709551616 : Nat) : Int) := by
  subst hp
  unfold hi lo
  omega
/-- A number of four words. -/
theorem q_eq {V U : Nat} (hV : V < 115792089237316195423570985008687907853269984665640564039457584007913129639936) (hU : U < 115792089237316195423570985008687907853269984665640564039457584007913129639936) :
    (q3 V ≠ q3 U → (V < U ↔ q3 V < q3 U) ∧ V ≠ U) ∧ (q3 V = q3 U → q2 V ≠ q2 U → (V < U ↔ q2 V < q2 U) ∧ V ≠ U) ∧ (q3 V = q3 U → q2 V = q2 U → q1 V ≠ q1 U → (V < U ↔ q1 V < q1 U) ∧ V ≠ U) ∧
    (q3 V = q3 U → q2 V = q2 U → q1 V = q1 U → q0 V ≠ q0 U → (V < U ↔ q0 V < q0 U) ∧ V ≠ U) ∧ (q3 V = q3 U → q2 V = q2 U → q1 V = q1 U → q0 V = q0 U → V = U) := by
  unfold q0 q1 q2 q3
  refine ⟨?_, ?_, ?_, ?_, ?_⟩ <;> omega
theorem q_wide (d : Nat) (hd : d < 340282366920938463463374607431768211456) : (q0 d : Int) = lo d ∧ (q1 d : Int) = hi d ∧ q2 d = 0 ∧ q3 d = 0 := by
  unfold q0 q1 q2 q3 lo hi
  omega
end Go.Proofs.Ytofgjcfiinmimaa.wid

/- Contract of times of bounds: a number of four words times a word. -/
namespace Go.Proofs.Ytofgjcfiinmimaa.wid
open Go.RowKit Go.Proofs.Ytofgjcfiinmimaa.mem Go.Proofs.Ytofgjcfiinmimaa.gro
set_option linter.unusedVariables false
set_option linter.unusedSimpArgs false
theorem four_start (w : World) (t1 t2 t3 : TypeId) (c1 c2 c3 : Array Value) :
    ∃ W, ((w.alloc (.cells c1 t1)).alloc (.cells c2 t2)).alloc (.cells c3 t3) = W ∧ W.heap.size = w.heap.size + 1 + 1 + 1 ∧ Bx W [(w.heap.size + 1 + 1, t3, c3), (w.heap.size + 1, t2, c2), (w.heap.size, t1, c1)] ∧ Below w.heap.size w W := start3 w t1 t2 t3 c1 c2 c3
theorem Bx.word {W : World} {L : List (Nat × TypeId × Array Value)} {g : Nat} {t : TypeId} {c d : Array Value} (i : Nat) (u : Value) (h : Bx W ((g, t, c) :: L)) (hd : ∀ q ∈ L, q.1 ≠ g) (hc : c.setIfInBounds i u = d) : Bx (W.setCell ⟨g, i, none⟩ u) ((g, t, d) :: L) := by
  subst hc
  exact Bx.cons_ (h.head.set_ i u) (h.tail.far (p := ⟨g, i, none⟩) hd u)
set_option maxHeartbeats 2000000 in
set_option maxRecDepth 100000 in
theorem times_any (V n : Nat) (hn : n < 18446744073709551616) (w : World) :
    Calls Try.prog 84 #[.agg #[.int .u64 (q0 V : Nat), .int .u64 (q1 V : Nat), .int .u64 (q2 V : Nat), .int .u64 (q3 V : Nat)], .int .u64 (n : Int)] w fun e w' => e = .returned (.agg #[.int .u64 (q0 (V * n) : Nat), .int .u64 (q1 (V * n) : Nat), .int .u64 (q2 (V * n) : Nat), .int .u64 (q3 (V * n) : Nat)]) ∧ Below w.heap.size w w' := by
  have HM := q_mul V n
  have k1 := @cy1_lt V n hn
  have k2 := @cy2_lt V n hn
  have k3 := @cy3_lt V n hn
  have M0 := Lib.hid (fun W => Mul64_nat (q0 V) n (q0_lt V) hn W)
  have M1 := Lib.hid (fun W => Mul64_nat (q1 V) n (q1_lt V) hn W)
  have M2 := Lib.hid (fun W => Mul64_nat (q2 V) n (q2_lt V) hn W)
  have M3 := Lib.hid (fun W => Mul64_nat (q3 V) n (q3_lt V) hn W)
  have P0 := @cy_word (q0 V) n 0 _ (q0_lt V) hn (by decide) rfl
  have P1 := @cy_word (q1 V) n (cy1 V n) _ (q1_lt V) hn k1 rfl
  have P2 := @cy_word (q2 V) n (cy2 V n) _ (q2_lt V) hn k2 rfl
  have P3 := @cy_word (q3 V) n (cy3 V n) _ (q3_lt V) hn k3 rfl
  rw [Nat.add_zero, ← HM.1, show (q0 V * n / 18446744073709551616 : Nat) = cy1 V n from rfl, show ((0 : Nat) : Int) = 0 from rfl, Int.add_zero] at P0
  rw [← HM.2.1, show (q1 V * n + cy1 V n) / 18446744073709551616 = cy2 V n from rfl] at P1
  rw [← HM.2.2.1, show (q2 V * n + cy2 V n) / 18446744073709551616 = cy3 V n from rfl] at P2
  rw [← HM.2.2.2] at P3
  obtain ⟨d0, E0⟩ := P0
  obtain ⟨d1, E1⟩ := P1
  obtain ⟨d2, E2⟩ := P2
  obtain ⟨d3, E3⟩ := P3
  have F0 : IntKind.u64.wrap (hi (q0 V * n) + lo (q0 V * n) / 18446744073709551616) = (cy1 V n : Nat) := by rw [E0]; exact wrapN _ k1
  have F1 : IntKind.u64.wrap (hi (q1 V * n) + (lo (q1 V * n) + (cy1 V n : Nat)) / 18446744073709551616) = (cy2 V n : Nat) := by rw [E1]; exact wrapN _ k2
  have F2 : IntKind.u64.wrap (hi (q2 V * n) + (lo (q2 V * n) + (cy2 V n : Nat)) / 18446744073709551616) = (cy3 V n : Nat) := by rw [E2]; exact wrapN _ k3
  have z0 := (lo_bd (q0 V * n)).1
  have z1 := (lo_bd (q1 V * n)).1
  have z2 := (lo_bd (q2 V * n)).1
  have z3 := (lo_bd (q3 V * n)).1
  have y1 : (0 : Int) ≤ (cy1 V n : Nat) := Int.natCast_nonneg _
  have y2 : (0 : Int) ≤ (cy2 V n : Nat) := Int.natCast_nonneg _
  have y3 : (0 : Int) ≤ (cy3 V n : Nat) := Int.natCast_nonneg _
  clear E0 E1 E2 E3 HM k1 k2 k3 hn
  generalize hi (q0 V * n) = h0 at *
  generalize lo (q0 V * n) = l0 at *
  generalize hi (q1 V * n) = h1 at *
  generalize lo (q1 V * n) = l1 at *
  generalize hi (q2 V * n) = h2 at *
  generalize lo (q2 V * n) = l2 at *
  generalize hi (q3 V * n) = h3 at *
  generalize lo (q3 V * n) = l3 at *
  generalize ((cy1 V n : Nat) : Int) = c1 at *
  generalize ((cy2 V n : Nat) : Int) = c2 at *
  generalize ((cy3 V n : Nat) : Int) = c3 at *
  generalize ((q0 (V * n) : Nat) : Int) = r0 at *
  generalize ((q1 (V * n) : Nat) : Int) = r1 at *
  generalize ((q2 (V * n) : Nat) : Int) = r2 at *
  generalize ((q3 (V * n) : Nat) : Int) = r3 at *
  generalize ((q0 V : Nat) : Int) = x0 at *
  generalize ((q1 V : Nat) : Int) = x1 at *
  generalize ((q2 V : Nat) : Int) = x2 at *
  generalize ((q3 V : Nat) : Int) = x3 at *
  generalize (n : Int) = m at *
  go_enter Try.func84, Try.ntmps84
  go_wp2_with fail
  obtain ⟨W0, hW, hs0, K0, B0⟩ := start3 w 102 102 102 #[Value.int IntKind.u64 x0, Value.int IntKind.u64 x1, Value.int IntKind.u64 x2, Value.int IntKind.u64 x3] #[Value.int IntKind.u64 0, Value.int IntKind.u64 0, Value.int IntKind.u64 0, Value.int IntKind.u64 0] #[Value.int IntKind.u64 0, Value.int IntKind.u64 0, Value.int IntKind.u64 0, Value.int IntKind.u64 0]
  rw [hW]
  clear hW
  have KK := Lib.hid (K0.perm (L' := [(w.heap.size + 1 + 1, 102, #[Value.int IntKind.u64 0, Value.int IntKind.u64 0, Value.int IntKind.u64 0, Value.int IntKind.u64 0]), (w.heap.size + 1, 102, #[Value.int IntKind.u64 0, Value.int IntKind.u64 0, Value.int IntKind.u64 0, Value.int IntKind.u64 0]), (w.heap.size, 102, #[Value.int IntKind.u64 x0, Value.int IntKind.u64 x1, Value.int IntKind.u64 x2, Value.int IntKind.u64 x3])]) (by simp))
  have BB := Lib.hid B0
  have R := K0.rules
  simp only [Rules] at R
  clear K0 B0
  refine wp_loop_rounds 5 ?_
  rw [rounds_succ]
  go_wp2_with fail
  refine (M0.out _).mono ?_
  rintro e w1 ⟨rfl, rfl⟩
  go_wp2_with fail
  obtain ⟨W1, hW, K1, B1, z_⟩ := name_world (Bx.word 0 (Value.int IntKind.u64 r0) (d := #[Value.int IntKind.u64 r0, Value.int IntKind.u64 0, Value.int IntKind.u64 0, Value.int IntKind.u64 0]) KK.out (by first | (simp; done) | (simp; omega)) (by simp)) (BB.out.setCell (by first | (simp; done) | (simp; omega)) _) (s := 0) (by omega)
  rw [hW]
  clear hW KK BB R
  have KK := Lib.hid K1
  have BB := Lib.hid B1
  have R := K1.rules
  simp only [Rules] at R
  clear K1 B1 z_
  rw [rounds_succ]
  go_wp2_with fail
  refine (M1.out _).mono ?_
  rintro e w2 ⟨rfl, rfl⟩
  go_wp2_with fail
  obtain ⟨W2, hW, K1, B1, z_⟩ := name_world (Bx.word 1 (Value.int IntKind.u64 r1) (d := #[Value.int IntKind.u64 r0, Value.int IntKind.u64 r1, Value.int IntKind.u64 0, Value.int IntKind.u64 0]) KK.out (by first | (simp; done) | (simp; omega)) (by simp)) (BB.out.setCell (by first | (simp; done) | (simp; omega)) _) (s := 0) (by omega)
  rw [hW]
  clear hW KK BB R
  have KK := Lib.hid K1
  have BB := Lib.hid B1
  have R := K1.rules
  simp only [Rules] at R
  clear K1 B1 z_
  rw [rounds_succ]
  go_wp2_with fail
  refine (M2.out _).mono ?_
  rintro e w3 ⟨rfl, rfl⟩
  go_wp2_with fail
  obtain ⟨W3, hW, K1, B1, z_⟩ := name_world (Bx.word 2 (Value.int IntKind.u64 r2) (d := #[Value.int IntKind.u64 r0, Value.int IntKind.u64 r1, Value.int IntKind.u64 r2, Value.int IntKind.u64 0]) KK.out (by first | (simp; done) | (simp; omega)) (by simp)) (BB.out.setCell (by first | (simp; done) | (simp; omega)) _) (s := 0) (by omega)
  rw [hW]
  clear hW KK BB R
  have KK := Lib.hid K1
  have BB := Lib.hid B1
  have R := K1.rules
  simp only [Rules] at R
  clear K1 B1 z_
  rw [rounds_succ]
  go_wp2_with fail
  refine (M3.out _).mono ?_
  rintro e w4 ⟨rfl, rfl⟩
  go_wp2_with fail
  obtain ⟨W4, hW, K1, B1, z_⟩ := name_world (Bx.word 3 (Value.int IntKind.u64 r3) (d := #[Value.int IntKind.u64 r0, Value.int IntKind.u64 r1, Value.int IntKind.u64 r2, Value.int IntKind.u64 r3]) KK.out (by first | (simp; done) | (simp; omega)) (by simp)) (BB.out.setCell (by first | (simp; done) | (simp; omega)) _) (s := 0) (by omega)
  rw [hW]
  clear hW KK BB R
  have KK := Lib.hid K1
  have BB := Lib.hid B1
  have R := K1.rules
  simp only [Rules] at R
  clear K1 B1 z_
  rw [rounds_succ]
  go_wp2
  refine bodyPost_ret (v := .agg #[Value.int IntKind.u64 r0, Value.int IntKind.u64 r1, Value.int IntKind.u64 r2, Value.int IntKind.u64 r3]) (by simp [results, Try.results84, go_sem, R]) rfl ⟨rfl, ?_⟩
  exact (((BB.out.setCell (by first | (simp; done) | (simp; omega)) _).setCell (by first | (simp; done) | (simp; omega)) _).setCell (by first | (simp; done) | (simp; omega)) _).setCell (by first | (simp; done) | (simp; omega)) _
end Go.Proofs.Ytofgjcfiinmimaa.wid
