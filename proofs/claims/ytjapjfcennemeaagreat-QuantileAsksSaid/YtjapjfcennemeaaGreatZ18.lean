/- BSame, Floor, Box3, Steady2, Box2: proved here in one text, no conditions beyond those that each theorem states. -/
import Derived.LoopN
import Derived.Test.YtjapjfcennemeaaGreatZ1
import Derived.Test.YtjapjfcennemeaaGreatZ15
import Derived.Test.YtjapjfcennemeaaGreatZ17
set_option linter.unusedVariables false
set_option linter.unusedSimpArgs false
section
namespace Go.Proofs.YtjapjfcennemeaaGreat.blk
open Go.RowKit Go.Proofs.YtjapjfcennemeaaGreat.mem Go.Proofs.YtjapjfcennemeaaGreat.gro
set_option linter.unusedVariables false
def bkey (b : BlkM) : Int × Int × Int × Int × L3 := (b.t, b.last, b.level, b.num, b.es)
end Go.Proofs.YtjapjfcennemeaaGreat.blk
end
section
namespace Go.Proofs.YtjapjfcennemeaaGreat.wid
open Go.RowKit Go.Proofs.YtjapjfcennemeaaGreat.mem Go.Proofs.YtjapjfcennemeaaGreat.gro
set_option linter.unusedVariables false
theorem neg_parts {a b : Int} (h : a < 0) (hb : 1 ≤ b) : ∃ q r : Int, a.tdiv b = -q ∧ a.tmod b = -r ∧ 0 ≤ q ∧ q ≤ -a ∧ 0 ≤ r ∧ r < b ∧ (r = 0 → a / b = -q ∧ -((-a) / b) = -q) ∧ (r ≠ 0 → a / b = -q - 1 ∧ -((-a) / b) = -q ∧ q + 1 ≤ -a) := by
  refine ⟨(-a) / b, (-a) % b, ?_, ?_, Int.ediv_nonneg (by omega) (by omega), Int.ediv_le_self _ (by omega), Int.emod_nonneg _ (by omega), Int.emod_lt_of_pos _ (by omega), fun h0 => ⟨?_, rfl⟩, fun h0 => ⟨?_, rfl, ?_⟩⟩
  · rw [show a.tdiv b = -((-a).tdiv b) by rw [Int.neg_tdiv, Int.neg_neg], Int.tdiv_eq_ediv_of_nonneg (by omega)]
  · rw [show a.tmod b = -((-a).tmod b) by rw [Int.neg_tmod, Int.neg_neg], Int.tmod_eq_emod_of_nonneg (by omega)]
  · have h1 := Int.mul_ediv_add_emod (-a) b
    rw [h0] at h1
    have : a = b * (-((-a) / b)) := by rw [Int.mul_neg]; omega
    conv => lhs; rw [this]
    exact Int.mul_ediv_cancel_left _ (by omega)
  · have h1 := Int.mul_ediv_add_emod (-a) b
    have h2 := Int.emod_nonneg (-a) (show b ≠ 0 by omega)
    have h3 := Int.emod_lt_of_pos (-a) (show 0 < b by omega)
    generalize (-a) / b = q at *
    generalize (-a) % b = r at *
    have : a = (b - r) + b * (-q - 1) := by rw [Int.mul_sub, Int.mul_neg]; omega
    rw [this, Int.add_mul_ediv_left _ _ (by omega), Int.ediv_eq_zero_of_lt (by omega) (by omega)]
    omega
  · have h1 := Int.mul_ediv_add_emod (-a) b
    have h2 := Int.emod_nonneg (-a) (show b ≠ 0 by omega)
    have h4 := Int.ediv_nonneg (show 0 ≤ -a by omega) (show 0 ≤ b by omega)
    have := Int.mul_le_mul_of_nonneg_right hb h4
    omega
theorem pos_parts {a b : Int} (h : 0 ≤ a) (hb : 1 ≤ b) : 0 ≤ a / b ∧ a / b ≤ a ∧ 0 ≤ a % b ∧ a % b < b ∧ (a % b = 0 → -((-a) / b) = a / b) ∧ (a % b ≠ 0 → -((-a) / b) = a / b + 1 ∧ a / b + 1 ≤ a) := by
  have h1 := Int.mul_ediv_add_emod a b
  have h2 := Int.emod_nonneg a (show b ≠ 0 by omega)
  have h3 := Int.emod_lt_of_pos a (show 0 < b by omega)
  have h4 := Int.ediv_nonneg h (show 0 ≤ b by omega)
  have h5 := Int.mul_le_mul_of_nonneg_right hb h4
  refine ⟨Int.ediv_nonneg h (by omega), Int.ediv_le_self _ h, h2, h3, fun h0 => ?_, fun h0 => ⟨?_, by omega⟩⟩
  · generalize a / b = q at *
    have : -a = b * (-q) := by rw [Int.mul_neg]; omega
    rw [this, Int.mul_ediv_cancel_left _ (by omega)]; omega
  · generalize a / b = q at *
    generalize a % b = r at *
    have : -a = (b - r) + b * (-q - 1) := by rw [Int.mul_sub, Int.mul_neg]; omega
    rw [this, Int.add_mul_ediv_left _ _ (by omega), Int.ediv_eq_zero_of_lt (by omega) (by omega)]
    omega
theorem ret_pair {a b : Int} (h : a = b) : Ending.returned (.tuple #[.int .i64 a, .bool true]) = .returned (.tuple #[.int .i64 b, .bool true]) := by rw [h]
set_option maxHeartbeats 2000000 in
set_option maxRecDepth 100000 in
theorem FloorDivR_any (a b : Int) (ha : -9223372036854775808 ≤ a) (ha2 : a ≤ 9223372036854775807) (hb : 1 ≤ b) (hb2 : b ≤ 9223372036854775807) (w : World) :
    Calls Tryz.prog 99 #[.int .i64 a, .int .i64 b] w fun e w' => e = .returned (.tuple #[.int .i64 (a / b), .bool true]) ∧ w = w' := by
  have hbz : (b == 0) = false := by simp; omega
  have hbm : (b == -1) = false := by simp; omega
  have hbn : decide (b < 0) = false := by simp; omega
  obtain ⟨bm, hm⟩ : ∃ bm, (a == -9223372036854775808) = bm := ⟨_, rfl⟩
  by_cases h0 : 0 ≤ a
  · obtain ⟨q0, q1, r0, r1, k1, k2⟩ := pos_parts h0 hb
    have K1 := Lib.hid k1
    have K2 := Lib.hid k2
    clear k1 k2
    have han : decide (a < 0) = false := by simp; omega
    obtain ⟨V, hV⟩ : ∃ V, a / b = V := ⟨_, rfl⟩
    rw [hV]
    have HV := Lib.hid hV
    clear hV
    by_cases hr : a % b = 0
    · have hr1 : (a % b != 0) = false := by simp [hr]
      have HR := Lib.hid hr
      clear hr
      cases bm
      all_goals (
        go_enter Tryz.func99, Tryz.ntmps99
        go_wp2
        go_ret2
        exact ⟨ret_pair (HV.out), rfl⟩)
    · have hr1 : (a % b != 0) = true := by simp [hr]
      have hbd := (K2.out hr).2
      have HR := Lib.hid hr
      clear hr
      cases bm
      all_goals (
        go_enter Tryz.func99, Tryz.ntmps99
        go_wp2
        go_ret2
        exact ⟨ret_pair (HV.out), rfl⟩)
  · obtain ⟨q, r, e1, e2, q0, q1, r0, r1, k1, k2⟩ := neg_parts (show a < 0 by omega) hb
    have K1 := Lib.hid k1
    have K2 := Lib.hid k2
    clear k1 k2
    have han : decide (a < 0) = true := by simp; omega
    obtain ⟨V, hV⟩ : ∃ V, a / b = V := ⟨_, rfl⟩
    rw [hV]
    have HV := Lib.hid hV
    clear hV
    by_cases hr : r = 0
    · have hr1 : (-r != 0) = false := by simp [hr]
      have HR := Lib.hid hr
      clear hr
      cases bm
      all_goals (
        go_enter Tryz.func99, Tryz.ntmps99
        go_wp2
        go_ret2
        exact ⟨ret_pair (by rw [← HV.out, (K1.out HR.out).1]), rfl⟩)
    · have hr1 : (-r != 0) = true := by simp; omega
      have hbd := (K2.out hr).2.2
      have HR := Lib.hid hr
      clear hr
      cases bm
      all_goals (
        go_enter Tryz.func99, Tryz.ntmps99
        go_wp2
        go_ret2
        exact ⟨ret_pair (by rw [← HV.out, (K2.out HR.out).1]), rfl⟩)
set_option maxHeartbeats 2000000 in
set_option maxRecDepth 100000 in
theorem CeilDiv_any (a b : Int) (ha : -9223372036854775808 ≤ a) (ha2 : a ≤ 9223372036854775807) (hb : 1 ≤ b) (hb2 : b ≤ 9223372036854775807) (w : World) :
    Calls Tryz.prog 82 #[.int .i64 a, .int .i64 b] w fun e w' => e = .returned (.tuple #[.int .i64 (-((-a) / b)), .bool true]) ∧ w = w' := by
  have hbz : (b == 0) = false := by simp; omega
  have hbm : (b == -1) = false := by simp; omega
  have hbn : decide (b < 0) = false := by simp; omega
  obtain ⟨bm, hm⟩ : ∃ bm, (a == -9223372036854775808) = bm := ⟨_, rfl⟩
  by_cases h0 : 0 ≤ a
  · obtain ⟨q0, q1, r0, r1, k1, k2⟩ := pos_parts h0 hb
    have K1 := Lib.hid k1
    have K2 := Lib.hid k2
    clear k1 k2
    have han : decide (a < 0) = false := by simp; omega
    obtain ⟨V, hV⟩ : ∃ V, -((-a) / b) = V := ⟨_, rfl⟩
    rw [hV]
    have HV := Lib.hid hV
    clear hV
    by_cases hr : a % b = 0
    · have hr1 : (a % b != 0) = false := by simp [hr]
      have HR := Lib.hid hr
      clear hr
      cases bm
      all_goals (
        go_enter Tryz.func82, Tryz.ntmps82
        go_wp2
        go_ret2
        exact ⟨ret_pair (by rw [← HV.out, K1.out HR.out]), rfl⟩)
    · have hr1 : (a % b != 0) = true := by simp [hr]
      have hbd := (K2.out hr).2
      have HR := Lib.hid hr
      clear hr
      cases bm
      all_goals (
        go_enter Tryz.func82, Tryz.ntmps82
        go_wp2
        go_ret2
        exact ⟨ret_pair (by rw [← HV.out, (K2.out HR.out).1]), rfl⟩)
  · obtain ⟨q, r, e1, e2, q0, q1, r0, r1, k1, k2⟩ := neg_parts (show a < 0 by omega) hb
    have K1 := Lib.hid k1
    have K2 := Lib.hid k2
    clear k1 k2
    have han : decide (a < 0) = true := by simp; omega
    obtain ⟨V, hV⟩ : ∃ V, -((-a) / b) = V := ⟨_, rfl⟩
    rw [hV]
    have HV := Lib.hid hV
    clear hV
    by_cases hr : r = 0
    · have hr1 : (-r != 0) = false := by simp [hr]
      have HR := Lib.hid hr
      clear hr
      cases bm
      all_goals (
        go_enter Tryz.func82, Tryz.ntmps82
        go_wp2
        go_ret2
        exact ⟨ret_pair (by rw [← HV.out, (K1.out HR.out).2]), rfl⟩)
    · have hr1 : (-r != 0) = true := by simp; omega
      have hbd := (K2.out hr).2.2
      have HR := Lib.hid hr
      clear hr
      cases bm
      all_goals (
        go_enter Tryz.func82, Tryz.ntmps82
        go_wp2
        go_ret2
        exact ⟨ret_pair (by rw [← HV.out, (K2.out HR.out).2.1]), rfl⟩)
end Go.Proofs.YtjapjfcennemeaaGreat.wid
end
section
namespace Go.Proofs.YtjapjfcennemeaaGreat.gro
open Go.RowKit Go.Proofs.YtjapjfcennemeaaGreat.mem
set_option linter.unusedVariables false
section
variable {W : World} {L : List (Nat × TypeId × Array Value)} {g : Nat} {t : TypeId} {x0 x1 x2 x3 x4 x5 u v u0 u1 u2 u3 u4 u5 : Value}
theorem Bx.puti {c : Array Value} (h : Bx W ((g, t, c) :: L)) (hd : ∀ q ∈ L, q.1 ≠ g) (i : Nat) (u : Value) : Bx (W.setCell ⟨g, i, none⟩ u) ((g, t, c.setIfInBounds i u) :: L) :=
  Bx.cons_ (h.head.set_ i u) (h.tail.far (p := ⟨g, i, none⟩) hd u)
theorem Bx.put01 (h : Bx W ((g, t, #[x0, x1, x2, x3, x4, x5]) :: L)) (hd : ∀ q ∈ L, q.1 ≠ g) : Bx ((W.setCell ⟨g, 0, none⟩ u).setCell ⟨g, 1, none⟩ v) ((g, t, #[u, v, x2, x3, x4, x5]) :: L) := by
  have := (h.puti hd 0 u).puti hd 1 v
  simpa using this
theorem Bx.put23 (h : Bx W ((g, t, #[x0, x1, x2, x3, x4, x5]) :: L)) (hd : ∀ q ∈ L, q.1 ≠ g) : Bx ((W.setCell ⟨g, 2, none⟩ u).setCell ⟨g, 3, none⟩ v) ((g, t, #[x0, x1, u, v, x4, x5]) :: L) := by
  have := (h.puti hd 2 u).puti hd 3 v
  simpa using this
theorem Bx.put45 (h : Bx W ((g, t, #[x0, x1, x2, x3, x4, x5]) :: L)) (hd : ∀ q ∈ L, q.1 ≠ g) : Bx ((W.setCell ⟨g, 4, none⟩ u).setCell ⟨g, 5, none⟩ v) ((g, t, #[x0, x1, x2, x3, u, v]) :: L) := by
  have := (h.puti hd 4 u).puti hd 5 v
  simpa using this
theorem Bx.put6 (h : Bx W ((g, t, #[x0, x1, x2, x3, x4, x5]) :: L)) (hd : ∀ q ∈ L, q.1 ≠ g) :
    Bx ((((((W.setCell ⟨g, 0, none⟩ u0).setCell ⟨g, 1, none⟩ u1).setCell ⟨g, 2, none⟩ u2).setCell ⟨g, 3, none⟩ u3).setCell ⟨g, 4, none⟩ u4).setCell ⟨g, 5, none⟩ u5) ((g, t, #[u0, u1, u2, u3, u4, u5]) :: L) :=
  ((h.put01 hd).put23 hd).put45 hd
theorem Bx.far6 (h : Bx W L) (hd : ∀ q ∈ L, q.1 ≠ g) :
    Bx ((((((W.setCell ⟨g, 0, none⟩ u0).setCell ⟨g, 1, none⟩ u1).setCell ⟨g, 2, none⟩ u2).setCell ⟨g, 3, none⟩ u3).setCell ⟨g, 4, none⟩ u4).setCell ⟨g, 5, none⟩ u5) L :=
  (((((h.far (p := ⟨g, 0, none⟩) hd u0).far (p := ⟨g, 1, none⟩) hd u1).far (p := ⟨g, 2, none⟩) hd u2).far (p := ⟨g, 3, none⟩) hd u3).far (p := ⟨g, 4, none⟩) hd u4).far (p := ⟨g, 5, none⟩) hd u5
end
theorem Below.set6 {B : Nat} {W0 W : World} (h : Below B W0 W) {g : Nat} (hg : B ≤ g) (u0 u1 u2 u3 u4 u5 : Value) :
    Below B W0 ((((((W.setCell ⟨g, 0, none⟩ u0).setCell ⟨g, 1, none⟩ u1).setCell ⟨g, 2, none⟩ u2).setCell ⟨g, 3, none⟩ u3).setCell ⟨g, 4, none⟩ u4).setCell ⟨g, 5, none⟩ u5) :=
  (((((h.setCell hg u0).setCell hg u1).setCell hg u2).setCell hg u3).setCell hg u4).setCell hg u5
end Go.Proofs.YtjapjfcennemeaaGreat.gro
end
section
namespace Go.Proofs.YtjapjfcennemeaaGreat.gro
open Go.RowKit Go.Proofs.YtjapjfcennemeaaGreat.mem
set_option linter.unusedVariables false
section
variable {P : Program} {ops : Array Oper} {md : Region.Mode} {Q : Exit → Act → World → Prop} {S : World → Prop} {s : Nat}
def waits (md : Region.Mode) (ops : Array Oper) (s i : Nat) : Bool := match ops[s]? with | some o => o.after.any (fun e => Region.binds md e && e.on == i) | none => false
theorem waits_not {i j : Nat} {listed : Array Bool} (hw : waits md ops s i = true) (hi : i ∈ Region.ready md ops listed) (hj : j ∈ Region.ready md ops listed) : j ≠ s := by
  rintro rfl
  obtain ⟨_, oj, hoj, hall⟩ := mem_ready.1 hj
  unfold waits at hw
  rw [hoj] at hw
  simp only [Array.any_eq_true, Bool.and_eq_true, beq_iff_eq] at hw
  obtain ⟨k, hk, hb, hon⟩ := hw
  have h1 := hall _ (Array.getElem_mem hk) hb
  rw [hon] at h1
  have h0 := (mem_ready.1 hi).1
  rcases Nat.lt_or_ge i listed.size with h' | h'
  · simp [h'] at h0 h1; rw [h0] at h1; cases h1
  · simp [Array.getElem?_eq_none h'] at h1
end
end Go.Proofs.YtjapjfcennemeaaGreat.gro
end
section
namespace Go.Proofs.YtjapjfcennemeaaGreat.gro
open Go.RowKit Go.Proofs.YtjapjfcennemeaaGreat.mem
set_option linter.unusedVariables false
theorem start6 (w : World) (t1 t2 t3 t4 t5 t6 : TypeId) (c1 c2 c3 c4 c5 c6 : Array Value) :
    ∃ W, (((((w.alloc (.cells c1 t1)).alloc (.cells c2 t2)).alloc (.cells c3 t3)).alloc (.cells c4 t4)).alloc (.cells c5 t5)).alloc (.cells c6 t6) = W ∧ W.heap.size = w.heap.size + 1 + 1 + 1 + 1 + 1 + 1 ∧
      Bx W [(w.heap.size + 1 + 1 + 1 + 1 + 1, t6, c6), (w.heap.size + 1 + 1 + 1 + 1, t5, c5), (w.heap.size + 1 + 1 + 1, t4, c4), (w.heap.size + 1 + 1, t3, c3), (w.heap.size + 1, t2, c2), (w.heap.size, t1, c1)] ∧ Below w.heap.size w W := by
  obtain ⟨W, hW, hs, K, B⟩ := start4 w t1 t2 t3 t4 c1 c2 c3 c4
  rw [hW]
  exact ⟨_, rfl, by simp [hs], (K.new hs).new (by simp [hs]), (B.alloc (by omega) _).alloc (by simp; omega) _⟩
end Go.Proofs.YtjapjfcennemeaaGreat.gro
end
