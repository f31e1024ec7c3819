/- QRunB, QRank: proved here in one text, no conditions beyond those that each theorem states. -/
import Derived.Test.YtjapjfcennemeaaZ47
import Derived.Test.YtjapjfcennemeaaZ46
set_option linter.unusedVariables false
set_option linter.unusedSimpArgs false
section
namespace Go.Proofs.Ytjapjfcennemeaa.qtl
open Go.RowKit Go.Proofs.Ytjapjfcennemeaa.mem Go.Proofs.Ytjapjfcennemeaa.gro Go.Proofs.Ytjapjfcennemeaa.rnk Go.Proofs.Ytjapjfcennemeaa.buk Go.Proofs.Ytjapjfcennemeaa.blk
set_option linter.unusedVariables false
set_option linter.unusedSimpArgs false
set_option pp.maxSteps 200000
def Off (g n : Nat) (A : Option Addr) (ys : List BlkM) : Prop :=
  (0 < n → ∀ ad, A = some ad → ad.block ≠ g) ∧ ∀ y ∈ ys, 0 < y.en → ∀ ad, y.adr = some ad → ad.block ≠ g
section
variable {W w w1 : World} {L : List (Nat × TypeId × Array Value)} {g B n m c : Nat} {t : TypeId} {x0 x1 x2 x3 x4 : Value} {A : Option Addr} {ys : List BlkM} {zs : List (Int × Int)} {k p v now : Int} {its : Its}
theorem off_old (h : BRead W W.heap.size A n ys) : Off W.heap.size n A ys :=
  ⟨fun h0 ad e => by have := rnk.Reads.blk h.1 h0 ad e; omega, fun y hy h0 ad e => by have := rnk.Reads.blk (h.2 y hy).1 h0 ad e; omega⟩
theorem PRead.off {A : Option Addr} (h : PRead W W.heap.size A n zs) : 0 < n → ∀ ad, A = some ad → ad.block ≠ W.heap.size := fun h0 ad e => by have := rnk.Reads.blk h h0 ad e; omega
theorem putN (u0 u1 u2 u3 u4 : Value) (K : Bx W ((g, t, #[x0, x1, x2, x3, x4]) :: L)) (hd : ∀ q ∈ L, q.1 ≠ g) (BB : Below B w W) (hg : B ≤ g) :
    ∃ W', ((((W.setCell ⟨g, 0, none⟩ u0).setCell ⟨g, 1, none⟩ u1).setCell ⟨g, 2, none⟩ u2).setCell ⟨g, 3, none⟩ u3).setCell ⟨g, 4, none⟩ u4 = W' ∧ Bx W' ((g, t, #[u0, u1, u2, u3, u4]) :: L) ∧ Below B w W' ∧ W'.heap.size = W.heap.size ∧
      (∀ A n ys, BRead W W.heap.size A n ys → Off g n A ys → BRead W' W'.heap.size A n ys) ∧ ∀ A n zs, PRead W W.heap.size A n zs → (0 < n → ∀ ad, A = some ad → ad.block ≠ g) → PRead W' W'.heap.size A n zs := by
  refine ⟨_, rfl, Bx.put5q K hd, ((((BB.setCell (p := ⟨g, 0, none⟩) hg _).setCell (p := ⟨g, 1, none⟩) hg _).setCell (p := ⟨g, 2, none⟩) hg _).setCell (p := ⟨g, 3, none⟩) hg _).setCell (p := ⟨g, 4, none⟩) hg _, by simp [World.setCell], fun A n ys h hc => ?_, fun A n zs h hf => ?_⟩
  · have h1 : ∀ i : Nat, 0 < n → ∀ ad, A = some ad → ad.block ≠ (⟨g, i, none⟩ : Addr).block := fun i => hc.1
    have h2 : ∀ i : Nat, ∀ y ∈ ys, 0 < y.en → ∀ ad, y.adr = some ad → ad.block ≠ (⟨g, i, none⟩ : Addr).block := fun i => hc.2
    have key := BRead.far (BRead.far (BRead.far (BRead.far (BRead.far h ⟨g, 0, none⟩ (h1 0) (h2 0) u0) ⟨g, 1, none⟩ (h1 1) (h2 1) u1) ⟨g, 2, none⟩ (h1 2) (h2 2) u2) ⟨g, 3, none⟩ (h1 3) (h2 3) u3) ⟨g, 4, none⟩ (h1 4) (h2 4) u4
    exact key.more (by simp [World.setCell])
  · have key := rnk.Reads.far (rnk.Reads.far (rnk.Reads.far (rnk.Reads.far (rnk.Reads.far h ⟨g, 0, none⟩ hf u0) ⟨g, 1, none⟩ hf u1) ⟨g, 2, none⟩ hf u2) ⟨g, 3, none⟩ hf u3) ⟨g, 4, none⟩ hf u4
    exact mem.Reads.more key (by simp [World.setCell])
theorem adv_off (T : Int) (HR : RunQ (ys.map bkey) k p v now its) (hl : its.length ≤ 400) (h1 : BRead W W.heap.size A n ys) (hnc : n ≤ c) (hcm : c ≤ 9223372036854775807) (hc : Off g n A ys) (hg : g < W.heap.size) (hT : now ≤ T ∧ T ≤ 16777216) :
    Calls Try.prog 53 #[.agg #[.int .i64 v, .int .i64 k, .int .i64 p, .int .i64 now, .slice A n c], .int .i64 T] W (fun e w' => ∃ A m c ys, e = .returned (.tuple #[.agg #[.int .i64 v, .int .i64 k, .int .i64 p, .int .i64 T, .slice A m c], .int .i64 0]) ∧ m ≤ c ∧ c ≤ 9223372036854775807 ∧ BRead w' w'.heap.size A m ys ∧ RunQ (ys.map bkey) k p v T its ∧ Off g m A ys ∧ Below W.heap.size W w') := by
  obtain ⟨e1, h2⟩ := HR.adv hT.1 hT.2
  have h3 := run_len HR hl h1
  refine (AdvanceQ_any (fun b => b ≠ g) v k p now T A n c ys W h1 hnc hcm (by omega) (by have := HR.hp; omega) hc.2).mono ?_
  rintro e w' ⟨A', m, c', zs, e2, q1, q2, q3, q4, q5, q6, q7⟩
  rw [e1] at e2 q4
  refine ⟨A', m, c', zs, e2, q1, q2, q3, ?_, ⟨fun _ ad e => ?_, fun y hy h0 ad e => ?_⟩, q5⟩
  · rw [q4]; exact h2
  · rcases q6 ad e with h | h
    · exact h
    · omega
  · rcases q7 y hy h0 ad e with h | h
    · exact h
    · omega
end
end Go.Proofs.Ytjapjfcennemeaa.qtl
end
section
namespace Go.Proofs.Ytjapjfcennemeaa.qtl
open Go.RowKit Go.Proofs.Ytjapjfcennemeaa.mem Go.Proofs.Ytjapjfcennemeaa.gro Go.Proofs.Ytjapjfcennemeaa.rnk Go.Proofs.Ytjapjfcennemeaa.buk Go.Proofs.Ytjapjfcennemeaa.blk
set_option linter.unusedVariables false
set_option linter.unusedSimpArgs false
set_option pp.maxSteps 200000
set_option maxHeartbeats 8000000 in
set_option maxRecDepth 100000 in
theorem RankQ_run (v k p o y lo hi : Int) (A : Option Addr) (n c : Nat) (xs : List BlkM) (its : Its) (w : World) (HR : RunQ (xs.map bkey) k p v o its) (hl : its.length ≤ 400) (h1 : BRead w w.heap.size A n xs) (hnc : n ≤ c) (hcm : c ≤ maxLen) (hr : rkK (xs.map bkey) y = bnd6 lo hi) (he : (sureK (xs.map bkey)).2 = 0) :
    Calls Try.prog 62 #[(Value.agg #[.int .i64 v, .int .i64 k, .int .i64 p, .int .i64 o, .slice A n c]), .int .i64 y] w fun e w' => e = .returned (.tuple #[.agg #[.int .i64 lo, .int .i64 1, .int .i64 ((lo + hi) / 2), .int .i64 1, .int .i64 hi, .int .i64 1], .int .i64 0]) ∧ Below w.heap.size w w' := by
  have hln := run_len HR hl h1
  have HV := Lib.hid (fun W (hb : Below w.heap.size w W) => ValidateQ_any v k p o A n c xs W ((h1.below hb).more hb.size) (by omega) (by have := HR.hp; omega))
  have HQ := Lib.hid (fun W (hbl : Below w.heap.size w W) => RkB_any A n c xs y W ((h1.below hbl).more hbl.size) (by omega) hnc hcm (fun _ => hln.2))
  rw [HR.fit, okE_t] at HV
  rw [hr, he] at HQ
  simp only [bnd6] at HQ
  clear h1 hr he HR hln
  generalize (lo + hi) / 2 = md at *
  go_enter Try.func62, Try.ntmps62
  go_wp2_with fail
  obtain ⟨W0, hW, hs0, K0, B0⟩ := start2 w 70 55 #[Value.int IntKind.i64 v, Value.int IntKind.i64 k, Value.int IntKind.i64 p, Value.int IntKind.i64 o, Value.slice A n c] #[Value.int IntKind.i64 0, Value.int IntKind.i64 0, Value.int IntKind.i64 0, Value.int IntKind.i64 0, Value.int IntKind.i64 0, Value.int IntKind.i64 0]
  rw [hW]
  clear hW
  have KK := Lib.hid K0
  have BB := Lib.hid B0
  have R := K0.rules
  simp only [Rules] at R
  clear K0 B0 hs0
  (with_reducible refine (HV.out _ BB.out).mono ?_)
  rintro e wv ⟨rfl, hbv⟩; replace BB := Lib.hid (BB.out.trans (hbv.mono BB.out.size)); replace KK := Lib.hid (KK.out.below hbv); replace R := KK.out.rules; simp only [gro.Rules] at R; clear hbv
  go_wp2_with fail
  refine (HQ.out _ BB.out).mono ?_
  rintro e wv ⟨rfl, hbv⟩; replace BB := Lib.hid (BB.out.trans (hbv.mono BB.out.size)); replace KK := Lib.hid (KK.out.below hbv); replace R := KK.out.rules; simp only [gro.Rules] at R; clear hbv
  go_wp2
  refine bodyPost_ret (v := Value.tuple #[.agg #[.int .i64 lo, .int .i64 1, .int .i64 md, .int .i64 1, .int .i64 hi, .int .i64 1], .int .i64 0]) (by simp [results, Try.results62, go_sem, R]) rfl ⟨rfl, ?_⟩
  exact Below.set6 BB.out (by omega) _ _ _ _ _ _
end Go.Proofs.Ytjapjfcennemeaa.qtl
end
