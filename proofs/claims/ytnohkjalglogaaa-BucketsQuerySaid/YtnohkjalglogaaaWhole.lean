/- Contract of Whole in the code: bounds of two whole numbers. -/
import Derived.Test.YtnohkjalglogaaaMake
import Derived.Test.YtnohkjalglogaaaMeanL
namespace Go.Proofs.Ytnohkjalglogaaa.wid
open Go.RowKit Go.Proofs.Ytnohkjalglogaaa.mem Go.Proofs.Ytnohkjalglogaaa.gro
set_option linter.unusedVariables false
def whl (x y : Int) (v : Int) : Int := if x ≤ y then v else 0
set_option maxHeartbeats 2000000 in
set_option maxRecDepth 100000 in
theorem WholeB_any (x y : Int) (hx : I64 x) (hy : I64 y) (w : World) : Calls Try.prog 50 #[.int .i64 x, .int .i64 y] w fun e w' => e = .returned (.tuple #[.agg #[.int .i64 (whl x y x), .int .i64 (whl x y 1), .int .i64 (whl x y ((x + y) / 2)), .int .i64 (whl x y 1), .int .i64 (whl x y y), .int .i64 (whl x y 1)], .bool (decide (x ≤ y))]) ∧ Below w.heap.size w w' := by
  have H1 := Lib.hid (fun W => ofQ_any x W)
  have H2 := Lib.hid (fun W => ofQ_any ((x + y) / 2) W)
  have H3 := Lib.hid (fun W => ofQ_any y W)
  have hm := bits_mean hx hy
  have hw : IntKind.i64.wrap ((x + y) / 2) = (x + y) / 2 := IntWalk.i64_in _ (by unfold I64 at hx hy; omega)
  clear hx hy
  by_cases hle : x ≤ y
  · have q : ∀ v, whl x y v = v := fun v => if_pos hle
    rw [q, q, q, q, decide_eq_true hle]
    have hgt : decide (y < x) = false := decide_eq_false (by omega)
    clear q hle
    generalize (x + y) / 2 = m at *
    go_enter Try.func50, Try.ntmps50
    go_wp2_with fail
    obtain ⟨W0, hW, hs0, K0, B0⟩ := start1 w 49 #[Value.int IntKind.i64 0, Value.int IntKind.i64 0, Value.int IntKind.i64 0, Value.int IntKind.i64 0, Value.int IntKind.i64 0, Value.int IntKind.i64 0]
    rw [hW]
    clear hW
    have KK := Lib.hid K0
    have BB := Lib.hid B0
    have R := K0.rules
    simp only [Rules] at R
    clear K0 B0 hs0
    (with_reducible refine (H1.out _).mono ?_)
    rintro e wv ⟨rfl, hbv⟩; replace BB := Lib.hid (BB.out.trans (hbv.mono BB.out.size)); replace KK := Lib.hid (KK.out.below hbv); replace R := KK.out.rules; simp only [gro.Rules] at R; clear hbv
    go_wp2_with fail
    (refine (H2.out _).mono ?_)
    rintro e wv ⟨rfl, hbv⟩; replace BB := Lib.hid (BB.out.trans (hbv.mono BB.out.size)); replace KK := Lib.hid (KK.out.below hbv); replace R := KK.out.rules; simp only [gro.Rules] at R; clear hbv
    go_wp2_with fail
    (with_reducible refine (H3.out _).mono ?_)
    rintro e wv ⟨rfl, hbv⟩; replace BB := Lib.hid (BB.out.trans (hbv.mono BB.out.size)); replace KK := Lib.hid (KK.out.below hbv); replace R := KK.out.rules; simp only [gro.Rules] at R; clear hbv
    go_wp2
    refine bodyPost_ret (v := Value.tuple #[.agg #[.int .i64 x, .int .i64 1, .int .i64 m, .int .i64 1, .int .i64 y, .int .i64 1], .bool true]) (by simp [results, Try.results50, go_sem, R]) rfl ⟨?_, ?_⟩
    · rfl
    · exact (((((BB.out.setCell (by first | (simp; done) | (simp; omega)) _).setCell (by first | (simp; done) | (simp; omega)) _).setCell (by first | (simp; done) | (simp; omega)) _).setCell (by first | (simp; done) | (simp; omega)) _).setCell (by first | (simp; done) | (simp; omega)) _).setCell (by first | (simp; done) | (simp; omega)) _
  · have q : ∀ v, whl x y v = 0 := fun v => if_neg hle
    rw [q, q, q, q, decide_eq_false hle]
    have hgt : decide (y < x) = true := decide_eq_true (by omega)
    clear q hle H1 H2 H3 hm hw
    go_enter Try.func50, Try.ntmps50
    go_wp2_with fail
    obtain ⟨W0, hW, hs0, K0, B0⟩ := start1 w 49 #[Value.int IntKind.i64 0, Value.int IntKind.i64 0, Value.int IntKind.i64 0, Value.int IntKind.i64 0, Value.int IntKind.i64 0, Value.int IntKind.i64 0]
    rw [hW]
    clear hW
    have R := K0.rules
    simp only [Rules] at R
    go_wp2
    refine bodyPost_ret (v := Value.tuple #[.agg #[.int .i64 0, .int .i64 0, .int .i64 0, .int .i64 0, .int .i64 0, .int .i64 0], .bool false]) (by simp [results, Try.results50, go_sem, R]) rfl ⟨?_, ?_⟩
    · rfl
    · first | exact B0 | exact (((((B0.setCell (by first | (simp; done) | (simp; omega)) _).setCell (by first | (simp; done) | (simp; omega)) _).setCell (by first | (simp; done) | (simp; omega)) _).setCell (by first | (simp; done) | (simp; omega)) _).setCell (by first | (simp; done) | (simp; omega)) _).setCell (by first | (simp; done) | (simp; omega)) _
end Go.Proofs.Ytnohkjalglogaaa.wid
