/- The law's package stays awake. -/
import Derived.Test.YtoejhikcnnppnaaMake
import Derived.Test.YtoejhikcnnppnaaBnd
namespace Go.Proofs.Ytoejhikcnnppnaa.wid
open Go.RowKit Go.Proofs.Ytoejhikcnnppnaa.mem Go.Proofs.Ytoejhikcnnppnaa.gro
set_option linter.unusedVariables false
set_option maxHeartbeats 2000000 in
set_option maxRecDepth 100000 in
theorem whole36 (w : World) : Calls Try.prog 44 #[.int .i64 3, .int .i64 6] w fun e w' => e = .returned (.tuple #[.agg #[.int .i64 3, .int .i64 1, .int .i64 4, .int .i64 1, .int .i64 6, .int .i64 1], .bool true]) ∧ Below w.heap.size w w' := by
  have H1 := Lib.hid (fun W => ofQ_any 3 W)
  have H2 := Lib.hid (fun W => ofQ_any 4 W)
  have H3 := Lib.hid (fun W => ofQ_any 6 W)
  go_enter Try.func44, Try.ntmps44
  go_wp2_with fail
  obtain ⟨W0, hW, hs0, K0, B0⟩ := start1 w 36 #[Value.int IntKind.i64 0, Value.int IntKind.i64 0, Value.int IntKind.i64 0, Value.int IntKind.i64 0, Value.int IntKind.i64 0, Value.int IntKind.i64 0]
  rw [hW]
  clear hW
  have KK := Lib.hid K0
  have BB := Lib.hid B0
  have R := K0.rules
  simp only [Rules] at R
  clear K0 B0 hs0
  (with_reducible refine (H1.out _).mono ?_)
  rintro e wv ⟨rfl, hbv⟩; replace BB := Lib.hid (BB.out.trans (hbv.mono BB.out.size)); replace KK := Lib.hid (KK.out.below hbv); replace R := KK.out.rules; simp only [gro.Rules] at R; clear hbv
  go_wp2_with fail
  rw [show wrap64 (bits BinOp.and IntKind.i64 3 6 + bits BinOp.xor IntKind.i64 3 6 / 2) = 4 from by kernel_rfl]
  (with_reducible refine (H2.out _).mono ?_)
  rintro e wv ⟨rfl, hbv⟩; replace BB := Lib.hid (BB.out.trans (hbv.mono BB.out.size)); replace KK := Lib.hid (KK.out.below hbv); replace R := KK.out.rules; simp only [gro.Rules] at R; clear hbv
  go_wp2_with fail
  (with_reducible refine (H3.out _).mono ?_)
  rintro e wv ⟨rfl, hbv⟩; replace BB := Lib.hid (BB.out.trans (hbv.mono BB.out.size)); replace KK := Lib.hid (KK.out.below hbv); replace R := KK.out.rules; simp only [gro.Rules] at R; clear hbv
  go_wp2
  refine bodyPost_ret (v := Value.tuple #[.agg #[.int .i64 3, .int .i64 1, .int .i64 4, .int .i64 1, .int .i64 6, .int .i64 1], .bool true]) (by simp [results, Try.results44, go_sem, R]) rfl ⟨?_, ?_⟩
  · rfl
  · first | exact (((((BB.out.setCell (by first | (simp; done) | (simp; omega)) _).setCell (by first | (simp; done) | (simp; omega)) _).setCell (by first | (simp; done) | (simp; omega)) _).setCell (by first | (simp; done) | (simp; omega)) _).setCell (by first | (simp; done) | (simp; omega)) _).setCell (by first | (simp; done) | (simp; omega)) _
set_option maxHeartbeats 2000000 in
set_option maxRecDepth 100000 in
theorem awake4_any (w : World) : Calls Try.prog 41 #[] w fun e w' => e = .returned (.bool true) ∧ Below w.heap.size w w' := by
  have H := Lib.hid (fun W => whole36 W)
  go_enter Try.func41, Try.ntmps41
  go_wp2_with fail
  (with_reducible refine (H.out _).mono ?_)
  rintro e w1 ⟨rfl, hb⟩
  go_wp2
  go_ret
  exact ⟨rfl, hb.alloc hb.size _⟩
end Go.Proofs.Ytoejhikcnnppnaa.wid
