/- Contracts of Add and Sub of rational numbers. -/
import Derived.Test.YtoejhikcnnppnaaSum
namespace Go.Proofs.Ytoejhikcnnppnaa.wid
open Go.RowKit Go.Proofs.Ytoejhikcnnppnaa.mem Go.Proofs.Ytoejhikcnnppnaa.gro
set_option linter.unusedVariables false
set_option maxHeartbeats 2000000 in
set_option maxRecDepth 100000 in
theorem ratAdd_any (n d m e : Int) (hn : I64 n) (hd : I64 d) (hm : I64 m) (he : I64 e) (w : World) :
    Calls Try.prog 36 #[(Value.agg #[Value.int IntKind.i64 (n), Value.int IntKind.i64 ( d)]), (Value.agg #[Value.int IntKind.i64 (m), Value.int IntKind.i64 ( e)])] w fun x w' => x = .returned (.tuple #[(Value.agg #[Value.int IntKind.i64 (sumN n d m e false), Value.int IntKind.i64 ( sumD n d m e false)]), .bool (sumOk n d m e false)]) ∧ Below w.heap.size w w' := by
  have H := Lib.hid (fun W => sum_any n d m e false hn hd hm he W)
  clear hn hd hm he
  generalize sumN n d m e false = yn at *
  generalize sumD n d m e false = yd at *
  generalize sumOk n d m e false = yk at *
  go_enter Try.func36, Try.ntmps36
  go_wp2_with fail
  obtain ⟨W0, hW, hs0, K0, B0⟩ := start3 w 23 23 23 #[Value.int IntKind.i64 (n), Value.int IntKind.i64 (d)] #[Value.int IntKind.i64 (m), Value.int IntKind.i64 (e)] #[Value.int IntKind.i64 (0), Value.int IntKind.i64 (0)]
  rw [hW]
  clear hW
  have KK := Lib.hid K0
  have BB := Lib.hid B0
  have R := K0.rules
  simp only [Rules] at R
  clear K0 B0
  (with_reducible refine (H.out _).mono ?_)
  rintro e wv ⟨rfl, hbv⟩; replace BB := Lib.hid (BB.out.trans (hbv.mono BB.out.size)); replace KK := Lib.hid (KK.out.below hbv); replace R := KK.out.rules; simp only [gro.Rules] at R; clear hbv
  go_wp2
  refine bodyPost_ret (v := Value.tuple #[(Value.agg #[Value.int IntKind.i64 (yn), Value.int IntKind.i64 ( yd)]), Value.bool yk]) (by simp [results, Try.results36, go_sem, R]) rfl ⟨?_, ?_⟩
  · rfl
  · exact (BB.out.setCell (by first | (simp; done) | (simp; omega)) _).setCell (by first | (simp; done) | (simp; omega)) _
set_option maxHeartbeats 2000000 in
set_option maxRecDepth 100000 in
theorem ratSub_any (n d m e : Int) (hn : I64 n) (hd : I64 d) (hm : I64 m) (he : I64 e) (w : World) :
    Calls Try.prog 38 #[(Value.agg #[Value.int IntKind.i64 (n), Value.int IntKind.i64 ( d)]), (Value.agg #[Value.int IntKind.i64 (m), Value.int IntKind.i64 ( e)])] w fun x w' => x = .returned (.tuple #[(Value.agg #[Value.int IntKind.i64 (sumN n d m e true), Value.int IntKind.i64 ( sumD n d m e true)]), .bool (sumOk n d m e true)]) ∧ Below w.heap.size w w' := by
  have H := Lib.hid (fun W => sum_any n d m e true hn hd hm he W)
  clear hn hd hm he
  generalize sumN n d m e true = yn at *
  generalize sumD n d m e true = yd at *
  generalize sumOk n d m e true = yk at *
  go_enter Try.func38, Try.ntmps38
  go_wp2_with fail
  obtain ⟨W0, hW, hs0, K0, B0⟩ := start3 w 23 23 23 #[Value.int IntKind.i64 (n), Value.int IntKind.i64 (d)] #[Value.int IntKind.i64 (m), Value.int IntKind.i64 (e)] #[Value.int IntKind.i64 (0), Value.int IntKind.i64 (0)]
  rw [hW]
  clear hW
  have KK := Lib.hid K0
  have BB := Lib.hid B0
  have R := K0.rules
  simp only [Rules] at R
  clear K0 B0
  (with_reducible refine (H.out _).mono ?_)
  rintro e wv ⟨rfl, hbv⟩; replace BB := Lib.hid (BB.out.trans (hbv.mono BB.out.size)); replace KK := Lib.hid (KK.out.below hbv); replace R := KK.out.rules; simp only [gro.Rules] at R; clear hbv
  go_wp2
  refine bodyPost_ret (v := Value.tuple #[(Value.agg #[Value.int IntKind.i64 (yn), Value.int IntKind.i64 ( yd)]), Value.bool yk]) (by simp [results, Try.results38, go_sem, R]) rfl ⟨?_, ?_⟩
  · rfl
  · exact (BB.out.setCell (by first | (simp; done) | (simp; omega)) _).setCell (by first | (simp; done) | (simp; omega)) _
end Go.Proofs.Ytoejhikcnnppnaa.wid
