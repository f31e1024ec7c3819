/- Contracts of Floor, Ceil, Compare of rational numbers, in the code and in the reference; of the statements' awake. -/
import Derived.Test.YtoejhikcnnppnaaRat
import Derived.Test.YtoejhikcnnppnaaFloor
namespace Go.Proofs.Ytoejhikcnnppnaa.wid
open Go.RowKit Go.Proofs.Ytoejhikcnnppnaa.mem Go.Proofs.Ytoejhikcnnppnaa.gro
set_option linter.unusedVariables false
def floorQ (n d : Int) : Int := if validQ n d = true then n / d else 0
def ceilQ (n d : Int) : Int := if validQ n d = true then -((-n) / d) else 0
def cmpQ (n d m e : Int) : Int := if validQ n d = true ∧ validQ m e = true then cmpZ (n * e) (m * d) else 0
set_option maxHeartbeats 1000000 in
theorem Floor_any (n d : Int) (hn : I64 n) (hd : I64 d) (w : World) :
    Calls Try.prog 22 #[(Value.agg #[Value.int IntKind.i64 (n), Value.int IntKind.i64 ( d)])] w fun e w' => e = .returned (.int .i64 (floorQ n d)) ∧ Below w.heap.size w w' := by
  have HV := Lib.hid (fun W => Valid_any n d hn hd W)
  by_cases hv : validQ n d = true
  · rw [hv] at HV
    have hq : Hid (floorQ n d = n / d) := if_pos hv
    have hd1 := (validQ_iff.1 hv).1
    have HF := Lib.hid (fun W => FloorDiv_any n d hn.1 hn.2 hd1 hd.2 W)
    generalize n / d = q at *
    clear hv hn hd hd1
    go_enter Try.func22, Try.ntmps22
    go_wp2_with fail
    obtain ⟨W0, hW, hs0, K0, B0⟩ := start1 w 23 #[Value.int IntKind.i64 n, Value.int IntKind.i64 d]
    rw [hW]
    clear hW
    have KK := Lib.hid K0
    have BB := Lib.hid B0
    have R := K0.rules
    simp only [Rules] at R
    clear K0 B0
    go_wp2_with (first | (go_at_call 19; refine (HV.out _).mono ?_; rintro e wv ⟨rfl, hbv⟩; replace BB := Lib.hid (BB.out.trans (hbv.mono BB.out.size)); replace KK := Lib.hid (KK.out.below hbv); replace R := KK.out.rules; simp only [gro.Rules] at R; clear hbv) | (go_at_call 60; refine (HF.out _).mono ?_; rintro e w3 ⟨rfl, rfl⟩))
    go_ret
    exact ⟨ret_int hq.out.symm, BB.out⟩
  · have hq : Hid (floorQ n d = 0) := if_neg hv
    rw [show validQ n d = false by simpa using hv] at HV
    clear hv hn hd
    go_enter Try.func22, Try.ntmps22
    go_wp2_with fail
    obtain ⟨W0, hW, hs0, K0, B0⟩ := start1 w 23 #[Value.int IntKind.i64 n, Value.int IntKind.i64 d]
    rw [hW]
    clear hW
    have KK := Lib.hid K0
    have BB := Lib.hid B0
    have R := K0.rules
    simp only [Rules] at R
    clear K0 B0
    go_wp2_with (go_at_call 19; refine (HV.out _).mono ?_; rintro e wv ⟨rfl, hbv⟩; replace BB := Lib.hid (BB.out.trans (hbv.mono BB.out.size)); replace KK := Lib.hid (KK.out.below hbv); replace R := KK.out.rules; simp only [gro.Rules] at R; clear hbv)
    go_ret
    exact ⟨ret_int hq.out.symm, BB.out⟩
set_option maxHeartbeats 1000000 in
theorem FloorR_any (n d : Int) (hn : I64 n) (hd : I64 d) (w : World) :
    Calls Try.prog 23 #[(Value.agg #[Value.int IntKind.i64 (n), Value.int IntKind.i64 ( d)])] w fun e w' => e = .returned (.int .i64 (floorQ n d)) ∧ Below w.heap.size w w' := by
  have HV := Lib.hid (fun W => ValidR_any n d hn hd W)
  by_cases hv : validQ n d = true
  · rw [hv] at HV
    have hq : Hid (floorQ n d = n / d) := if_pos hv
    have hd1 := (validQ_iff.1 hv).1
    have HF := Lib.hid (fun W => FloorDivR_any n d hn.1 hn.2 hd1 hd.2 W)
    generalize n / d = q at *
    clear hv hn hd hd1
    go_enter Try.func23, Try.ntmps23
    go_wp2_with fail
    obtain ⟨W0, hW, hs0, K0, B0⟩ := start1 w 23 #[Value.int IntKind.i64 n, Value.int IntKind.i64 d]
    rw [hW]
    clear hW
    have KK := Lib.hid K0
    have BB := Lib.hid B0
    have R := K0.rules
    simp only [Rules] at R
    clear K0 B0
    go_wp2_with (first | (go_at_call 20; refine (HV.out _).mono ?_; rintro e wv ⟨rfl, hbv⟩; replace BB := Lib.hid (BB.out.trans (hbv.mono BB.out.size)); replace KK := Lib.hid (KK.out.below hbv); replace R := KK.out.rules; simp only [gro.Rules] at R; clear hbv) | (go_at_call 61; refine (HF.out _).mono ?_; rintro e w3 ⟨rfl, rfl⟩))
    go_ret
    exact ⟨ret_int hq.out.symm, BB.out⟩
  · have hq : Hid (floorQ n d = 0) := if_neg hv
    rw [show validQ n d = false by simpa using hv] at HV
    clear hv hn hd
    go_enter Try.func23, Try.ntmps23
    go_wp2_with fail
    obtain ⟨W0, hW, hs0, K0, B0⟩ := start1 w 23 #[Value.int IntKind.i64 n, Value.int IntKind.i64 d]
    rw [hW]
    clear hW
    have KK := Lib.hid K0
    have BB := Lib.hid B0
    have R := K0.rules
    simp only [Rules] at R
    clear K0 B0
    go_wp2_with (go_at_call 20; refine (HV.out _).mono ?_; rintro e wv ⟨rfl, hbv⟩; replace BB := Lib.hid (BB.out.trans (hbv.mono BB.out.size)); replace KK := Lib.hid (KK.out.below hbv); replace R := KK.out.rules; simp only [gro.Rules] at R; clear hbv)
    go_ret
    exact ⟨ret_int hq.out.symm, BB.out⟩
set_option maxHeartbeats 1000000 in
theorem Ceil_any (n d : Int) (hn : I64 n) (hd : I64 d) (w : World) :
    Calls Try.prog 24 #[(Value.agg #[Value.int IntKind.i64 (n), Value.int IntKind.i64 ( d)])] w fun e w' => e = .returned (.int .i64 (ceilQ n d)) ∧ Below w.heap.size w w' := by
  have HV := Lib.hid (fun W => Valid_any n d hn hd W)
  by_cases hv : validQ n d = true
  · rw [hv] at HV
    have hq : Hid (ceilQ n d = -((-n) / d)) := if_pos hv
    have hd1 := (validQ_iff.1 hv).1
    have HF := Lib.hid (fun W => CeilDiv_any n d hn.1 hn.2 hd1 hd.2 W)
    generalize -((-n) / d) = q at *
    clear hv hn hd hd1
    go_enter Try.func24, Try.ntmps24
    go_wp2_with fail
    obtain ⟨W0, hW, hs0, K0, B0⟩ := start1 w 23 #[Value.int IntKind.i64 n, Value.int IntKind.i64 d]
    rw [hW]
    clear hW
    have KK := Lib.hid K0
    have BB := Lib.hid B0
    have R := K0.rules
    simp only [Rules] at R
    clear K0 B0
    go_wp2_with (first | (go_at_call 19; refine (HV.out _).mono ?_; rintro e wv ⟨rfl, hbv⟩; replace BB := Lib.hid (BB.out.trans (hbv.mono BB.out.size)); replace KK := Lib.hid (KK.out.below hbv); replace R := KK.out.rules; simp only [gro.Rules] at R; clear hbv) | (go_at_call 62; refine (HF.out _).mono ?_; rintro e w3 ⟨rfl, rfl⟩))
    go_ret
    exact ⟨ret_int hq.out.symm, BB.out⟩
  · have hq : Hid (ceilQ n d = 0) := if_neg hv
    rw [show validQ n d = false by simpa using hv] at HV
    clear hv hn hd
    go_enter Try.func24, Try.ntmps24
    go_wp2_with fail
    obtain ⟨W0, hW, hs0, K0, B0⟩ := start1 w 23 #[Value.int IntKind.i64 n, Value.int IntKind.i64 d]
    rw [hW]
    clear hW
    have KK := Lib.hid K0
    have BB := Lib.hid B0
    have R := K0.rules
    simp only [Rules] at R
    clear K0 B0
    go_wp2_with (go_at_call 19; refine (HV.out _).mono ?_; rintro e wv ⟨rfl, hbv⟩; replace BB := Lib.hid (BB.out.trans (hbv.mono BB.out.size)); replace KK := Lib.hid (KK.out.below hbv); replace R := KK.out.rules; simp only [gro.Rules] at R; clear hbv)
    go_ret
    exact ⟨ret_int hq.out.symm, BB.out⟩
set_option maxHeartbeats 1000000 in
theorem CeilR_any (n d : Int) (hn : I64 n) (hd : I64 d) (w : World) :
    Calls Try.prog 25 #[(Value.agg #[Value.int IntKind.i64 (n), Value.int IntKind.i64 ( d)])] w fun e w' => e = .returned (.int .i64 (ceilQ n d)) ∧ Below w.heap.size w w' := by
  have HV := Lib.hid (fun W => ValidR_any n d hn hd W)
  by_cases hv : validQ n d = true
  · rw [hv] at HV
    have hq : Hid (ceilQ n d = -((-n) / d)) := if_pos hv
    have hd1 := (validQ_iff.1 hv).1
    have HF := Lib.hid (fun W => CeilDivR_any n d hn.1 hn.2 hd1 hd.2 W)
    generalize -((-n) / d) = q at *
    clear hv hn hd hd1
    go_enter Try.func25, Try.ntmps25
    go_wp2_with fail
    obtain ⟨W0, hW, hs0, K0, B0⟩ := start1 w 23 #[Value.int IntKind.i64 n, Value.int IntKind.i64 d]
    rw [hW]
    clear hW
    have KK := Lib.hid K0
    have BB := Lib.hid B0
    have R := K0.rules
    simp only [Rules] at R
    clear K0 B0
    go_wp2_with (first | (go_at_call 20; refine (HV.out _).mono ?_; rintro e wv ⟨rfl, hbv⟩; replace BB := Lib.hid (BB.out.trans (hbv.mono BB.out.size)); replace KK := Lib.hid (KK.out.below hbv); replace R := KK.out.rules; simp only [gro.Rules] at R; clear hbv) | (go_at_call 63; refine (HF.out _).mono ?_; rintro e w3 ⟨rfl, rfl⟩))
    go_ret
    exact ⟨ret_int hq.out.symm, BB.out⟩
  · have hq : Hid (ceilQ n d = 0) := if_neg hv
    rw [show validQ n d = false by simpa using hv] at HV
    clear hv hn hd
    go_enter Try.func25, Try.ntmps25
    go_wp2_with fail
    obtain ⟨W0, hW, hs0, K0, B0⟩ := start1 w 23 #[Value.int IntKind.i64 n, Value.int IntKind.i64 d]
    rw [hW]
    clear hW
    have KK := Lib.hid K0
    have BB := Lib.hid B0
    have R := K0.rules
    simp only [Rules] at R
    clear K0 B0
    go_wp2_with (go_at_call 20; refine (HV.out _).mono ?_; rintro e wv ⟨rfl, hbv⟩; replace BB := Lib.hid (BB.out.trans (hbv.mono BB.out.size)); replace KK := Lib.hid (KK.out.below hbv); replace R := KK.out.rules; simp only [gro.Rules] at R; clear hbv)
    go_ret
    exact ⟨ret_int hq.out.symm, BB.out⟩
set_option maxHeartbeats 2000000 in
theorem CompareQ_any (n d m e : Int) (hn : I64 n) (hd : I64 d) (hm : I64 m) (he : I64 e) (w : World) :
    Calls Try.prog 34 #[(Value.agg #[Value.int IntKind.i64 (n), Value.int IntKind.i64 ( d)]), (Value.agg #[Value.int IntKind.i64 (m), Value.int IntKind.i64 ( e)])] w fun x w' => x = .returned (.int .i64 (cmpQ n d m e)) ∧ Below w.heap.size w w' := by
  have HV := Lib.hid (fun W => Valid_any n d hn hd W)
  have HU := Lib.hid (fun W => Valid_any m e hm he W)
  have HX := Lib.hid (fun W => Cross_any n e m d hn he hm hd W)
  obtain ⟨v, hv⟩ : ∃ v, validQ n d = v := ⟨_, rfl⟩
  obtain ⟨u, hu⟩ : ∃ u, validQ m e = u := ⟨_, rfl⟩
  have hq : Hid (cmpQ n d m e = if v = true ∧ u = true then cmpZ (n * e) (m * d) else 0) := by rw [← hv, ← hu]; rfl
  rw [hv] at HV
  rw [hu] at HU
  generalize cmpZ (n * e) (m * d) = c at *
  clear hv hu hn hd hm he
  cases v <;> cases u <;> (
    go_enter Try.func34, Try.ntmps34
    go_wp2_with fail
    obtain ⟨W0, hW, hs0, K0, B0⟩ := start2 w 23 23 #[Value.int IntKind.i64 n, Value.int IntKind.i64 d] #[Value.int IntKind.i64 m, Value.int IntKind.i64 e]
    rw [hW]
    clear hW
    have KK := Lib.hid K0
    have BB := Lib.hid B0
    have R := K0.rules
    simp only [Rules] at R
    clear K0 B0
    go_wp2_with (first | (go_at_call 19; first | ((with_reducible refine (HV.out _).mono ?_); rintro e wv ⟨rfl, hbv⟩; replace BB := Lib.hid (BB.out.trans (hbv.mono BB.out.size)); replace KK := Lib.hid (KK.out.below hbv); replace R := KK.out.rules; simp only [gro.Rules] at R; clear hbv) | ((with_reducible refine (HU.out _).mono ?_); rintro e wv ⟨rfl, hbv⟩; replace BB := Lib.hid (BB.out.trans (hbv.mono BB.out.size)); replace KK := Lib.hid (KK.out.below hbv); replace R := KK.out.rules; simp only [gro.Rules] at R; clear hbv)) | (go_at_call 68; refine (HX.out _).mono ?_; rintro e wv ⟨rfl, hbv⟩; replace BB := Lib.hid (BB.out.trans (hbv.mono BB.out.size)); replace KK := Lib.hid (KK.out.below hbv); replace R := KK.out.rules; simp only [gro.Rules] at R; clear hbv))
    go_ret
    exact ⟨ret_int (by rw [hq.out]; simp), BB.out⟩)
set_option maxHeartbeats 2000000 in
theorem CompareQR_any (n d m e : Int) (hn : I64 n) (hd : I64 d) (hm : I64 m) (he : I64 e) (w : World) :
    Calls Try.prog 35 #[(Value.agg #[Value.int IntKind.i64 (n), Value.int IntKind.i64 ( d)]), (Value.agg #[Value.int IntKind.i64 (m), Value.int IntKind.i64 ( e)])] w fun x w' => x = .returned (.int .i64 (cmpQ n d m e)) ∧ Below w.heap.size w w' := by
  have HV := Lib.hid (fun W => ValidR_any n d hn hd W)
  have HU := Lib.hid (fun W => ValidR_any m e hm he W)
  have HX := Lib.hid (fun W => CrossR_any n e m d hn he hm hd W)
  obtain ⟨v, hv⟩ : ∃ v, validQ n d = v := ⟨_, rfl⟩
  obtain ⟨u, hu⟩ : ∃ u, validQ m e = u := ⟨_, rfl⟩
  have hq : Hid (cmpQ n d m e = if v = true ∧ u = true then cmpZ (n * e) (m * d) else 0) := by rw [← hv, ← hu]; rfl
  rw [hv] at HV
  rw [hu] at HU
  generalize cmpZ (n * e) (m * d) = c at *
  clear hv hu hn hd hm he
  cases v <;> cases u <;> (
    go_enter Try.func35, Try.ntmps35
    go_wp2_with fail
    obtain ⟨W0, hW, hs0, K0, B0⟩ := start2 w 23 23 #[Value.int IntKind.i64 n, Value.int IntKind.i64 d] #[Value.int IntKind.i64 m, Value.int IntKind.i64 e]
    rw [hW]
    clear hW
    have KK := Lib.hid K0
    have BB := Lib.hid B0
    have R := K0.rules
    simp only [Rules] at R
    clear K0 B0
    go_wp2_with (first | (go_at_call 20; first | ((with_reducible refine (HV.out _).mono ?_); rintro e wv ⟨rfl, hbv⟩; replace BB := Lib.hid (BB.out.trans (hbv.mono BB.out.size)); replace KK := Lib.hid (KK.out.below hbv); replace R := KK.out.rules; simp only [gro.Rules] at R; clear hbv) | ((with_reducible refine (HU.out _).mono ?_); rintro e wv ⟨rfl, hbv⟩; replace BB := Lib.hid (BB.out.trans (hbv.mono BB.out.size)); replace KK := Lib.hid (KK.out.below hbv); replace R := KK.out.rules; simp only [gro.Rules] at R; clear hbv)) | (go_at_call 69; refine (HX.out _).mono ?_; rintro e wv ⟨rfl, hbv⟩; replace BB := Lib.hid (BB.out.trans (hbv.mono BB.out.size)); replace KK := Lib.hid (KK.out.below hbv); replace R := KK.out.rules; simp only [gro.Rules] at R; clear hbv))
    go_ret
    exact ⟨ret_int (by rw [hq.out]; simp), BB.out⟩)
set_option maxHeartbeats 400000 in
theorem awake3_any (w : World) : Calls Try.prog 21 #[] w fun e w' => e = .returned (.bool true) ∧ Below w.heap.size w w' := by
  have HF := Lib.hid (fun W => Floor_any (-3) 2 (by unfold I64; omega) (by unfold I64; omega) W)
  rw [show floorQ (-3) 2 = -2 from by decide] at HF
  go_enter Try.func21, Try.ntmps21
  go_wp2_with (go_at_call 22; refine (HF.out _).mono ?_; rintro e w1 ⟨rfl, hb⟩)
  go_ret
  exact ⟨rfl, hb⟩
end Go.Proofs.Ytoejhikcnnppnaa.wid
