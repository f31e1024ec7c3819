/- Contracts of Meet of bounds in the code, of most and least. -/
import Derived.Test.YtoejhikcnnppnaaOrd
import Derived.Test.YtoejhikcnnppnaaBox3
namespace Go.Proofs.Ytoejhikcnnppnaa.wid
open Go.RowKit Go.Proofs.Ytoejhikcnnppnaa.mem Go.Proofs.Ytoejhikcnnppnaa.gro
set_option linter.unusedVariables false
set_option linter.unusedSimpArgs false
def mosN (n d m e : Int) : Int := pk (mosP n d m e) n m
def mosD (n d m e : Int) : Int := pk (mosP n d m e) d e
def lesN (n d m e : Int) : Int := pk (lesP n d m e) n m
def lesD (n d m e : Int) : Int := pk (lesP n d m e) d e
theorem pk_bd {b : Bool} {x y : Int} (hx : I64 x) (hy : I64 y) : I64 (pk b x y) := by cases b <;> assumption
set_option maxHeartbeats 2000000 in
set_option maxRecDepth 100000 in
theorem most_any (n d m e : Int) (hn : I64 n) (hd : I64 d) (hm : I64 m) (he : I64 e) (w : World) :
    Calls Try.prog 75 #[(Value.agg #[Value.int IntKind.i64 (n), Value.int IntKind.i64 ( d)]), (Value.agg #[Value.int IntKind.i64 (m), Value.int IntKind.i64 ( e)])] w fun x w' => x = .returned (Value.agg #[Value.int IntKind.i64 (mosN n d m e), Value.int IntKind.i64 ( mosD n d m e)]) ∧ Below w.heap.size w w' := by
  have H := Lib.hid (fun W => CompareQ_any n d m e hn hd hm he W)
  unfold mosN mosD
  have hp : mosP n d m e = decide (0 ≤ cmpQ n d m e) := rfl
  rw [hp]
  clear hp hn hd hm he
  generalize cmpQ n d m e = c at *
  obtain ⟨p, q⟩ : ∃ p, decide (0 ≤ c) = p := ⟨_, rfl⟩
  rw [q]
  cases p <;> simp only [pk_yes, pk_no]
  all_goals
    go_enter Try.func75, Try.ntmps75
    go_wp2_with fail
    obtain ⟨W0, hW, hs0, K0, B0⟩ := start3 w 23 23 23 #[Value.int IntKind.i64 n, Value.int IntKind.i64 d] #[Value.int IntKind.i64 m, Value.int IntKind.i64 e] #[Value.int IntKind.i64 0, Value.int IntKind.i64 0]
    rw [hW]
    clear hW
    have KK := Lib.hid K0
    have BB := Lib.hid B0
    have R := K0.rules
    simp only [Rules] at R
    clear K0 B0
    (with_reducible refine (H.out _).mono ?_)
    rintro e wv ⟨rfl, hbv⟩; replace BB := Lib.hid (BB.out.trans (hbv.mono BB.out.size)); replace KK := Lib.hid (KK.out.below hbv); replace R := KK.out.rules; simp only [gro.Rules] at R; clear hbv
    go_wp2
    first
    | (refine bodyPost_ret (v := (Value.agg #[Value.int IntKind.i64 (n), Value.int IntKind.i64 ( d)])) (by simp [results, Try.results75, go_sem, R]) rfl ⟨rfl, ?_⟩; exact (BB.out.setCell (by first | (simp; done) | (simp; omega)) _).setCell (by first | (simp; done) | (simp; omega)) _)
    | (refine bodyPost_ret (v := (Value.agg #[Value.int IntKind.i64 (m), Value.int IntKind.i64 ( e)])) (by simp [results, Try.results75, go_sem, R]) rfl ⟨rfl, ?_⟩; exact (BB.out.setCell (by first | (simp; done) | (simp; omega)) _).setCell (by first | (simp; done) | (simp; omega)) _)
set_option maxHeartbeats 2000000 in
set_option maxRecDepth 100000 in
theorem least_any (n d m e : Int) (hn : I64 n) (hd : I64 d) (hm : I64 m) (he : I64 e) (w : World) :
    Calls Try.prog 76 #[(Value.agg #[Value.int IntKind.i64 (n), Value.int IntKind.i64 ( d)]), (Value.agg #[Value.int IntKind.i64 (m), Value.int IntKind.i64 ( e)])] w fun x w' => x = .returned (Value.agg #[Value.int IntKind.i64 (lesN n d m e), Value.int IntKind.i64 ( lesD n d m e)]) ∧ Below w.heap.size w w' := by
  have H := Lib.hid (fun W => CompareQ_any n d m e hn hd hm he W)
  unfold lesN lesD
  have hp : lesP n d m e = decide (cmpQ n d m e ≤ 0) := rfl
  rw [hp]
  clear hp hn hd hm he
  generalize cmpQ n d m e = c at *
  obtain ⟨p, q⟩ : ∃ p, decide (c ≤ 0) = p := ⟨_, rfl⟩
  rw [q]
  cases p <;> simp only [pk_yes, pk_no]
  all_goals
    go_enter Try.func76, Try.ntmps76
    go_wp2_with fail
    obtain ⟨W0, hW, hs0, K0, B0⟩ := start3 w 23 23 23 #[Value.int IntKind.i64 n, Value.int IntKind.i64 d] #[Value.int IntKind.i64 m, Value.int IntKind.i64 e] #[Value.int IntKind.i64 0, Value.int IntKind.i64 0]
    rw [hW]
    clear hW
    have KK := Lib.hid K0
    have BB := Lib.hid B0
    have R := K0.rules
    simp only [Rules] at R
    clear K0 B0
    (with_reducible refine (H.out _).mono ?_)
    rintro e wv ⟨rfl, hbv⟩; replace BB := Lib.hid (BB.out.trans (hbv.mono BB.out.size)); replace KK := Lib.hid (KK.out.below hbv); replace R := KK.out.rules; simp only [gro.Rules] at R; clear hbv
    go_wp2
    first
    | (refine bodyPost_ret (v := (Value.agg #[Value.int IntKind.i64 (n), Value.int IntKind.i64 ( d)])) (by simp [results, Try.results76, go_sem, R]) rfl ⟨rfl, ?_⟩; exact (BB.out.setCell (by first | (simp; done) | (simp; omega)) _).setCell (by first | (simp; done) | (simp; omega)) _)
    | (refine bodyPost_ret (v := (Value.agg #[Value.int IntKind.i64 (m), Value.int IntKind.i64 ( e)])) (by simp [results, Try.results76, go_sem, R]) rfl ⟨rfl, ?_⟩; exact (BB.out.setCell (by first | (simp; done) | (simp; omega)) _).setCell (by first | (simp; done) | (simp; omega)) _)
def meetOk (a0 a1 a2 a3 a4 a5 b0 b1 b2 b3 b4 b5 : Int) : Bool := validB a0 a1 a2 a3 a4 a5 && validB b0 b1 b2 b3 b4 b5 && decide (cmpQ (mosN a0 a1 b0 b1) (mosD a0 a1 b0 b1) (lesN a4 a5 b4 b5) (lesD a4 a5 b4 b5) ≤ 0)
set_option maxHeartbeats 2000000 in
set_option maxRecDepth 100000 in
theorem Meet_any (a0 a1 a2 a3 a4 a5 b0 b1 b2 b3 b4 b5 : Int) (ha0 : I64 a0) (ha1 : I64 a1) (ha2 : I64 a2) (ha3 : I64 a3) (ha4 : I64 a4) (ha5 : I64 a5) (hb0 : I64 b0) (hb1 : I64 b1) (hb2 : I64 b2) (hb3 : I64 b3) (hb4 : I64 b4) (hb5 : I64 b5) (w : World) :
    Calls Try.prog 48 #[(Value.agg #[Value.int IntKind.i64 a0, Value.int IntKind.i64 a1, Value.int IntKind.i64 a2, Value.int IntKind.i64 a3, Value.int IntKind.i64 a4, Value.int IntKind.i64 a5]), (Value.agg #[Value.int IntKind.i64 b0, Value.int IntKind.i64 b1, Value.int IntKind.i64 b2, Value.int IntKind.i64 b3, Value.int IntKind.i64 b4, Value.int IntKind.i64 b5])] w fun x w' => x = .returned (.tuple #[(Value.agg #[Value.int IntKind.i64 (pk (meetOk a0 a1 a2 a3 a4 a5 b0 b1 b2 b3 b4 b5) (mosN a0 a1 b0 b1) 0), Value.int IntKind.i64 (pk (meetOk a0 a1 a2 a3 a4 a5 b0 b1 b2 b3 b4 b5) (mosD a0 a1 b0 b1) 0), Value.int IntKind.i64 (pk (meetOk a0 a1 a2 a3 a4 a5 b0 b1 b2 b3 b4 b5) (lesN (mosN a2 a3 (mosN a0 a1 b0 b1) (mosD a0 a1 b0 b1)) (mosD a2 a3 (mosN a0 a1 b0 b1) (mosD a0 a1 b0 b1)) (lesN a4 a5 b4 b5) (lesD a4 a5 b4 b5)) 0), Value.int IntKind.i64 (pk (meetOk a0 a1 a2 a3 a4 a5 b0 b1 b2 b3 b4 b5) (lesD (mosN a2 a3 (mosN a0 a1 b0 b1) (mosD a0 a1 b0 b1)) (mosD a2 a3 (mosN a0 a1 b0 b1) (mosD a0 a1 b0 b1)) (lesN a4 a5 b4 b5) (lesD a4 a5 b4 b5)) 0), Value.int IntKind.i64 (pk (meetOk a0 a1 a2 a3 a4 a5 b0 b1 b2 b3 b4 b5) (lesN a4 a5 b4 b5) 0), Value.int IntKind.i64 (pk (meetOk a0 a1 a2 a3 a4 a5 b0 b1 b2 b3 b4 b5) (lesD a4 a5 b4 b5) 0)]), .bool (meetOk a0 a1 a2 a3 a4 a5 b0 b1 b2 b3 b4 b5)]) ∧ Below w.heap.size w w' := by
  have H1 := Lib.hid (fun W => ValidB_any a0 a1 a2 a3 a4 a5 ha0 ha1 ha2 ha3 ha4 ha5 W)
  have H2 := Lib.hid (fun W => ValidB_any b0 b1 b2 b3 b4 b5 hb0 hb1 hb2 hb3 hb4 hb5 W)
  have bLn : I64 (mosN a0 a1 b0 b1) := pk_bd ha0 hb0
  have bLd : I64 (mosD a0 a1 b0 b1) := pk_bd ha1 hb1
  have bHn : I64 (lesN a4 a5 b4 b5) := pk_bd ha4 hb4
  have bHd : I64 (lesD a4 a5 b4 b5) := pk_bd ha5 hb5
  have bEn : I64 (mosN a2 a3 (mosN a0 a1 b0 b1) (mosD a0 a1 b0 b1)) := pk_bd ha2 bLn
  have bEd : I64 (mosD a2 a3 (mosN a0 a1 b0 b1) (mosD a0 a1 b0 b1)) := pk_bd ha3 bLd
  have H3 := Lib.hid (fun W => most_any a0 a1 b0 b1 ha0 ha1 hb0 hb1 W)
  have H4 := Lib.hid (fun W => least_any a4 a5 b4 b5 ha4 ha5 hb4 hb5 W)
  have H5 := Lib.hid (fun W => CompareQ_any (mosN a0 a1 b0 b1) (mosD a0 a1 b0 b1) (lesN a4 a5 b4 b5) (lesD a4 a5 b4 b5) bLn bLd bHn bHd W)
  have H6 := Lib.hid (fun W => most_any a2 a3 (mosN a0 a1 b0 b1) (mosD a0 a1 b0 b1) ha2 ha3 bLn bLd W)
  have H7 := Lib.hid (fun W => least_any (mosN a2 a3 (mosN a0 a1 b0 b1) (mosD a0 a1 b0 b1)) (mosD a2 a3 (mosN a0 a1 b0 b1) (mosD a0 a1 b0 b1)) (lesN a4 a5 b4 b5) (lesD a4 a5 b4 b5) bEn bEd bHn bHd W)
  have HB : Hid ((meetOk a0 a1 a2 a3 a4 a5 b0 b1 b2 b3 b4 b5) = (validB a0 a1 a2 a3 a4 a5 && validB b0 b1 b2 b3 b4 b5 && decide (cmpQ (mosN a0 a1 b0 b1) (mosD a0 a1 b0 b1) (lesN a4 a5 b4 b5) (lesD a4 a5 b4 b5) ≤ 0))) := rfl
  clear ha0 ha1 ha2 ha3 ha4 ha5 hb0 hb1 hb2 hb3 hb4 hb5 bLn bLd bHn bHd bEn bEd
  generalize (meetOk a0 a1 a2 a3 a4 a5 b0 b1 b2 b3 b4 b5) = vB at *
  generalize (lesN (mosN a2 a3 (mosN a0 a1 b0 b1) (mosD a0 a1 b0 b1)) (mosD a2 a3 (mosN a0 a1 b0 b1) (mosD a0 a1 b0 b1)) (lesN a4 a5 b4 b5) (lesD a4 a5 b4 b5)) = Mn at *
  generalize (lesD (mosN a2 a3 (mosN a0 a1 b0 b1) (mosD a0 a1 b0 b1)) (mosD a2 a3 (mosN a0 a1 b0 b1) (mosD a0 a1 b0 b1)) (lesN a4 a5 b4 b5) (lesD a4 a5 b4 b5)) = Md at *
  generalize (mosN a2 a3 (mosN a0 a1 b0 b1) (mosD a0 a1 b0 b1)) = En at *
  generalize (mosD a2 a3 (mosN a0 a1 b0 b1) (mosD a0 a1 b0 b1)) = Ed at *
  generalize cmpQ (mosN a0 a1 b0 b1) (mosD a0 a1 b0 b1) (lesN a4 a5 b4 b5) (lesD a4 a5 b4 b5) = c at *
  generalize (mosN a0 a1 b0 b1) = Ln at *
  generalize (mosD a0 a1 b0 b1) = Ld at *
  generalize (lesN a4 a5 b4 b5) = Hn at *
  generalize (lesD a4 a5 b4 b5) = Hd at *
  generalize validB a0 a1 a2 a3 a4 a5 = v0 at *
  generalize validB b0 b1 b2 b3 b4 b5 = v1 at *
  obtain ⟨v2, q2⟩ : ∃ v, decide (0 < c) = v := ⟨_, rfl⟩
  have hv2 : decide (c ≤ 0) = !v2 := by rw [← q2, ← decide_not]; exact decide_eq_decide.2 (by omega)
  rw [hv2] at HB
  clear hv2
  cases v0
  case false =>
    obtain rfl : vB = false := by rw [HB.out]; simp
    clear HB
    simp only [pk_yes, pk_no]
    go_enter Try.func48, Try.ntmps48
    go_wp2_with fail
    obtain ⟨W0, hW, hs0, K0, B0⟩ := start3 w 36 36 36 #[Value.int IntKind.i64 a0, Value.int IntKind.i64 a1, Value.int IntKind.i64 a2, Value.int IntKind.i64 a3, Value.int IntKind.i64 a4, Value.int IntKind.i64 a5] #[Value.int IntKind.i64 b0, Value.int IntKind.i64 b1, Value.int IntKind.i64 b2, Value.int IntKind.i64 b3, Value.int IntKind.i64 b4, Value.int IntKind.i64 b5] #[Value.int IntKind.i64 0, Value.int IntKind.i64 0, Value.int IntKind.i64 0, Value.int IntKind.i64 0, Value.int IntKind.i64 0, Value.int IntKind.i64 0]
    rw [hW]
    clear hW
    have KK := Lib.hid K0
    have BB := Lib.hid B0
    have R := K0.rules
    simp only [Rules] at R
    clear K0 B0
    (with_reducible refine (H1.out _).mono ?_)
    rintro e wv ⟨rfl, hbv⟩; replace BB := Lib.hid (BB.out.trans (hbv.mono BB.out.size)); replace KK := Lib.hid (KK.out.below hbv); replace R := KK.out.rules; simp only [gro.Rules] at R; clear hbv
    go_wp2
    refine bodyPost_ret (v := Value.tuple #[(Value.agg #[Value.int IntKind.i64 0, Value.int IntKind.i64 0, Value.int IntKind.i64 0, Value.int IntKind.i64 0, Value.int IntKind.i64 0, Value.int IntKind.i64 0]), .bool false]) (by simp [results, Try.results48, go_sem, R]) rfl ⟨?_, ?_⟩
    · rfl
    · exact (((((BB.out.setCell (by first | (simp; done) | (simp; omega)) _).setCell (by first | (simp; done) | (simp; omega)) _).setCell (by first | (simp; done) | (simp; omega)) _).setCell (by first | (simp; done) | (simp; omega)) _).setCell (by first | (simp; done) | (simp; omega)) _).setCell (by first | (simp; done) | (simp; omega)) _
  cases v1
  case false =>
    obtain rfl : vB = false := by rw [HB.out]; simp
    clear HB
    simp only [pk_yes, pk_no]
    go_enter Try.func48, Try.ntmps48
    go_wp2_with fail
    obtain ⟨W0, hW, hs0, K0, B0⟩ := start3 w 36 36 36 #[Value.int IntKind.i64 a0, Value.int IntKind.i64 a1, Value.int IntKind.i64 a2, Value.int IntKind.i64 a3, Value.int IntKind.i64 a4, Value.int IntKind.i64 a5] #[Value.int IntKind.i64 b0, Value.int IntKind.i64 b1, Value.int IntKind.i64 b2, Value.int IntKind.i64 b3, Value.int IntKind.i64 b4, Value.int IntKind.i64 b5] #[Value.int IntKind.i64 0, Value.int IntKind.i64 0, Value.int IntKind.i64 0, Value.int IntKind.i64 0, Value.int IntKind.i64 0, Value.int IntKind.i64 0]
    rw [hW]
    clear hW
    have KK := Lib.hid K0
    have BB := Lib.hid B0
    have R := K0.rules
    simp only [Rules] at R
    clear K0 B0
    (with_reducible refine (H1.out _).mono ?_)
    rintro e wv ⟨rfl, hbv⟩; replace BB := Lib.hid (BB.out.trans (hbv.mono BB.out.size)); replace KK := Lib.hid (KK.out.below hbv); replace R := KK.out.rules; simp only [gro.Rules] at R; clear hbv
    go_wp2_with fail
    (with_reducible refine (H2.out _).mono ?_)
    rintro e wv ⟨rfl, hbv⟩; replace BB := Lib.hid (BB.out.trans (hbv.mono BB.out.size)); replace KK := Lib.hid (KK.out.below hbv); replace R := KK.out.rules; simp only [gro.Rules] at R; clear hbv
    go_wp2
    refine bodyPost_ret (v := Value.tuple #[(Value.agg #[Value.int IntKind.i64 0, Value.int IntKind.i64 0, Value.int IntKind.i64 0, Value.int IntKind.i64 0, Value.int IntKind.i64 0, Value.int IntKind.i64 0]), .bool false]) (by simp [results, Try.results48, go_sem, R]) rfl ⟨?_, ?_⟩
    · rfl
    · exact (((((BB.out.setCell (by first | (simp; done) | (simp; omega)) _).setCell (by first | (simp; done) | (simp; omega)) _).setCell (by first | (simp; done) | (simp; omega)) _).setCell (by first | (simp; done) | (simp; omega)) _).setCell (by first | (simp; done) | (simp; omega)) _).setCell (by first | (simp; done) | (simp; omega)) _
  go_enter Try.func48, Try.ntmps48
  go_wp2_with fail
  obtain ⟨W0, hW, hs0, K0, B0⟩ := start3 w 36 36 36 #[Value.int IntKind.i64 a0, Value.int IntKind.i64 a1, Value.int IntKind.i64 a2, Value.int IntKind.i64 a3, Value.int IntKind.i64 a4, Value.int IntKind.i64 a5] #[Value.int IntKind.i64 b0, Value.int IntKind.i64 b1, Value.int IntKind.i64 b2, Value.int IntKind.i64 b3, Value.int IntKind.i64 b4, Value.int IntKind.i64 b5] #[Value.int IntKind.i64 0, Value.int IntKind.i64 0, Value.int IntKind.i64 0, Value.int IntKind.i64 0, Value.int IntKind.i64 0, Value.int IntKind.i64 0]
  rw [hW]
  clear hW
  have KK := Lib.hid K0
  have BB := Lib.hid B0
  have R := K0.rules
  simp only [Rules] at R
  clear K0 B0
  have sz : w.heap.size + 1 + 1 + 1 ≤ W0.heap.size := by omega
  clear hs0
  (with_reducible refine (H1.out _).mono ?_)
  rintro e w1 ⟨rfl, hb⟩
  replace BB := Lib.hid (BB.out.trans (hb.mono BB.out.size))
  replace KK := Lib.hid (KK.out.below hb)
  replace sz := Nat.le_trans sz hb.size
  replace R := KK.out.rules
  simp only [Rules] at R
  clear hb
  go_wp2_with fail
  (with_reducible refine (H2.out _).mono ?_)
  rintro e w2 ⟨rfl, hb⟩
  replace BB := Lib.hid (BB.out.trans (hb.mono BB.out.size))
  replace KK := Lib.hid (KK.out.below hb)
  replace sz := Nat.le_trans sz hb.size
  replace R := KK.out.rules
  simp only [Rules] at R
  clear hb
  clear H1 H2
  go_wp2_with fail
  go_cut [6, 7] (fun s6 s7 wx => ∃ p q : Nat, s6 = .pointer (some ⟨p, 0, none⟩) ∧ s7 = .pointer (some ⟨q, 0, none⟩) ∧ p ≠ q ∧ w.heap.size + 1 + 1 + 1 ≤ p ∧ w.heap.size + 1 + 1 + 1 ≤ q ∧ p < wx.heap.size ∧ q < wx.heap.size ∧ Hid (Below w.heap.size w wx) ∧
    Hid (Bx wx [(q, 23, #[Value.int IntKind.i64 Hn, Value.int IntKind.i64 Hd]), (p, 23, #[Value.int IntKind.i64 Ln, Value.int IntKind.i64 Ld]), (w.heap.size + 1 + 1, 36, #[Value.int IntKind.i64 0, Value.int IntKind.i64 0, Value.int IntKind.i64 0, Value.int IntKind.i64 0, Value.int IntKind.i64 0, Value.int IntKind.i64 0]), (w.heap.size + 1, 36, #[Value.int IntKind.i64 b0, Value.int IntKind.i64 b1, Value.int IntKind.i64 b2, Value.int IntKind.i64 b3, Value.int IntKind.i64 b4, Value.int IntKind.i64 b5]), (w.heap.size, 36, #[Value.int IntKind.i64 a0, Value.int IntKind.i64 a1, Value.int IntKind.i64 a2, Value.int IntKind.i64 a3, Value.int IntKind.i64 a4, Value.int IntKind.i64 a5])]))
  case first =>
    (refine gro.wp_region_steady_n 10 4 (by kernel_rfl) (by kernel_rfl) (by intro _ _ _ _ _ h; exact h) (by kernel_rfl) (by kernel_rfl) (by kernel_rfl) ?_; apply Exists.intro; refine ⟨fun w0 hb0 => ?_, ?_⟩; focus (have KZ := (KK.out).below hb0; have RZ := KZ.rules; simp only [gro.Rules] at RZ; simp only [List.take_succ_cons, List.take_zero]; (repeat (go_big_quiet_step ((first | (go_at_call 75; exact call_grown (H3.out _)) | (go_at_call 76; exact call_grown (H4.out _)))))); exact wpQuiet_nil rfl))
    have hBn : w.heap.size + 1 + 1 + 1 ≤ w2.drew.heap.size := sz
    refine gro.anyG_two 10 11 (by kernel_rfl) rfl rfl ?_ ?_
    · intro y1 hz1 K' hK'
      have KY1 := (KK.out).drew.below hz1
      have BY1 := hz1
      go_simp
      refine hK' _ _ ⟨BY1.alloc BY1.size _, ?_⟩
      clear hK' K'
      obtain ⟨p, hp⟩ : ∃ p, y1.heap.size = p := ⟨_, rfl⟩
      have KY2 := KY1.new (t := 23) (c := #[Value.int IntKind.i64 0, Value.int IntKind.i64 0]) hp
      have BY2 := BY1.alloc BY1.size (.cells #[Value.int IntKind.i64 0, Value.int IntKind.i64 0] 23)
      have sY2 : (y1.alloc (.cells #[Value.int IntKind.i64 0, Value.int IntKind.i64 0] 23)).heap.size = p + 1 := by simp [hp]
      have hlp := hz1.size
      rw [hp] at hlp ⊢
      have hmp := hlp
      try simp at hmp
      generalize y1.alloc (.cells #[Value.int IntKind.i64 0, Value.int IntKind.i64 0] 23) = y2 at *
      refine gro.anyG_one 11 (by kernel_rfl) rfl ?_
      intro y3 hz3 K' hK'
      have KY3 := KY2.below hz3
      have BY3 := BY2.trans (hz3.mono BY2.size)
      go_simp
      refine hK' _ _ ⟨BY3.alloc BY3.size _, ?_⟩
      clear hK' K'
      obtain ⟨q, hq⟩ : ∃ q, y3.heap.size = q := ⟨_, rfl⟩
      have hlq := hz3.size
      rw [sY2, hq] at hlq
      rw [hq]
      have KY4 := KY3.new (t := 23) (c := #[Value.int IntKind.i64 0, Value.int IntKind.i64 0]) hq
      have BY4 := BY3.alloc BY3.size (.cells #[Value.int IntKind.i64 0, Value.int IntKind.i64 0] 23)
      have sY4 : (y3.alloc (.cells #[Value.int IntKind.i64 0, Value.int IntKind.i64 0] 23)).heap.size = q + 1 := by simp [hq]
      generalize y3.alloc (.cells #[Value.int IntKind.i64 0, Value.int IntKind.i64 0] 23) = y4 at *
      replace KY4 := KY4.swap
      clear hz1 hz3 KY1 KY2 KY3 BY1 BY2 BY3
      refine gro.anyG_one 12 (by kernel_rfl) rfl ?_
      intro y5 hz5 K' hK'
      have KY5 := KY4.below hz5
      have BY5 := BY4.trans (hz5.mono BY4.size)
      have sY5 := hz5.size
      have RY := KY5.rules
      simp only [gro.Rules] at RY
      go_simp
      refine hK' _ _ ⟨(BY5.setCell (by first | (simp; done) | (simp; omega)) _).setCell (by first | (simp; done) | (simp; omega)) _, ?_⟩
      clear hK' K' RY
      obtain ⟨y6, hy6, KY6, BY6, sY6⟩ := gro.name_world (gro.Bx.put2 (u := .int .i64 Ln) (v := .int .i64 Ld) KY5 (by first | (simp; done) | (simp; omega))).swap ((BY5.setCell (by first | (simp; done) | (simp; omega)) _).setCell (by first | (simp; done) | (simp; omega)) _) (s := q + 1) (by simp only [gro.set2_size]; omega)
      rw [hy6]
      clear hy6
      refine gro.anyG_one 13 (by kernel_rfl) rfl ?_
      intro y7 hz7 K' hK'
      have KY7 := KY6.below hz7
      have BY7 := BY6.trans (hz7.mono BY6.size)
      have sY7 := hz7.size
      have RY := KY7.rules
      simp only [gro.Rules] at RY
      go_simp
      refine hK' _ _ ⟨(BY7.setCell (by first | (simp; done) | (simp; omega)) _).setCell (by first | (simp; done) | (simp; omega)) _, ?_⟩
      clear hK' K' RY
      obtain ⟨y8, hy8, KY8, BY8, sY8⟩ := gro.name_world (gro.Bx.put2 (u := .int .i64 Hn) (v := .int .i64 Hd) KY7 (by first | (simp; done) | (simp; omega))) ((BY7.setCell (by first | (simp; done) | (simp; omega)) _).setCell (by first | (simp; done) | (simp; omega)) _) (s := q + 1) (by simp only [gro.set2_size]; omega)
      rw [hy8]
      clear hy8
      refine gro.anyG_done (by kernel_rfl) ?_
      intro y9 hz9
      have KP := KY8.below hz9
      have BP := (BB.out).drew.trans ((BY8.trans (hz9.mono BY8.size)).mono (BB.out).size)
      have sP := hz9.size
      clear KY4 BY4 KY5 BY5 KY6 BY6 KY7 BY7 KY8 BY8 hz5 hz7 hz9
      go_wp2_with fail; go_meet; case rel => exact ⟨p, q, rfl, rfl, by omega, by omega, by omega, by omega, by omega, BP, KP⟩
    · intro y1 hz1 K' hK'
      have KY1 := (KK.out).drew.below hz1
      have BY1 := hz1
      go_simp
      refine hK' _ _ ⟨BY1.alloc BY1.size _, ?_⟩
      clear hK' K'
      obtain ⟨q, hq⟩ : ∃ q, y1.heap.size = q := ⟨_, rfl⟩
      have KY2 := KY1.new (t := 23) (c := #[Value.int IntKind.i64 0, Value.int IntKind.i64 0]) hq
      have BY2 := BY1.alloc BY1.size (.cells #[Value.int IntKind.i64 0, Value.int IntKind.i64 0] 23)
      have sY2 : (y1.alloc (.cells #[Value.int IntKind.i64 0, Value.int IntKind.i64 0] 23)).heap.size = q + 1 := by simp [hq]
      have hlq := hz1.size
      rw [hq] at hlq ⊢
      have hmq := hlq
      try simp at hmq
      generalize y1.alloc (.cells #[Value.int IntKind.i64 0, Value.int IntKind.i64 0] 23) = y2 at *
      refine gro.anyG_one 10 (by kernel_rfl) rfl ?_
      intro y3 hz3 K' hK'
      have KY3 := KY2.below hz3
      have BY3 := BY2.trans (hz3.mono BY2.size)
      go_simp
      refine hK' _ _ ⟨BY3.alloc BY3.size _, ?_⟩
      clear hK' K'
      obtain ⟨p, hp⟩ : ∃ p, y3.heap.size = p := ⟨_, rfl⟩
      have hlp := hz3.size
      rw [sY2, hp] at hlp
      rw [hp]
      have KY4 := KY3.new (t := 23) (c := #[Value.int IntKind.i64 0, Value.int IntKind.i64 0]) hp
      have BY4 := BY3.alloc BY3.size (.cells #[Value.int IntKind.i64 0, Value.int IntKind.i64 0] 23)
      have sY4 : (y3.alloc (.cells #[Value.int IntKind.i64 0, Value.int IntKind.i64 0] 23)).heap.size = p + 1 := by simp [hp]
      generalize y3.alloc (.cells #[Value.int IntKind.i64 0, Value.int IntKind.i64 0] 23) = y4 at *
      clear hz1 hz3 KY1 KY2 KY3 BY1 BY2 BY3
      refine gro.anyG_one 12 (by kernel_rfl) rfl ?_
      intro y5 hz5 K' hK'
      have KY5 := KY4.below hz5
      have BY5 := BY4.trans (hz5.mono BY4.size)
      have sY5 := hz5.size
      have RY := KY5.rules
      simp only [gro.Rules] at RY
      go_simp
      refine hK' _ _ ⟨(BY5.setCell (by first | (simp; done) | (simp; omega)) _).setCell (by first | (simp; done) | (simp; omega)) _, ?_⟩
      clear hK' K' RY
      obtain ⟨y6, hy6, KY6, BY6, sY6⟩ := gro.name_world (gro.Bx.put2 (u := .int .i64 Ln) (v := .int .i64 Ld) KY5 (by first | (simp; done) | (simp; omega))).swap ((BY5.setCell (by first | (simp; done) | (simp; omega)) _).setCell (by first | (simp; done) | (simp; omega)) _) (s := p + 1) (by simp only [gro.set2_size]; omega)
      rw [hy6]
      clear hy6
      refine gro.anyG_one 13 (by kernel_rfl) rfl ?_
      intro y7 hz7 K' hK'
      have KY7 := KY6.below hz7
      have BY7 := BY6.trans (hz7.mono BY6.size)
      have sY7 := hz7.size
      have RY := KY7.rules
      simp only [gro.Rules] at RY
      go_simp
      refine hK' _ _ ⟨(BY7.setCell (by first | (simp; done) | (simp; omega)) _).setCell (by first | (simp; done) | (simp; omega)) _, ?_⟩
      clear hK' K' RY
      obtain ⟨y8, hy8, KY8, BY8, sY8⟩ := gro.name_world (gro.Bx.put2 (u := .int .i64 Hn) (v := .int .i64 Hd) KY7 (by first | (simp; done) | (simp; omega))) ((BY7.setCell (by first | (simp; done) | (simp; omega)) _).setCell (by first | (simp; done) | (simp; omega)) _) (s := p + 1) (by simp only [gro.set2_size]; omega)
      rw [hy8]
      clear hy8
      refine gro.anyG_done (by kernel_rfl) ?_
      intro y9 hz9
      have KP := KY8.below hz9
      have BP := (BB.out).drew.trans ((BY8.trans (hz9.mono BY8.size)).mono (BB.out).size)
      have sP := hz9.size
      clear KY4 BY4 KY5 BY5 KY6 BY6 KY7 BY7 KY8 BY8 hz5 hz7 hz9
      go_wp2_with fail; go_meet; case rel => exact ⟨p, q, rfl, rfl, by omega, by omega, by omega, by omega, by omega, BP, KP⟩
  case rest =>
    obtain ⟨p, q, rfl, rfl, hpq, hp, hq, hpl, hql, HBc, HKc⟩ := hcut
    clear R sz KK BB H3 H4
    have R := HKc.out.rules
    simp only [Rules] at R
    go_wp2_with fail
    have KK := HKc
    have BB := HBc
    clear HKc HBc
    (with_reducible refine (H5.out _).mono ?_)
    rintro e wv ⟨rfl, hbv⟩; replace BB := Lib.hid (BB.out.trans (hbv.mono BB.out.size)); replace KK := Lib.hid (KK.out.below hbv); replace R := KK.out.rules; simp only [gro.Rules] at R; clear hbv
    cases v2
    case true =>
      obtain rfl : vB = false := by rw [HB.out]; simp
      clear HB
      simp only [pk_yes, pk_no]
      go_wp2
      refine bodyPost_ret (v := Value.tuple #[(Value.agg #[Value.int IntKind.i64 0, Value.int IntKind.i64 0, Value.int IntKind.i64 0, Value.int IntKind.i64 0, Value.int IntKind.i64 0, Value.int IntKind.i64 0]), .bool false]) (by simp [results, Try.results48, go_sem, R]) rfl ⟨?_, ?_⟩
      · rfl
      · exact (((((BB.out.setCell (by first | (simp; done) | (simp; omega)) _).setCell (by first | (simp; done) | (simp; omega)) _).setCell (by first | (simp; done) | (simp; omega)) _).setCell (by first | (simp; done) | (simp; omega)) _).setCell (by first | (simp; done) | (simp; omega)) _).setCell (by first | (simp; done) | (simp; omega)) _
    case false =>
      obtain rfl : vB = true := by rw [HB.out]; simp
      clear HB
      simp only [pk_yes, pk_no]
      go_wp2_with fail
      have KP := KK.out.perm (L' := [(w.heap.size + 1 + 1, 36, #[Value.int IntKind.i64 0, Value.int IntKind.i64 0, Value.int IntKind.i64 0, Value.int IntKind.i64 0, Value.int IntKind.i64 0, Value.int IntKind.i64 0])]) (by simp)
      have KL := KK.out.perm (L' := [(q, 23, #[Value.int IntKind.i64 Hn, Value.int IntKind.i64 Hd]), (p, 23, #[Value.int IntKind.i64 Ln, Value.int IntKind.i64 Ld]), (w.heap.size, 36, #[Value.int IntKind.i64 a0, Value.int IntKind.i64 a1, Value.int IntKind.i64 a2, Value.int IntKind.i64 a3, Value.int IntKind.i64 a4, Value.int IntKind.i64 a5])]) (by simp)
      (refine gro.wp_region_steady_s 9 2 _ (gro.lasts_bx _) (by kernel_rfl) (by kernel_rfl) (by intro _ _ _ _ _ h; exact h) (by kernel_rfl) (by kernel_rfl) (by kernel_rfl) (KL).drew ?_; apply Exists.intro; refine ⟨fun w0 hb0 => ?_, ?_⟩; focus (have RZ := gro.Bx.rules hb0; simp only [gro.Rules] at RZ; simp only [List.take_succ_cons, List.take_zero]; (repeat (go_big_quiet_step ((first | (go_at_call 75; exact call_grown (H6.out _)) | (go_at_call 76; exact call_grown (H7.out _)))))); exact wpQuiet_nil rfl))
      refine gro.anyG_one 9 (by kernel_rfl) rfl ?_
      intro y1 hz1 K' hK'
      have KY1 := KP.drew.below hz1
      have KL1 := KL.drew.below hz1
      have BY1 := BB.out.drew.trans (hz1.mono BB.out.drew.size)
      have RY := KY1.rules
      simp only [gro.Rules] at RY
      go_simp
      have KS := KL1.far6 (g := w.heap.size + 1 + 1) (by simp; omega) (u0 := .int .i64 Ln) (u1 := .int .i64 Ld) (u2 := .int .i64 Mn) (u3 := .int .i64 Md) (u4 := .int .i64 Hn) (u5 := .int .i64 Hd)
      refine hK' _ _ ⟨KS, ?_⟩
      clear hK' K' RY
      obtain ⟨y2, hy2, KY2, BY2, sY2⟩ := gro.name_world (gro.Bx.put6 (u0 := .int .i64 Ln) (u1 := .int .i64 Ld) (u2 := .int .i64 Mn) (u3 := .int .i64 Md) (u4 := .int .i64 Hn) (u5 := .int .i64 Hd) KY1 (by first | (simp; done) | (simp; omega))) (gro.Below.set6 BY1 (g := w.heap.size + 1 + 1) (by omega) _ _ _ _ _ _) (s := 0) (by omega)
      rw [hy2] at KS ⊢
      clear hy2
      refine gro.anyG_one 10 (by kernel_rfl) rfl ?_
      intro y3 hz3 K' hK'
      have KY3 := KY2.below hz3
      have BY3 := BY2.trans (hz3.mono BY2.size)
      go_simp
      refine hK' _ _ ⟨KS.below hz3, ?_⟩
      clear hK' K'
      refine gro.anyG_done (by kernel_rfl) ?_
      intro y5 hz5
      have KY5 := KY3.below hz5
      have BY5 := Lib.hid (BY3.trans (hz5.mono BY3.size))
      have RY := KY5.rules
      simp only [gro.Rules] at RY
      clear KY1 KY2 KY3 KY5 BY1 BY2 BY3 hz1 hz3 hz5 KS KL1 R
      go_wp2
      refine bodyPost_ret (v := Value.tuple #[(Value.agg #[Value.int IntKind.i64 Ln, Value.int IntKind.i64 Ld, Value.int IntKind.i64 Mn, Value.int IntKind.i64 Md, Value.int IntKind.i64 Hn, Value.int IntKind.i64 Hd]), Value.bool true]) (by simp [results, Try.results48, go_sem, RY]) rfl ⟨?_, ?_⟩
      · rfl
      · exact BY5.out
end Go.Proofs.Ytoejhikcnnppnaa.wid
