/- Contracts of Add of bounds, in the code and in the reference. -/
import Derived.Test.YtofgjcfiinmimaaMgMeetR
import Derived.Test.YtofgjcfiinmimaaSumR
import Derived.Test.YtofgjcfiinmimaaMgOrd
namespace Go.Proofs.Ytofgjcfiinmimaa.wid
open Go.RowKit Go.Proofs.Ytofgjcfiinmimaa.mem Go.Proofs.Ytofgjcfiinmimaa.gro
set_option linter.unusedVariables false
set_option linter.unusedSimpArgs false
def addOk (a0 a1 a2 a3 a4 a5 b0 b1 b2 b3 b4 b5 : Int) : Bool := validB a0 a1 a2 a3 a4 a5 && validB b0 b1 b2 b3 b4 b5 && ((sumOk a0 a1 b0 b1 false) && ((sumOk a2 a3 b2 b3 false) && (sumOk a4 a5 b4 b5 false)))
set_option maxHeartbeats 2000000 in
set_option maxRecDepth 100000 in
theorem AddB_any (a0 a1 a2 a3 a4 a5 b0 b1 b2 b3 b4 b5 : Int) (ha0 : I64 a0) (ha1 : I64 a1) (ha2 : I64 a2) (ha3 : I64 a3) (ha4 : I64 a4) (ha5 : I64 a5) (hb0 : I64 b0) (hb1 : I64 b1) (hb2 : I64 b2) (hb3 : I64 b3) (hb4 : I64 b4) (hb5 : I64 b5) (w : World) :
    Calls Try.prog 78 #[(Value.agg #[Value.int IntKind.i64 a0, Value.int IntKind.i64 a1, Value.int IntKind.i64 a2, Value.int IntKind.i64 a3, Value.int IntKind.i64 a4, Value.int IntKind.i64 a5]), (Value.agg #[Value.int IntKind.i64 b0, Value.int IntKind.i64 b1, Value.int IntKind.i64 b2, Value.int IntKind.i64 b3, Value.int IntKind.i64 b4, Value.int IntKind.i64 b5])] w fun x w' => x = .returned (.tuple #[(Value.agg #[Value.int IntKind.i64 (pk (addOk a0 a1 a2 a3 a4 a5 b0 b1 b2 b3 b4 b5) (sumN a0 a1 b0 b1 false) 0), Value.int IntKind.i64 (pk (addOk a0 a1 a2 a3 a4 a5 b0 b1 b2 b3 b4 b5) (sumD a0 a1 b0 b1 false) 0), Value.int IntKind.i64 (pk (addOk a0 a1 a2 a3 a4 a5 b0 b1 b2 b3 b4 b5) (sumN a2 a3 b2 b3 false) 0), Value.int IntKind.i64 (pk (addOk a0 a1 a2 a3 a4 a5 b0 b1 b2 b3 b4 b5) (sumD a2 a3 b2 b3 false) 0), Value.int IntKind.i64 (pk (addOk a0 a1 a2 a3 a4 a5 b0 b1 b2 b3 b4 b5) (sumN a4 a5 b4 b5 false) 0), Value.int IntKind.i64 (pk (addOk a0 a1 a2 a3 a4 a5 b0 b1 b2 b3 b4 b5) (sumD a4 a5 b4 b5 false) 0)]), .bool (addOk a0 a1 a2 a3 a4 a5 b0 b1 b2 b3 b4 b5)]) ∧ Below w.heap.size w w' := by
  have H1 := Lib.hid (fun W => ValidB_any a0 a1 a2 a3 a4 a5 ha0 ha1 ha2 ha3 ha4 ha5 W)
  have H2 := Lib.hid (fun W => ValidB_any b0 b1 b2 b3 b4 b5 hb0 hb1 hb2 hb3 hb4 hb5 W)
  have H3 := Lib.hid (fun W => ratAdd_any a0 a1 b0 b1 ha0 ha1 hb0 hb1 W)
  have H4 := Lib.hid (fun W => ratAdd_any a2 a3 b2 b3 ha2 ha3 hb2 hb3 W)
  have H5 := Lib.hid (fun W => ratAdd_any a4 a5 b4 b5 ha4 ha5 hb4 hb5 W)
  have HB : Hid ((addOk a0 a1 a2 a3 a4 a5 b0 b1 b2 b3 b4 b5) = (validB a0 a1 a2 a3 a4 a5 && validB b0 b1 b2 b3 b4 b5 && ((sumOk a0 a1 b0 b1 false) && ((sumOk a2 a3 b2 b3 false) && (sumOk a4 a5 b4 b5 false))))) := rfl
  clear ha0 ha1 ha2 ha3 ha4 ha5 hb0 hb1 hb2 hb3 hb4 hb5
  generalize (addOk a0 a1 a2 a3 a4 a5 b0 b1 b2 b3 b4 b5) = vB at *
  generalize sumN a0 a1 b0 b1 false = n0 at *
  generalize sumD a0 a1 b0 b1 false = d0 at *
  generalize sumOk a0 a1 b0 b1 false = k0 at *
  generalize sumN a2 a3 b2 b3 false = n1 at *
  generalize sumD a2 a3 b2 b3 false = d1 at *
  generalize sumOk a2 a3 b2 b3 false = k1 at *
  generalize sumN a4 a5 b4 b5 false = n2 at *
  generalize sumD a4 a5 b4 b5 false = d2 at *
  generalize sumOk a4 a5 b4 b5 false = k2 at *
  generalize validB a0 a1 a2 a3 a4 a5 = v0 at *
  generalize validB b0 b1 b2 b3 b4 b5 = v1 at *
  cases v0
  case false =>
    obtain rfl : vB = false := by rw [HB.out]; simp
    clear HB
    simp only [pk_yes, pk_no]
    go_enter Try.func78, Try.ntmps78
    go_wp2_with fail
    obtain ⟨W0, hW, hs0, K0, B0⟩ := start3 w 43 43 43 #[Value.int IntKind.i64 a0, Value.int IntKind.i64 a1, Value.int IntKind.i64 a2, Value.int IntKind.i64 a3, Value.int IntKind.i64 a4, Value.int IntKind.i64 a5] #[Value.int IntKind.i64 b0, Value.int IntKind.i64 b1, Value.int IntKind.i64 b2, Value.int IntKind.i64 b3, Value.int IntKind.i64 b4, Value.int IntKind.i64 b5] #[Value.int IntKind.i64 0, Value.int IntKind.i64 0, Value.int IntKind.i64 0, Value.int IntKind.i64 0, Value.int IntKind.i64 0, Value.int IntKind.i64 0]
    rw [hW]
    clear hW
    have KK := Lib.hid K0
    have BB := Lib.hid B0
    have R := K0.rules
    simp only [Rules] at R
    clear K0 B0
    (with_reducible refine (H1.out _).mono ?_)
    rintro e wv ⟨rfl, hbv⟩; replace BB := Lib.hid (BB.out.trans (hbv.mono BB.out.size)); replace KK := Lib.hid (KK.out.below hbv); replace R := KK.out.rules; simp only [gro.Rules] at R; clear hbv
    go_wp2
    refine bodyPost_ret (v := Value.tuple #[(Value.agg #[Value.int IntKind.i64 0, Value.int IntKind.i64 0, Value.int IntKind.i64 0, Value.int IntKind.i64 0, Value.int IntKind.i64 0, Value.int IntKind.i64 0]), .bool false]) (by simp [results, Try.results78, go_sem, R]) rfl ⟨?_, ?_⟩
    · rfl
    · exact (((((BB.out.setCell (by first | (simp; done) | (simp; omega)) _).setCell (by first | (simp; done) | (simp; omega)) _).setCell (by first | (simp; done) | (simp; omega)) _).setCell (by first | (simp; done) | (simp; omega)) _).setCell (by first | (simp; done) | (simp; omega)) _).setCell (by first | (simp; done) | (simp; omega)) _
  cases v1
  case false =>
    obtain rfl : vB = false := by rw [HB.out]; simp
    clear HB
    simp only [pk_yes, pk_no]
    go_enter Try.func78, Try.ntmps78
    go_wp2_with fail
    obtain ⟨W0, hW, hs0, K0, B0⟩ := start3 w 43 43 43 #[Value.int IntKind.i64 a0, Value.int IntKind.i64 a1, Value.int IntKind.i64 a2, Value.int IntKind.i64 a3, Value.int IntKind.i64 a4, Value.int IntKind.i64 a5] #[Value.int IntKind.i64 b0, Value.int IntKind.i64 b1, Value.int IntKind.i64 b2, Value.int IntKind.i64 b3, Value.int IntKind.i64 b4, Value.int IntKind.i64 b5] #[Value.int IntKind.i64 0, Value.int IntKind.i64 0, Value.int IntKind.i64 0, Value.int IntKind.i64 0, Value.int IntKind.i64 0, Value.int IntKind.i64 0]
    rw [hW]
    clear hW
    have KK := Lib.hid K0
    have BB := Lib.hid B0
    have R := K0.rules
    simp only [Rules] at R
    clear K0 B0
    (with_reducible refine (H1.out _).mono ?_)
    rintro e wv ⟨rfl, hbv⟩; replace BB := Lib.hid (BB.out.trans (hbv.mono BB.out.size)); replace KK := Lib.hid (KK.out.below hbv); replace R := KK.out.rules; simp only [gro.Rules] at R; clear hbv
    go_wp2_with fail
    (with_reducible refine (H2.out _).mono ?_)
    rintro e wv ⟨rfl, hbv⟩; replace BB := Lib.hid (BB.out.trans (hbv.mono BB.out.size)); replace KK := Lib.hid (KK.out.below hbv); replace R := KK.out.rules; simp only [gro.Rules] at R; clear hbv
    go_wp2
    refine bodyPost_ret (v := Value.tuple #[(Value.agg #[Value.int IntKind.i64 0, Value.int IntKind.i64 0, Value.int IntKind.i64 0, Value.int IntKind.i64 0, Value.int IntKind.i64 0, Value.int IntKind.i64 0]), .bool false]) (by simp [results, Try.results78, go_sem, R]) rfl ⟨?_, ?_⟩
    · rfl
    · exact (((((BB.out.setCell (by first | (simp; done) | (simp; omega)) _).setCell (by first | (simp; done) | (simp; omega)) _).setCell (by first | (simp; done) | (simp; omega)) _).setCell (by first | (simp; done) | (simp; omega)) _).setCell (by first | (simp; done) | (simp; omega)) _).setCell (by first | (simp; done) | (simp; omega)) _
  go_enter Try.func78, Try.ntmps78
  go_wp2_with fail
  obtain ⟨W0, hW, hs0, K0, B0⟩ := start3 w 43 43 43 #[Value.int IntKind.i64 a0, Value.int IntKind.i64 a1, Value.int IntKind.i64 a2, Value.int IntKind.i64 a3, Value.int IntKind.i64 a4, Value.int IntKind.i64 a5] #[Value.int IntKind.i64 b0, Value.int IntKind.i64 b1, Value.int IntKind.i64 b2, Value.int IntKind.i64 b3, Value.int IntKind.i64 b4, Value.int IntKind.i64 b5] #[Value.int IntKind.i64 0, Value.int IntKind.i64 0, Value.int IntKind.i64 0, Value.int IntKind.i64 0, Value.int IntKind.i64 0, Value.int IntKind.i64 0]
  rw [hW]
  clear hW
  have KK := Lib.hid K0
  have BB := Lib.hid B0
  have R := K0.rules
  simp only [Rules] at R
  clear K0 B0
  have sz : w.heap.size + 1 + 1 + 1 ≤ W0.heap.size := by omega
  clear hs0
  (with_reducible refine (H1.out _).mono ?_)
  rintro e w1 ⟨rfl, hb⟩
  replace BB := Lib.hid (BB.out.trans (hb.mono BB.out.size))
  replace KK := Lib.hid (KK.out.below hb)
  replace sz := Nat.le_trans sz hb.size
  replace R := KK.out.rules
  simp only [Rules] at R
  clear hb
  go_wp2_with fail
  (with_reducible refine (H2.out _).mono ?_)
  rintro e w2 ⟨rfl, hb⟩
  replace BB := Lib.hid (BB.out.trans (hb.mono BB.out.size))
  replace KK := Lib.hid (KK.out.below hb)
  replace sz := Nat.le_trans sz hb.size
  replace R := KK.out.rules
  simp only [Rules] at R
  clear hb
  clear H1 H2
  go_wp2_with fail
  (with_reducible refine (H3.out _).mono ?_)
  rintro e u0 ⟨rfl, hb⟩
  replace BB := Lib.hid (BB.out.trans (hb.mono BB.out.size))
  replace KK := Lib.hid (KK.out.below hb)
  replace sz := Nat.le_trans sz hb.size
  replace R := KK.out.rules
  simp only [Rules] at R
  clear hb
  obtain ⟨s0, hs0⟩ : ∃ s, u0.heap.size = s := ⟨_, rfl⟩
  rw [hs0] at sz
  go_wp2_with fail
  obtain ⟨W3, hW, K3, B3, z3⟩ := name_world (KK.out.new (t := 41) (c := #[Value.int IntKind.i64 n0, Value.int IntKind.i64 d0]) hs0) (BB.out.alloc BB.out.size _) (s := s0 + 1) (by simp; omega)
  rw [hW]
  clear hW KK BB
  have KK := Lib.hid K3
  have BB := Lib.hid B3
  replace sz := Nat.le_trans (Nat.le_succ_of_le sz) z3
  clear K3 B3 z3 hs0
  (with_reducible refine (H4.out _).mono ?_)
  rintro e u1 ⟨rfl, hb⟩
  replace BB := Lib.hid (BB.out.trans (hb.mono BB.out.size))
  replace KK := Lib.hid (KK.out.below hb)
  replace sz := Nat.le_trans sz hb.size
  replace R := KK.out.rules
  simp only [Rules] at R
  clear hb
  obtain ⟨s1, hs1⟩ : ∃ s, u1.heap.size = s := ⟨_, rfl⟩
  rw [hs1] at sz
  go_wp2_with fail
  obtain ⟨W3, hW, K3, B3, z3⟩ := name_world (KK.out.new (t := 41) (c := #[Value.int IntKind.i64 n1, Value.int IntKind.i64 d1]) hs1) (BB.out.alloc BB.out.size _) (s := s1 + 1) (by simp; omega)
  rw [hW]
  clear hW KK BB
  have KK := Lib.hid K3
  have BB := Lib.hid B3
  replace sz := Nat.le_trans (Nat.le_succ_of_le sz) z3
  clear K3 B3 z3 hs1
  (with_reducible refine (H5.out _).mono ?_)
  rintro e u2 ⟨rfl, hb⟩
  replace BB := Lib.hid (BB.out.trans (hb.mono BB.out.size))
  replace KK := Lib.hid (KK.out.below hb)
  replace sz := Nat.le_trans sz hb.size
  replace R := KK.out.rules
  simp only [Rules] at R
  clear hb
  obtain ⟨s2, hs2⟩ : ∃ s, u2.heap.size = s := ⟨_, rfl⟩
  rw [hs2] at sz
  obtain ⟨kk, hkk⟩ : ∃ v, (k0 && (k1 && k2)) = v := ⟨_, rfl⟩
  rw [hkk] at HB
  have KZ := Lib.hid (KK.out.new (t := 41) (c := #[Value.int IntKind.i64 n2, Value.int IntKind.i64 d2]) hs2)
  have BZ := Lib.hid (BB.out.alloc BB.out.size (.cells #[Value.int IntKind.i64 n2, Value.int IntKind.i64 d2] 41))
  replace KK := KZ
  have BB := BZ
  have R := KK.out.rules
  simp only [Rules] at R
  clear KZ BZ KK
  cases k0
  case false =>
    obtain rfl : vB = false := by rw [HB.out, ← hkk]; simp
    clear HB
    simp only [pk_yes, pk_no]
    go_wp2
    refine bodyPost_ret (v := Value.tuple #[(Value.agg #[Value.int IntKind.i64 0, Value.int IntKind.i64 0, Value.int IntKind.i64 0, Value.int IntKind.i64 0, Value.int IntKind.i64 0, Value.int IntKind.i64 0]), .bool false]) (by simp [results, Try.results78, go_sem, R]) rfl ⟨?_, ?_⟩
    · rfl
    · exact (((((BB.out.setCell (by first | (simp; done) | (simp; omega)) _).setCell (by first | (simp; done) | (simp; omega)) _).setCell (by first | (simp; done) | (simp; omega)) _).setCell (by first | (simp; done) | (simp; omega)) _).setCell (by first | (simp; done) | (simp; omega)) _).setCell (by first | (simp; done) | (simp; omega)) _
  cases k1
  case false =>
    obtain rfl : vB = false := by rw [HB.out, ← hkk]; simp
    clear HB
    simp only [pk_yes, pk_no]
    go_wp2
    refine bodyPost_ret (v := Value.tuple #[(Value.agg #[Value.int IntKind.i64 0, Value.int IntKind.i64 0, Value.int IntKind.i64 0, Value.int IntKind.i64 0, Value.int IntKind.i64 0, Value.int IntKind.i64 0]), .bool false]) (by simp [results, Try.results78, go_sem, R]) rfl ⟨?_, ?_⟩
    · rfl
    · exact (((((BB.out.setCell (by first | (simp; done) | (simp; omega)) _).setCell (by first | (simp; done) | (simp; omega)) _).setCell (by first | (simp; done) | (simp; omega)) _).setCell (by first | (simp; done) | (simp; omega)) _).setCell (by first | (simp; done) | (simp; omega)) _).setCell (by first | (simp; done) | (simp; omega)) _
  cases k2
  case false =>
    obtain rfl : vB = false := by rw [HB.out, ← hkk]; simp
    clear HB
    simp only [pk_yes, pk_no]
    go_wp2
    refine bodyPost_ret (v := Value.tuple #[(Value.agg #[Value.int IntKind.i64 0, Value.int IntKind.i64 0, Value.int IntKind.i64 0, Value.int IntKind.i64 0, Value.int IntKind.i64 0, Value.int IntKind.i64 0]), .bool false]) (by simp [results, Try.results78, go_sem, R]) rfl ⟨?_, ?_⟩
    · rfl
    · exact (((((BB.out.setCell (by first | (simp; done) | (simp; omega)) _).setCell (by first | (simp; done) | (simp; omega)) _).setCell (by first | (simp; done) | (simp; omega)) _).setCell (by first | (simp; done) | (simp; omega)) _).setCell (by first | (simp; done) | (simp; omega)) _).setCell (by first | (simp; done) | (simp; omega)) _
  obtain rfl : vB = true := by rw [HB.out, ← hkk]; simp
  clear HB
  simp only [pk_yes, pk_no]
  go_wp2
  refine bodyPost_ret (v := Value.tuple #[(Value.agg #[Value.int IntKind.i64 n0, Value.int IntKind.i64 d0, Value.int IntKind.i64 n1, Value.int IntKind.i64 d1, Value.int IntKind.i64 n2, Value.int IntKind.i64 d2]), .bool true]) (by simp [results, Try.results78, go_sem, R]) rfl ⟨?_, ?_⟩
  · rfl
  · exact (((((BB.out.setCell (by first | (simp; done) | (simp; omega)) _).setCell (by first | (simp; done) | (simp; omega)) _).setCell (by first | (simp; done) | (simp; omega)) _).setCell (by first | (simp; done) | (simp; omega)) _).setCell (by first | (simp; done) | (simp; omega)) _).setCell (by first | (simp; done) | (simp; omega)) _
set_option maxHeartbeats 2000000 in
set_option maxRecDepth 100000 in
theorem AddBR_any (a0 a1 a2 a3 a4 a5 b0 b1 b2 b3 b4 b5 : Int) (ha0 : I64 a0) (ha1 : I64 a1) (ha2 : I64 a2) (ha3 : I64 a3) (ha4 : I64 a4) (ha5 : I64 a5) (hb0 : I64 b0) (hb1 : I64 b1) (hb2 : I64 b2) (hb3 : I64 b3) (hb4 : I64 b4) (hb5 : I64 b5) (w : World) :
    Calls Try.prog 79 #[(Value.agg #[Value.int IntKind.i64 a0, Value.int IntKind.i64 a1, Value.int IntKind.i64 a2, Value.int IntKind.i64 a3, Value.int IntKind.i64 a4, Value.int IntKind.i64 a5]), (Value.agg #[Value.int IntKind.i64 b0, Value.int IntKind.i64 b1, Value.int IntKind.i64 b2, Value.int IntKind.i64 b3, Value.int IntKind.i64 b4, Value.int IntKind.i64 b5])] w fun x w' => x = .returned (.tuple #[(Value.agg #[Value.int IntKind.i64 (pk (addOk a0 a1 a2 a3 a4 a5 b0 b1 b2 b3 b4 b5) (sumN a0 a1 b0 b1 false) 0), Value.int IntKind.i64 (pk (addOk a0 a1 a2 a3 a4 a5 b0 b1 b2 b3 b4 b5) (sumD a0 a1 b0 b1 false) 0), Value.int IntKind.i64 (pk (addOk a0 a1 a2 a3 a4 a5 b0 b1 b2 b3 b4 b5) (sumN a2 a3 b2 b3 false) 0), Value.int IntKind.i64 (pk (addOk a0 a1 a2 a3 a4 a5 b0 b1 b2 b3 b4 b5) (sumD a2 a3 b2 b3 false) 0), Value.int IntKind.i64 (pk (addOk a0 a1 a2 a3 a4 a5 b0 b1 b2 b3 b4 b5) (sumN a4 a5 b4 b5 false) 0), Value.int IntKind.i64 (pk (addOk a0 a1 a2 a3 a4 a5 b0 b1 b2 b3 b4 b5) (sumD a4 a5 b4 b5 false) 0)]), .bool (addOk a0 a1 a2 a3 a4 a5 b0 b1 b2 b3 b4 b5)]) ∧ Below w.heap.size w w' := by
  have H1 := Lib.hid (fun W => ValidBR_any a0 a1 a2 a3 a4 a5 ha0 ha1 ha2 ha3 ha4 ha5 W)
  have H2 := Lib.hid (fun W => ValidBR_any b0 b1 b2 b3 b4 b5 hb0 hb1 hb2 hb3 hb4 hb5 W)
  have H3 := Lib.hid (fun W => sumR_any a0 a1 b0 b1 false ha0 ha1 hb0 hb1 W)
  have H4 := Lib.hid (fun W => sumR_any a2 a3 b2 b3 false ha2 ha3 hb2 hb3 W)
  have H5 := Lib.hid (fun W => sumR_any a4 a5 b4 b5 false ha4 ha5 hb4 hb5 W)
  have HB : Hid ((addOk a0 a1 a2 a3 a4 a5 b0 b1 b2 b3 b4 b5) = (validB a0 a1 a2 a3 a4 a5 && validB b0 b1 b2 b3 b4 b5 && ((sumOk a0 a1 b0 b1 false) && ((sumOk a2 a3 b2 b3 false) && (sumOk a4 a5 b4 b5 false))))) := rfl
  clear ha0 ha1 ha2 ha3 ha4 ha5 hb0 hb1 hb2 hb3 hb4 hb5
  generalize (addOk a0 a1 a2 a3 a4 a5 b0 b1 b2 b3 b4 b5) = vB at *
  generalize sumN a0 a1 b0 b1 false = n0 at *
  generalize sumD a0 a1 b0 b1 false = d0 at *
  generalize sumOk a0 a1 b0 b1 false = k0 at *
  generalize sumN a2 a3 b2 b3 false = n1 at *
  generalize sumD a2 a3 b2 b3 false = d1 at *
  generalize sumOk a2 a3 b2 b3 false = k1 at *
  generalize sumN a4 a5 b4 b5 false = n2 at *
  generalize sumD a4 a5 b4 b5 false = d2 at *
  generalize sumOk a4 a5 b4 b5 false = k2 at *
  generalize validB a0 a1 a2 a3 a4 a5 = v0 at *
  generalize validB b0 b1 b2 b3 b4 b5 = v1 at *
  cases v0
  case false =>
    obtain rfl : vB = false := by rw [HB.out]; simp
    clear HB
    simp only [pk_yes, pk_no]
    go_enter Try.func79, Try.ntmps79
    go_wp2_with fail
    obtain ⟨W0, hW, hs0, K0, B0⟩ := start3 w 43 43 43 #[Value.int IntKind.i64 a0, Value.int IntKind.i64 a1, Value.int IntKind.i64 a2, Value.int IntKind.i64 a3, Value.int IntKind.i64 a4, Value.int IntKind.i64 a5] #[Value.int IntKind.i64 b0, Value.int IntKind.i64 b1, Value.int IntKind.i64 b2, Value.int IntKind.i64 b3, Value.int IntKind.i64 b4, Value.int IntKind.i64 b5] #[Value.int IntKind.i64 0, Value.int IntKind.i64 0, Value.int IntKind.i64 0, Value.int IntKind.i64 0, Value.int IntKind.i64 0, Value.int IntKind.i64 0]
    rw [hW]
    clear hW
    have KK := Lib.hid K0
    have BB := Lib.hid B0
    have R := K0.rules
    simp only [Rules] at R
    clear K0 B0
    (with_reducible refine (H1.out _).mono ?_)
    rintro e wv ⟨rfl, hbv⟩; replace BB := Lib.hid (BB.out.trans (hbv.mono BB.out.size)); replace KK := Lib.hid (KK.out.below hbv); replace R := KK.out.rules; simp only [gro.Rules] at R; clear hbv
    go_wp2
    refine bodyPost_ret (v := Value.tuple #[(Value.agg #[Value.int IntKind.i64 0, Value.int IntKind.i64 0, Value.int IntKind.i64 0, Value.int IntKind.i64 0, Value.int IntKind.i64 0, Value.int IntKind.i64 0]), .bool false]) (by simp [results, Try.results79, go_sem, R]) rfl ⟨?_, ?_⟩
    · rfl
    · exact (((((BB.out.setCell (by first | (simp; done) | (simp; omega)) _).setCell (by first | (simp; done) | (simp; omega)) _).setCell (by first | (simp; done) | (simp; omega)) _).setCell (by first | (simp; done) | (simp; omega)) _).setCell (by first | (simp; done) | (simp; omega)) _).setCell (by first | (simp; done) | (simp; omega)) _
  cases v1
  case false =>
    obtain rfl : vB = false := by rw [HB.out]; simp
    clear HB
    simp only [pk_yes, pk_no]
    go_enter Try.func79, Try.ntmps79
    go_wp2_with fail
    obtain ⟨W0, hW, hs0, K0, B0⟩ := start3 w 43 43 43 #[Value.int IntKind.i64 a0, Value.int IntKind.i64 a1, Value.int IntKind.i64 a2, Value.int IntKind.i64 a3, Value.int IntKind.i64 a4, Value.int IntKind.i64 a5] #[Value.int IntKind.i64 b0, Value.int IntKind.i64 b1, Value.int IntKind.i64 b2, Value.int IntKind.i64 b3, Value.int IntKind.i64 b4, Value.int IntKind.i64 b5] #[Value.int IntKind.i64 0, Value.int IntKind.i64 0, Value.int IntKind.i64 0, Value.int IntKind.i64 0, Value.int IntKind.i64 0, Value.int IntKind.i64 0]
    rw [hW]
    clear hW
    have KK := Lib.hid K0
    have BB := Lib.hid B0
    have R := K0.rules
    simp only [Rules] at R
    clear K0 B0
    (with_reducible refine (H1.out _).mono ?_)
    rintro e wv ⟨rfl, hbv⟩; replace BB := Lib.hid (BB.out.trans (hbv.mono BB.out.size)); replace KK := Lib.hid (KK.out.below hbv); replace R := KK.out.rules; simp only [gro.Rules] at R; clear hbv
    go_wp2_with fail
    (with_reducible refine (H2.out _).mono ?_)
    rintro e wv ⟨rfl, hbv⟩; replace BB := Lib.hid (BB.out.trans (hbv.mono BB.out.size)); replace KK := Lib.hid (KK.out.below hbv); replace R := KK.out.rules; simp only [gro.Rules] at R; clear hbv
    go_wp2
    refine bodyPost_ret (v := Value.tuple #[(Value.agg #[Value.int IntKind.i64 0, Value.int IntKind.i64 0, Value.int IntKind.i64 0, Value.int IntKind.i64 0, Value.int IntKind.i64 0, Value.int IntKind.i64 0]), .bool false]) (by simp [results, Try.results79, go_sem, R]) rfl ⟨?_, ?_⟩
    · rfl
    · exact (((((BB.out.setCell (by first | (simp; done) | (simp; omega)) _).setCell (by first | (simp; done) | (simp; omega)) _).setCell (by first | (simp; done) | (simp; omega)) _).setCell (by first | (simp; done) | (simp; omega)) _).setCell (by first | (simp; done) | (simp; omega)) _).setCell (by first | (simp; done) | (simp; omega)) _
  go_enter Try.func79, Try.ntmps79
  go_wp2_with fail
  obtain ⟨W0, hW, hs0, K0, B0⟩ := start3 w 43 43 43 #[Value.int IntKind.i64 a0, Value.int IntKind.i64 a1, Value.int IntKind.i64 a2, Value.int IntKind.i64 a3, Value.int IntKind.i64 a4, Value.int IntKind.i64 a5] #[Value.int IntKind.i64 b0, Value.int IntKind.i64 b1, Value.int IntKind.i64 b2, Value.int IntKind.i64 b3, Value.int IntKind.i64 b4, Value.int IntKind.i64 b5] #[Value.int IntKind.i64 0, Value.int IntKind.i64 0, Value.int IntKind.i64 0, Value.int IntKind.i64 0, Value.int IntKind.i64 0, Value.int IntKind.i64 0]
  rw [hW]
  clear hW
  have KK := Lib.hid K0
  have BB := Lib.hid B0
  have R := K0.rules
  simp only [Rules] at R
  clear K0 B0
  have sz : w.heap.size + 1 + 1 + 1 ≤ W0.heap.size := by omega
  clear hs0
  (with_reducible refine (H1.out _).mono ?_)
  rintro e w1 ⟨rfl, hb⟩
  replace BB := Lib.hid (BB.out.trans (hb.mono BB.out.size))
  replace KK := Lib.hid (KK.out.below hb)
  replace sz := Nat.le_trans sz hb.size
  replace R := KK.out.rules
  simp only [Rules] at R
  clear hb
  go_wp2_with fail
  (with_reducible refine (H2.out _).mono ?_)
  rintro e w2 ⟨rfl, hb⟩
  replace BB := Lib.hid (BB.out.trans (hb.mono BB.out.size))
  replace KK := Lib.hid (KK.out.below hb)
  replace sz := Nat.le_trans sz hb.size
  replace R := KK.out.rules
  simp only [Rules] at R
  clear hb
  clear H1 H2
  go_wp2_with fail
  (with_reducible refine (H3.out _).mono ?_)
  rintro e u0 ⟨rfl, hb⟩
  replace BB := Lib.hid (BB.out.trans (hb.mono BB.out.size))
  replace KK := Lib.hid (KK.out.below hb)
  replace sz := Nat.le_trans sz hb.size
  replace R := KK.out.rules
  simp only [Rules] at R
  clear hb
  obtain ⟨s0, hs0⟩ : ∃ s, u0.heap.size = s := ⟨_, rfl⟩
  rw [hs0] at sz
  go_wp2_with fail
  obtain ⟨W3, hW, K3, B3, z3⟩ := name_world (KK.out.new (t := 41) (c := #[Value.int IntKind.i64 n0, Value.int IntKind.i64 d0]) hs0) (BB.out.alloc BB.out.size _) (s := s0 + 1) (by simp; omega)
  rw [hW]
  clear hW KK BB
  have KK := Lib.hid K3
  have BB := Lib.hid B3
  replace sz := Nat.le_trans (Nat.le_succ_of_le sz) z3
  clear K3 B3 z3 hs0
  (with_reducible refine (H4.out _).mono ?_)
  rintro e u1 ⟨rfl, hb⟩
  replace BB := Lib.hid (BB.out.trans (hb.mono BB.out.size))
  replace KK := Lib.hid (KK.out.below hb)
  replace sz := Nat.le_trans sz hb.size
  replace R := KK.out.rules
  simp only [Rules] at R
  clear hb
  obtain ⟨s1, hs1⟩ : ∃ s, u1.heap.size = s := ⟨_, rfl⟩
  rw [hs1] at sz
  go_wp2_with fail
  obtain ⟨W3, hW, K3, B3, z3⟩ := name_world (KK.out.new (t := 41) (c := #[Value.int IntKind.i64 n1, Value.int IntKind.i64 d1]) hs1) (BB.out.alloc BB.out.size _) (s := s1 + 1) (by simp; omega)
  rw [hW]
  clear hW KK BB
  have KK := Lib.hid K3
  have BB := Lib.hid B3
  replace sz := Nat.le_trans (Nat.le_succ_of_le sz) z3
  clear K3 B3 z3 hs1
  (with_reducible refine (H5.out _).mono ?_)
  rintro e u2 ⟨rfl, hb⟩
  replace BB := Lib.hid (BB.out.trans (hb.mono BB.out.size))
  replace KK := Lib.hid (KK.out.below hb)
  replace sz := Nat.le_trans sz hb.size
  replace R := KK.out.rules
  simp only [Rules] at R
  clear hb
  obtain ⟨s2, hs2⟩ : ∃ s, u2.heap.size = s := ⟨_, rfl⟩
  rw [hs2] at sz
  obtain ⟨kk, hkk⟩ : ∃ v, (k0 && (k1 && k2)) = v := ⟨_, rfl⟩
  rw [hkk] at HB
  have KZ := Lib.hid (KK.out.new (t := 41) (c := #[Value.int IntKind.i64 n2, Value.int IntKind.i64 d2]) hs2)
  have BZ := Lib.hid (BB.out.alloc BB.out.size (.cells #[Value.int IntKind.i64 n2, Value.int IntKind.i64 d2] 41))
  replace KK := KZ
  have BB := BZ
  have R := KK.out.rules
  simp only [Rules] at R
  clear KZ BZ KK
  cases k0
  case false =>
    obtain rfl : vB = false := by rw [HB.out, ← hkk]; simp
    clear HB
    simp only [pk_yes, pk_no]
    go_wp2
    refine bodyPost_ret (v := Value.tuple #[(Value.agg #[Value.int IntKind.i64 0, Value.int IntKind.i64 0, Value.int IntKind.i64 0, Value.int IntKind.i64 0, Value.int IntKind.i64 0, Value.int IntKind.i64 0]), .bool false]) (by simp [results, Try.results79, go_sem, R]) rfl ⟨?_, ?_⟩
    · rfl
    · exact (((((BB.out.setCell (by first | (simp; done) | (simp; omega)) _).setCell (by first | (simp; done) | (simp; omega)) _).setCell (by first | (simp; done) | (simp; omega)) _).setCell (by first | (simp; done) | (simp; omega)) _).setCell (by first | (simp; done) | (simp; omega)) _).setCell (by first | (simp; done) | (simp; omega)) _
  cases k1
  case false =>
    obtain rfl : vB = false := by rw [HB.out, ← hkk]; simp
    clear HB
    simp only [pk_yes, pk_no]
    go_wp2
    refine bodyPost_ret (v := Value.tuple #[(Value.agg #[Value.int IntKind.i64 0, Value.int IntKind.i64 0, Value.int IntKind.i64 0, Value.int IntKind.i64 0, Value.int IntKind.i64 0, Value.int IntKind.i64 0]), .bool false]) (by simp [results, Try.results79, go_sem, R]) rfl ⟨?_, ?_⟩
    · rfl
    · exact (((((BB.out.setCell (by first | (simp; done) | (simp; omega)) _).setCell (by first | (simp; done) | (simp; omega)) _).setCell (by first | (simp; done) | (simp; omega)) _).setCell (by first | (simp; done) | (simp; omega)) _).setCell (by first | (simp; done) | (simp; omega)) _).setCell (by first | (simp; done) | (simp; omega)) _
  cases k2
  case false =>
    obtain rfl : vB = false := by rw [HB.out, ← hkk]; simp
    clear HB
    simp only [pk_yes, pk_no]
    go_wp2
    refine bodyPost_ret (v := Value.tuple #[(Value.agg #[Value.int IntKind.i64 0, Value.int IntKind.i64 0, Value.int IntKind.i64 0, Value.int IntKind.i64 0, Value.int IntKind.i64 0, Value.int IntKind.i64 0]), .bool false]) (by simp [results, Try.results79, go_sem, R]) rfl ⟨?_, ?_⟩
    · rfl
    · exact (((((BB.out.setCell (by first | (simp; done) | (simp; omega)) _).setCell (by first | (simp; done) | (simp; omega)) _).setCell (by first | (simp; done) | (simp; omega)) _).setCell (by first | (simp; done) | (simp; omega)) _).setCell (by first | (simp; done) | (simp; omega)) _).setCell (by first | (simp; done) | (simp; omega)) _
  obtain rfl : vB = true := by rw [HB.out, ← hkk]; simp
  clear HB
  simp only [pk_yes, pk_no]
  go_wp2
  refine bodyPost_ret (v := Value.tuple #[(Value.agg #[Value.int IntKind.i64 n0, Value.int IntKind.i64 d0, Value.int IntKind.i64 n1, Value.int IntKind.i64 d1, Value.int IntKind.i64 n2, Value.int IntKind.i64 d2]), .bool true]) (by simp [results, Try.results79, go_sem, R]) rfl ⟨?_, ?_⟩
  · rfl
  · exact (((((BB.out.setCell (by first | (simp; done) | (simp; omega)) _).setCell (by first | (simp; done) | (simp; omega)) _).setCell (by first | (simp; done) | (simp; omega)) _).setCell (by first | (simp; done) | (simp; omega)) _).setCell (by first | (simp; done) | (simp; omega)) _).setCell (by first | (simp; done) | (simp; omega)) _
end Go.Proofs.Ytofgjcfiinmimaa.wid
