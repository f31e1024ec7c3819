/- Contract of Meet of bounds in the reference. -/
import Derived.Test.YtoejhikcnnppnaaMeet
namespace Go.Proofs.Ytoejhikcnnppnaa.wid
open Go.RowKit Go.Proofs.Ytoejhikcnnppnaa.mem Go.Proofs.Ytoejhikcnnppnaa.gro
set_option linter.unusedVariables false
set_option linter.unusedSimpArgs false
theorem pk_not {b : Bool} {x y : Int} : pk (!b) x y = pk b y x := by cases b <;> rfl
set_option maxHeartbeats 2000000 in
set_option maxRecDepth 100000 in
theorem MeetR_any (a0 a1 a2 a3 a4 a5 b0 b1 b2 b3 b4 b5 : Int) (ha0 : I64 a0) (ha1 : I64 a1) (ha2 : I64 a2) (ha3 : I64 a3) (ha4 : I64 a4) (ha5 : I64 a5) (hb0 : I64 b0) (hb1 : I64 b1) (hb2 : I64 b2) (hb3 : I64 b3) (hb4 : I64 b4) (hb5 : I64 b5) (w : World) :
    Calls Try.prog 49 #[(Value.agg #[Value.int IntKind.i64 a0, Value.int IntKind.i64 a1, Value.int IntKind.i64 a2, Value.int IntKind.i64 a3, Value.int IntKind.i64 a4, Value.int IntKind.i64 a5]), (Value.agg #[Value.int IntKind.i64 b0, Value.int IntKind.i64 b1, Value.int IntKind.i64 b2, Value.int IntKind.i64 b3, Value.int IntKind.i64 b4, Value.int IntKind.i64 b5])] w fun x w' => x = .returned (.tuple #[(Value.agg #[Value.int IntKind.i64 (pk (meetOk a0 a1 a2 a3 a4 a5 b0 b1 b2 b3 b4 b5) (mosN a0 a1 b0 b1) 0), Value.int IntKind.i64 (pk (meetOk a0 a1 a2 a3 a4 a5 b0 b1 b2 b3 b4 b5) (mosD a0 a1 b0 b1) 0), Value.int IntKind.i64 (pk (meetOk a0 a1 a2 a3 a4 a5 b0 b1 b2 b3 b4 b5) (lesN (mosN a2 a3 (mosN a0 a1 b0 b1) (mosD a0 a1 b0 b1)) (mosD a2 a3 (mosN a0 a1 b0 b1) (mosD a0 a1 b0 b1)) (lesN a4 a5 b4 b5) (lesD a4 a5 b4 b5)) 0), Value.int IntKind.i64 (pk (meetOk a0 a1 a2 a3 a4 a5 b0 b1 b2 b3 b4 b5) (lesD (mosN a2 a3 (mosN a0 a1 b0 b1) (mosD a0 a1 b0 b1)) (mosD a2 a3 (mosN a0 a1 b0 b1) (mosD a0 a1 b0 b1)) (lesN a4 a5 b4 b5) (lesD a4 a5 b4 b5)) 0), Value.int IntKind.i64 (pk (meetOk a0 a1 a2 a3 a4 a5 b0 b1 b2 b3 b4 b5) (lesN a4 a5 b4 b5) 0), Value.int IntKind.i64 (pk (meetOk a0 a1 a2 a3 a4 a5 b0 b1 b2 b3 b4 b5) (lesD a4 a5 b4 b5) 0)]), .bool (meetOk a0 a1 a2 a3 a4 a5 b0 b1 b2 b3 b4 b5)]) ∧ Below w.heap.size w w' := by
  have H1 := Lib.hid (fun W => ValidBR_any a0 a1 a2 a3 a4 a5 ha0 ha1 ha2 ha3 ha4 ha5 W)
  have H2 := Lib.hid (fun W => ValidBR_any b0 b1 b2 b3 b4 b5 hb0 hb1 hb2 hb3 hb4 hb5 W)
  have g1 := cmpQ_anti a0 a1 b0 b1
  have g2 := cmpQ_anti a4 a5 b4 b5
  have H3 := Lib.hid (fun W => CompareQR_any b0 b1 a0 a1 hb0 hb1 ha0 ha1 W)
  have H4 := Lib.hid (fun W => CompareQR_any b4 b5 a4 a5 hb4 hb5 ha4 ha5 W)
  obtain ⟨n1, q1⟩ : ∃ v, decide (0 < cmpQ b0 b1 a0 a1) = v := ⟨_, rfl⟩
  obtain ⟨n2, q3⟩ : ∃ v, decide (cmpQ b4 b5 a4 a5 < 0) = v := ⟨_, rfl⟩
  have e1 : mosP a0 a1 b0 b1 = !n1 := by rw [← q1, ← decide_not]; exact decide_eq_decide.2 (by omega)
  have e2 : lesP a4 a5 b4 b5 = !n2 := by rw [← q3, ← decide_not]; exact decide_eq_decide.2 (by omega)
  have HB : Hid ((meetOk a0 a1 a2 a3 a4 a5 b0 b1 b2 b3 b4 b5) = (validB a0 a1 a2 a3 a4 a5 && validB b0 b1 b2 b3 b4 b5 && decide (cmpQ (mosN a0 a1 b0 b1) (mosD a0 a1 b0 b1) (lesN a4 a5 b4 b5) (lesD a4 a5 b4 b5) ≤ 0))) := rfl
  have eLn : (mosN a0 a1 b0 b1) = pk n1 b0 a0 := by unfold mosN; rw [e1, pk_not]
  have eLd : (mosD a0 a1 b0 b1) = pk n1 b1 a1 := by unfold mosD; rw [e1, pk_not]
  have eHn : (lesN a4 a5 b4 b5) = pk n2 b4 a4 := by unfold lesN; rw [e2, pk_not]
  have eHd : (lesD a4 a5 b4 b5) = pk n2 b5 a5 := by unfold lesD; rw [e2, pk_not]
  have bLn : I64 (pk n1 b0 a0) := pk_bd hb0 ha0
  have bLd : I64 (pk n1 b1 a1) := pk_bd hb1 ha1
  have bHn : I64 (pk n2 b4 a4) := pk_bd hb4 ha4
  have bHd : I64 (pk n2 b5 a5) := pk_bd hb5 ha5
  rw [eLn, eLd, eHn, eHd] at HB
  rw [eLn, eLd, eHn, eHd]
  generalize (meetOk a0 a1 a2 a3 a4 a5 b0 b1 b2 b3 b4 b5) = vB at *
  clear e1 e2 g1 g2 eLn eLd eHn eHd
  generalize cmpQ b0 b1 a0 a1 = c1 at *
  generalize cmpQ b4 b5 a4 a5 = c2 at *
  obtain ⟨Ln, hLn⟩ : ∃ v, pk n1 b0 a0 = v := ⟨_, rfl⟩
  obtain ⟨Ld, hLd⟩ : ∃ v, pk n1 b1 a1 = v := ⟨_, rfl⟩
  obtain ⟨Hn, hHn⟩ : ∃ v, pk n2 b4 a4 = v := ⟨_, rfl⟩
  obtain ⟨Hd, hHd⟩ : ∃ v, pk n2 b5 a5 = v := ⟨_, rfl⟩
  rw [hLn] at HB bLn
  rw [hLd] at HB bLd
  rw [hHn] at HB bHn
  rw [hHd] at HB bHd
  rw [hLn, hLd, hHn, hHd]
  obtain ⟨n3, q4⟩ : ∃ v, decide (cmpQ a2 a3 Ln Ld < 0) = v := ⟨_, rfl⟩
  have eEn : mosN a2 a3 Ln Ld = pk n3 Ln a2 := by
    unfold mosN; rw [show mosP a2 a3 Ln Ld = !n3 by rw [← q4, ← decide_not]; exact decide_eq_decide.2 (by omega), pk_not]
  have eEd : mosD a2 a3 Ln Ld = pk n3 Ld a3 := by
    unfold mosD; rw [show mosP a2 a3 Ln Ld = !n3 by rw [← q4, ← decide_not]; exact decide_eq_decide.2 (by omega), pk_not]
  rw [eEn, eEd]
  clear eEn eEd
  have H5 := Lib.hid (fun W => CompareQR_any Ln Ld Hn Hd bLn bLd bHn bHd W)
  have H6 := Lib.hid (fun W => CompareQR_any a2 a3 Ln Ld ha2 ha3 bLn bLd W)
  have bEn : I64 (pk n3 Ln a2) := pk_bd bLn ha2
  have bEd : I64 (pk n3 Ld a3) := pk_bd bLd ha3
  generalize cmpQ a2 a3 Ln Ld = c3 at *
  obtain ⟨En, hEn⟩ : ∃ v, pk n3 Ln a2 = v := ⟨_, rfl⟩
  obtain ⟨Ed, hEd⟩ : ∃ v, pk n3 Ld a3 = v := ⟨_, rfl⟩
  rw [hEn] at bEn
  rw [hEd] at bEd
  rw [hEn, hEd]
  have H7 := Lib.hid (fun W => CompareQR_any En Ed Hn Hd bEn bEd bHn bHd W)
  obtain ⟨n4, q5⟩ : ∃ v, decide (0 < cmpQ En Ed Hn Hd) = v := ⟨_, rfl⟩
  have eMn : lesN En Ed Hn Hd = pk n4 Hn En := by
    unfold lesN; rw [show lesP En Ed Hn Hd = !n4 by rw [← q5, ← decide_not]; exact decide_eq_decide.2 (by omega), pk_not]
  have eMd : lesD En Ed Hn Hd = pk n4 Hd Ed := by
    unfold lesD; rw [show lesP En Ed Hn Hd = !n4 by rw [← q5, ← decide_not]; exact decide_eq_decide.2 (by omega), pk_not]
  rw [eMn, eMd]
  clear eMn eMd bLn bLd bHn bHd bEn bEd ha0 ha1 ha2 ha3 ha4 ha5 hb0 hb1 hb2 hb3 hb4 hb5
  generalize cmpQ En Ed Hn Hd = c4 at *
  generalize cmpQ Ln Ld Hn Hd = c at *
  obtain ⟨Mn, hMn⟩ : ∃ v, pk n4 Hn En = v := ⟨_, rfl⟩
  obtain ⟨Md, hMd⟩ : ∃ v, pk n4 Hd Ed = v := ⟨_, rfl⟩
  rw [hMn, hMd]
  generalize validB a0 a1 a2 a3 a4 a5 = v0 at *
  generalize validB b0 b1 b2 b3 b4 b5 = v1 at *
  obtain ⟨v2, q2⟩ : ∃ v, decide (0 < c) = v := ⟨_, rfl⟩
  have hv2 : decide (c ≤ 0) = !v2 := by rw [← q2, ← decide_not]; exact decide_eq_decide.2 (by omega)
  rw [hv2] at HB
  clear hv2
  cases v0
  case false =>
    obtain rfl : vB = false := by rw [HB.out]; simp
    clear HB
    simp only [pk_yes, pk_no]
    go_enter Try.func49, Try.ntmps49
    go_wp2_with fail
    obtain ⟨W0, hW, hs0, K0, B0⟩ := start3 w 36 36 36 #[Value.int IntKind.i64 a0, Value.int IntKind.i64 a1, Value.int IntKind.i64 a2, Value.int IntKind.i64 a3, Value.int IntKind.i64 a4, Value.int IntKind.i64 a5] #[Value.int IntKind.i64 b0, Value.int IntKind.i64 b1, Value.int IntKind.i64 b2, Value.int IntKind.i64 b3, Value.int IntKind.i64 b4, Value.int IntKind.i64 b5] #[Value.int IntKind.i64 0, Value.int IntKind.i64 0, Value.int IntKind.i64 0, Value.int IntKind.i64 0, Value.int IntKind.i64 0, Value.int IntKind.i64 0]
    rw [hW]
    clear hW
    have KK := Lib.hid K0
    have BB := Lib.hid B0
    have R := K0.rules
    simp only [Rules] at R
    clear K0 B0
    (with_reducible refine (H1.out _).mono ?_)
    rintro e wv ⟨rfl, hbv⟩; replace BB := Lib.hid (BB.out.trans (hbv.mono BB.out.size)); replace KK := Lib.hid (KK.out.below hbv); replace R := KK.out.rules; simp only [gro.Rules] at R; clear hbv
    go_wp2
    refine bodyPost_ret (v := Value.tuple #[(Value.agg #[Value.int IntKind.i64 0, Value.int IntKind.i64 0, Value.int IntKind.i64 0, Value.int IntKind.i64 0, Value.int IntKind.i64 0, Value.int IntKind.i64 0]), .bool false]) (by simp [results, Try.results49, go_sem, R]) rfl ⟨?_, ?_⟩
    · rfl
    · exact (((((BB.out.setCell (by first | (simp; done) | (simp; omega)) _).setCell (by first | (simp; done) | (simp; omega)) _).setCell (by first | (simp; done) | (simp; omega)) _).setCell (by first | (simp; done) | (simp; omega)) _).setCell (by first | (simp; done) | (simp; omega)) _).setCell (by first | (simp; done) | (simp; omega)) _
  cases v1
  case false =>
    obtain rfl : vB = false := by rw [HB.out]; simp
    clear HB
    simp only [pk_yes, pk_no]
    go_enter Try.func49, Try.ntmps49
    go_wp2_with fail
    obtain ⟨W0, hW, hs0, K0, B0⟩ := start3 w 36 36 36 #[Value.int IntKind.i64 a0, Value.int IntKind.i64 a1, Value.int IntKind.i64 a2, Value.int IntKind.i64 a3, Value.int IntKind.i64 a4, Value.int IntKind.i64 a5] #[Value.int IntKind.i64 b0, Value.int IntKind.i64 b1, Value.int IntKind.i64 b2, Value.int IntKind.i64 b3, Value.int IntKind.i64 b4, Value.int IntKind.i64 b5] #[Value.int IntKind.i64 0, Value.int IntKind.i64 0, Value.int IntKind.i64 0, Value.int IntKind.i64 0, Value.int IntKind.i64 0, Value.int IntKind.i64 0]
    rw [hW]
    clear hW
    have KK := Lib.hid K0
    have BB := Lib.hid B0
    have R := K0.rules
    simp only [Rules] at R
    clear K0 B0
    (with_reducible refine (H1.out _).mono ?_)
    rintro e wv ⟨rfl, hbv⟩; replace BB := Lib.hid (BB.out.trans (hbv.mono BB.out.size)); replace KK := Lib.hid (KK.out.below hbv); replace R := KK.out.rules; simp only [gro.Rules] at R; clear hbv
    go_wp2_with fail
    (with_reducible refine (H2.out _).mono ?_)
    rintro e wv ⟨rfl, hbv⟩; replace BB := Lib.hid (BB.out.trans (hbv.mono BB.out.size)); replace KK := Lib.hid (KK.out.below hbv); replace R := KK.out.rules; simp only [gro.Rules] at R; clear hbv
    go_wp2
    refine bodyPost_ret (v := Value.tuple #[(Value.agg #[Value.int IntKind.i64 0, Value.int IntKind.i64 0, Value.int IntKind.i64 0, Value.int IntKind.i64 0, Value.int IntKind.i64 0, Value.int IntKind.i64 0]), .bool false]) (by simp [results, Try.results49, go_sem, R]) rfl ⟨?_, ?_⟩
    · rfl
    · exact (((((BB.out.setCell (by first | (simp; done) | (simp; omega)) _).setCell (by first | (simp; done) | (simp; omega)) _).setCell (by first | (simp; done) | (simp; omega)) _).setCell (by first | (simp; done) | (simp; omega)) _).setCell (by first | (simp; done) | (simp; omega)) _).setCell (by first | (simp; done) | (simp; omega)) _
  go_enter Try.func49, Try.ntmps49
  go_wp2_with fail
  obtain ⟨W0, hW, hs0, K0, B0⟩ := start3 w 36 36 36 #[Value.int IntKind.i64 a0, Value.int IntKind.i64 a1, Value.int IntKind.i64 a2, Value.int IntKind.i64 a3, Value.int IntKind.i64 a4, Value.int IntKind.i64 a5] #[Value.int IntKind.i64 b0, Value.int IntKind.i64 b1, Value.int IntKind.i64 b2, Value.int IntKind.i64 b3, Value.int IntKind.i64 b4, Value.int IntKind.i64 b5] #[Value.int IntKind.i64 0, Value.int IntKind.i64 0, Value.int IntKind.i64 0, Value.int IntKind.i64 0, Value.int IntKind.i64 0, Value.int IntKind.i64 0]
  rw [hW]
  clear hW
  have KK := Lib.hid K0
  have BB := Lib.hid B0
  have R := K0.rules
  simp only [Rules] at R
  clear K0 B0
  have sz : w.heap.size + 1 + 1 + 1 ≤ W0.heap.size := by omega
  clear hs0
  (with_reducible refine (H1.out _).mono ?_)
  rintro e w1 ⟨rfl, hb⟩
  replace BB := Lib.hid (BB.out.trans (hb.mono BB.out.size))
  replace KK := Lib.hid (KK.out.below hb)
  replace sz := Nat.le_trans sz hb.size
  replace R := KK.out.rules
  simp only [Rules] at R
  clear hb
  go_wp2_with fail
  (with_reducible refine (H2.out _).mono ?_)
  rintro e w2 ⟨rfl, hb⟩
  replace BB := Lib.hid (BB.out.trans (hb.mono BB.out.size))
  replace KK := Lib.hid (KK.out.below hb)
  replace sz := Nat.le_trans sz hb.size
  replace R := KK.out.rules
  simp only [Rules] at R
  clear hb
  clear H1 H2
  obtain ⟨s, hs⟩ : ∃ s, w2.heap.size = s := ⟨_, rfl⟩
  rw [hs] at sz
  go_wp2_with fail
  obtain ⟨W3, hW, K3, B3, z3⟩ := name_world (KK.out.new (t := 36) (c := #[Value.int IntKind.i64 a0, Value.int IntKind.i64 a1, Value.int IntKind.i64 a2, Value.int IntKind.i64 a3, Value.int IntKind.i64 a4, Value.int IntKind.i64 a5]) hs) (BB.out.alloc BB.out.size _) (s := 0) (by omega)
  rw [hW]
  clear hW hs KK BB
  have KK := Lib.hid K3
  have BB := Lib.hid B3
  replace R := K3.rules
  simp only [Rules] at R
  clear K3 B3 z3
  (with_reducible refine (H3.out _).mono ?_)
  rintro e wv ⟨rfl, hbv⟩; replace BB := Lib.hid (BB.out.trans (hbv.mono BB.out.size)); replace KK := Lib.hid (KK.out.below hbv); replace R := KK.out.rules; simp only [gro.Rules] at R; clear hbv
  cases n1
  case false =>
    simp only [pk_yes, pk_no] at hLn
    subst hLn
    simp only [pk_yes, pk_no] at hLd
    subst hLd
    go_wp2_with fail
    (with_reducible refine (H4.out _).mono ?_)
    rintro e wv ⟨rfl, hbv⟩; replace BB := Lib.hid (BB.out.trans (hbv.mono BB.out.size)); replace KK := Lib.hid (KK.out.below hbv); replace R := KK.out.rules; simp only [gro.Rules] at R; clear hbv
    cases n2
    case false =>
      simp only [pk_yes, pk_no] at hHn
      subst hHn
      simp only [pk_yes, pk_no] at hHd
      subst hHd
      go_wp2_with fail
      (with_reducible refine (H5.out _).mono ?_)
      rintro e wv ⟨rfl, hbv⟩; replace BB := Lib.hid (BB.out.trans (hbv.mono BB.out.size)); replace KK := Lib.hid (KK.out.below hbv); replace R := KK.out.rules; simp only [gro.Rules] at R; clear hbv
      cases v2
      case true =>
        obtain rfl : vB = false := by rw [HB.out]; simp
        clear HB
        go_wp2
        simp only [pk_yes, pk_no]
        refine bodyPost_ret (v := Value.tuple #[(Value.agg #[Value.int IntKind.i64 0, Value.int IntKind.i64 0, Value.int IntKind.i64 0, Value.int IntKind.i64 0, Value.int IntKind.i64 0, Value.int IntKind.i64 0]), .bool false]) (by simp [results, Try.results49, go_sem, R]) rfl ⟨?_, ?_⟩
        · rfl
        · exact (((((BB.out.setCell (by first | (simp; done) | (simp; omega)) _).setCell (by first | (simp; done) | (simp; omega)) _).setCell (by first | (simp; done) | (simp; omega)) _).setCell (by first | (simp; done) | (simp; omega)) _).setCell (by first | (simp; done) | (simp; omega)) _).setCell (by first | (simp; done) | (simp; omega)) _
      case false =>
        obtain rfl : vB = true := by rw [HB.out]; simp
        clear HB
        go_wp2_with fail
        (with_reducible refine (H6.out _).mono ?_)
        rintro e wv ⟨rfl, hbv⟩; replace BB := Lib.hid (BB.out.trans (hbv.mono BB.out.size)); replace KK := Lib.hid (KK.out.below hbv); replace R := KK.out.rules; simp only [gro.Rules] at R; clear hbv
        cases n3
        case false =>
          simp only [pk_yes, pk_no] at hEn
          subst hEn
          simp only [pk_yes, pk_no] at hEd
          subst hEd
          go_wp2_with fail
          (with_reducible refine (H7.out _).mono ?_)
          rintro e wv ⟨rfl, hbv⟩; replace BB := Lib.hid (BB.out.trans (hbv.mono BB.out.size)); replace KK := Lib.hid (KK.out.below hbv); replace R := KK.out.rules; simp only [gro.Rules] at R; clear hbv
          cases n4
          case false =>
            simp only [pk_yes, pk_no] at hMn
            subst hMn
            simp only [pk_yes, pk_no] at hMd
            subst hMd
            go_wp2
            simp only [pk_yes, pk_no]
            refine bodyPost_ret (v := Value.tuple #[(Value.agg #[Value.int IntKind.i64 a0, Value.int IntKind.i64 a1, Value.int IntKind.i64 a2, Value.int IntKind.i64 a3, Value.int IntKind.i64 a4, Value.int IntKind.i64 a5]), Value.bool true]) (by simp [results, Try.results49, go_sem, R]) rfl ⟨?_, ?_⟩
            · rfl
            · exact (((((BB.out.setCell (by first | (simp; done) | (simp; omega)) _).setCell (by first | (simp; done) | (simp; omega)) _).setCell (by first | (simp; done) | (simp; omega)) _).setCell (by first | (simp; done) | (simp; omega)) _).setCell (by first | (simp; done) | (simp; omega)) _).setCell (by first | (simp; done) | (simp; omega)) _
          case true =>
            simp only [pk_yes, pk_no] at hMn
            subst hMn
            simp only [pk_yes, pk_no] at hMd
            subst hMd
            go_wp2
            simp only [pk_yes, pk_no]
            refine bodyPost_ret (v := Value.tuple #[(Value.agg #[Value.int IntKind.i64 a0, Value.int IntKind.i64 a1, Value.int IntKind.i64 a4, Value.int IntKind.i64 a5, Value.int IntKind.i64 a4, Value.int IntKind.i64 a5]), Value.bool true]) (by simp [results, Try.results49, go_sem, R]) rfl ⟨?_, ?_⟩
            · rfl
            · exact (((((((BB.out.setCell (by first | (simp; done) | (simp; omega)) _).setCell (by first | (simp; done) | (simp; omega)) _).setCell (by first | (simp; done) | (simp; omega)) _).setCell (by first | (simp; done) | (simp; omega)) _).setCell (by first | (simp; done) | (simp; omega)) _).setCell (by first | (simp; done) | (simp; omega)) _).setCell (by first | (simp; done) | (simp; omega)) _).setCell (by first | (simp; done) | (simp; omega)) _
        case true =>
          simp only [pk_yes, pk_no] at hEn
          subst hEn
          simp only [pk_yes, pk_no] at hEd
          subst hEd
          go_wp2_with fail
          obtain ⟨W3, hW, K3, B3, z3⟩ := name_world (gro.Bx.put23 (u := Value.int IntKind.i64 a0) (v := Value.int IntKind.i64 a1) KK.out (by simp; omega)) ((BB.out.setCell (by first | (simp; done) | (simp; omega)) _).setCell (by first | (simp; done) | (simp; omega)) _) (s := 0) (by omega)
          rw [hW]
          clear hW KK BB
          have KK := Lib.hid K3
          have BB := Lib.hid B3
          replace R := K3.rules
          simp only [Rules] at R
          clear K3 B3 z3
          (with_reducible refine (H7.out _).mono ?_)
          rintro e wv ⟨rfl, hbv⟩; replace BB := Lib.hid (BB.out.trans (hbv.mono BB.out.size)); replace KK := Lib.hid (KK.out.below hbv); replace R := KK.out.rules; simp only [gro.Rules] at R; clear hbv
          cases n4
          case false =>
            simp only [pk_yes, pk_no] at hMn
            subst hMn
            simp only [pk_yes, pk_no] at hMd
            subst hMd
            go_wp2
            simp only [pk_yes, pk_no]
            refine bodyPost_ret (v := Value.tuple #[(Value.agg #[Value.int IntKind.i64 a0, Value.int IntKind.i64 a1, Value.int IntKind.i64 a0, Value.int IntKind.i64 a1, Value.int IntKind.i64 a4, Value.int IntKind.i64 a5]), Value.bool true]) (by simp [results, Try.results49, go_sem, R]) rfl ⟨?_, ?_⟩
            · rfl
            · exact (((((BB.out.setCell (by first | (simp; done) | (simp; omega)) _).setCell (by first | (simp; done) | (simp; omega)) _).setCell (by first | (simp; done) | (simp; omega)) _).setCell (by first | (simp; done) | (simp; omega)) _).setCell (by first | (simp; done) | (simp; omega)) _).setCell (by first | (simp; done) | (simp; omega)) _
          case true =>
            simp only [pk_yes, pk_no] at hMn
            subst hMn
            simp only [pk_yes, pk_no] at hMd
            subst hMd
            go_wp2
            simp only [pk_yes, pk_no]
            refine bodyPost_ret (v := Value.tuple #[(Value.agg #[Value.int IntKind.i64 a0, Value.int IntKind.i64 a1, Value.int IntKind.i64 a4, Value.int IntKind.i64 a5, Value.int IntKind.i64 a4, Value.int IntKind.i64 a5]), Value.bool true]) (by simp [results, Try.results49, go_sem, R]) rfl ⟨?_, ?_⟩
            · rfl
            · exact (((((((BB.out.setCell (by first | (simp; done) | (simp; omega)) _).setCell (by first | (simp; done) | (simp; omega)) _).setCell (by first | (simp; done) | (simp; omega)) _).setCell (by first | (simp; done) | (simp; omega)) _).setCell (by first | (simp; done) | (simp; omega)) _).setCell (by first | (simp; done) | (simp; omega)) _).setCell (by first | (simp; done) | (simp; omega)) _).setCell (by first | (simp; done) | (simp; omega)) _
    case true =>
      simp only [pk_yes, pk_no] at hHn
      subst hHn
      simp only [pk_yes, pk_no] at hHd
      subst hHd
      go_wp2_with fail
      obtain ⟨W3, hW, K3, B3, z3⟩ := name_world (gro.Bx.put45 (u := Value.int IntKind.i64 b4) (v := Value.int IntKind.i64 b5) KK.out (by simp; omega)) ((BB.out.setCell (by first | (simp; done) | (simp; omega)) _).setCell (by first | (simp; done) | (simp; omega)) _) (s := 0) (by omega)
      rw [hW]
      clear hW KK BB
      have KK := Lib.hid K3
      have BB := Lib.hid B3
      replace R := K3.rules
      simp only [Rules] at R
      clear K3 B3 z3
      (with_reducible refine (H5.out _).mono ?_)
      rintro e wv ⟨rfl, hbv⟩; replace BB := Lib.hid (BB.out.trans (hbv.mono BB.out.size)); replace KK := Lib.hid (KK.out.below hbv); replace R := KK.out.rules; simp only [gro.Rules] at R; clear hbv
      cases v2
      case true =>
        obtain rfl : vB = false := by rw [HB.out]; simp
        clear HB
        go_wp2
        simp only [pk_yes, pk_no]
        refine bodyPost_ret (v := Value.tuple #[(Value.agg #[Value.int IntKind.i64 0, Value.int IntKind.i64 0, Value.int IntKind.i64 0, Value.int IntKind.i64 0, Value.int IntKind.i64 0, Value.int IntKind.i64 0]), .bool false]) (by simp [results, Try.results49, go_sem, R]) rfl ⟨?_, ?_⟩
        · rfl
        · exact (((((BB.out.setCell (by first | (simp; done) | (simp; omega)) _).setCell (by first | (simp; done) | (simp; omega)) _).setCell (by first | (simp; done) | (simp; omega)) _).setCell (by first | (simp; done) | (simp; omega)) _).setCell (by first | (simp; done) | (simp; omega)) _).setCell (by first | (simp; done) | (simp; omega)) _
      case false =>
        obtain rfl : vB = true := by rw [HB.out]; simp
        clear HB
        go_wp2_with fail
        (with_reducible refine (H6.out _).mono ?_)
        rintro e wv ⟨rfl, hbv⟩; replace BB := Lib.hid (BB.out.trans (hbv.mono BB.out.size)); replace KK := Lib.hid (KK.out.below hbv); replace R := KK.out.rules; simp only [gro.Rules] at R; clear hbv
        cases n3
        case false =>
          simp only [pk_yes, pk_no] at hEn
          subst hEn
          simp only [pk_yes, pk_no] at hEd
          subst hEd
          go_wp2_with fail
          (with_reducible refine (H7.out _).mono ?_)
          rintro e wv ⟨rfl, hbv⟩; replace BB := Lib.hid (BB.out.trans (hbv.mono BB.out.size)); replace KK := Lib.hid (KK.out.below hbv); replace R := KK.out.rules; simp only [gro.Rules] at R; clear hbv
          cases n4
          case false =>
            simp only [pk_yes, pk_no] at hMn
            subst hMn
            simp only [pk_yes, pk_no] at hMd
            subst hMd
            go_wp2
            simp only [pk_yes, pk_no]
            refine bodyPost_ret (v := Value.tuple #[(Value.agg #[Value.int IntKind.i64 a0, Value.int IntKind.i64 a1, Value.int IntKind.i64 a2, Value.int IntKind.i64 a3, Value.int IntKind.i64 b4, Value.int IntKind.i64 b5]), Value.bool true]) (by simp [results, Try.results49, go_sem, R]) rfl ⟨?_, ?_⟩
            · rfl
            · exact (((((BB.out.setCell (by first | (simp; done) | (simp; omega)) _).setCell (by first | (simp; done) | (simp; omega)) _).setCell (by first | (simp; done) | (simp; omega)) _).setCell (by first | (simp; done) | (simp; omega)) _).setCell (by first | (simp; done) | (simp; omega)) _).setCell (by first | (simp; done) | (simp; omega)) _
          case true =>
            simp only [pk_yes, pk_no] at hMn
            subst hMn
            simp only [pk_yes, pk_no] at hMd
            subst hMd
            go_wp2
            simp only [pk_yes, pk_no]
            refine bodyPost_ret (v := Value.tuple #[(Value.agg #[Value.int IntKind.i64 a0, Value.int IntKind.i64 a1, Value.int IntKind.i64 b4, Value.int IntKind.i64 b5, Value.int IntKind.i64 b4, Value.int IntKind.i64 b5]), Value.bool true]) (by simp [results, Try.results49, go_sem, R]) rfl ⟨?_, ?_⟩
            · rfl
            · exact (((((((BB.out.setCell (by first | (simp; done) | (simp; omega)) _).setCell (by first | (simp; done) | (simp; omega)) _).setCell (by first | (simp; done) | (simp; omega)) _).setCell (by first | (simp; done) | (simp; omega)) _).setCell (by first | (simp; done) | (simp; omega)) _).setCell (by first | (simp; done) | (simp; omega)) _).setCell (by first | (simp; done) | (simp; omega)) _).setCell (by first | (simp; done) | (simp; omega)) _
        case true =>
          simp only [pk_yes, pk_no] at hEn
          subst hEn
          simp only [pk_yes, pk_no] at hEd
          subst hEd
          go_wp2_with fail
          obtain ⟨W3, hW, K3, B3, z3⟩ := name_world (gro.Bx.put23 (u := Value.int IntKind.i64 a0) (v := Value.int IntKind.i64 a1) KK.out (by simp; omega)) ((BB.out.setCell (by first | (simp; done) | (simp; omega)) _).setCell (by first | (simp; done) | (simp; omega)) _) (s := 0) (by omega)
          rw [hW]
          clear hW KK BB
          have KK := Lib.hid K3
          have BB := Lib.hid B3
          replace R := K3.rules
          simp only [Rules] at R
          clear K3 B3 z3
          (with_reducible refine (H7.out _).mono ?_)
          rintro e wv ⟨rfl, hbv⟩; replace BB := Lib.hid (BB.out.trans (hbv.mono BB.out.size)); replace KK := Lib.hid (KK.out.below hbv); replace R := KK.out.rules; simp only [gro.Rules] at R; clear hbv
          cases n4
          case false =>
            simp only [pk_yes, pk_no] at hMn
            subst hMn
            simp only [pk_yes, pk_no] at hMd
            subst hMd
            go_wp2
            simp only [pk_yes, pk_no]
            refine bodyPost_ret (v := Value.tuple #[(Value.agg #[Value.int IntKind.i64 a0, Value.int IntKind.i64 a1, Value.int IntKind.i64 a0, Value.int IntKind.i64 a1, Value.int IntKind.i64 b4, Value.int IntKind.i64 b5]), Value.bool true]) (by simp [results, Try.results49, go_sem, R]) rfl ⟨?_, ?_⟩
            · rfl
            · exact (((((BB.out.setCell (by first | (simp; done) | (simp; omega)) _).setCell (by first | (simp; done) | (simp; omega)) _).setCell (by first | (simp; done) | (simp; omega)) _).setCell (by first | (simp; done) | (simp; omega)) _).setCell (by first | (simp; done) | (simp; omega)) _).setCell (by first | (simp; done) | (simp; omega)) _
          case true =>
            simp only [pk_yes, pk_no] at hMn
            subst hMn
            simp only [pk_yes, pk_no] at hMd
            subst hMd
            go_wp2
            simp only [pk_yes, pk_no]
            refine bodyPost_ret (v := Value.tuple #[(Value.agg #[Value.int IntKind.i64 a0, Value.int IntKind.i64 a1, Value.int IntKind.i64 b4, Value.int IntKind.i64 b5, Value.int IntKind.i64 b4, Value.int IntKind.i64 b5]), Value.bool true]) (by simp [results, Try.results49, go_sem, R]) rfl ⟨?_, ?_⟩
            · rfl
            · exact (((((((BB.out.setCell (by first | (simp; done) | (simp; omega)) _).setCell (by first | (simp; done) | (simp; omega)) _).setCell (by first | (simp; done) | (simp; omega)) _).setCell (by first | (simp; done) | (simp; omega)) _).setCell (by first | (simp; done) | (simp; omega)) _).setCell (by first | (simp; done) | (simp; omega)) _).setCell (by first | (simp; done) | (simp; omega)) _).setCell (by first | (simp; done) | (simp; omega)) _
  case true =>
    simp only [pk_yes, pk_no] at hLn
    subst hLn
    simp only [pk_yes, pk_no] at hLd
    subst hLd
    go_wp2_with fail
    obtain ⟨W3, hW, K3, B3, z3⟩ := name_world (gro.Bx.put01 (u := Value.int IntKind.i64 b0) (v := Value.int IntKind.i64 b1) KK.out (by simp; omega)) ((BB.out.setCell (by first | (simp; done) | (simp; omega)) _).setCell (by first | (simp; done) | (simp; omega)) _) (s := 0) (by omega)
    rw [hW]
    clear hW KK BB
    have KK := Lib.hid K3
    have BB := Lib.hid B3
    replace R := K3.rules
    simp only [Rules] at R
    clear K3 B3 z3
    (with_reducible refine (H4.out _).mono ?_)
    rintro e wv ⟨rfl, hbv⟩; replace BB := Lib.hid (BB.out.trans (hbv.mono BB.out.size)); replace KK := Lib.hid (KK.out.below hbv); replace R := KK.out.rules; simp only [gro.Rules] at R; clear hbv
    cases n2
    case false =>
      simp only [pk_yes, pk_no] at hHn
      subst hHn
      simp only [pk_yes, pk_no] at hHd
      subst hHd
      go_wp2_with fail
      (with_reducible refine (H5.out _).mono ?_)
      rintro e wv ⟨rfl, hbv⟩; replace BB := Lib.hid (BB.out.trans (hbv.mono BB.out.size)); replace KK := Lib.hid (KK.out.below hbv); replace R := KK.out.rules; simp only [gro.Rules] at R; clear hbv
      cases v2
      case true =>
        obtain rfl : vB = false := by rw [HB.out]; simp
        clear HB
        go_wp2
        simp only [pk_yes, pk_no]
        refine bodyPost_ret (v := Value.tuple #[(Value.agg #[Value.int IntKind.i64 0, Value.int IntKind.i64 0, Value.int IntKind.i64 0, Value.int IntKind.i64 0, Value.int IntKind.i64 0, Value.int IntKind.i64 0]), .bool false]) (by simp [results, Try.results49, go_sem, R]) rfl ⟨?_, ?_⟩
        · rfl
        · exact (((((BB.out.setCell (by first | (simp; done) | (simp; omega)) _).setCell (by first | (simp; done) | (simp; omega)) _).setCell (by first | (simp; done) | (simp; omega)) _).setCell (by first | (simp; done) | (simp; omega)) _).setCell (by first | (simp; done) | (simp; omega)) _).setCell (by first | (simp; done) | (simp; omega)) _
      case false =>
        obtain rfl : vB = true := by rw [HB.out]; simp
        clear HB
        go_wp2_with fail
        (with_reducible refine (H6.out _).mono ?_)
        rintro e wv ⟨rfl, hbv⟩; replace BB := Lib.hid (BB.out.trans (hbv.mono BB.out.size)); replace KK := Lib.hid (KK.out.below hbv); replace R := KK.out.rules; simp only [gro.Rules] at R; clear hbv
        cases n3
        case false =>
          simp only [pk_yes, pk_no] at hEn
          subst hEn
          simp only [pk_yes, pk_no] at hEd
          subst hEd
          go_wp2_with fail
          (with_reducible refine (H7.out _).mono ?_)
          rintro e wv ⟨rfl, hbv⟩; replace BB := Lib.hid (BB.out.trans (hbv.mono BB.out.size)); replace KK := Lib.hid (KK.out.below hbv); replace R := KK.out.rules; simp only [gro.Rules] at R; clear hbv
          cases n4
          case false =>
            simp only [pk_yes, pk_no] at hMn
            subst hMn
            simp only [pk_yes, pk_no] at hMd
            subst hMd
            go_wp2
            simp only [pk_yes, pk_no]
            refine bodyPost_ret (v := Value.tuple #[(Value.agg #[Value.int IntKind.i64 b0, Value.int IntKind.i64 b1, Value.int IntKind.i64 a2, Value.int IntKind.i64 a3, Value.int IntKind.i64 a4, Value.int IntKind.i64 a5]), Value.bool true]) (by simp [results, Try.results49, go_sem, R]) rfl ⟨?_, ?_⟩
            · rfl
            · exact (((((BB.out.setCell (by first | (simp; done) | (simp; omega)) _).setCell (by first | (simp; done) | (simp; omega)) _).setCell (by first | (simp; done) | (simp; omega)) _).setCell (by first | (simp; done) | (simp; omega)) _).setCell (by first | (simp; done) | (simp; omega)) _).setCell (by first | (simp; done) | (simp; omega)) _
          case true =>
            simp only [pk_yes, pk_no] at hMn
            subst hMn
            simp only [pk_yes, pk_no] at hMd
            subst hMd
            go_wp2
            simp only [pk_yes, pk_no]
            refine bodyPost_ret (v := Value.tuple #[(Value.agg #[Value.int IntKind.i64 b0, Value.int IntKind.i64 b1, Value.int IntKind.i64 a4, Value.int IntKind.i64 a5, Value.int IntKind.i64 a4, Value.int IntKind.i64 a5]), Value.bool true]) (by simp [results, Try.results49, go_sem, R]) rfl ⟨?_, ?_⟩
            · rfl
            · exact (((((((BB.out.setCell (by first | (simp; done) | (simp; omega)) _).setCell (by first | (simp; done) | (simp; omega)) _).setCell (by first | (simp; done) | (simp; omega)) _).setCell (by first | (simp; done) | (simp; omega)) _).setCell (by first | (simp; done) | (simp; omega)) _).setCell (by first | (simp; done) | (simp; omega)) _).setCell (by first | (simp; done) | (simp; omega)) _).setCell (by first | (simp; done) | (simp; omega)) _
        case true =>
          simp only [pk_yes, pk_no] at hEn
          subst hEn
          simp only [pk_yes, pk_no] at hEd
          subst hEd
          go_wp2_with fail
          obtain ⟨W3, hW, K3, B3, z3⟩ := name_world (gro.Bx.put23 (u := Value.int IntKind.i64 b0) (v := Value.int IntKind.i64 b1) KK.out (by simp; omega)) ((BB.out.setCell (by first | (simp; done) | (simp; omega)) _).setCell (by first | (simp; done) | (simp; omega)) _) (s := 0) (by omega)
          rw [hW]
          clear hW KK BB
          have KK := Lib.hid K3
          have BB := Lib.hid B3
          replace R := K3.rules
          simp only [Rules] at R
          clear K3 B3 z3
          (with_reducible refine (H7.out _).mono ?_)
          rintro e wv ⟨rfl, hbv⟩; replace BB := Lib.hid (BB.out.trans (hbv.mono BB.out.size)); replace KK := Lib.hid (KK.out.below hbv); replace R := KK.out.rules; simp only [gro.Rules] at R; clear hbv
          cases n4
          case false =>
            simp only [pk_yes, pk_no] at hMn
            subst hMn
            simp only [pk_yes, pk_no] at hMd
            subst hMd
            go_wp2
            simp only [pk_yes, pk_no]
            refine bodyPost_ret (v := Value.tuple #[(Value.agg #[Value.int IntKind.i64 b0, Value.int IntKind.i64 b1, Value.int IntKind.i64 b0, Value.int IntKind.i64 b1, Value.int IntKind.i64 a4, Value.int IntKind.i64 a5]), Value.bool true]) (by simp [results, Try.results49, go_sem, R]) rfl ⟨?_, ?_⟩
            · rfl
            · exact (((((BB.out.setCell (by first | (simp; done) | (simp; omega)) _).setCell (by first | (simp; done) | (simp; omega)) _).setCell (by first | (simp; done) | (simp; omega)) _).setCell (by first | (simp; done) | (simp; omega)) _).setCell (by first | (simp; done) | (simp; omega)) _).setCell (by first | (simp; done) | (simp; omega)) _
          case true =>
            simp only [pk_yes, pk_no] at hMn
            subst hMn
            simp only [pk_yes, pk_no] at hMd
            subst hMd
            go_wp2
            simp only [pk_yes, pk_no]
            refine bodyPost_ret (v := Value.tuple #[(Value.agg #[Value.int IntKind.i64 b0, Value.int IntKind.i64 b1, Value.int IntKind.i64 a4, Value.int IntKind.i64 a5, Value.int IntKind.i64 a4, Value.int IntKind.i64 a5]), Value.bool true]) (by simp [results, Try.results49, go_sem, R]) rfl ⟨?_, ?_⟩
            · rfl
            · exact (((((((BB.out.setCell (by first | (simp; done) | (simp; omega)) _).setCell (by first | (simp; done) | (simp; omega)) _).setCell (by first | (simp; done) | (simp; omega)) _).setCell (by first | (simp; done) | (simp; omega)) _).setCell (by first | (simp; done) | (simp; omega)) _).setCell (by first | (simp; done) | (simp; omega)) _).setCell (by first | (simp; done) | (simp; omega)) _).setCell (by first | (simp; done) | (simp; omega)) _
    case true =>
      simp only [pk_yes, pk_no] at hHn
      subst hHn
      simp only [pk_yes, pk_no] at hHd
      subst hHd
      go_wp2_with fail
      obtain ⟨W3, hW, K3, B3, z3⟩ := name_world (gro.Bx.put45 (u := Value.int IntKind.i64 b4) (v := Value.int IntKind.i64 b5) KK.out (by simp; omega)) ((BB.out.setCell (by first | (simp; done) | (simp; omega)) _).setCell (by first | (simp; done) | (simp; omega)) _) (s := 0) (by omega)
      rw [hW]
      clear hW KK BB
      have KK := Lib.hid K3
      have BB := Lib.hid B3
      replace R := K3.rules
      simp only [Rules] at R
      clear K3 B3 z3
      (with_reducible refine (H5.out _).mono ?_)
      rintro e wv ⟨rfl, hbv⟩; replace BB := Lib.hid (BB.out.trans (hbv.mono BB.out.size)); replace KK := Lib.hid (KK.out.below hbv); replace R := KK.out.rules; simp only [gro.Rules] at R; clear hbv
      cases v2
      case true =>
        obtain rfl : vB = false := by rw [HB.out]; simp
        clear HB
        go_wp2
        simp only [pk_yes, pk_no]
        refine bodyPost_ret (v := Value.tuple #[(Value.agg #[Value.int IntKind.i64 0, Value.int IntKind.i64 0, Value.int IntKind.i64 0, Value.int IntKind.i64 0, Value.int IntKind.i64 0, Value.int IntKind.i64 0]), .bool false]) (by simp [results, Try.results49, go_sem, R]) rfl ⟨?_, ?_⟩
        · rfl
        · exact (((((BB.out.setCell (by first | (simp; done) | (simp; omega)) _).setCell (by first | (simp; done) | (simp; omega)) _).setCell (by first | (simp; done) | (simp; omega)) _).setCell (by first | (simp; done) | (simp; omega)) _).setCell (by first | (simp; done) | (simp; omega)) _).setCell (by first | (simp; done) | (simp; omega)) _
      case false =>
        obtain rfl : vB = true := by rw [HB.out]; simp
        clear HB
        go_wp2_with fail
        (with_reducible refine (H6.out _).mono ?_)
        rintro e wv ⟨rfl, hbv⟩; replace BB := Lib.hid (BB.out.trans (hbv.mono BB.out.size)); replace KK := Lib.hid (KK.out.below hbv); replace R := KK.out.rules; simp only [gro.Rules] at R; clear hbv
        cases n3
        case false =>
          simp only [pk_yes, pk_no] at hEn
          subst hEn
          simp only [pk_yes, pk_no] at hEd
          subst hEd
          go_wp2_with fail
          (with_reducible refine (H7.out _).mono ?_)
          rintro e wv ⟨rfl, hbv⟩; replace BB := Lib.hid (BB.out.trans (hbv.mono BB.out.size)); replace KK := Lib.hid (KK.out.below hbv); replace R := KK.out.rules; simp only [gro.Rules] at R; clear hbv
          cases n4
          case false =>
            simp only [pk_yes, pk_no] at hMn
            subst hMn
            simp only [pk_yes, pk_no] at hMd
            subst hMd
            go_wp2
            simp only [pk_yes, pk_no]
            refine bodyPost_ret (v := Value.tuple #[(Value.agg #[Value.int IntKind.i64 b0, Value.int IntKind.i64 b1, Value.int IntKind.i64 a2, Value.int IntKind.i64 a3, Value.int IntKind.i64 b4, Value.int IntKind.i64 b5]), Value.bool true]) (by simp [results, Try.results49, go_sem, R]) rfl ⟨?_, ?_⟩
            · rfl
            · exact (((((BB.out.setCell (by first | (simp; done) | (simp; omega)) _).setCell (by first | (simp; done) | (simp; omega)) _).setCell (by first | (simp; done) | (simp; omega)) _).setCell (by first | (simp; done) | (simp; omega)) _).setCell (by first | (simp; done) | (simp; omega)) _).setCell (by first | (simp; done) | (simp; omega)) _
          case true =>
            simp only [pk_yes, pk_no] at hMn
            subst hMn
            simp only [pk_yes, pk_no] at hMd
            subst hMd
            go_wp2
            simp only [pk_yes, pk_no]
            refine bodyPost_ret (v := Value.tuple #[(Value.agg #[Value.int IntKind.i64 b0, Value.int IntKind.i64 b1, Value.int IntKind.i64 b4, Value.int IntKind.i64 b5, Value.int IntKind.i64 b4, Value.int IntKind.i64 b5]), Value.bool true]) (by simp [results, Try.results49, go_sem, R]) rfl ⟨?_, ?_⟩
            · rfl
            · exact (((((((BB.out.setCell (by first | (simp; done) | (simp; omega)) _).setCell (by first | (simp; done) | (simp; omega)) _).setCell (by first | (simp; done) | (simp; omega)) _).setCell (by first | (simp; done) | (simp; omega)) _).setCell (by first | (simp; done) | (simp; omega)) _).setCell (by first | (simp; done) | (simp; omega)) _).setCell (by first | (simp; done) | (simp; omega)) _).setCell (by first | (simp; done) | (simp; omega)) _
        case true =>
          simp only [pk_yes, pk_no] at hEn
          subst hEn
          simp only [pk_yes, pk_no] at hEd
          subst hEd
          go_wp2_with fail
          obtain ⟨W3, hW, K3, B3, z3⟩ := name_world (gro.Bx.put23 (u := Value.int IntKind.i64 b0) (v := Value.int IntKind.i64 b1) KK.out (by simp; omega)) ((BB.out.setCell (by first | (simp; done) | (simp; omega)) _).setCell (by first | (simp; done) | (simp; omega)) _) (s := 0) (by omega)
          rw [hW]
          clear hW KK BB
          have KK := Lib.hid K3
          have BB := Lib.hid B3
          replace R := K3.rules
          simp only [Rules] at R
          clear K3 B3 z3
          (with_reducible refine (H7.out _).mono ?_)
          rintro e wv ⟨rfl, hbv⟩; replace BB := Lib.hid (BB.out.trans (hbv.mono BB.out.size)); replace KK := Lib.hid (KK.out.below hbv); replace R := KK.out.rules; simp only [gro.Rules] at R; clear hbv
          cases n4
          case false =>
            simp only [pk_yes, pk_no] at hMn
            subst hMn
            simp only [pk_yes, pk_no] at hMd
            subst hMd
            go_wp2
            simp only [pk_yes, pk_no]
            refine bodyPost_ret (v := Value.tuple #[(Value.agg #[Value.int IntKind.i64 b0, Value.int IntKind.i64 b1, Value.int IntKind.i64 b0, Value.int IntKind.i64 b1, Value.int IntKind.i64 b4, Value.int IntKind.i64 b5]), Value.bool true]) (by simp [results, Try.results49, go_sem, R]) rfl ⟨?_, ?_⟩
            · rfl
            · exact (((((BB.out.setCell (by first | (simp; done) | (simp; omega)) _).setCell (by first | (simp; done) | (simp; omega)) _).setCell (by first | (simp; done) | (simp; omega)) _).setCell (by first | (simp; done) | (simp; omega)) _).setCell (by first | (simp; done) | (simp; omega)) _).setCell (by first | (simp; done) | (simp; omega)) _
          case true =>
            simp only [pk_yes, pk_no] at hMn
            subst hMn
            simp only [pk_yes, pk_no] at hMd
            subst hMd
            go_wp2
            simp only [pk_yes, pk_no]
            refine bodyPost_ret (v := Value.tuple #[(Value.agg #[Value.int IntKind.i64 b0, Value.int IntKind.i64 b1, Value.int IntKind.i64 b4, Value.int IntKind.i64 b5, Value.int IntKind.i64 b4, Value.int IntKind.i64 b5]), Value.bool true]) (by simp [results, Try.results49, go_sem, R]) rfl ⟨?_, ?_⟩
            · rfl
            · exact (((((((BB.out.setCell (by first | (simp; done) | (simp; omega)) _).setCell (by first | (simp; done) | (simp; omega)) _).setCell (by first | (simp; done) | (simp; omega)) _).setCell (by first | (simp; done) | (simp; omega)) _).setCell (by first | (simp; done) | (simp; omega)) _).setCell (by first | (simp; done) | (simp; omega)) _).setCell (by first | (simp; done) | (simp; omega)) _).setCell (by first | (simp; done) | (simp; omega)) _
end Go.Proofs.Ytoejhikcnnppnaa.wid
