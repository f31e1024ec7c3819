/- What the meeting of two answers holds, and their sum. -/
import Derived.Test.YtoejhikcnnppnaaMeetR
import Derived.Test.YtoejhikcnnppnaaBAdd
import Derived.Laws.StructEq
namespace Go.Proofs.Ytoejhikcnnppnaa.wid
open Go.RowKit
set_option linter.unusedVariables false
theorem holdB_valid {a0 a1 a2 a3 a4 a5 n d : Int} (h : holdB a0 a1 a2 a3 a4 a5 n d = true) : validB a0 a1 a2 a3 a4 a5 = true := by
  unfold holdB at h
  simp only [Bool.and_eq_true] at h
  exact h.1.1.1
theorem meet_holds {a0 a1 a2 a3 a4 a5 b0 b1 b2 b3 b4 b5 n d : Int} (h1 : holdB a0 a1 a2 a3 a4 a5 n d = true) (h2 : holdB b0 b1 b2 b3 b4 b5 n d = true) :
    meetOk a0 a1 a2 a3 a4 a5 b0 b1 b2 b3 b4 b5 = true ∧ holdB (mosN a0 a1 b0 b1) (mosD a0 a1 b0 b1) (lesN (mosN a2 a3 (mosN a0 a1 b0 b1) (mosD a0 a1 b0 b1)) (mosD a2 a3 (mosN a0 a1 b0 b1) (mosD a0 a1 b0 b1)) (lesN a4 a5 b4 b5) (lesD a4 a5 b4 b5)) (lesD (mosN a2 a3 (mosN a0 a1 b0 b1) (mosD a0 a1 b0 b1)) (mosD a2 a3 (mosN a0 a1 b0 b1) (mosD a0 a1 b0 b1)) (lesN a4 a5 b4 b5) (lesD a4 a5 b4 b5)) (lesN a4 a5 b4 b5) (lesD a4 a5 b4 b5) n d = true := by
  have p1 := holdB_valid h1
  have p2 := holdB_valid h2
  obtain ⟨va0, va2, va4, ca1, ca2, vv, k1, k2⟩ := holdB_iff.1 h1
  obtain ⟨vb0, vb2, vb4, cb1, cb2, _, l1, l2⟩ := holdB_iff.1 h2
  obtain ⟨vL, lo1, lo2, lub⟩ := mos_facts va0 vb0
  obtain ⟨vH, hi1, hi2, glb⟩ := les_facts va4 vb4
  have hL := lub n d k1 l1
  have hH := glb n d k2 l2
  have hLH := cmpQ_trans vL vv vH hL hH
  obtain ⟨vE, e1, e2, _⟩ := mos_facts va2 vL
  obtain ⟨vM, m1, m2, mg⟩ := les_facts vE vH
  have hLM := mg _ _ e2 hLH
  refine ⟨?_, holdB_iff.2 ⟨vL, vM, vH, hLM, m2, vv, hL, hH⟩⟩
  unfold meetOk
  rw [p1, p2]
  exact decide_eq_true hLH
theorem sum_holds {a0 a1 a2 a3 a4 a5 b0 b1 b2 b3 b4 b5 n d m e : Int} (h1 : holdB a0 a1 a2 a3 a4 a5 n d = true) (h2 : holdB b0 b1 b2 b3 b4 b5 m e = true)
    (k : addOk a0 a1 a2 a3 a4 a5 b0 b1 b2 b3 b4 b5 = true) (ks : sumOk n d m e false = true) :
    holdB (sumN a0 a1 b0 b1 false) (sumD a0 a1 b0 b1 false) (sumN a2 a3 b2 b3 false) (sumD a2 a3 b2 b3 false) (sumN a4 a5 b4 b5 false) (sumD a4 a5 b4 b5 false) (sumN n d m e false) (sumD n d m e false) = true := by
  obtain ⟨va0, va2, va4, ca1, ca2, vv, k1, k2⟩ := holdB_iff.1 h1
  obtain ⟨vb0, vb2, vb4, cb1, cb2, vu, l1, l2⟩ := holdB_iff.1 h2
  unfold addOk at k
  simp only [Bool.and_eq_true] at k
  obtain ⟨_, q0, q1, q2⟩ := k
  exact holdB_iff.2 ⟨(sum_facts va0 vb0 q0).1, (sum_facts va2 vb2 q1).1, (sum_facts va4 vb4 q2).1, sum_le va0 va2 vb0 vb2 ca1 cb1 q0 q1, sum_le va2 va4 vb2 vb4 ca2 cb2 q1 q2,
    (sum_facts vv vu ks).1, sum_le va0 vv vb0 vu k1 l1 q0 ks, sum_le vv va4 vu vb4 k2 l2 ks q2⟩
theorem sum_bd (n d m e : Int) : I64 (sumN n d m e false) ∧ I64 (sumD n d m e false) := by
  by_cases h : sumOk n d m e false = true
  · have h' := h
    unfold sumOk at h'
    simp only [Bool.and_eq_true] at h'
    obtain ⟨_, _, _, r1, r2⟩ := sum_facts h'.1.1 h'.1.2 h
    exact ⟨r1, r2⟩
  · by_cases hv : validQ n d = true ∧ validQ m e = true
    · obtain ⟨e1, e2, e3⟩ := sum_yes (minus := false) hv.1 hv.2
      rw [e3] at h
      rw [e1, e2]
      unfold rN rD
      obtain ⟨z1, z2⟩ := red_no (by unfold rOk at h; simpa using h)
      rw [z1, z2]
      unfold I64; omega
    · obtain ⟨e1, e2, _⟩ := sum_no (minus := false) hv
      rw [e1, e2]; unfold I64; omega
theorem bnd_neq (a b c d e f : Int) (w : World) : (binOp .neq 36 (Value.agg #[Value.int IntKind.i64 a, Value.int IntKind.i64 b, Value.int IntKind.i64 c, Value.int IntKind.i64 d, Value.int IntKind.i64 e, Value.int IntKind.i64 f]) (Value.agg #[Value.int IntKind.i64 a, Value.int IntKind.i64 b, Value.int IntKind.i64 c, Value.int IntKind.i64 d, Value.int IntKind.i64 e, Value.int IntKind.i64 f])).run Try.prog w = .ok (.bool false) w := by
  go_simp
end Go.Proofs.Ytoejhikcnnppnaa.wid
