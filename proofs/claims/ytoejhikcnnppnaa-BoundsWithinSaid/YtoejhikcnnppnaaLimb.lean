/- Contracts of halves and times of the reference of bounds. -/
import Derived.Test.YtoejhikcnnppnaaLimbL
import Derived.Test.YtoejhikcnnppnaaLimbB
import Derived.Test.YtoejhikcnnppnaaSteady
import Derived.Test.YtoejhikcnnppnaaTimes
import Derived.Laws.Cover2
import Derived.Deep.DeepCutAuto
namespace Go.Proofs.Ytoejhikcnnppnaa.wid
open Go.RowKit Go.Proofs.Ytoejhikcnnppnaa.mem Go.Proofs.Ytoejhikcnnppnaa.gro
set_option linter.unusedVariables false
set_option linter.unusedSimpArgs false
set_option maxHeartbeats 2000000 in
set_option maxRecDepth 100000 in
theorem halves_any (a : Nat) (ha : a < 340282366920938463463374607431768211456) (w : World) :
    Calls Try.prog 93 #[(Value.agg #[Value.int IntKind.u64 (hi (a)), Value.int IntKind.u64 (lo (a))])] w fun e w' => e = .returned (.agg #[.int .u64 (e0 a : Nat), .int .u64 (e1 a : Nat), .int .u64 (e2 a : Nat), .int .u64 (e3 a : Nat)]) ∧ Below w.heap.size w w' := by
  obtain ⟨h0, h1, h2, h3⟩ := half_word ha
  generalize ((e0 a : Nat) : Int) = x0 at *
  generalize ((e1 a : Nat) : Int) = x1 at *
  generalize ((e2 a : Nat) : Int) = x2 at *
  generalize ((e3 a : Nat) : Int) = x3 at *
  generalize hi a = h at *
  generalize lo a = l at *
  go_enter Try.func93, Try.ntmps93
  go_wp2_with fail
  obtain ⟨W0, hW, hs0, K0, B0⟩ := start2 w 51 67 #[Value.int IntKind.u64 h, Value.int IntKind.u64 l] #[Value.int IntKind.u64 x0, Value.int IntKind.u64 x1, Value.int IntKind.u64 x2, Value.int IntKind.u64 x3]
  rw [hW]
  have R := K0.rules
  simp only [Rules] at R
  refine bodyPost_ret (v := .agg #[Value.int IntKind.u64 x0, Value.int IntKind.u64 x1, Value.int IntKind.u64 x2, Value.int IntKind.u64 x3]) (by simp [results, Try.results93, go_sem, R]) rfl ⟨rfl, B0⟩
set_option maxHeartbeats 16000000 in
set_option maxRecDepth 100000 in
theorem timesR_any (a b : Nat) (ha : a < 340282366920938463463374607431768211456) (hb : b < 340282366920938463463374607431768211456) (w : World) :
    Calls Try.prog 80 #[(Value.agg #[Value.int IntKind.u64 (hi (a)), Value.int IntKind.u64 (lo (a))]), (Value.agg #[Value.int IntKind.u64 (hi (b)), Value.int IntKind.u64 (lo (b))])] w fun e w' => e = .returned (.agg #[.int .u64 (q0 (a * b) : Nat), .int .u64 (q1 (a * b) : Nat), .int .u64 (q2 (a * b) : Nat), .int .u64 (q3 (a * b) : Nat)]) ∧ Below w.heap.size w w' := by
  have HH1 := Lib.hid (fun W => halves_any a ha W)
  have HH2 := Lib.hid (fun W => halves_any b hb W)
  obtain ⟨S1, hS1⟩ : ∃ S, S = rS (e0 a) 0 b := ⟨_, rfl⟩
  obtain ⟨S2, hS2⟩ : ∃ S, S = rS (e1 a) S1 b := ⟨_, rfl⟩
  obtain ⟨S3, hS3⟩ : ∃ S, S = rS (e2 a) S2 b := ⟨_, rfl⟩
  obtain ⟨S4, hS4⟩ : ∃ S, S = rS (e3 a) S3 b := ⟨_, rfl⟩
  have f0 := row_facts (S := 0) (e0_lt a) (by decide) hb
  rw [← hS1] at f0
  have f1 := row_facts (S := S1) (e1_lt a) f0.2.2.2.2.2 hb
  rw [← hS2] at f1
  have f2 := row_facts (S := S2) (e2_lt a) f1.2.2.2.2.2 hb
  rw [← hS3] at f2
  have f3 := row_facts (S := S3) (e3_lt a) f2.2.2.2.2.2 hb
  rw [← hS4] at f3
  have HQ := rows_mul ha hS1 hS2 hS3 hS4 f3.2.2.2.2.2
  rw [← f0.1, ← f1.1, ← f2.1, ← f3.1] at HQ
  have l0 := @rt_lt (e0 a) 0 b (e0_lt a)
  obtain ⟨ma00, mb00, mc00, md00, me00⟩ := @step_word (e0 0) (e0 a) (e0 b) 0 (rt0 (e0 a) 0 b) rfl l0.1
  obtain ⟨ma01, mb01, mc01, md01, me01⟩ := @step_word (e1 0) (e0 a) (e1 b) (rt0 (e0 a) 0 b / 4294967296) (rt1 (e0 a) 0 b) rfl l0.2.1
  obtain ⟨ma02, mb02, mc02, md02, me02⟩ := @step_word (e2 0) (e0 a) (e2 b) (rt1 (e0 a) 0 b / 4294967296) (rt2 (e0 a) 0 b) rfl l0.2.2.1
  obtain ⟨ma03, mb03, mc03, md03, me03⟩ := @step_word (e3 0) (e0 a) (e3 b) (rt2 (e0 a) 0 b / 4294967296) (rt3 (e0 a) 0 b) rfl l0.2.2.2.1
  have mf0 : IntKind.u64.wrap ((rt3 (e0 a) 0 b / 4294967296 : Nat) : Int) = ((rt3 (e0 a) 0 b / 4294967296 : Nat) : Int) := wrapN _ (Nat.lt_trans l0.2.2.2.2 (by decide))
  have l1 := @rt_lt (e1 a) S1 b (e1_lt a)
  obtain ⟨ma10, mb10, mc10, md10, me10⟩ := @step_word (e0 S1) (e1 a) (e0 b) 0 (rt0 (e1 a) S1 b) rfl l1.1
  obtain ⟨ma11, mb11, mc11, md11, me11⟩ := @step_word (e1 S1) (e1 a) (e1 b) (rt0 (e1 a) S1 b / 4294967296) (rt1 (e1 a) S1 b) rfl l1.2.1
  obtain ⟨ma12, mb12, mc12, md12, me12⟩ := @step_word (e2 S1) (e1 a) (e2 b) (rt1 (e1 a) S1 b / 4294967296) (rt2 (e1 a) S1 b) rfl l1.2.2.1
  obtain ⟨ma13, mb13, mc13, md13, me13⟩ := @step_word (e3 S1) (e1 a) (e3 b) (rt2 (e1 a) S1 b / 4294967296) (rt3 (e1 a) S1 b) rfl l1.2.2.2.1
  have mf1 : IntKind.u64.wrap ((rt3 (e1 a) S1 b / 4294967296 : Nat) : Int) = ((rt3 (e1 a) S1 b / 4294967296 : Nat) : Int) := wrapN _ (Nat.lt_trans l1.2.2.2.2 (by decide))
  have l2 := @rt_lt (e2 a) S2 b (e2_lt a)
  obtain ⟨ma20, mb20, mc20, md20, me20⟩ := @step_word (e0 S2) (e2 a) (e0 b) 0 (rt0 (e2 a) S2 b) rfl l2.1
  obtain ⟨ma21, mb21, mc21, md21, me21⟩ := @step_word (e1 S2) (e2 a) (e1 b) (rt0 (e2 a) S2 b / 4294967296) (rt1 (e2 a) S2 b) rfl l2.2.1
  obtain ⟨ma22, mb22, mc22, md22, me22⟩ := @step_word (e2 S2) (e2 a) (e2 b) (rt1 (e2 a) S2 b / 4294967296) (rt2 (e2 a) S2 b) rfl l2.2.2.1
  obtain ⟨ma23, mb23, mc23, md23, me23⟩ := @step_word (e3 S2) (e2 a) (e3 b) (rt2 (e2 a) S2 b / 4294967296) (rt3 (e2 a) S2 b) rfl l2.2.2.2.1
  have mf2 : IntKind.u64.wrap ((rt3 (e2 a) S2 b / 4294967296 : Nat) : Int) = ((rt3 (e2 a) S2 b / 4294967296 : Nat) : Int) := wrapN _ (Nat.lt_trans l2.2.2.2.2 (by decide))
  have l3 := @rt_lt (e3 a) S3 b (e3_lt a)
  obtain ⟨ma30, mb30, mc30, md30, me30⟩ := @step_word (e0 S3) (e3 a) (e0 b) 0 (rt0 (e3 a) S3 b) rfl l3.1
  obtain ⟨ma31, mb31, mc31, md31, me31⟩ := @step_word (e1 S3) (e3 a) (e1 b) (rt0 (e3 a) S3 b / 4294967296) (rt1 (e3 a) S3 b) rfl l3.2.1
  obtain ⟨ma32, mb32, mc32, md32, me32⟩ := @step_word (e2 S3) (e3 a) (e2 b) (rt1 (e3 a) S3 b / 4294967296) (rt2 (e3 a) S3 b) rfl l3.2.2.1
  obtain ⟨ma33, mb33, mc33, md33, me33⟩ := @step_word (e3 S3) (e3 a) (e3 b) (rt2 (e3 a) S3 b / 4294967296) (rt3 (e3 a) S3 b) rfl l3.2.2.2.1
  have mf3 : IntKind.u64.wrap ((rt3 (e3 a) S3 b / 4294967296 : Nat) : Int) = ((rt3 (e3 a) S3 b / 4294967296 : Nat) : Int) := wrapN _ (Nat.lt_trans l3.2.2.2.2 (by decide))
  rw [f0.2.1] at md01
  rw [f0.2.2.1] at md02
  rw [f0.2.2.2.1] at md03
  rw [f0.2.2.2.2.1] at me03 mf0
  rw [f1.2.1] at md11
  rw [f1.2.2.1] at md12
  rw [f1.2.2.2.1] at md13
  rw [f1.2.2.2.2.1] at me13 mf1
  rw [f2.2.1] at md21
  rw [f2.2.2.1] at md22
  rw [f2.2.2.2.1] at md23
  rw [f2.2.2.2.2.1] at me23 mf2
  rw [f3.2.1] at md31
  rw [f3.2.2.1] at md32
  rw [f3.2.2.2.1] at md33
  rw [f3.2.2.2.2.1] at me33 mf3
  simp only [show ∀ x, e0 0 + x = x from fun x => Nat.zero_add x, show ∀ x, e1 0 + x = x from fun x => Nat.zero_add x, show ∀ x, e2 0 + x = x from fun x => Nat.zero_add x, show ∀ x, e3 0 + x = x from fun x => Nat.zero_add x, show ((e0 0 : Nat) : Int) = 0 from rfl, show ((e1 0 : Nat) : Int) = 0 from rfl, show ((e2 0 : Nat) : Int) = 0 from rfl, show ((e3 0 : Nat) : Int) = 0 from rfl, show ((0 : Nat) : Int) = 0 from rfl, Int.zero_add, Int.add_zero] at mb00 mb01 mb02 mb03 mc00 mc01 mc02 mc03 mc10 mc20 mc30
  obtain ⟨wa0, wb0⟩ := @or_word (rt0 (e0 a) 0 b % 4294967296) (rt0 (e1 a) S1 b % 4294967296) (Nat.mod_lt _ (by decide)) (Nat.mod_lt _ (by decide))
  rw [← HQ.1] at wb0
  obtain ⟨wa1, wb1⟩ := @or_word (rt0 (e2 a) S2 b % 4294967296) (rt0 (e3 a) S3 b % 4294967296) (Nat.mod_lt _ (by decide)) (Nat.mod_lt _ (by decide))
  rw [← HQ.2.1] at wb1
  obtain ⟨wa2, wb2⟩ := @or_word (e0 S4) (e1 S4) (e0_lt S4) (e1_lt S4)
  rw [← HQ.2.2.1] at wb2
  obtain ⟨wa3, wb3⟩ := @or_word (e2 S4) (e3 S4) (e2_lt S4) (e3_lt S4)
  rw [← HQ.2.2.2] at wb3
  have e00 : rt0 (e0 a) 0 b = e0 a * e0 b := by unfold rt0; rw [show e0 0 = 0 from rfl, Nat.zero_add, Nat.add_zero]
  rw [e00] at md00 me00 mc01 wb0
  clear mc00 e00
  clear hS1 hS2 hS3 hS4 f0 f1 f2 f3 l0 l1 l2 l3 HQ ha hb
  generalize ((q0 (a * b) : Nat) : Int) = o0 at *
  generalize ((q1 (a * b) : Nat) : Int) = o1 at *
  generalize ((q2 (a * b) : Nat) : Int) = o2 at *
  generalize ((q3 (a * b) : Nat) : Int) = o3 at *
  generalize ((4294967296 * (rt0 (e1 a) S1 b % 4294967296) : Nat) : Int) = h0 at *
  generalize ((4294967296 * (rt0 (e3 a) S3 b % 4294967296) : Nat) : Int) = h1 at *
  generalize ((4294967296 * (e1 S4) : Nat) : Int) = h2 at *
  generalize ((4294967296 * (e3 S4) : Nat) : Int) = h3 at *
  generalize ((e0 a * e0 b % 4294967296 : Nat) : Int) = z0 at *
  generalize ((e0 a * e0 b / 4294967296 : Nat) : Int) = c01 at *
  generalize ((rt1 (e0 a) 0 b / 4294967296 : Nat) : Int) = c02 at *
  generalize ((rt2 (e0 a) 0 b / 4294967296 : Nat) : Int) = c03 at *
  generalize ((rt1 (e0 a) 0 b : Nat) : Int) = t01 at *
  generalize ((rt2 (e0 a) 0 b : Nat) : Int) = t02 at *
  generalize ((rt3 (e0 a) 0 b : Nat) : Int) = t03 at *
  generalize ((e0 a * e0 b : Nat) : Int) = m00 at *
  generalize ((e0 a * e1 b : Nat) : Int) = m01 at *
  generalize ((e0 a * e2 b : Nat) : Int) = m02 at *
  generalize ((e0 a * e3 b : Nat) : Int) = m03 at *
  generalize ((rt0 (e1 a) S1 b % 4294967296 : Nat) : Int) = z1 at *
  generalize ((rt0 (e1 a) S1 b / 4294967296 : Nat) : Int) = c11 at *
  generalize ((rt1 (e1 a) S1 b / 4294967296 : Nat) : Int) = c12 at *
  generalize ((rt2 (e1 a) S1 b / 4294967296 : Nat) : Int) = c13 at *
  generalize ((rt0 (e1 a) S1 b : Nat) : Int) = t10 at *
  generalize ((rt1 (e1 a) S1 b : Nat) : Int) = t11 at *
  generalize ((rt2 (e1 a) S1 b : Nat) : Int) = t12 at *
  generalize ((rt3 (e1 a) S1 b : Nat) : Int) = t13 at *
  generalize ((e0 S1 + e1 a * e0 b : Nat) : Int) = n10 at *
  generalize ((e1 a * e0 b : Nat) : Int) = m10 at *
  generalize ((e1 S1 + e1 a * e1 b : Nat) : Int) = n11 at *
  generalize ((e1 a * e1 b : Nat) : Int) = m11 at *
  generalize ((e2 S1 + e1 a * e2 b : Nat) : Int) = n12 at *
  generalize ((e1 a * e2 b : Nat) : Int) = m12 at *
  generalize ((e3 S1 + e1 a * e3 b : Nat) : Int) = n13 at *
  generalize ((e1 a * e3 b : Nat) : Int) = m13 at *
  generalize ((rt0 (e2 a) S2 b % 4294967296 : Nat) : Int) = z2 at *
  generalize ((rt0 (e2 a) S2 b / 4294967296 : Nat) : Int) = c21 at *
  generalize ((rt1 (e2 a) S2 b / 4294967296 : Nat) : Int) = c22 at *
  generalize ((rt2 (e2 a) S2 b / 4294967296 : Nat) : Int) = c23 at *
  generalize ((rt0 (e2 a) S2 b : Nat) : Int) = t20 at *
  generalize ((rt1 (e2 a) S2 b : Nat) : Int) = t21 at *
  generalize ((rt2 (e2 a) S2 b : Nat) : Int) = t22 at *
  generalize ((rt3 (e2 a) S2 b : Nat) : Int) = t23 at *
  generalize ((e0 S2 + e2 a * e0 b : Nat) : Int) = n20 at *
  generalize ((e2 a * e0 b : Nat) : Int) = m20 at *
  generalize ((e1 S2 + e2 a * e1 b : Nat) : Int) = n21 at *
  generalize ((e2 a * e1 b : Nat) : Int) = m21 at *
  generalize ((e2 S2 + e2 a * e2 b : Nat) : Int) = n22 at *
  generalize ((e2 a * e2 b : Nat) : Int) = m22 at *
  generalize ((e3 S2 + e2 a * e3 b : Nat) : Int) = n23 at *
  generalize ((e2 a * e3 b : Nat) : Int) = m23 at *
  generalize ((rt0 (e3 a) S3 b % 4294967296 : Nat) : Int) = z3 at *
  generalize ((rt0 (e3 a) S3 b / 4294967296 : Nat) : Int) = c31 at *
  generalize ((rt1 (e3 a) S3 b / 4294967296 : Nat) : Int) = c32 at *
  generalize ((rt2 (e3 a) S3 b / 4294967296 : Nat) : Int) = c33 at *
  generalize ((rt0 (e3 a) S3 b : Nat) : Int) = t30 at *
  generalize ((rt1 (e3 a) S3 b : Nat) : Int) = t31 at *
  generalize ((rt2 (e3 a) S3 b : Nat) : Int) = t32 at *
  generalize ((rt3 (e3 a) S3 b : Nat) : Int) = t33 at *
  generalize ((e0 S3 + e3 a * e0 b : Nat) : Int) = n30 at *
  generalize ((e3 a * e0 b : Nat) : Int) = m30 at *
  generalize ((e1 S3 + e3 a * e1 b : Nat) : Int) = n31 at *
  generalize ((e3 a * e1 b : Nat) : Int) = m31 at *
  generalize ((e2 S3 + e3 a * e2 b : Nat) : Int) = n32 at *
  generalize ((e3 a * e2 b : Nat) : Int) = m32 at *
  generalize ((e3 S3 + e3 a * e3 b : Nat) : Int) = n33 at *
  generalize ((e3 a * e3 b : Nat) : Int) = m33 at *
  generalize ((e0 S1 : Nat) : Int) = s10 at *
  generalize ((e1 S1 : Nat) : Int) = s11 at *
  generalize ((e2 S1 : Nat) : Int) = s12 at *
  generalize ((e3 S1 : Nat) : Int) = s13 at *
  generalize ((e0 S2 : Nat) : Int) = s20 at *
  generalize ((e1 S2 : Nat) : Int) = s21 at *
  generalize ((e2 S2 : Nat) : Int) = s22 at *
  generalize ((e3 S2 : Nat) : Int) = s23 at *
  generalize ((e0 S3 : Nat) : Int) = s30 at *
  generalize ((e1 S3 : Nat) : Int) = s31 at *
  generalize ((e2 S3 : Nat) : Int) = s32 at *
  generalize ((e3 S3 : Nat) : Int) = s33 at *
  generalize ((e0 S4 : Nat) : Int) = s40 at *
  generalize ((e1 S4 : Nat) : Int) = s41 at *
  generalize ((e2 S4 : Nat) : Int) = s42 at *
  generalize ((e3 S4 : Nat) : Int) = s43 at *
  generalize ((e0 a : Nat) : Int) = x0 at *
  generalize ((e0 b : Nat) : Int) = v0 at *
  generalize ((e1 a : Nat) : Int) = x1 at *
  generalize ((e1 b : Nat) : Int) = v1 at *
  generalize ((e2 a : Nat) : Int) = x2 at *
  generalize ((e2 b : Nat) : Int) = v2 at *
  generalize ((e3 a : Nat) : Int) = x3 at *
  generalize ((e3 b : Nat) : Int) = v3 at *
  replace ma00 := Lib.hid ma00
  replace mb00 := Lib.hid mb00
  replace md00 := Lib.hid md00
  replace me00 := Lib.hid me00
  replace ma01 := Lib.hid ma01
  replace mb01 := Lib.hid mb01
  replace mc01 := Lib.hid mc01
  replace md01 := Lib.hid md01
  replace me01 := Lib.hid me01
  replace ma02 := Lib.hid ma02
  replace mb02 := Lib.hid mb02
  replace mc02 := Lib.hid mc02
  replace md02 := Lib.hid md02
  replace me02 := Lib.hid me02
  replace ma03 := Lib.hid ma03
  replace mb03 := Lib.hid mb03
  replace mc03 := Lib.hid mc03
  replace md03 := Lib.hid md03
  replace me03 := Lib.hid me03
  replace mf0 := Lib.hid mf0
  replace ma10 := Lib.hid ma10
  replace mb10 := Lib.hid mb10
  replace mc10 := Lib.hid mc10
  replace md10 := Lib.hid md10
  replace me10 := Lib.hid me10
  replace ma11 := Lib.hid ma11
  replace mb11 := Lib.hid mb11
  replace mc11 := Lib.hid mc11
  replace md11 := Lib.hid md11
  replace me11 := Lib.hid me11
  replace ma12 := Lib.hid ma12
  replace mb12 := Lib.hid mb12
  replace mc12 := Lib.hid mc12
  replace md12 := Lib.hid md12
  replace me12 := Lib.hid me12
  replace ma13 := Lib.hid ma13
  replace mb13 := Lib.hid mb13
  replace mc13 := Lib.hid mc13
  replace md13 := Lib.hid md13
  replace me13 := Lib.hid me13
  replace mf1 := Lib.hid mf1
  replace ma20 := Lib.hid ma20
  replace mb20 := Lib.hid mb20
  replace mc20 := Lib.hid mc20
  replace md20 := Lib.hid md20
  replace me20 := Lib.hid me20
  replace ma21 := Lib.hid ma21
  replace mb21 := Lib.hid mb21
  replace mc21 := Lib.hid mc21
  replace md21 := Lib.hid md21
  replace me21 := Lib.hid me21
  replace ma22 := Lib.hid ma22
  replace mb22 := Lib.hid mb22
  replace mc22 := Lib.hid mc22
  replace md22 := Lib.hid md22
  replace me22 := Lib.hid me22
  replace ma23 := Lib.hid ma23
  replace mb23 := Lib.hid mb23
  replace mc23 := Lib.hid mc23
  replace md23 := Lib.hid md23
  replace me23 := Lib.hid me23
  replace mf2 := Lib.hid mf2
  replace ma30 := Lib.hid ma30
  replace mb30 := Lib.hid mb30
  replace mc30 := Lib.hid mc30
  replace md30 := Lib.hid md30
  replace me30 := Lib.hid me30
  replace ma31 := Lib.hid ma31
  replace mb31 := Lib.hid mb31
  replace mc31 := Lib.hid mc31
  replace md31 := Lib.hid md31
  replace me31 := Lib.hid me31
  replace ma32 := Lib.hid ma32
  replace mb32 := Lib.hid mb32
  replace mc32 := Lib.hid mc32
  replace md32 := Lib.hid md32
  replace me32 := Lib.hid me32
  replace ma33 := Lib.hid ma33
  replace mb33 := Lib.hid mb33
  replace mc33 := Lib.hid mc33
  replace md33 := Lib.hid md33
  replace me33 := Lib.hid me33
  replace mf3 := Lib.hid mf3
  replace wa0 := Lib.hid wa0
  replace wa1 := Lib.hid wa1
  replace wa2 := Lib.hid wa2
  replace wa3 := Lib.hid wa3
  replace wb0 := Lib.hid wb0
  replace wb1 := Lib.hid wb1
  replace wb2 := Lib.hid wb2
  replace wb3 := Lib.hid wb3
  go_enter Try.func80, Try.ntmps80
  go_wp2_with fail
  obtain ⟨W0, hW, hs0, K0, B0⟩ := start3 w 51 51 71 #[Value.int IntKind.u64 (hi a), Value.int IntKind.u64 (lo a)] #[Value.int IntKind.u64 (hi b), Value.int IntKind.u64 (lo b)] #[Value.int IntKind.u64 0, Value.int IntKind.u64 0, Value.int IntKind.u64 0, Value.int IntKind.u64 0]
  rw [hW]
  clear hW
  have KK := Lib.hid K0
  have BB := Lib.hid B0
  have sz : w.heap.size + 1 + 1 + 1 ≤ W0.heap.size := by omega
  have R := K0.rules
  simp only [Rules] at R
  clear K0 B0 hs0
  go_cut [5, 6] (fun s5 s6 wx => ∃ p q : Nat, s5 = .pointer (some ⟨p, 0, none⟩) ∧ s6 = .pointer (some ⟨q, 0, none⟩) ∧ p ≠ q ∧ w.heap.size + 1 + 1 + 1 ≤ p ∧ w.heap.size + 1 + 1 + 1 ≤ q ∧ p < wx.heap.size ∧ q < wx.heap.size ∧ Hid (Below w.heap.size w wx) ∧
    Hid (Bx wx [(q, 67, #[Value.int IntKind.u64 v0, Value.int IntKind.u64 v1, Value.int IntKind.u64 v2, Value.int IntKind.u64 v3]), (p, 67, #[Value.int IntKind.u64 x0, Value.int IntKind.u64 x1, Value.int IntKind.u64 x2, Value.int IntKind.u64 x3]), (w.heap.size + 1 + 1, 71, #[Value.int IntKind.u64 0, Value.int IntKind.u64 0, Value.int IntKind.u64 0, Value.int IntKind.u64 0])]))
  case first =>
    replace KK := Lib.hid KK.out
    (refine gro.wp_region_steady_n 4 4 (by kernel_rfl) (by kernel_rfl) (by intro _ _ _ _ _ h; exact h) (by kernel_rfl) (by kernel_rfl) (by kernel_rfl) ?_; apply Exists.intro; refine ⟨fun w0 hb0 => ?_, ?_⟩; focus (have KZ := (KK.out).below hb0; have RZ := KZ.rules; simp only [gro.Rules] at RZ; simp only [List.take_succ_cons, List.take_zero]; (repeat (go_big_quiet_step (((go_at_call 93; first | (with_reducible exact call_grown (HH1.out _)) | (with_reducible exact call_grown (HH2.out _))))))); exact wpQuiet_nil rfl))
    have hBn : w.heap.size + 1 + 1 + 1 ≤ W0.drew.heap.size := sz
    refine gro.anyG_two 4 5 (by kernel_rfl) rfl rfl ?_ ?_
    · intro y1 hz1 K' hK'
      have KY1 := (KK.out).drew.below hz1
      have BY1 := hz1
      go_simp
      refine hK' _ _ ⟨BY1.alloc BY1.size _, ?_⟩
      clear hK' K'
      obtain ⟨p, hp⟩ : ∃ p, y1.heap.size = p := ⟨_, rfl⟩
      have KY2 := KY1.new (t := 67) (c := #[Value.int IntKind.u64 0, Value.int IntKind.u64 0, Value.int IntKind.u64 0, Value.int IntKind.u64 0]) hp
      have BY2 := BY1.alloc BY1.size (.cells #[Value.int IntKind.u64 0, Value.int IntKind.u64 0, Value.int IntKind.u64 0, Value.int IntKind.u64 0] 67)
      have sY2 : (y1.alloc (.cells #[Value.int IntKind.u64 0, Value.int IntKind.u64 0, Value.int IntKind.u64 0, Value.int IntKind.u64 0] 67)).heap.size = p + 1 := by simp [hp]
      have hlp := hz1.size
      rw [hp] at hlp ⊢
      have hmp := hlp
      try simp at hmp
      generalize y1.alloc (.cells #[Value.int IntKind.u64 0, Value.int IntKind.u64 0, Value.int IntKind.u64 0, Value.int IntKind.u64 0] 67) = y2 at *
      refine gro.anyG_one 5 (by kernel_rfl) rfl ?_
      intro y3 hz3 K' hK'
      have KY3 := KY2.below hz3
      have BY3 := BY2.trans (hz3.mono BY2.size)
      go_simp
      refine hK' _ _ ⟨BY3.alloc BY3.size _, ?_⟩
      clear hK' K'
      obtain ⟨q, hq⟩ : ∃ q, y3.heap.size = q := ⟨_, rfl⟩
      have hlq := hz3.size
      rw [sY2, hq] at hlq
      rw [hq]
      have KY4 := KY3.new (t := 67) (c := #[Value.int IntKind.u64 0, Value.int IntKind.u64 0, Value.int IntKind.u64 0, Value.int IntKind.u64 0]) hq
      have BY4 := BY3.alloc BY3.size (.cells #[Value.int IntKind.u64 0, Value.int IntKind.u64 0, Value.int IntKind.u64 0, Value.int IntKind.u64 0] 67)
      have sY4 : (y3.alloc (.cells #[Value.int IntKind.u64 0, Value.int IntKind.u64 0, Value.int IntKind.u64 0, Value.int IntKind.u64 0] 67)).heap.size = q + 1 := by simp [hq]
      generalize y3.alloc (.cells #[Value.int IntKind.u64 0, Value.int IntKind.u64 0, Value.int IntKind.u64 0, Value.int IntKind.u64 0] 67) = y4 at *
      replace KY4 := KY4.swap
      clear hz1 hz3 KY1 KY2 KY3 BY1 BY2 BY3
      refine gro.anyG_one 6 (by kernel_rfl) rfl ?_
      intro y5 hz5 K' hK'
      have KY5 := KY4.below hz5
      have BY5 := BY4.trans (hz5.mono BY4.size)
      have sY5 := hz5.size
      have RY := KY5.rules
      simp only [gro.Rules] at RY
      go_simp
      refine hK' _ _ ⟨((((BY5.setCell (by first | (simp; done) | (simp; omega)) _).setCell (by first | (simp; done) | (simp; omega)) _).setCell (by first | (simp; done) | (simp; omega)) _).setCell (by first | (simp; done) | (simp; omega)) _), ?_⟩
      clear hK' K' RY
      obtain ⟨y6, hy6, KY6, BY6, sY6⟩ := gro.name_world (gro.Bx.put4 (u0 := .int .u64 x0) (u1 := .int .u64 x1) (u2 := .int .u64 x2) (u3 := .int .u64 x3) KY5 (by first | (simp; done) | (simp; omega))).swap ((((BY5.setCell (by first | (simp; done) | (simp; omega)) _).setCell (by first | (simp; done) | (simp; omega)) _).setCell (by first | (simp; done) | (simp; omega)) _).setCell (by first | (simp; done) | (simp; omega)) _) (s := q + 1) (by simp only [gro.set2_size]; omega)
      rw [hy6]
      clear hy6
      refine gro.anyG_one 7 (by kernel_rfl) rfl ?_
      intro y7 hz7 K' hK'
      have KY7 := KY6.below hz7
      have BY7 := BY6.trans (hz7.mono BY6.size)
      have sY7 := hz7.size
      have RY := KY7.rules
      simp only [gro.Rules] at RY
      go_simp
      refine hK' _ _ ⟨((((BY7.setCell (by first | (simp; done) | (simp; omega)) _).setCell (by first | (simp; done) | (simp; omega)) _).setCell (by first | (simp; done) | (simp; omega)) _).setCell (by first | (simp; done) | (simp; omega)) _), ?_⟩
      clear hK' K' RY
      obtain ⟨y8, hy8, KY8, BY8, sY8⟩ := gro.name_world (gro.Bx.put4 (u0 := .int .u64 v0) (u1 := .int .u64 v1) (u2 := .int .u64 v2) (u3 := .int .u64 v3) KY7 (by first | (simp; done) | (simp; omega))) ((((BY7.setCell (by first | (simp; done) | (simp; omega)) _).setCell (by first | (simp; done) | (simp; omega)) _).setCell (by first | (simp; done) | (simp; omega)) _).setCell (by first | (simp; done) | (simp; omega)) _) (s := q + 1) (by simp only [gro.set2_size]; omega)
      rw [hy8]
      clear hy8
      refine gro.anyG_done (by kernel_rfl) ?_
      intro y9 hz9
      have KP := KY8.below hz9
      have BP := (BB.out).drew.trans ((BY8.trans (hz9.mono BY8.size)).mono (BB.out).size)
      have sP := hz9.size
      clear KY4 BY4 KY5 BY5 KY6 BY6 KY7 BY7 KY8 BY8 hz5 hz7 hz9
      go_wp2_with fail; go_meet; case rel => exact ⟨p, q, rfl, rfl, by omega, by omega, by omega, by omega, by omega, BP, KP.perm (by simp)⟩
    · intro y1 hz1 K' hK'
      have KY1 := (KK.out).drew.below hz1
      have BY1 := hz1
      go_simp
      refine hK' _ _ ⟨BY1.alloc BY1.size _, ?_⟩
      clear hK' K'
      obtain ⟨q, hq⟩ : ∃ q, y1.heap.size = q := ⟨_, rfl⟩
      have KY2 := KY1.new (t := 67) (c := #[Value.int IntKind.u64 0, Value.int IntKind.u64 0, Value.int IntKind.u64 0, Value.int IntKind.u64 0]) hq
      have BY2 := BY1.alloc BY1.size (.cells #[Value.int IntKind.u64 0, Value.int IntKind.u64 0, Value.int IntKind.u64 0, Value.int IntKind.u64 0] 67)
      have sY2 : (y1.alloc (.cells #[Value.int IntKind.u64 0, Value.int IntKind.u64 0, Value.int IntKind.u64 0, Value.int IntKind.u64 0] 67)).heap.size = q + 1 := by simp [hq]
      have hlq := hz1.size
      rw [hq] at hlq ⊢
      have hmq := hlq
      try simp at hmq
      generalize y1.alloc (.cells #[Value.int IntKind.u64 0, Value.int IntKind.u64 0, Value.int IntKind.u64 0, Value.int IntKind.u64 0] 67) = y2 at *
      refine gro.anyG_one 4 (by kernel_rfl) rfl ?_
      intro y3 hz3 K' hK'
      have KY3 := KY2.below hz3
      have BY3 := BY2.trans (hz3.mono BY2.size)
      go_simp
      refine hK' _ _ ⟨BY3.alloc BY3.size _, ?_⟩
      clear hK' K'
      obtain ⟨p, hp⟩ : ∃ p, y3.heap.size = p := ⟨_, rfl⟩
      have hlp := hz3.size
      rw [sY2, hp] at hlp
      rw [hp]
      have KY4 := KY3.new (t := 67) (c := #[Value.int IntKind.u64 0, Value.int IntKind.u64 0, Value.int IntKind.u64 0, Value.int IntKind.u64 0]) hp
      have BY4 := BY3.alloc BY3.size (.cells #[Value.int IntKind.u64 0, Value.int IntKind.u64 0, Value.int IntKind.u64 0, Value.int IntKind.u64 0] 67)
      have sY4 : (y3.alloc (.cells #[Value.int IntKind.u64 0, Value.int IntKind.u64 0, Value.int IntKind.u64 0, Value.int IntKind.u64 0] 67)).heap.size = p + 1 := by simp [hp]
      generalize y3.alloc (.cells #[Value.int IntKind.u64 0, Value.int IntKind.u64 0, Value.int IntKind.u64 0, Value.int IntKind.u64 0] 67) = y4 at *
      clear hz1 hz3 KY1 KY2 KY3 BY1 BY2 BY3
      refine gro.anyG_one 6 (by kernel_rfl) rfl ?_
      intro y5 hz5 K' hK'
      have KY5 := KY4.below hz5
      have BY5 := BY4.trans (hz5.mono BY4.size)
      have sY5 := hz5.size
      have RY := KY5.rules
      simp only [gro.Rules] at RY
      go_simp
      refine hK' _ _ ⟨((((BY5.setCell (by first | (simp; done) | (simp; omega)) _).setCell (by first | (simp; done) | (simp; omega)) _).setCell (by first | (simp; done) | (simp; omega)) _).setCell (by first | (simp; done) | (simp; omega)) _), ?_⟩
      clear hK' K' RY
      obtain ⟨y6, hy6, KY6, BY6, sY6⟩ := gro.name_world (gro.Bx.put4 (u0 := .int .u64 x0) (u1 := .int .u64 x1) (u2 := .int .u64 x2) (u3 := .int .u64 x3) KY5 (by first | (simp; done) | (simp; omega))).swap ((((BY5.setCell (by first | (simp; done) | (simp; omega)) _).setCell (by first | (simp; done) | (simp; omega)) _).setCell (by first | (simp; done) | (simp; omega)) _).setCell (by first | (simp; done) | (simp; omega)) _) (s := p + 1) (by simp only [gro.set2_size]; omega)
      rw [hy6]
      clear hy6
      refine gro.anyG_one 7 (by kernel_rfl) rfl ?_
      intro y7 hz7 K' hK'
      have KY7 := KY6.below hz7
      have BY7 := BY6.trans (hz7.mono BY6.size)
      have sY7 := hz7.size
      have RY := KY7.rules
      simp only [gro.Rules] at RY
      go_simp
      refine hK' _ _ ⟨((((BY7.setCell (by first | (simp; done) | (simp; omega)) _).setCell (by first | (simp; done) | (simp; omega)) _).setCell (by first | (simp; done) | (simp; omega)) _).setCell (by first | (simp; done) | (simp; omega)) _), ?_⟩
      clear hK' K' RY
      obtain ⟨y8, hy8, KY8, BY8, sY8⟩ := gro.name_world (gro.Bx.put4 (u0 := .int .u64 v0) (u1 := .int .u64 v1) (u2 := .int .u64 v2) (u3 := .int .u64 v3) KY7 (by first | (simp; done) | (simp; omega))) ((((BY7.setCell (by first | (simp; done) | (simp; omega)) _).setCell (by first | (simp; done) | (simp; omega)) _).setCell (by first | (simp; done) | (simp; omega)) _).setCell (by first | (simp; done) | (simp; omega)) _) (s := p + 1) (by simp only [gro.set2_size]; omega)
      rw [hy8]
      clear hy8
      refine gro.anyG_done (by kernel_rfl) ?_
      intro y9 hz9
      have KP := KY8.below hz9
      have BP := (BB.out).drew.trans ((BY8.trans (hz9.mono BY8.size)).mono (BB.out).size)
      have sP := hz9.size
      clear KY4 BY4 KY5 BY5 KY6 BY6 KY7 BY7 KY8 BY8 hz5 hz7 hz9
      go_wp2_with fail; go_meet; case rel => exact ⟨p, q, rfl, rfl, by omega, by omega, by omega, by omega, by omega, BP, KP.perm (by simp)⟩
  case rest =>
    obtain ⟨p, q, rfl, rfl, hpq, hp, hq, hpl, hql, HBc, HKc⟩ := hcut
    clear R sz KK BB HH1 HH2
    obtain ⟨g, hg⟩ : ∃ g, wc.heap.size = g := ⟨_, rfl⟩
    have KK := Lib.hid (HKc.out.new (t := 83) (c := #[Value.int IntKind.u64 0, Value.int IntKind.u64 0, Value.int IntKind.u64 0, Value.int IntKind.u64 0, Value.int IntKind.u64 0, Value.int IntKind.u64 0, Value.int IntKind.u64 0, Value.int IntKind.u64 0, Value.int IntKind.u64 0]) hg)
    have BB := Lib.hid (HBc.out.alloc HBc.out.size (.cells #[Value.int IntKind.u64 0, Value.int IntKind.u64 0, Value.int IntKind.u64 0, Value.int IntKind.u64 0, Value.int IntKind.u64 0, Value.int IntKind.u64 0, Value.int IntKind.u64 0, Value.int IntKind.u64 0, Value.int IntKind.u64 0] 83))
    rw [hg] at hpl hql
    clear HKc HBc
    go_wp2_with fail
    obtain ⟨W1, hW, K1, B1, z_⟩ := name_world KK.out BB.out (s := g + 1) (by simp; omega)
    rw [hW]
    clear hW KK BB hg
    have KK := Lib.hid K1
    have BB := Lib.hid B1
    have sz := z_
    have R := K1.rules
    simp only [Rules] at R
    clear K1 B1 z_
    refine wp_loop_rounds 5 ?_
    rw [rounds_succ]
    go_wp2_with fail
    refine wp_loop_rounds 5 ?_
    rw [rounds_succ]
    have ta := ma00.out
    have tb := mb00.out
    have td := md00.out
    have te := me00.out
    go_wp2_with fail
    (refine gro.wp_region_grown (by kernel_rfl) (by kernel_rfl) ?_; (repeat (go_big_quiet_step ((fail)))); refine wpQuiet_nil ?_; intro _ hw'; obtain ⟨nx, hw''⟩ := hw'; subst hw'')
    replace KK := Lib.hid (KK.out.below (below_grown _ nx))
    replace BB := Lib.hid (BB.out.trans ((below_grown _ nx).mono BB.out.size))
    replace sz := Nat.le_trans sz (below_grown _ nx).size
    clear R
    generalize grown _ nx = W7 at *
    have R := KK.out.rules
    simp only [Rules] at R
    go_wp2_with fail
    obtain ⟨W1, hW, K1, B1, z_⟩ := name_world (Bx.word 0 (Value.int IntKind.u64 z0) (d := #[Value.int IntKind.u64 z0, Value.int IntKind.u64 0, Value.int IntKind.u64 0, Value.int IntKind.u64 0, Value.int IntKind.u64 0, Value.int IntKind.u64 0, Value.int IntKind.u64 0, Value.int IntKind.u64 0, Value.int IntKind.u64 0]) KK.out (by simp; omega) (by simp)) (BB.out.setCell (by simp; omega) _) (s := g + 1) (by simp only [set1_size]; omega)
    rw [hW]
    clear hW KK BB R
    have KK := Lib.hid K1
    have BB := Lib.hid B1
    replace sz := z_
    have R := K1.rules
    simp only [Rules] at R
    clear K1 B1 z_
    clear ta tb td te ma00 mb00 md00 me00
    rw [rounds_succ]
    have ta := ma01.out
    have tb := mb01.out
    have tc := mc01.out
    have td := md01.out
    have te := me01.out
    go_wp2_with fail
    (refine gro.wp_region_grown (by kernel_rfl) (by kernel_rfl) ?_; (repeat (go_big_quiet_step ((fail)))); refine wpQuiet_nil ?_; intro _ hw'; obtain ⟨nx, hw''⟩ := hw'; subst hw'')
    replace KK := Lib.hid (KK.out.below (below_grown _ nx))
    replace BB := Lib.hid (BB.out.trans ((below_grown _ nx).mono BB.out.size))
    replace sz := Nat.le_trans sz (below_grown _ nx).size
    clear R
    generalize grown _ nx = W7 at *
    have R := KK.out.rules
    simp only [Rules] at R
    go_wp2_with fail
    obtain ⟨W1, hW, K1, B1, z_⟩ := name_world (Bx.word 1 (Value.int IntKind.u64 s10) (d := #[Value.int IntKind.u64 z0, Value.int IntKind.u64 s10, Value.int IntKind.u64 0, Value.int IntKind.u64 0, Value.int IntKind.u64 0, Value.int IntKind.u64 0, Value.int IntKind.u64 0, Value.int IntKind.u64 0, Value.int IntKind.u64 0]) KK.out (by simp; omega) (by simp)) (BB.out.setCell (by simp; omega) _) (s := g + 1) (by simp only [set1_size]; omega)
    rw [hW]
    clear hW KK BB R
    have KK := Lib.hid K1
    have BB := Lib.hid B1
    replace sz := z_
    have R := K1.rules
    simp only [Rules] at R
    clear K1 B1 z_
    clear ta tb tc td te ma01 mb01 mc01 md01 me01
    rw [rounds_succ]
    have ta := ma02.out
    have tb := mb02.out
    have tc := mc02.out
    have td := md02.out
    have te := me02.out
    go_wp2_with fail
    (refine gro.wp_region_grown (by kernel_rfl) (by kernel_rfl) ?_; (repeat (go_big_quiet_step ((fail)))); refine wpQuiet_nil ?_; intro _ hw'; obtain ⟨nx, hw''⟩ := hw'; subst hw'')
    replace KK := Lib.hid (KK.out.below (below_grown _ nx))
    replace BB := Lib.hid (BB.out.trans ((below_grown _ nx).mono BB.out.size))
    replace sz := Nat.le_trans sz (below_grown _ nx).size
    clear R
    generalize grown _ nx = W7 at *
    have R := KK.out.rules
    simp only [Rules] at R
    go_wp2_with fail
    obtain ⟨W1, hW, K1, B1, z_⟩ := name_world (Bx.word 2 (Value.int IntKind.u64 s11) (d := #[Value.int IntKind.u64 z0, Value.int IntKind.u64 s10, Value.int IntKind.u64 s11, Value.int IntKind.u64 0, Value.int IntKind.u64 0, Value.int IntKind.u64 0, Value.int IntKind.u64 0, Value.int IntKind.u64 0, Value.int IntKind.u64 0]) KK.out (by simp; omega) (by simp)) (BB.out.setCell (by simp; omega) _) (s := g + 1) (by simp only [set1_size]; omega)
    rw [hW]
    clear hW KK BB R
    have KK := Lib.hid K1
    have BB := Lib.hid B1
    replace sz := z_
    have R := K1.rules
    simp only [Rules] at R
    clear K1 B1 z_
    clear ta tb tc td te ma02 mb02 mc02 md02 me02
    rw [rounds_succ]
    have ta := ma03.out
    have tb := mb03.out
    have tc := mc03.out
    have td := md03.out
    have te := me03.out
    go_wp2_with fail
    (refine gro.wp_region_grown (by kernel_rfl) (by kernel_rfl) ?_; (repeat (go_big_quiet_step ((fail)))); refine wpQuiet_nil ?_; intro _ hw'; obtain ⟨nx, hw''⟩ := hw'; subst hw'')
    replace KK := Lib.hid (KK.out.below (below_grown _ nx))
    replace BB := Lib.hid (BB.out.trans ((below_grown _ nx).mono BB.out.size))
    replace sz := Nat.le_trans sz (below_grown _ nx).size
    clear R
    generalize grown _ nx = W7 at *
    have R := KK.out.rules
    simp only [Rules] at R
    go_wp2_with fail
    obtain ⟨W1, hW, K1, B1, z_⟩ := name_world (Bx.word 3 (Value.int IntKind.u64 s12) (d := #[Value.int IntKind.u64 z0, Value.int IntKind.u64 s10, Value.int IntKind.u64 s11, Value.int IntKind.u64 s12, Value.int IntKind.u64 0, Value.int IntKind.u64 0, Value.int IntKind.u64 0, Value.int IntKind.u64 0, Value.int IntKind.u64 0]) KK.out (by simp; omega) (by simp)) (BB.out.setCell (by simp; omega) _) (s := g + 1) (by simp only [set1_size]; omega)
    rw [hW]
    clear hW KK BB R
    have KK := Lib.hid K1
    have BB := Lib.hid B1
    replace sz := z_
    have R := K1.rules
    simp only [Rules] at R
    clear K1 B1 z_
    clear ta tb tc td te ma03 mb03 mc03 md03 me03
    have tf := mf0.out
    rw [rounds_succ]
    go_wp2_with fail
    obtain ⟨W1, hW, K1, B1, z_⟩ := name_world (Bx.word 4 (Value.int IntKind.u64 s13) (d := #[Value.int IntKind.u64 z0, Value.int IntKind.u64 s10, Value.int IntKind.u64 s11, Value.int IntKind.u64 s12, Value.int IntKind.u64 s13, Value.int IntKind.u64 0, Value.int IntKind.u64 0, Value.int IntKind.u64 0, Value.int IntKind.u64 0]) KK.out (by simp; omega) (by simp)) (BB.out.setCell (by simp; omega) _) (s := g + 1) (by simp only [set1_size]; omega)
    rw [hW]
    clear hW KK BB R
    have KK := Lib.hid K1
    have BB := Lib.hid B1
    replace sz := z_
    have R := K1.rules
    simp only [Rules] at R
    clear K1 B1 z_
    clear tf mf0
    rw [rounds_succ]
    go_wp2_with fail
    refine wp_loop_rounds 5 ?_
    rw [rounds_succ]
    have ta := ma10.out
    have tb := mb10.out
    have tc := mc10.out
    have td := md10.out
    have te := me10.out
    go_wp2_with fail
    (refine gro.wp_region_grown (by kernel_rfl) (by kernel_rfl) ?_; (repeat (go_big_quiet_step ((fail)))); refine wpQuiet_nil ?_; intro _ hw'; obtain ⟨nx, hw''⟩ := hw'; subst hw'')
    replace KK := Lib.hid (KK.out.below (below_grown _ nx))
    replace BB := Lib.hid (BB.out.trans ((below_grown _ nx).mono BB.out.size))
    replace sz := Nat.le_trans sz (below_grown _ nx).size
    clear R
    generalize grown _ nx = W7 at *
    have R := KK.out.rules
    simp only [Rules] at R
    go_wp2_with fail
    obtain ⟨W1, hW, K1, B1, z_⟩ := name_world (Bx.word 1 (Value.int IntKind.u64 z1) (d := #[Value.int IntKind.u64 z0, Value.int IntKind.u64 z1, Value.int IntKind.u64 s11, Value.int IntKind.u64 s12, Value.int IntKind.u64 s13, Value.int IntKind.u64 0, Value.int IntKind.u64 0, Value.int IntKind.u64 0, Value.int IntKind.u64 0]) KK.out (by simp; omega) (by simp)) (BB.out.setCell (by simp; omega) _) (s := g + 1) (by simp only [set1_size]; omega)
    rw [hW]
    clear hW KK BB R
    have KK := Lib.hid K1
    have BB := Lib.hid B1
    replace sz := z_
    have R := K1.rules
    simp only [Rules] at R
    clear K1 B1 z_
    clear ta tb tc td te ma10 mb10 mc10 md10 me10
    rw [rounds_succ]
    have ta := ma11.out
    have tb := mb11.out
    have tc := mc11.out
    have td := md11.out
    have te := me11.out
    go_wp2_with fail
    (refine gro.wp_region_grown (by kernel_rfl) (by kernel_rfl) ?_; (repeat (go_big_quiet_step ((fail)))); refine wpQuiet_nil ?_; intro _ hw'; obtain ⟨nx, hw''⟩ := hw'; subst hw'')
    replace KK := Lib.hid (KK.out.below (below_grown _ nx))
    replace BB := Lib.hid (BB.out.trans ((below_grown _ nx).mono BB.out.size))
    replace sz := Nat.le_trans sz (below_grown _ nx).size
    clear R
    generalize grown _ nx = W7 at *
    have R := KK.out.rules
    simp only [Rules] at R
    go_wp2_with fail
    obtain ⟨W1, hW, K1, B1, z_⟩ := name_world (Bx.word 2 (Value.int IntKind.u64 s20) (d := #[Value.int IntKind.u64 z0, Value.int IntKind.u64 z1, Value.int IntKind.u64 s20, Value.int IntKind.u64 s12, Value.int IntKind.u64 s13, Value.int IntKind.u64 0, Value.int IntKind.u64 0, Value.int IntKind.u64 0, Value.int IntKind.u64 0]) KK.out (by simp; omega) (by simp)) (BB.out.setCell (by simp; omega) _) (s := g + 1) (by simp only [set1_size]; omega)
    rw [hW]
    clear hW KK BB R
    have KK := Lib.hid K1
    have BB := Lib.hid B1
    replace sz := z_
    have R := K1.rules
    simp only [Rules] at R
    clear K1 B1 z_
    clear ta tb tc td te ma11 mb11 mc11 md11 me11
    rw [rounds_succ]
    have ta := ma12.out
    have tb := mb12.out
    have tc := mc12.out
    have td := md12.out
    have te := me12.out
    go_wp2_with fail
    (refine gro.wp_region_grown (by kernel_rfl) (by kernel_rfl) ?_; (repeat (go_big_quiet_step ((fail)))); refine wpQuiet_nil ?_; intro _ hw'; obtain ⟨nx, hw''⟩ := hw'; subst hw'')
    replace KK := Lib.hid (KK.out.below (below_grown _ nx))
    replace BB := Lib.hid (BB.out.trans ((below_grown _ nx).mono BB.out.size))
    replace sz := Nat.le_trans sz (below_grown _ nx).size
    clear R
    generalize grown _ nx = W7 at *
    have R := KK.out.rules
    simp only [Rules] at R
    go_wp2_with fail
    obtain ⟨W1, hW, K1, B1, z_⟩ := name_world (Bx.word 3 (Value.int IntKind.u64 s21) (d := #[Value.int IntKind.u64 z0, Value.int IntKind.u64 z1, Value.int IntKind.u64 s20, Value.int IntKind.u64 s21, Value.int IntKind.u64 s13, Value.int IntKind.u64 0, Value.int IntKind.u64 0, Value.int IntKind.u64 0, Value.int IntKind.u64 0]) KK.out (by simp; omega) (by simp)) (BB.out.setCell (by simp; omega) _) (s := g + 1) (by simp only [set1_size]; omega)
    rw [hW]
    clear hW KK BB R
    have KK := Lib.hid K1
    have BB := Lib.hid B1
    replace sz := z_
    have R := K1.rules
    simp only [Rules] at R
    clear K1 B1 z_
    clear ta tb tc td te ma12 mb12 mc12 md12 me12
    rw [rounds_succ]
    have ta := ma13.out
    have tb := mb13.out
    have tc := mc13.out
    have td := md13.out
    have te := me13.out
    go_wp2_with fail
    (refine gro.wp_region_grown (by kernel_rfl) (by kernel_rfl) ?_; (repeat (go_big_quiet_step ((fail)))); refine wpQuiet_nil ?_; intro _ hw'; obtain ⟨nx, hw''⟩ := hw'; subst hw'')
    replace KK := Lib.hid (KK.out.below (below_grown _ nx))
    replace BB := Lib.hid (BB.out.trans ((below_grown _ nx).mono BB.out.size))
    replace sz := Nat.le_trans sz (below_grown _ nx).size
    clear R
    generalize grown _ nx = W7 at *
    have R := KK.out.rules
    simp only [Rules] at R
    go_wp2_with fail
    obtain ⟨W1, hW, K1, B1, z_⟩ := name_world (Bx.word 4 (Value.int IntKind.u64 s22) (d := #[Value.int IntKind.u64 z0, Value.int IntKind.u64 z1, Value.int IntKind.u64 s20, Value.int IntKind.u64 s21, Value.int IntKind.u64 s22, Value.int IntKind.u64 0, Value.int IntKind.u64 0, Value.int IntKind.u64 0, Value.int IntKind.u64 0]) KK.out (by simp; omega) (by simp)) (BB.out.setCell (by simp; omega) _) (s := g + 1) (by simp only [set1_size]; omega)
    rw [hW]
    clear hW KK BB R
    have KK := Lib.hid K1
    have BB := Lib.hid B1
    replace sz := z_
    have R := K1.rules
    simp only [Rules] at R
    clear K1 B1 z_
    clear ta tb tc td te ma13 mb13 mc13 md13 me13
    have tf := mf1.out
    rw [rounds_succ]
    go_wp2_with fail
    obtain ⟨W1, hW, K1, B1, z_⟩ := name_world (Bx.word 5 (Value.int IntKind.u64 s23) (d := #[Value.int IntKind.u64 z0, Value.int IntKind.u64 z1, Value.int IntKind.u64 s20, Value.int IntKind.u64 s21, Value.int IntKind.u64 s22, Value.int IntKind.u64 s23, Value.int IntKind.u64 0, Value.int IntKind.u64 0, Value.int IntKind.u64 0]) KK.out (by simp; omega) (by simp)) (BB.out.setCell (by simp; omega) _) (s := g + 1) (by simp only [set1_size]; omega)
    rw [hW]
    clear hW KK BB R
    have KK := Lib.hid K1
    have BB := Lib.hid B1
    replace sz := z_
    have R := K1.rules
    simp only [Rules] at R
    clear K1 B1 z_
    clear tf mf1
    rw [rounds_succ]
    go_wp2_with fail
    refine wp_loop_rounds 5 ?_
    rw [rounds_succ]
    have ta := ma20.out
    have tb := mb20.out
    have tc := mc20.out
    have td := md20.out
    have te := me20.out
    go_wp2_with fail
    (refine gro.wp_region_grown (by kernel_rfl) (by kernel_rfl) ?_; (repeat (go_big_quiet_step ((fail)))); refine wpQuiet_nil ?_; intro _ hw'; obtain ⟨nx, hw''⟩ := hw'; subst hw'')
    replace KK := Lib.hid (KK.out.below (below_grown _ nx))
    replace BB := Lib.hid (BB.out.trans ((below_grown _ nx).mono BB.out.size))
    replace sz := Nat.le_trans sz (below_grown _ nx).size
    clear R
    generalize grown _ nx = W7 at *
    have R := KK.out.rules
    simp only [Rules] at R
    go_wp2_with fail
    obtain ⟨W1, hW, K1, B1, z_⟩ := name_world (Bx.word 2 (Value.int IntKind.u64 z2) (d := #[Value.int IntKind.u64 z0, Value.int IntKind.u64 z1, Value.int IntKind.u64 z2, Value.int IntKind.u64 s21, Value.int IntKind.u64 s22, Value.int IntKind.u64 s23, Value.int IntKind.u64 0, Value.int IntKind.u64 0, Value.int IntKind.u64 0]) KK.out (by simp; omega) (by simp)) (BB.out.setCell (by simp; omega) _) (s := g + 1) (by simp only [set1_size]; omega)
    rw [hW]
    clear hW KK BB R
    have KK := Lib.hid K1
    have BB := Lib.hid B1
    replace sz := z_
    have R := K1.rules
    simp only [Rules] at R
    clear K1 B1 z_
    clear ta tb tc td te ma20 mb20 mc20 md20 me20
    rw [rounds_succ]
    have ta := ma21.out
    have tb := mb21.out
    have tc := mc21.out
    have td := md21.out
    have te := me21.out
    go_wp2_with fail
    (refine gro.wp_region_grown (by kernel_rfl) (by kernel_rfl) ?_; (repeat (go_big_quiet_step ((fail)))); refine wpQuiet_nil ?_; intro _ hw'; obtain ⟨nx, hw''⟩ := hw'; subst hw'')
    replace KK := Lib.hid (KK.out.below (below_grown _ nx))
    replace BB := Lib.hid (BB.out.trans ((below_grown _ nx).mono BB.out.size))
    replace sz := Nat.le_trans sz (below_grown _ nx).size
    clear R
    generalize grown _ nx = W7 at *
    have R := KK.out.rules
    simp only [Rules] at R
    go_wp2_with fail
    obtain ⟨W1, hW, K1, B1, z_⟩ := name_world (Bx.word 3 (Value.int IntKind.u64 s30) (d := #[Value.int IntKind.u64 z0, Value.int IntKind.u64 z1, Value.int IntKind.u64 z2, Value.int IntKind.u64 s30, Value.int IntKind.u64 s22, Value.int IntKind.u64 s23, Value.int IntKind.u64 0, Value.int IntKind.u64 0, Value.int IntKind.u64 0]) KK.out (by simp; omega) (by simp)) (BB.out.setCell (by simp; omega) _) (s := g + 1) (by simp only [set1_size]; omega)
    rw [hW]
    clear hW KK BB R
    have KK := Lib.hid K1
    have BB := Lib.hid B1
    replace sz := z_
    have R := K1.rules
    simp only [Rules] at R
    clear K1 B1 z_
    clear ta tb tc td te ma21 mb21 mc21 md21 me21
    rw [rounds_succ]
    have ta := ma22.out
    have tb := mb22.out
    have tc := mc22.out
    have td := md22.out
    have te := me22.out
    go_wp2_with fail
    (refine gro.wp_region_grown (by kernel_rfl) (by kernel_rfl) ?_; (repeat (go_big_quiet_step ((fail)))); refine wpQuiet_nil ?_; intro _ hw'; obtain ⟨nx, hw''⟩ := hw'; subst hw'')
    replace KK := Lib.hid (KK.out.below (below_grown _ nx))
    replace BB := Lib.hid (BB.out.trans ((below_grown _ nx).mono BB.out.size))
    replace sz := Nat.le_trans sz (below_grown _ nx).size
    clear R
    generalize grown _ nx = W7 at *
    have R := KK.out.rules
    simp only [Rules] at R
    go_wp2_with fail
    obtain ⟨W1, hW, K1, B1, z_⟩ := name_world (Bx.word 4 (Value.int IntKind.u64 s31) (d := #[Value.int IntKind.u64 z0, Value.int IntKind.u64 z1, Value.int IntKind.u64 z2, Value.int IntKind.u64 s30, Value.int IntKind.u64 s31, Value.int IntKind.u64 s23, Value.int IntKind.u64 0, Value.int IntKind.u64 0, Value.int IntKind.u64 0]) KK.out (by simp; omega) (by simp)) (BB.out.setCell (by simp; omega) _) (s := g + 1) (by simp only [set1_size]; omega)
    rw [hW]
    clear hW KK BB R
    have KK := Lib.hid K1
    have BB := Lib.hid B1
    replace sz := z_
    have R := K1.rules
    simp only [Rules] at R
    clear K1 B1 z_
    clear ta tb tc td te ma22 mb22 mc22 md22 me22
    rw [rounds_succ]
    have ta := ma23.out
    have tb := mb23.out
    have tc := mc23.out
    have td := md23.out
    have te := me23.out
    go_wp2_with fail
    (refine gro.wp_region_grown (by kernel_rfl) (by kernel_rfl) ?_; (repeat (go_big_quiet_step ((fail)))); refine wpQuiet_nil ?_; intro _ hw'; obtain ⟨nx, hw''⟩ := hw'; subst hw'')
    replace KK := Lib.hid (KK.out.below (below_grown _ nx))
    replace BB := Lib.hid (BB.out.trans ((below_grown _ nx).mono BB.out.size))
    replace sz := Nat.le_trans sz (below_grown _ nx).size
    clear R
    generalize grown _ nx = W7 at *
    have R := KK.out.rules
    simp only [Rules] at R
    go_wp2_with fail
    obtain ⟨W1, hW, K1, B1, z_⟩ := name_world (Bx.word 5 (Value.int IntKind.u64 s32) (d := #[Value.int IntKind.u64 z0, Value.int IntKind.u64 z1, Value.int IntKind.u64 z2, Value.int IntKind.u64 s30, Value.int IntKind.u64 s31, Value.int IntKind.u64 s32, Value.int IntKind.u64 0, Value.int IntKind.u64 0, Value.int IntKind.u64 0]) KK.out (by simp; omega) (by simp)) (BB.out.setCell (by simp; omega) _) (s := g + 1) (by simp only [set1_size]; omega)
    rw [hW]
    clear hW KK BB R
    have KK := Lib.hid K1
    have BB := Lib.hid B1
    replace sz := z_
    have R := K1.rules
    simp only [Rules] at R
    clear K1 B1 z_
    clear ta tb tc td te ma23 mb23 mc23 md23 me23
    have tf := mf2.out
    rw [rounds_succ]
    go_wp2_with fail
    obtain ⟨W1, hW, K1, B1, z_⟩ := name_world (Bx.word 6 (Value.int IntKind.u64 s33) (d := #[Value.int IntKind.u64 z0, Value.int IntKind.u64 z1, Value.int IntKind.u64 z2, Value.int IntKind.u64 s30, Value.int IntKind.u64 s31, Value.int IntKind.u64 s32, Value.int IntKind.u64 s33, Value.int IntKind.u64 0, Value.int IntKind.u64 0]) KK.out (by simp; omega) (by simp)) (BB.out.setCell (by simp; omega) _) (s := g + 1) (by simp only [set1_size]; omega)
    rw [hW]
    clear hW KK BB R
    have KK := Lib.hid K1
    have BB := Lib.hid B1
    replace sz := z_
    have R := K1.rules
    simp only [Rules] at R
    clear K1 B1 z_
    clear tf mf2
    rw [rounds_succ]
    go_wp2_with fail
    refine wp_loop_rounds 5 ?_
    rw [rounds_succ]
    have ta := ma30.out
    have tb := mb30.out
    have tc := mc30.out
    have td := md30.out
    have te := me30.out
    go_wp2_with fail
    (refine gro.wp_region_grown (by kernel_rfl) (by kernel_rfl) ?_; (repeat (go_big_quiet_step ((fail)))); refine wpQuiet_nil ?_; intro _ hw'; obtain ⟨nx, hw''⟩ := hw'; subst hw'')
    replace KK := Lib.hid (KK.out.below (below_grown _ nx))
    replace BB := Lib.hid (BB.out.trans ((below_grown _ nx).mono BB.out.size))
    replace sz := Nat.le_trans sz (below_grown _ nx).size
    clear R
    generalize grown _ nx = W7 at *
    have R := KK.out.rules
    simp only [Rules] at R
    go_wp2_with fail
    obtain ⟨W1, hW, K1, B1, z_⟩ := name_world (Bx.word 3 (Value.int IntKind.u64 z3) (d := #[Value.int IntKind.u64 z0, Value.int IntKind.u64 z1, Value.int IntKind.u64 z2, Value.int IntKind.u64 z3, Value.int IntKind.u64 s31, Value.int IntKind.u64 s32, Value.int IntKind.u64 s33, Value.int IntKind.u64 0, Value.int IntKind.u64 0]) KK.out (by simp; omega) (by simp)) (BB.out.setCell (by simp; omega) _) (s := g + 1) (by simp only [set1_size]; omega)
    rw [hW]
    clear hW KK BB R
    have KK := Lib.hid K1
    have BB := Lib.hid B1
    replace sz := z_
    have R := K1.rules
    simp only [Rules] at R
    clear K1 B1 z_
    clear ta tb tc td te ma30 mb30 mc30 md30 me30
    rw [rounds_succ]
    have ta := ma31.out
    have tb := mb31.out
    have tc := mc31.out
    have td := md31.out
    have te := me31.out
    go_wp2_with fail
    (refine gro.wp_region_grown (by kernel_rfl) (by kernel_rfl) ?_; (repeat (go_big_quiet_step ((fail)))); refine wpQuiet_nil ?_; intro _ hw'; obtain ⟨nx, hw''⟩ := hw'; subst hw'')
    replace KK := Lib.hid (KK.out.below (below_grown _ nx))
    replace BB := Lib.hid (BB.out.trans ((below_grown _ nx).mono BB.out.size))
    replace sz := Nat.le_trans sz (below_grown _ nx).size
    clear R
    generalize grown _ nx = W7 at *
    have R := KK.out.rules
    simp only [Rules] at R
    go_wp2_with fail
    obtain ⟨W1, hW, K1, B1, z_⟩ := name_world (Bx.word 4 (Value.int IntKind.u64 s40) (d := #[Value.int IntKind.u64 z0, Value.int IntKind.u64 z1, Value.int IntKind.u64 z2, Value.int IntKind.u64 z3, Value.int IntKind.u64 s40, Value.int IntKind.u64 s32, Value.int IntKind.u64 s33, Value.int IntKind.u64 0, Value.int IntKind.u64 0]) KK.out (by simp; omega) (by simp)) (BB.out.setCell (by simp; omega) _) (s := g + 1) (by simp only [set1_size]; omega)
    rw [hW]
    clear hW KK BB R
    have KK := Lib.hid K1
    have BB := Lib.hid B1
    replace sz := z_
    have R := K1.rules
    simp only [Rules] at R
    clear K1 B1 z_
    clear ta tb tc td te ma31 mb31 mc31 md31 me31
    rw [rounds_succ]
    have ta := ma32.out
    have tb := mb32.out
    have tc := mc32.out
    have td := md32.out
    have te := me32.out
    go_wp2_with fail
    (refine gro.wp_region_grown (by kernel_rfl) (by kernel_rfl) ?_; (repeat (go_big_quiet_step ((fail)))); refine wpQuiet_nil ?_; intro _ hw'; obtain ⟨nx, hw''⟩ := hw'; subst hw'')
    replace KK := Lib.hid (KK.out.below (below_grown _ nx))
    replace BB := Lib.hid (BB.out.trans ((below_grown _ nx).mono BB.out.size))
    replace sz := Nat.le_trans sz (below_grown _ nx).size
    clear R
    generalize grown _ nx = W7 at *
    have R := KK.out.rules
    simp only [Rules] at R
    go_wp2_with fail
    obtain ⟨W1, hW, K1, B1, z_⟩ := name_world (Bx.word 5 (Value.int IntKind.u64 s41) (d := #[Value.int IntKind.u64 z0, Value.int IntKind.u64 z1, Value.int IntKind.u64 z2, Value.int IntKind.u64 z3, Value.int IntKind.u64 s40, Value.int IntKind.u64 s41, Value.int IntKind.u64 s33, Value.int IntKind.u64 0, Value.int IntKind.u64 0]) KK.out (by simp; omega) (by simp)) (BB.out.setCell (by simp; omega) _) (s := g + 1) (by simp only [set1_size]; omega)
    rw [hW]
    clear hW KK BB R
    have KK := Lib.hid K1
    have BB := Lib.hid B1
    replace sz := z_
    have R := K1.rules
    simp only [Rules] at R
    clear K1 B1 z_
    clear ta tb tc td te ma32 mb32 mc32 md32 me32
    rw [rounds_succ]
    have ta := ma33.out
    have tb := mb33.out
    have tc := mc33.out
    have td := md33.out
    have te := me33.out
    go_wp2_with fail
    (refine gro.wp_region_grown (by kernel_rfl) (by kernel_rfl) ?_; (repeat (go_big_quiet_step ((fail)))); refine wpQuiet_nil ?_; intro _ hw'; obtain ⟨nx, hw''⟩ := hw'; subst hw'')
    replace KK := Lib.hid (KK.out.below (below_grown _ nx))
    replace BB := Lib.hid (BB.out.trans ((below_grown _ nx).mono BB.out.size))
    replace sz := Nat.le_trans sz (below_grown _ nx).size
    clear R
    generalize grown _ nx = W7 at *
    have R := KK.out.rules
    simp only [Rules] at R
    go_wp2_with fail
    obtain ⟨W1, hW, K1, B1, z_⟩ := name_world (Bx.word 6 (Value.int IntKind.u64 s42) (d := #[Value.int IntKind.u64 z0, Value.int IntKind.u64 z1, Value.int IntKind.u64 z2, Value.int IntKind.u64 z3, Value.int IntKind.u64 s40, Value.int IntKind.u64 s41, Value.int IntKind.u64 s42, Value.int IntKind.u64 0, Value.int IntKind.u64 0]) KK.out (by simp; omega) (by simp)) (BB.out.setCell (by simp; omega) _) (s := g + 1) (by simp only [set1_size]; omega)
    rw [hW]
    clear hW KK BB R
    have KK := Lib.hid K1
    have BB := Lib.hid B1
    replace sz := z_
    have R := K1.rules
    simp only [Rules] at R
    clear K1 B1 z_
    clear ta tb tc td te ma33 mb33 mc33 md33 me33
    have tf := mf3.out
    rw [rounds_succ]
    go_wp2_with fail
    obtain ⟨W1, hW, K1, B1, z_⟩ := name_world (Bx.word 7 (Value.int IntKind.u64 s43) (d := #[Value.int IntKind.u64 z0, Value.int IntKind.u64 z1, Value.int IntKind.u64 z2, Value.int IntKind.u64 z3, Value.int IntKind.u64 s40, Value.int IntKind.u64 s41, Value.int IntKind.u64 s42, Value.int IntKind.u64 s43, Value.int IntKind.u64 0]) KK.out (by simp; omega) (by simp)) (BB.out.setCell (by simp; omega) _) (s := g + 1) (by simp only [set1_size]; omega)
    rw [hW]
    clear hW KK BB R
    have KK := Lib.hid K1
    have BB := Lib.hid B1
    replace sz := z_
    have R := K1.rules
    simp only [Rules] at R
    clear K1 B1 z_
    clear tf mf3
    rw [rounds_succ]
    go_wp2_with fail
    obtain ⟨h, hh⟩ : ∃ h, W1.heap.size = h := ⟨_, rfl⟩
    obtain ⟨W2, hW, K1, B1, z_⟩ := name_world (KK.out.new (t := 71) (c := #[Value.int IntKind.u64 0, Value.int IntKind.u64 0, Value.int IntKind.u64 0, Value.int IntKind.u64 0]) hh) (BB.out.alloc BB.out.size (.cells #[Value.int IntKind.u64 0, Value.int IntKind.u64 0, Value.int IntKind.u64 0, Value.int IntKind.u64 0] 71)) (s := h + 1) (by simp; omega)
    rw [hW, hh]
    rw [hh] at sz
    clear hW KK BB hh R
    have KK := Lib.hid K1
    have BB := Lib.hid B1
    have R := K1.rules
    simp only [Rules] at R
    clear K1 B1 z_
    refine wp_loop_rounds 5 ?_
    rw [rounds_succ]
    have ta := wa0.out
    have tb := wb0.out
    go_wp2_with fail
    have KL := KK.out.perm (L' := [(g, 83, #[Value.int IntKind.u64 z0, Value.int IntKind.u64 z1, Value.int IntKind.u64 z2, Value.int IntKind.u64 z3, Value.int IntKind.u64 s40, Value.int IntKind.u64 s41, Value.int IntKind.u64 s42, Value.int IntKind.u64 s43, Value.int IntKind.u64 0])]) (by simp)
    (refine gro.wp_region_steady_s 13 1 _ (gro.lasts_bx _) (by kernel_rfl) (by kernel_rfl) (by intro _ _ _ _ _ h; exact h) (by kernel_rfl) (by kernel_rfl) (by kernel_rfl) (KL).drew ?_; apply Exists.intro; refine ⟨fun w0 hb0 => ?_, ?_⟩; focus (have RZ := gro.Bx.rules hb0; simp only [gro.Rules] at RZ; simp only [List.take_succ_cons, List.take_zero]; (repeat (go_big_quiet_step ((fail)))); exact wpQuiet_nil rfl))
    refine gro.anyG_one 13 (by kernel_rfl) rfl ?_
    intro y1 hz1 K' hK'
    have KY1 := KK.out.drew.below hz1
    have KL1 := KL.drew.below hz1
    have RY := KY1.rules
    simp only [gro.Rules] at RY
    go_simp
    have BX := BB.out.drew.trans (hz1.mono BB.out.size)
    have KS := KL1.far (p := ⟨h, 0, none⟩) (by simp; omega) (Value.int IntKind.u64 o0)
    refine hK' _ _ ⟨KS, ?_⟩
    clear hK' K'
    obtain ⟨y2, hy2, KY2, BY2, sY2⟩ := name_world (Bx.word 0 (Value.int IntKind.u64 o0) (d := #[Value.int IntKind.u64 o0, Value.int IntKind.u64 0, Value.int IntKind.u64 0, Value.int IntKind.u64 0]) KY1 (by simp; omega) (by simp)) (BX.setCell (by simp; omega) _) (s := 0) (by omega)
    rw [hy2] at KS ⊢
    clear hy2 KK BB R RY BX KL KL1 KS
    refine gro.anyG_done (by kernel_rfl) ?_
    intro y3 hz3
    have KK := Lib.hid (KY2.below hz3)
    have BB := Lib.hid (BY2.trans (hz3.mono BY2.size))
    have R := KK.out.rules
    simp only [gro.Rules] at R
    clear KY1 KY2 BY2 hz1 hz3 ta tb sY2
    go_wp2_with fail
    rw [rounds_succ]
    have ta := wa1.out
    have tb := wb1.out
    go_wp2_with fail
    have KL := KK.out.perm (L' := [(g, 83, #[Value.int IntKind.u64 z0, Value.int IntKind.u64 z1, Value.int IntKind.u64 z2, Value.int IntKind.u64 z3, Value.int IntKind.u64 s40, Value.int IntKind.u64 s41, Value.int IntKind.u64 s42, Value.int IntKind.u64 s43, Value.int IntKind.u64 0])]) (by simp)
    (refine gro.wp_region_steady_s 13 1 _ (gro.lasts_bx _) (by kernel_rfl) (by kernel_rfl) (by intro _ _ _ _ _ h; exact h) (by kernel_rfl) (by kernel_rfl) (by kernel_rfl) (KL).drew ?_; apply Exists.intro; refine ⟨fun w0 hb0 => ?_, ?_⟩; focus (have RZ := gro.Bx.rules hb0; simp only [gro.Rules] at RZ; simp only [List.take_succ_cons, List.take_zero]; (repeat (go_big_quiet_step ((fail)))); exact wpQuiet_nil rfl))
    refine gro.anyG_one 13 (by kernel_rfl) rfl ?_
    intro y1 hz1 K' hK'
    have KY1 := KK.out.drew.below hz1
    have KL1 := KL.drew.below hz1
    have RY := KY1.rules
    simp only [gro.Rules] at RY
    go_simp
    have BX := BB.out.drew.trans (hz1.mono BB.out.size)
    have KS := KL1.far (p := ⟨h, 1, none⟩) (by simp; omega) (Value.int IntKind.u64 o1)
    refine hK' _ _ ⟨KS, ?_⟩
    clear hK' K'
    obtain ⟨y2, hy2, KY2, BY2, sY2⟩ := name_world (Bx.word 1 (Value.int IntKind.u64 o1) (d := #[Value.int IntKind.u64 o0, Value.int IntKind.u64 o1, Value.int IntKind.u64 0, Value.int IntKind.u64 0]) KY1 (by simp; omega) (by simp)) (BX.setCell (by simp; omega) _) (s := 0) (by omega)
    rw [hy2] at KS ⊢
    clear hy2 KK BB R RY BX KL KL1 KS
    refine gro.anyG_done (by kernel_rfl) ?_
    intro y3 hz3
    have KK := Lib.hid (KY2.below hz3)
    have BB := Lib.hid (BY2.trans (hz3.mono BY2.size))
    have R := KK.out.rules
    simp only [gro.Rules] at R
    clear KY1 KY2 BY2 hz1 hz3 ta tb sY2
    go_wp2_with fail
    rw [rounds_succ]
    have ta := wa2.out
    have tb := wb2.out
    go_wp2_with fail
    have KL := KK.out.perm (L' := [(g, 83, #[Value.int IntKind.u64 z0, Value.int IntKind.u64 z1, Value.int IntKind.u64 z2, Value.int IntKind.u64 z3, Value.int IntKind.u64 s40, Value.int IntKind.u64 s41, Value.int IntKind.u64 s42, Value.int IntKind.u64 s43, Value.int IntKind.u64 0])]) (by simp)
    (refine gro.wp_region_steady_s 13 1 _ (gro.lasts_bx _) (by kernel_rfl) (by kernel_rfl) (by intro _ _ _ _ _ h; exact h) (by kernel_rfl) (by kernel_rfl) (by kernel_rfl) (KL).drew ?_; apply Exists.intro; refine ⟨fun w0 hb0 => ?_, ?_⟩; focus (have RZ := gro.Bx.rules hb0; simp only [gro.Rules] at RZ; simp only [List.take_succ_cons, List.take_zero]; (repeat (go_big_quiet_step ((fail)))); exact wpQuiet_nil rfl))
    refine gro.anyG_one 13 (by kernel_rfl) rfl ?_
    intro y1 hz1 K' hK'
    have KY1 := KK.out.drew.below hz1
    have KL1 := KL.drew.below hz1
    have RY := KY1.rules
    simp only [gro.Rules] at RY
    go_simp
    have BX := BB.out.drew.trans (hz1.mono BB.out.size)
    have KS := KL1.far (p := ⟨h, 2, none⟩) (by simp; omega) (Value.int IntKind.u64 o2)
    refine hK' _ _ ⟨KS, ?_⟩
    clear hK' K'
    obtain ⟨y2, hy2, KY2, BY2, sY2⟩ := name_world (Bx.word 2 (Value.int IntKind.u64 o2) (d := #[Value.int IntKind.u64 o0, Value.int IntKind.u64 o1, Value.int IntKind.u64 o2, Value.int IntKind.u64 0]) KY1 (by simp; omega) (by simp)) (BX.setCell (by simp; omega) _) (s := 0) (by omega)
    rw [hy2] at KS ⊢
    clear hy2 KK BB R RY BX KL KL1 KS
    refine gro.anyG_done (by kernel_rfl) ?_
    intro y3 hz3
    have KK := Lib.hid (KY2.below hz3)
    have BB := Lib.hid (BY2.trans (hz3.mono BY2.size))
    have R := KK.out.rules
    simp only [gro.Rules] at R
    clear KY1 KY2 BY2 hz1 hz3 ta tb sY2
    go_wp2_with fail
    rw [rounds_succ]
    have ta := wa3.out
    have tb := wb3.out
    go_wp2_with fail
    have KL := KK.out.perm (L' := [(g, 83, #[Value.int IntKind.u64 z0, Value.int IntKind.u64 z1, Value.int IntKind.u64 z2, Value.int IntKind.u64 z3, Value.int IntKind.u64 s40, Value.int IntKind.u64 s41, Value.int IntKind.u64 s42, Value.int IntKind.u64 s43, Value.int IntKind.u64 0])]) (by simp)
    (refine gro.wp_region_steady_s 13 1 _ (gro.lasts_bx _) (by kernel_rfl) (by kernel_rfl) (by intro _ _ _ _ _ h; exact h) (by kernel_rfl) (by kernel_rfl) (by kernel_rfl) (KL).drew ?_; apply Exists.intro; refine ⟨fun w0 hb0 => ?_, ?_⟩; focus (have RZ := gro.Bx.rules hb0; simp only [gro.Rules] at RZ; simp only [List.take_succ_cons, List.take_zero]; (repeat (go_big_quiet_step ((fail)))); exact wpQuiet_nil rfl))
    refine gro.anyG_one 13 (by kernel_rfl) rfl ?_
    intro y1 hz1 K' hK'
    have KY1 := KK.out.drew.below hz1
    have KL1 := KL.drew.below hz1
    have RY := KY1.rules
    simp only [gro.Rules] at RY
    go_simp
    have BX := BB.out.drew.trans (hz1.mono BB.out.size)
    have KS := KL1.far (p := ⟨h, 3, none⟩) (by simp; omega) (Value.int IntKind.u64 o3)
    refine hK' _ _ ⟨KS, ?_⟩
    clear hK' K'
    obtain ⟨y2, hy2, KY2, BY2, sY2⟩ := name_world (Bx.word 3 (Value.int IntKind.u64 o3) (d := #[Value.int IntKind.u64 o0, Value.int IntKind.u64 o1, Value.int IntKind.u64 o2, Value.int IntKind.u64 o3]) KY1 (by simp; omega) (by simp)) (BX.setCell (by simp; omega) _) (s := 0) (by omega)
    rw [hy2] at KS ⊢
    clear hy2 KK BB R RY BX KL KL1 KS
    refine gro.anyG_done (by kernel_rfl) ?_
    intro y3 hz3
    have KK := Lib.hid (KY2.below hz3)
    have BB := Lib.hid (BY2.trans (hz3.mono BY2.size))
    have R := KK.out.rules
    simp only [gro.Rules] at R
    clear KY1 KY2 BY2 hz1 hz3 ta tb sY2
    go_wp2_with fail
    rw [rounds_succ]
    go_wp2
    refine bodyPost_ret (v := .agg #[Value.int IntKind.u64 o0, Value.int IntKind.u64 o1, Value.int IntKind.u64 o2, Value.int IntKind.u64 o3]) (by simp [results, Try.results80, go_sem, R]) rfl ⟨rfl, ?_⟩
    exact (((BB.out.setCell (by first | (simp; done) | (simp; omega)) _).setCell (by first | (simp; done) | (simp; omega)) _).setCell (by first | (simp; done) | (simp; omega)) _).setCell (by first | (simp; done) | (simp; omega)) _
end Go.Proofs.Ytoejhikcnnppnaa.wid
